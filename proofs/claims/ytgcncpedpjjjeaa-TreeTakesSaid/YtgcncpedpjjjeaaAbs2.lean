/- A part of a proof: the text that states the row tells what is proved. No condition is laid on anything. -/
import Derived.Test.YtgcncpedpjjjeaaAbs1
import Derived.Laws.AppendOwn
import Derived.Laws.OwnMore
import Derived.Laws.MakeOwn
import Derived.Laws.CopyRow
set_option linter.all false
set_option linter.constructorNameAsVariable false
set_option linter.defProp false
set_option linter.unusedVariables false
set_option linter.unusedSimpArgs false
namespace Go.Proofs.Abs

/-- A world, seen through an abstract heap: where each object lies; which names may still be given. -/
structure Ctx where
  H : Heap
  φ : Id → Value
  w : World
  Av : Id → Prop
  /-- Cells that others may write, behind this. -/
  X : Nat → Nat → Prop

def blk : Value → Option Nat
  | .slice (some a) _ _ => some a.block
  | .pointer (some a) => some a.block
  | .map (some g) => some g
  | _ => none

def mutAt : AObj → Nat → Prop
  | .row wr _ _ sz rows, off => wr = true ∨ rows.length * sz ≤ off
  | .box _, _ => True
  | .map _, _ => True

def cellsz : AObj → Nat
  | .row _ _ _ sz _ => sz
  | _ => 0

def okind : AObj → Nat × Nat
  | .row _ _ _ sz _ => (0, sz)
  | .box _ => (1, 0)
  | .map _ => (2, 0)
theorem cellsz_of {o o' : AObj} (h : okind o' = okind o) : cellsz o' = cellsz o := by cases o <;> cases o' <;> simp_all [okind, cellsz]

/-- A block of an object; a cell that may still be written. -/
def Obl (C : Ctx) (g : Nat) : Prop := ∃ id o, hget C.H id = some o ∧ blk (C.φ id) = some g
def Mut0 (C : Ctx) (g off : Nat) : Prop := ∃ id o, hget C.H id = some o ∧ blk (C.φ id) = some g ∧ mutAt o off
def Mut (C : Ctx) (g off : Nat) : Prop := C.X g off ∨ Mut0 C g off
/-- A cell that holds a value for good. -/
def Fro (C : Ctx) (ad : Addr) (j : Nat) (v : Value) : Prop := C.w.cell? ⟨ad.block, ad.off + j, none⟩ = some v ∧ ¬ Mut C ad.block (ad.off + j)

inductive Rep (C : Ctx) : AV → Value → Prop
  | undef (v : Value) : Rep C .undef v
  | bool (b : Bool) : Rep C (.bool b) (.bool b)
  | int (k : IntKind) (n : Int) : Rep C (.int k n) (.int k n)
  | str (s : ByteArray) : Rep C (.str s) (.string s)
  | nils : Rep C .nils (.slice none 0 0)
  | list (sz : Nat) (rows : List (List AV)) (base : Option Addr) (cap : Nat) (vals : Nat → Value) (h0 : 0 < sz) (hc : rows.length ≤ cap) (hz : base = none → cap = 0) (hr : ∀ r ∈ rows, r.length = sz)
      (hb : rows ≠ [] → ∃ ad, base = some ad ∧ ad.spot = none) (hf : ∀ (j : Nat) (av : AV), rows.flatten[j]? = some av → isCell av = true ∧ ∀ ad, base = some ad → Fro C ad j (vals j))
      (hv : ∀ (j : Nat) (av : AV), rows.flatten[j]? = some av → Rep C av (vals j)) : Rep C (.list sz rows) (.slice base rows.length cap)
  | own (id : Id) (n : Nat) (v : Value) (ha : ¬ C.Av id) (hs : ∃ a l c, v = .slice a l c) (ho : ∀ o, hget C.H id = some o → n ≤ asize o ∧ (asize o = n → v = C.φ id ∨ (n = 0 ∧ C.φ id = .slice none 0 0 ∧ ∃ b, v = .slice b 0 0))) : Rep C (.own id n) v
  | emp (ad : Addr) (cap : Nat) : Rep C .emp (.slice (some ad) 0 cap)
  | agg (cs : List AV) (vs : List Value) (hl : cs.length = vs.length) (hc : ∀ (j : Nat) (av : AV), cs[j]? = some av → isCell av = true) (hv : ∀ (j : Nat) av v, cs[j]? = some av → vs[j]? = some v → Rep C av v) : Rep C (.agg cs) (.agg vs.toArray)
  | tuple (cs : List AV) (vs : List Value) (hl : cs.length = vs.length) (hv : ∀ (j : Nat) av v, cs[j]? = some av → vs[j]? = some v → Rep C av v) : Rep C (.tuple cs) (.tuple vs.toArray)
  | nilp : Rep C .nilp (.pointer none)
  | rp (cs : List AV) (ad : Addr) (vals : Nat → Value) (hs : ad.spot = none) (hf : ∀ (j : Nat) (av : AV), cs[j]? = some av → isCell av = true ∧ Fro C ad j (vals j)) (hv : ∀ (j : Nat) (av : AV), cs[j]? = some av → Rep C av (vals j)) : Rep C (.rp cs) (.pointer (some ad))
  | ref (id : Id) (n i j : Nat) (v : Value) (ha : ¬ C.Av id) (hs : ∃ a, v = .pointer (some a))
      (ho : ∀ o, hget C.H id = some o → n ≤ asize o ∧ (asize o = n → ∃ g, blk (C.φ id) = some g ∧ v = .pointer (some ⟨g, i * cellsz o + j, none⟩))) : Rep C (.ref id n i j) v
  | nilm : Rep C .nilm (.map none)
  | map (id : Id) (v : Value) (ha : ¬ C.Av id) (hs : ∃ r, v = .map (some r)) (ho : ∀ o, hget C.H id = some o → okind o = (2, 0) → v = C.φ id) : Rep C (.map id) v
  | nilf : Rep C .nilf .nilFunc
  | func (f : Nat) (caps : List AV) (vs : List Value) (hl : caps.length = vs.length) (hv : ∀ (j : Nat) av v, caps[j]? = some av → vs[j]? = some v → Rep C av v) : Rep C (.func f caps) (.func (.func f) #[] vs.toArray)
  | nili : Rep C .nili .nilIface
  | iface (t : Nat) (av : AV) (v : Value) (hv : Rep C av v) : Rep C (.iface t av) (.iface t v)

/-- Pair by pair. -/
def RepL (C : Ctx) (cs : List AV) (vs : List Value) : Prop := cs.length = vs.length ∧ ∀ (j : Nat) av v, cs[j]? = some av → vs[j]? = some v → Rep C av v

def Cells (l : List AV) : Prop := ∀ (j : Nat) av, l[j]? = some av → isCell av = true

def ObjRep (C : Ctx) (id : Id) : AObj → Prop
  | .row _ _ elem sz rows => 0 < sz ∧ (∀ r ∈ rows, r.length = sz) ∧ Cells rows.flatten ∧ ∃ xs, C.w.ownsRow 0 elem sz (C.φ id) rows.length xs ∧ RepL C rows.flatten xs
  | .box cells => Cells cells ∧ ∃ g cs e, C.φ id = .pointer (some ⟨g, 0, none⟩) ∧ C.w.heap[g]? = some (.cells cs e (0, 0)) ∧ RepL C cells cs.toList
  | .map es => ∃ g ents clock, C.φ id = .map (some g) ∧ C.w.heap[g]? = some (.map ents clock) ∧ RepL C (es.map (·.1)) (ents.toList.map (·.key)) ∧ RepL C (es.map (·.2)) (ents.toList.map (·.val))

/-- No name twice. -/
def HND : Heap → Prop
  | [] => True
  | f :: r => (∀ id o, fget f id = some o → hget r id = none) ∧ HND r

structure HRep (C : Ctx) : Prop where
  nd : HND C.H
  av : ∀ id o, hget C.H id = some o → ¬ C.Av id
  obj : ∀ id o, hget C.H id = some o → ObjRep C id o
  inj : ∀ id id' o o' g, hget C.H id = some o → hget C.H id' = some o' → blk (C.φ id) = some g → blk (C.φ id') = some g → id = id'
  own : ∀ id o g off, hget C.H id = some o → blk (C.φ id) = some g → ¬ C.X g off
  xlt : ∀ g off, C.X g off → g < C.w.heap.size

structure Ext (C C' : Ctx) : Prop where
  size : C.w.heap.size ≤ C'.w.heap.size
  tape : C'.w.tape = C.w.tape
  os : C'.w.os = C.w.os
  output : C'.w.output = C.w.output
  block : ∀ k, k < C.w.heap.size → ¬ Obl C k → C'.w.heap[k]? = C.w.heap[k]?
  cell : ∀ k off, k < C.w.heap.size → ¬ Mut C k off → C'.w.cell? ⟨k, off, none⟩ = C.w.cell? ⟨k, off, none⟩
  muts : ∀ k off, k < C.w.heap.size → Mut C' k off → Mut C k off
  obl : ∀ k, k < C.w.heap.size → Obl C' k → Obl C k
  av : ∀ id, C'.Av id → C.Av id
  x : C'.X = C.X
  old : ∀ id o', ¬ C.Av id → hget C'.H id = some o' → ∃ o, hget C.H id = some o ∧ okind o' = okind o ∧ asize o ≤ asize o' ∧ (asize o = asize o' → C'.φ id = C.φ id)

theorem cell_lt {w : World} {k off : Nat} {v : Value} (h : w.cell? ⟨k, off, none⟩ = some v) : k < w.heap.size := by
  unfold World.cell? at h
  rcases Nat.lt_or_ge k w.heap.size with hk | hk
  · exact hk
  · rw [Array.getElem?_eq_none hk] at h; simp at h

theorem Fro.ext {C C' : Ctx} (h : Ext C C') {ad : Addr} {j : Nat} {v : Value} (hf : Fro C ad j v) : Fro C' ad j v := by
  have hlt := cell_lt hf.1
  exact ⟨(h.cell _ _ hlt hf.2).trans hf.1, fun hm => hf.2 (h.muts _ _ hlt hm)⟩

theorem Rep.ext {C C' : Ctx} (h : Ext C C') {av : AV} {v : Value} (hr : Rep C av v) : Rep C' av v := by
  induction hr with
  | undef v => exact .undef v
  | bool b => exact .bool b
  | int k n => exact .int k n
  | str s => exact .str s
  | nils => exact .nils
  | emp ad cap => exact .emp ad cap
  | list sz rows base cap vals h0 hc hz hr hb hf hv ih => exact .list sz rows base cap vals h0 hc hz hr hb (fun j av e => ⟨(hf j av e).1, fun ad ea => ((hf j av e).2 ad ea).ext h⟩) ih
  | own id n v ha hs ho =>
    refine .own id n v (fun a => ha (h.av _ a)) hs fun o' e' => ?_
    obtain ⟨o, e, _, hle, hφ⟩ := h.old id o' ha e'
    obtain ⟨h1, h2⟩ := ho o e
    exact ⟨Nat.le_trans h1 hle, fun he => by
      have : asize o = n := by omega
      rw [hφ (by omega)]; exact h2 this⟩
  | agg cs vs hl hc hv ih => exact .agg cs vs hl hc ih
  | tuple cs vs hl hv ih => exact .tuple cs vs hl ih
  | nilp => exact .nilp
  | rp cs ad vals hs hf hv ih => exact .rp cs ad vals hs (fun j av e => ⟨(hf j av e).1, (hf j av e).2.ext h⟩) ih
  | ref id n i j v ha hs ho =>
    refine .ref id n i j v (fun a => ha (h.av _ a)) hs fun o' e' => ?_
    obtain ⟨o, e, hk, hle, hφ⟩ := h.old id o' ha e'
    obtain ⟨h1, h2⟩ := ho o e
    refine ⟨Nat.le_trans h1 hle, fun he => ?_⟩
    obtain ⟨g, hg, hv⟩ := h2 (by omega)
    exact ⟨g, by rw [hφ (by omega)]; exact hg, by rw [cellsz_of hk]; exact hv⟩
  | nilm => exact .nilm
  | map id v ha hs ho =>
    refine .map id v (fun a => ha (h.av _ a)) hs fun o' e' k' => ?_
    obtain ⟨o, e, hk, hle, hφ⟩ := h.old id o' ha e'
    have k0 : okind o = (2, 0) := by rw [← hk]; exact k'
    have z : ∀ x : AObj, okind x = (2, 0) → asize x = 0 := by
      intro x hx
      cases x with
      | row => simp [okind] at hx
      | box => simp [okind] at hx
      | map => rfl
    rw [hφ (by rw [z o k0, z o' k'])]
    exact ho o e k0
  | nilf => exact .nilf
  | func f caps vs hl hv ih => exact .func f caps vs hl ih
  | nili => exact .nili
  | iface t av v hv ih => exact .iface t av v ih

theorem Ext.refl (C : Ctx) : Ext C C := ⟨Nat.le_refl _, rfl, rfl, rfl, fun _ _ _ => rfl, fun _ _ _ _ => rfl, fun _ _ _ h => h, fun _ _ h => h, fun _ h => h, rfl, fun _ o' _ h => ⟨o', h, rfl, Nat.le_refl _, fun _ => rfl⟩⟩

theorem Ext.trans {A B C : Ctx} (h : Ext A B) (k : Ext B C) : Ext A C where
  size := Nat.le_trans h.size k.size
  tape := k.tape.trans h.tape
  os := k.os.trans h.os
  output := k.output.trans h.output
  block := fun i hi ho => (k.block i (Nat.lt_of_lt_of_le hi h.size) (fun hb => ho (h.obl i hi hb))).trans (h.block i hi ho)
  cell := fun i off hi hm => (k.cell i off (Nat.lt_of_lt_of_le hi h.size) (fun hb => hm (h.muts i off hi hb))).trans (h.cell i off hi hm)
  muts := fun i off hi hm => h.muts i off hi (k.muts i off (Nat.lt_of_lt_of_le hi h.size) hm)
  obl := fun i hi hm => h.obl i hi (k.obl i (Nat.lt_of_lt_of_le hi h.size) hm)
  av := fun i hi => h.av i (k.av i hi)
  x := k.x.trans h.x
  old := fun id o2 ha e2 => by
    obtain ⟨o1, e1, k1, l1, f1⟩ := k.old id o2 (fun x => ha (h.av _ x)) e2
    obtain ⟨o0, e0, k0, l0, f0⟩ := h.old id o1 ha e1
    exact ⟨o0, e0, k1.trans k0, Nat.le_trans l0 l1, fun he => (f1 (by omega)).trans (f0 (by omega))⟩

theorem RepL.mono {C C' : Ctx} (h : ∀ av v, Rep C av v → Rep C' av v) {cs : List AV} {vs : List Value} (hr : RepL C cs vs) : RepL C' cs vs := ⟨hr.1, fun j av v e e' => h _ _ (hr.2 j av v e e')⟩

theorem ownsRow_step {w w' : World} {e sz n : Nat} {v : Value} {xs : List Value} (h : w.ownsRow 0 e sz v n xs) (hb : ∀ g, blk v = some g → w'.heap[g]? = w.heap[g]?) : w'.ownsRow 0 e sz v n xs := by
  obtain ⟨h1, h2⟩ := h
  refine ⟨h1, ?_⟩
  rcases h2 with h2 | ⟨g, cap, cur, hv, hg, hh, r⟩
  · exact .inl h2
  · exact .inr ⟨g, cap, cur, hv, hg, by rw [hb g (by rw [hv]; rfl)]; exact hh, r⟩

theorem ObjRep.step {C C' : Ctx} {id : Id} {o : AObj} (h : ObjRep C id o) (hφ : C'.φ id = C.φ id) (hb : ∀ g, blk (C.φ id) = some g → C'.w.heap[g]? = C.w.heap[g]?) (hr : ∀ av v, Rep C av v → Rep C' av v) : ObjRep C' id o := by
  cases o with
  | row wr fl e sz rows =>
    obtain ⟨h0, h1, h2, xs, h3, h4⟩ := h
    exact ⟨h0, h1, h2, xs, by rw [hφ]; exact ownsRow_step h3 hb, h4.mono hr⟩
  | box cells =>
    obtain ⟨h0, g, cs, e, h1, h2, h3⟩ := h
    exact ⟨h0, g, cs, e, hφ.trans h1, (hb g (by rw [h1]; rfl)).trans h2, h3.mono hr⟩
  | map es =>
    obtain ⟨g, ents, clock, h1, h2, h3, h4⟩ := h
    exact ⟨g, ents, clock, hφ.trans h1, (hb g (by rw [h1]; rfl)).trans h2, h3.mono hr, h4.mono hr⟩

theorem fget_fset (f : Fr) (id id' : Id) (x : AObj) : fget (fset f id x) id' = if id = id' ∧ (fget f id).isSome then some x else fget f id' := by
  induction f with
  | nil => simp [fset, fget]
  | cons p f ih =>
    obtain ⟨i, o⟩ := p
    by_cases h : i = id
    · subst h
      by_cases h2 : i = id'
      · subst h2; simp [fset, fget]
      · simp [fset, fget, h2]
    · simp only [fset, if_neg h, fget, ih]
      by_cases h2 : i = id'
      · subst h2
        simp [Ne.symm h]
      · simp [h2]

theorem hget_hset (H : Heap) (id id' : Id) (x : AObj) : hget (hset H id x) id' = if id = id' ∧ (hget H id).isSome then some x else hget H id' := by
  induction H with
  | nil => simp [hset, hget]
  | cons f r ih =>
    have hd : fget f id = none ∨ ∃ o, fget f id = some o := by cases fget f id <;> simp
    rcases hd with hf | ⟨o, hf⟩
    · simp only [hset, hget, hf, ih]
      by_cases h : id = id'
      · subst h; simp [hf]
      · simp [h]
    · simp only [hset, hget, hf, fget_fset]
      by_cases h : id = id'
      · subst h; simp
      · simp [h]

theorem hget_hadd (H : Heap) (id id' : Id) (x : AObj) : hget (hadd H id x) id' = if id = id' then some x else hget H id' := by
  cases H with
  | nil => by_cases h : id = id' <;> simp [hadd, hget, fget, h]
  | cons f r =>
    simp only [hadd, hget, fget]
    by_cases h : id = id' <;> simp [h]

theorem HND.hset {H : Heap} (h : HND H) (id : Id) (x : AObj) : HND (hset H id x) := by
  induction H with
  | nil => trivial
  | cons f r ih =>
    have hd : fget f id = none ∨ ∃ o, fget f id = some o := by cases fget f id <;> simp
    rcases hd.symm with ⟨o, hf⟩ | hf
    · simp only [Abs.hset, hf]
      refine ⟨fun id' o' e => ?_, h.2⟩
      rw [fget_fset] at e
      split at e
      · rename_i hc; rw [← hc.1]; exact h.1 id o hf
      · exact h.1 id' o' e
    · simp only [Abs.hset, hf]
      refine ⟨fun id' o' e => ?_, ih h.2⟩
      have hn := h.1 id' o' e
      rw [hget_hset]
      split
      · rename_i hc
        rw [← hc.1, hf] at e
        cases e
      · exact hn

theorem HND.hadd {H : Heap} (h : HND H) (id : Id) (x : AObj) (hn : hget H id = none) : HND (hadd H id x) := by
  cases H with
  | nil => exact ⟨fun _ _ _ => rfl, trivial⟩
  | cons f r =>
    refine ⟨fun id' o' e => ?_, h.2⟩
    simp only [fget] at e
    simp only [hget] at hn
    split at e
    · rename_i hc
      subst hc
      split at hn
      · cases hn
      · exact hn
    · exact h.1 id' o' e

theorem HRep.none {C : Ctx} (h : HRep C) {id : Id} (ha : C.Av id) : hget C.H id = none := by
  cases e : hget C.H id with
  | none => rfl
  | some o => exact absurd ha (h.av id o e)

/-- What is seen of the world when less is told of it: fewer objects, fewer names to give. -/
theorem Ext.less {C : Ctx} {H : Heap} {A : Id → Prop} (hH : ∀ id o, hget H id = some o → hget C.H id = some o) (hA : ∀ id, A id → C.Av id) : Ext C { C with H := H, Av := A } :=
  ⟨Nat.le_refl _, rfl, rfl, rfl, fun _ _ _ => rfl, fun _ _ _ _ => rfl, fun _ _ _ h => h.imp (fun h => h) fun ⟨id, o, e, r⟩ => ⟨id, o, hH _ _ e, r⟩, fun _ _ ⟨id, o, e, r⟩ => ⟨id, o, hH _ _ e, r⟩, hA, rfl, fun id o' _ e => ⟨o', hH _ _ e, rfl, Nat.le_refl _, fun _ => rfl⟩⟩

theorem HRep.less {C : Ctx} (h : HRep C) {H : Heap} {A : Id → Prop} (hn : HND H) (hH : ∀ id o, hget H id = some o → hget C.H id = some o) (hA : ∀ id, A id → C.Av id) : HRep { C with H := H, Av := A } := by
  have he := Ext.less (C := C) hH hA
  exact ⟨hn, fun id o e a => h.av id o (hH _ _ e) (hA _ a), fun id o e => (h.obj id o (hH _ _ e)).step rfl (fun _ _ => rfl) (fun _ _ r => r.ext he), fun id id' o o' g e e' => h.inj id id' o o' g (hH _ _ e) (hH _ _ e'), fun id o g off e => h.own id o g off (hH _ _ e), h.xlt⟩

/-- A draw. -/
theorem Ext.drawn (C : Ctx) (d : Nat) : Ext C { C with w := { C.w with drawn := d } } :=
  ⟨Nat.le_refl _, rfl, rfl, rfl, fun _ _ _ => rfl, fun _ _ _ _ => rfl, fun _ _ _ h => h, fun _ _ h => h, fun _ h => h, rfl, fun _ o' _ h => ⟨o', h, rfl, Nat.le_refl _, fun _ => rfl⟩⟩
theorem HRep.drawn {C : Ctx} (h : HRep C) (d : Nat) : HRep { C with w := { C.w with drawn := d } } :=
  ⟨h.nd, h.av, fun id o e => (h.obj id o e).step rfl (fun _ _ => rfl) (fun _ _ r => r.ext (Ext.drawn C d)), h.inj, h.own, h.xlt⟩

open Classical in
/-- C with one object more (or another one) under a name. -/
noncomputable def Ctx.put (C : Ctx) (H : Heap) (id : Id) (v : Value) (w : World) (A : Id → Prop) : Ctx := ⟨H, fun i => if i = id then v else C.φ i, w, A, C.X⟩

theorem put_self (C : Ctx) (H : Heap) (id : Id) (v : Value) (w : World) (A : Id → Prop) : (C.put H id v w A).φ id = v := by simp [Ctx.put]
theorem put_other (C : Ctx) (H : Heap) (id : Id) (v : Value) (w : World) (A : Id → Prop) {i : Id} (h : i ≠ id) : (C.put H id v w A).φ i = C.φ i := by simp [Ctx.put, h]

section
variable {C : Ctx} {id : Id} {o : AObj} {v : Value} {w : World} {A : Id → Prop}

theorem Ext.new (h : HRep C) (ha : C.Av id) (hA : ∀ i, A i → C.Av i) (hsz : C.w.heap.size ≤ w.heap.size) (hold : ∀ k, k < C.w.heap.size → w.heap[k]? = C.w.heap[k]?)
    (ht : w.tape = C.w.tape) (hos : w.os = C.w.os) (hout : w.output = C.w.output) (hb : ∀ g, blk v = some g → C.w.heap.size ≤ g) : Ext C (C.put (hadd C.H id o) id v w A) where
  size := hsz
  tape := ht
  os := hos
  output := hout
  block := fun k hk _ => hold k hk
  cell := fun k off hk _ => World.cell?_of_block (hold k hk)
  muts := fun k off hk h => h.imp (fun h => h) fun ⟨i, o', e, hb', hm⟩ => by
    have e' : hget (hadd C.H id o) i = some o' := e
    rw [hget_hadd] at e'
    by_cases hi : i = id
    · subst hi
      rw [put_self] at hb'
      have := hb k hb'
      omega
    · rw [if_neg (Ne.symm hi)] at e'
      rw [put_other _ _ _ _ _ _ hi] at hb'
      exact ⟨i, o', e', hb', hm⟩
  obl := fun k hk ⟨i, o', e, hb'⟩ => by
    have e' : hget (hadd C.H id o) i = some o' := e
    rw [hget_hadd] at e'
    by_cases hi : i = id
    · subst hi
      rw [put_self] at hb'
      have := hb k hb'
      omega
    · rw [if_neg (Ne.symm hi)] at e'
      rw [put_other _ _ _ _ _ _ hi] at hb'
      exact ⟨i, o', e', hb'⟩
  av := hA
  x := rfl
  old := fun i o' hna e => by
    have e' : hget (hadd C.H id o) i = some o' := e
    rw [hget_hadd] at e'
    by_cases hi : i = id
    · subst hi; exact absurd ha hna
    · rw [if_neg (Ne.symm hi)] at e'
      exact ⟨o', e', rfl, Nat.le_refl _, fun _ => put_other _ _ _ _ _ _ hi⟩

theorem obj_lt {C : Ctx} {i : Id} {o : AObj} (h : ObjRep C i o) {g : Nat} (hg : blk (C.φ i) = some g) : g < C.w.heap.size := by
  cases o with
  | row wr fl e sz rows =>
    obtain ⟨_, _, _, xs, h3, _⟩ := h
    rcases h3.2 with ⟨h2, _⟩ | ⟨g', cap, cur, hv, _, hh, _⟩
    · rw [h2] at hg; cases hg
    · rw [hv] at hg
      have : g' = g := by simpa [blk] using hg
      subst this
      exact (Array.getElem?_eq_some_iff.1 hh).1
  | box cells =>
    obtain ⟨_, g', cs, e, h1, h2, _⟩ := h
    rw [h1] at hg
    have : g' = g := by simpa [blk] using hg
    subst this
    exact (Array.getElem?_eq_some_iff.1 h2).1
  | map es =>
    obtain ⟨g', ents, clock, h1, h2, _⟩ := h
    rw [h1] at hg
    have : g' = g := by simpa [blk] using hg
    subst this
    exact (Array.getElem?_eq_some_iff.1 h2).1

theorem HRep.new (h : HRep C) (ha : C.Av id) (hA : ∀ i, A i → C.Av i) (hid : ¬ A id) (hsz : C.w.heap.size ≤ w.heap.size) (hold : ∀ k, k < C.w.heap.size → w.heap[k]? = C.w.heap[k]?)
    (ht : w.tape = C.w.tape) (hos : w.os = C.w.os) (hout : w.output = C.w.output) (hb : ∀ g, blk v = some g → C.w.heap.size ≤ g)
    (ho : Ext C (C.put (hadd C.H id o) id v w A) → ObjRep (C.put (hadd C.H id o) id v w A) id o) : HRep (C.put (hadd C.H id o) id v w A) := by
  have he := Ext.new (o := o) (v := v) h ha hA hsz hold ht hos hout hb
  have hg : ∀ i, hget (C.put (hadd C.H id o) id v w A).H i = if id = i then some o else hget C.H i := fun i => hget_hadd _ _ _ _
  refine ⟨h.nd.hadd _ _ (h.none ha), fun i o' e a => ?_, fun i o' e => ?_, fun i i' o1 o2 g e1 e2 b1 b2 => ?_, fun i o1 g off e1 b1 => ?_, fun g off hx => Nat.lt_of_lt_of_le (h.xlt g off hx) hsz⟩
  · rw [hg] at e
    split at e
    · rename_i hc; subst hc; exact hid a
    · exact h.av i o' e (hA i a)
  · rw [hg] at e
    split at e
    · rename_i hc
      subst hc
      injection e with e
      subst e
      exact ho he
    · rename_i hc
      refine (h.obj i o' e).step (put_other _ _ _ _ _ _ (Ne.symm hc)) (fun g hg' => ?_) (fun _ _ r => r.ext he)
      exact hold g (obj_lt (h.obj i o' e) hg')
  · rw [hg] at e1 e2
    split at e1 <;> split at e2
    · rename_i c1 c2; rw [← c1, ← c2]
    · rename_i c1 c2
      subst c1
      rw [put_self] at b1
      rw [put_other _ _ _ _ _ _ (Ne.symm c2)] at b2
      have := hb g b1
      have := obj_lt (h.obj i' o2 e2) b2
      omega
    · rename_i c1 c2
      subst c2
      rw [put_self] at b2
      rw [put_other _ _ _ _ _ _ (Ne.symm c1)] at b1
      have := hb g b2
      have := obj_lt (h.obj i o1 e1) b1
      omega
    · rename_i c1 c2
      rw [put_other _ _ _ _ _ _ (Ne.symm c1)] at b1
      rw [put_other _ _ _ _ _ _ (Ne.symm c2)] at b2
      exact h.inj i i' o1 o2 g e1 e2 b1 b2
  · rw [hg] at e1
    split at e1
    · rename_i c1
      subst c1
      rw [put_self] at b1
      intro hx
      have := hb g b1
      have := h.xlt g off hx
      omega
    · rename_i c1
      rw [put_other _ _ _ _ _ _ (Ne.symm c1)] at b1
      exact h.own i o1 g off e1 b1
end

section
variable {C : Ctx} {id : Id} {o o' : AObj} {v : Value} {w : World}

/-- What an object's change asks of the world. -/
structure SetOk (C : Ctx) (id : Id) (o o' : AObj) (v : Value) (w : World) : Prop where
  at_ : hget C.H id = some o
  kind : okind o' = okind o
  size_ : asize o ≤ asize o'
  hdr : asize o = asize o' → v = C.φ id
  size : C.w.heap.size ≤ w.heap.size
  tape : w.tape = C.w.tape
  os : w.os = C.w.os
  output : w.output = C.w.output
  other : ∀ k, k < C.w.heap.size → some k ≠ blk (C.φ id) → w.heap[k]? = C.w.heap[k]?
  cell : ∀ g off, blk (C.φ id) = some g → ¬ mutAt o off → w.cell? ⟨g, off, none⟩ = C.w.cell? ⟨g, off, none⟩
  place : (blk v = blk (C.φ id) ∧ ∀ off, mutAt o' off → mutAt o off) ∨ ∀ g, blk v = some g → C.w.heap.size ≤ g

theorem hset_some (h : hget C.H id = some o) (i : Id) : hget (hset C.H id o') i = if id = i then some o' else hget C.H i := by
  rw [hget_hset]
  by_cases hi : id = i
  · subst hi; simp [h]
  · simp [hi]

theorem Ext.set (s : SetOk C id o o' v w) : Ext C (C.put (hset C.H id o') id v w C.Av) where
  size := s.size
  tape := s.tape
  os := s.os
  output := s.output
  block := fun k hk ho => s.other k hk fun e => ho ⟨id, o, s.at_, e.symm⟩
  cell := fun k off hk hm => by
    by_cases e : some k = blk (C.φ id)
    · exact s.cell k off e.symm fun h => hm (.inr ⟨id, o, s.at_, e.symm, h⟩)
    · exact World.cell?_of_block (s.other k hk e)
  muts := fun k off hk h => h.imp (fun h => h) fun ⟨i, o2, e, hb, hm⟩ => by
    have e' : hget (hset C.H id o') i = some o2 := e
    rw [hset_some s.at_] at e'
    by_cases hi : i = id
    · subst hi
      rw [if_pos rfl] at e'
      injection e' with e'
      subst e'
      rw [put_self] at hb
      rcases s.place with ⟨p1, p2⟩ | p
      · exact ⟨i, o, s.at_, p1 ▸ hb, p2 _ hm⟩
      · have := p k hb; omega
    · rw [if_neg (Ne.symm hi)] at e'
      rw [put_other _ _ _ _ _ _ hi] at hb
      exact ⟨i, o2, e', hb, hm⟩
  obl := fun k hk ⟨i, o2, e, hb⟩ => by
    have e' : hget (hset C.H id o') i = some o2 := e
    rw [hset_some s.at_] at e'
    by_cases hi : i = id
    · subst hi
      rw [put_self] at hb
      rcases s.place with ⟨p1, p2⟩ | p
      · exact ⟨i, o, s.at_, p1 ▸ hb⟩
      · have := p k hb; omega
    · rw [if_neg (Ne.symm hi)] at e'
      rw [put_other _ _ _ _ _ _ hi] at hb
      exact ⟨i, o2, e', hb⟩
  av := fun _ h => h
  x := rfl
  old := fun i o2 hna e => by
    have e' : hget (hset C.H id o') i = some o2 := e
    rw [hset_some s.at_] at e'
    by_cases hi : i = id
    · subst hi
      rw [if_pos rfl] at e'
      injection e' with e'
      subst e'
      exact ⟨o, s.at_, s.kind, s.size_, fun h => (put_self _ _ _ _ _ _).trans (s.hdr h)⟩
    · rw [if_neg (Ne.symm hi)] at e'
      exact ⟨o2, e', rfl, Nat.le_refl _, fun _ => put_other _ _ _ _ _ _ hi⟩

theorem HRep.set (h : HRep C) (s : SetOk C id o o' v w) (ho : Ext C (C.put (hset C.H id o') id v w C.Av) → ObjRep (C.put (hset C.H id o') id v w C.Av) id o') : HRep (C.put (hset C.H id o') id v w C.Av) := by
  have he := Ext.set s
  have hg : ∀ i, hget (C.put (hset C.H id o') id v w C.Av).H i = if id = i then some o' else hget C.H i := fun i => hset_some s.at_ i
  have hclash : ∀ i g, i ≠ id → (∃ o2, hget C.H i = some o2) → blk (C.φ i) = some g → blk v = some g → False := by
    intro i g hi ⟨o2, e2⟩ b1 b2
    rcases s.place with ⟨p1, _⟩ | p
    · exact hi (h.inj i id o2 o g e2 s.at_ b1 (p1 ▸ b2))
    · have := p g b2
      have := obj_lt (h.obj i o2 e2) b1
      omega
  refine ⟨h.nd.hset _ _, fun i o2 e a => ?_, fun i o2 e => ?_, fun i i' o1 o2 g e1 e2 b1 b2 => ?_, fun i o1 g off e1 b1 => ?_, fun g off hx => Nat.lt_of_lt_of_le (h.xlt g off hx) s.size⟩
  · rw [hg] at e
    split at e
    · rename_i hc; subst hc; exact h.av id o s.at_ a
    · exact h.av i o2 e a
  · rw [hg] at e
    split at e
    · rename_i hc
      subst hc
      injection e with e
      subst e
      exact ho he
    · rename_i hc
      refine (h.obj i o2 e).step (put_other _ _ _ _ _ _ (Ne.symm hc)) (fun g hg' => ?_) (fun _ _ r => r.ext he)
      refine s.other g (obj_lt (h.obj i o2 e) hg') fun e' => hc ?_
      exact (h.inj i id o2 o g e s.at_ hg' e'.symm).symm
  · rw [hg] at e1 e2
    split at e1 <;> split at e2
    · rename_i c1 c2; rw [← c1, ← c2]
    · rename_i c1 c2
      subst c1
      rw [put_self] at b1
      rw [put_other _ _ _ _ _ _ (Ne.symm c2)] at b2
      exact (hclash i' g (Ne.symm c2) ⟨_, e2⟩ b2 b1).elim
    · rename_i c1 c2
      subst c2
      rw [put_self] at b2
      rw [put_other _ _ _ _ _ _ (Ne.symm c1)] at b1
      exact (hclash i g (Ne.symm c1) ⟨_, e1⟩ b1 b2).elim
    · rename_i c1 c2
      rw [put_other _ _ _ _ _ _ (Ne.symm c1)] at b1
      rw [put_other _ _ _ _ _ _ (Ne.symm c2)] at b2
      exact h.inj i i' o1 o2 g e1 e2 b1 b2
  · rw [hg] at e1
    split at e1
    · rename_i c1
      subst c1
      rw [put_self] at b1
      intro hx
      rcases s.place with ⟨p1, _⟩ | p
      · exact h.own id o g off s.at_ (p1 ▸ b1) hx
      · have := p g b1
        have := h.xlt g off hx
        omega
    · rename_i c1
      rw [put_other _ _ _ _ _ _ (Ne.symm c1)] at b1
      exact h.own i o1 g off e1 b1
end

end Go.Proofs.Abs
