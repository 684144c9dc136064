/- A part of a proof: the text that states the row tells what is proved. No condition is laid on anything. -/
import Derived.Test.YtgcncpedpjjjeaaAbs22
set_option linter.all false
set_option linter.constructorNameAsVariable false
set_option linter.defProp false
set_option linter.unusedVariables false
set_option linter.unusedSimpArgs false
namespace Go.Proofs.Abs
open Go Go.RowKit

/-! ### Contracts: what a closed run shows holds anywhere -/
/-- Values that name no object. -/
inductive Pure : AV → Prop
  | undef : Pure .undef
  | bool (b : Bool) : Pure (.bool b)
  | int (k : IntKind) (n : Int) : Pure (.int k n)
  | str (s : ByteArray) : Pure (.str s)
  | nils : Pure .nils
  | list (sz : Nat) (rows : List (List AV)) (h : ∀ (j : Nat) av, rows.flatten[j]? = some av → Pure av) : Pure (.list sz rows)
  | emp : Pure .emp
  | agg (cs : List AV) (h : ∀ (j : Nat) av, cs[j]? = some av → Pure av) : Pure (.agg cs)
  | tuple (cs : List AV) (h : ∀ (j : Nat) av, cs[j]? = some av → Pure av) : Pure (.tuple cs)
  | nilp : Pure .nilp
  | nilm : Pure .nilm
  | nilf : Pure .nilf
  | func (f : Nat) (cs : List AV) (h : ∀ (j : Nat) av, cs[j]? = some av → Pure av) : Pure (.func f cs)
  | nili : Pure .nili

theorem Rep.pure {C C' : Ctx} {av : AV} {v : Value} (hr : Rep C av v) (hp : Pure av) (hf : ∀ ad j v, Fro C ad j v → Fro C' ad j v) : Rep C' av v := by
  induction hr with
  | undef v => exact .undef v
  | bool b => exact .bool b
  | int k n => exact .int k n
  | str s => exact .str s
  | nils => exact .nils
  | list sz rows base cap vals h0 hc hz hr hb hfr hv ih =>
    cases hp with
    | list _ _ h => exact .list sz rows base cap vals h0 hc hz hr hb (fun j av e => ⟨(hfr j av e).1, fun ad ea => hf _ _ _ ((hfr j av e).2 ad ea)⟩) fun j av e => ih j av e (h j av e)
  | emp ad cap => exact .emp ad cap
  | own => cases hp
  | agg cs vs hl hc hv ih => cases hp with | agg _ h => exact .agg cs vs hl hc fun j av v e e' => ih j av v e e' (h j av e)
  | tuple cs vs hl hv ih => cases hp with | tuple _ h => exact .tuple cs vs hl fun j av v e e' => ih j av v e e' (h j av e)
  | nilp => exact .nilp
  | rp => cases hp
  | ref => cases hp
  | nilm => exact .nilm
  | map => cases hp
  | nilf => exact .nilf
  | func f caps vs hl hv ih => cases hp with | func _ _ h => exact .func f caps vs hl fun j av v e e' => ih j av v e e' (h j av e)
  | nili => exact .nili
  | iface => cases hp

theorem RepL.pure {C C' : Ctx} {cs : List AV} {vs : List Value} (hr : RepL C cs vs) (hp : ∀ a ∈ cs, Pure a) (hf : ∀ ad j v, Fro C ad j v → Fro C' ad j v) : RepL C' cs vs :=
  ⟨hr.1, fun j av v e e' => (hr.2 j av v e e').pure (hp av (List.mem_of_getElem? e)) hf⟩

/-- The world as it is seen by one who has no object in it: what others may write is told. -/
def hide (C : Ctx) : Ctx := ⟨[], fun _ => .nilFunc, C.w, fun _ => True, Mut C⟩
theorem hide_rep {C : Ctx} (h : HRep C) : HRep (hide C) :=
  ⟨trivial, fun id o h => (by cases h), fun id o h => (by cases h), fun id id' o o' g h => (by cases h), fun id o g off h => (by cases h), fun g off hm => by
    rcases hm with hx | ⟨id, o, e, hb, _⟩
    · exact h.xlt g off hx
    · exact obj_lt (h.obj id o e) hb⟩
theorem hide_fro {C : Ctx} {ad : Addr} {j : Nat} {v : Value} (h : Fro C ad j v) : Fro (hide C) ad j v :=
  ⟨h.1, fun hm => hm.elim h.2 fun ⟨id, o, e, _⟩ => by cases e⟩

section
variable {C C2 : Ctx}
/-- C in the world behind a run that saw nothing of C's objects. -/
theorem hide_ext (h : HRep C) (hx : Ext (hide C) C2) : Ext C { C with w := C2.w } where
  size := hx.size
  tape := hx.tape
  os := hx.os
  output := hx.output
  block := fun k hk _ => hx.block k hk fun ⟨id, o, e, _⟩ => by cases e
  cell := fun k off hk _ => World.cell?_of_block (hx.block k hk fun ⟨id, o, e, _⟩ => by cases e)
  muts := fun _ _ _ h => h
  obl := fun _ _ h => h
  av := fun _ h => h
  x := rfl
  old := fun _ o' _ h => ⟨o', h, rfl, Nat.le_refl _, fun _ => rfl⟩
theorem hide_hrep (h : HRep C) (hx : Ext (hide C) C2) : HRep { C with w := C2.w } :=
  ⟨h.nd, h.av, fun id o e => (h.obj id o e).step rfl (fun g hg => hx.block g (obj_lt (h.obj id o e) hg) fun ⟨id, o, e, _⟩ => by cases e) (fun _ _ r => r.ext (hide_ext h hx)), h.inj, h.own, fun g off hm => Nat.lt_of_lt_of_le (h.xlt g off hm) hx.size⟩
theorem hide_back (hx : Ext (hide C) C2) {ad : Addr} {j : Nat} {v : Value} (h : Fro C2 ad j v) : Fro { C with w := C2.w } ad j v :=
  ⟨h.1, fun hm => h.2 (.inl (by rw [hx.x]; exact hm))⟩
end

open Classical in
/-- The oracle of a contract: of arguments 'enc a' it tells 'out a'. -/
noncomputable def oraF {α : Type} (dom : α → Prop) (enc : α → List AV) (out : α → AV) : Id → List AV → Heap → Option (AV × Heap) :=
  fun q args H => if h : ∃ a, dom a ∧ enc a = args then some (out (Classical.choose h), H) else none
theorem oraF_eq {α : Type} {dom : α → Prop} {enc : α → List AV} {out : α → AV} (inj : ∀ a b, enc a = enc b → a = b) {a : α} (ha : dom a) (q : Id) (H : Heap) : oraF dom enc out q (enc a) H = some (out a, H) := by
  have h : ∃ b, dom b ∧ enc b = enc a := ⟨a, ha, rfl⟩
  unfold oraF
  rw [dif_pos h]
  rw [inj _ _ (Classical.choose_spec h).2]

theorem lift {P : Program} {ft : FT} (hmo : P.follows .mixedOrders = true) (hft : FTOK P ft) {f : Nat} (hf5 : f < 100000) {α : Type} {dom : α → Prop} {enc : α → List AV} {out : α → AV}
    (hin : ∀ a, dom a → ∀ x ∈ enc a, Pure x) (hout : ∀ a, dom a → Pure (out a)) (hrun : ∀ a, dom a → ∃ n, acall ft n f [] (enc a) [] = some (out a, [])) : OraOK P f (oraF dom enc out) := by
  intro q args H r H' h
  unfold oraF at h
  split at h
  · rename_i hex
    simp only [Option.some.injEq, Prod.mk.injEq] at h
    obtain ⟨rfl, rfl⟩ := h
    obtain ⟨hd, he⟩ := Classical.choose_spec hex
    generalize Classical.choose hex = a at hd he
    subst he
    obtain ⟨n, hn⟩ := hrun a hd
    obtain ⟨h1, h2⟩ := (sound P ft hmo hft n).2 f [] (enc a) [] _ _ hn
    rw [Nat.mod_eq_of_lt hf5] at h1 h2
    refine ⟨h1, fun C vs hH hr hav hl => ?_⟩
    have := h2 (hide C) vs rfl (hide_rep hr) (fun _ _ => trivial) (hl.pure (hin a hd) fun _ _ _ h => hide_fro h)
    refine this.mono ?_
    rintro e w' ⟨v, C2, rfl, rfl, hH2, hr2, hv, hx, _⟩
    exact ⟨v, { C with w := C2.w }, rfl, rfl, hH, hide_hrep hr hx, hv.pure (hout a hd) fun _ _ _ h => hide_back hx h, hide_ext hr hx, fun _ h _ => h⟩
  · cases h

open Classical in
/-- The oracle of a contract whose result is a slice of its own. -/
noncomputable def oraO {α : Type} (dom : α → Prop) (enc : α → List AV) (elem sz : Nat) (out : α → List (List AV)) : Id → List AV → Heap → Option (AV × Heap) :=
  fun q args H => if h : ∃ a, dom a ∧ enc a = args then some (.own (q ++ [0]) (out (Classical.choose h)).length, hadd H (q ++ [0]) (.row true true elem sz (out (Classical.choose h)))) else none
theorem oraO_eq {α : Type} {dom : α → Prop} {enc : α → List AV} {elem sz : Nat} {out : α → List (List AV)} (inj : ∀ a b, enc a = enc b → a = b) {a : α} (ha : dom a) (q : Id) (H : Heap) :
    oraO dom enc elem sz out q (enc a) H = some (.own (q ++ [0]) (out a).length, hadd H (q ++ [0]) (.row true true elem sz (out a))) := by
  have h : ∃ b, dom b ∧ enc b = enc a := ⟨a, ha, rfl⟩
  unfold oraO
  rw [dif_pos h]
  rw [inj _ _ (Classical.choose_spec h).2]

theorem liftO {P : Program} {ft : FT} (hmo : P.follows .mixedOrders = true) (hft : FTOK P ft) {f : Nat} (hf5 : f < 100000) {α : Type} {dom : α → Prop} {enc : α → List AV} {elem sz : Nat} {out : α → List (List AV)}
    (hin : ∀ a, dom a → ∀ x ∈ enc a, Pure x) (hout : ∀ a, dom a → ∀ (j : Nat) av, (out a).flatten[j]? = some av → Pure av)
    (hrun : ∀ a, dom a → ∃ n id, acall ft n f [] (enc a) [] = some (.own id (out a).length, [[(id, .row true true elem sz (out a))]])) : OraOK P f (oraO dom enc elem sz out) := by
  intro q args H r H' h
  unfold oraO at h
  split at h
  · rename_i hex
    simp only [Option.some.injEq, Prod.mk.injEq] at h
    obtain ⟨rfl, rfl⟩ := h
    obtain ⟨hd, he⟩ := Classical.choose_spec hex
    generalize Classical.choose hex = a at hd he
    subst he
    obtain ⟨n, id, hn⟩ := hrun a hd
    obtain ⟨h1, h2⟩ := (sound P ft hmo hft n).2 f [] (enc a) [] _ _ hn
    rw [Nat.mod_eq_of_lt hf5] at h1 h2
    refine ⟨h1, fun C vs hH hr hav hl => ?_⟩
    have := h2 (hide C) vs rfl (hide_rep hr) (fun _ _ => trivial) (hl.pure (hin a hd) fun _ _ _ h => hide_fro h)
    refine this.mono ?_
    rintro e w' ⟨v, C2, rfl, rfl, hH2, hr2, hv, hx, _⟩
    have hg : hget C2.H id = some (.row true true elem sz (out a)) := by rw [hH2]; simp [hget, fget]
    have hold : ∀ k, k < C.w.heap.size → C2.w.heap[k]? = C.w.heap[k]? := fun k hk => hx.block k hk fun ⟨id, o, e, _⟩ => by cases e
    have hb : ∀ g, blk (C2.φ id) = some g → C.w.heap.size ≤ g := fun g hg' => by
      rcases Nat.lt_or_ge g C.w.heap.size with hlt | hge
      · obtain ⟨_, _, e, _⟩ := hx.obl g hlt ⟨id, _, hg, hg'⟩
        cases e
      · exact hge
    have hq : C.Av (q ++ [0]) := hav _ (List.prefix_append _ _)
    have hA : ∀ i, less C.Av q i → C.Av i := fun i h => h.1
    have hid : ¬ less C.Av q (q ++ [0]) := fun h => h.2 (List.prefix_append _ _)
    have he := Ext.new (o := .row true true elem sz (out a)) (v := C2.φ id) (w := C2.w) hr hq hA hx.size hold hx.tape hx.os hx.output hb
    have hfro : ∀ ad j v, Fro C2 ad j v → Fro (C.put (hadd C.H (q ++ [0]) (.row true true elem sz (out a))) (q ++ [0]) (C2.φ id) C2.w (less C.Av q)) ad j v := fun ad j v hf => by
      refine ⟨hf.1, fun hm => ?_⟩
      rcases hm with hm | ⟨i, o, e, hb', hm⟩
      · exact hf.2 (.inl (by rw [hx.x]; exact .inl hm))
      · have e' : hget (hadd C.H (q ++ [0]) (.row true true elem sz (out a))) i = some o := e
        rw [hget_hadd] at e'
        by_cases hi : i = q ++ [0]
        · subst hi
          rw [if_pos rfl] at e'
          injection e' with e'
          subst e'
          rw [put_self] at hb'
          exact hf.2 (.inr ⟨id, _, hg, hb', hm⟩)
        · rw [if_neg (Ne.symm hi)] at e'
          rw [put_other _ _ _ _ _ _ hi] at hb'
          exact hf.2 (.inl (by rw [hx.x]; exact .inr ⟨i, o, e', hb', hm⟩))
    obtain ⟨g0, g1, g2, xs, g3, g4⟩ := hr2.obj id _ hg
    refine ⟨v, C.put (hadd C.H (q ++ [0]) (.row true true elem sz (out a))) (q ++ [0]) (C2.φ id) C2.w (less C.Av q), rfl, rfl, by rw [← hH]; rfl, HRep.new hr hq hA hid hx.size hold hx.tape hx.os hx.output hb (fun _ => ⟨g0, g1, g2, xs, by rw [put_self]; exact g3, ?_⟩), ?_, he, fun i h1 h2 => ⟨h1, h2⟩⟩
    · refine ⟨g4.1, fun j av v e e' => (g4.2 j av v e e').pure (hout a hd j av e) hfro⟩
    · refine .own _ _ _ hid ?_ fun o' e => ?_
      · cases hv with
        | own _ _ _ _ hs _ => exact hs
      · have e' : hget (hadd C.H (q ++ [0]) (.row true true elem sz (out a))) (q ++ [0]) = some o' := e
        rw [hget_hadd, if_pos rfl] at e'
        injection e' with e'
        subst e'
        refine ⟨Nat.le_refl _, fun _ => ?_⟩
        rw [put_self]
        cases hv with
        | own _ _ _ _ _ ho => exact (ho _ hg).2 rfl
  · cases h
end Go.Proofs.Abs
