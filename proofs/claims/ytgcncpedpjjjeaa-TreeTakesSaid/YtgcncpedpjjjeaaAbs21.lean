/- A part of a proof: the text that states the row tells what is proved. No condition is laid on anything. -/
import Derived.Test.YtgcncpedpjjjeaaAbs14
import Derived.WideShapes
set_option linter.all false
set_option linter.constructorNameAsVariable false
set_option linter.defProp false
set_option linter.unusedVariables false
set_option linter.unusedSimpArgs false
namespace Go.Proofs.Abs
open Go

/-! ### What comes in -/
/-- A cell's shape. -/
inductive Sh where
  | int (k : IntKind)
  | bool
  | str
  | sl (l : List Sh)

def shpF (P : Program) (r : TypeId → Option (List Sh)) : List Field → Nat → Option (List Sh)
  | [], _ => some []
  | f :: fs, off => if f.offset = off then
      match r f.type with
      | some l => if P.cellsOf f.type = l.length then
          match shpF P r fs (off + l.length) with
          | some l' => some (l ++ l')
          | none => none
        else none
      | none => none
    else none
def shp (P : Program) : Nat → TypeId → Option (List Sh)
  | 0, _ => none
  | n + 1, t => match P.underlying t with
    | some .bool => some [.bool]
    | some (.int k) => some [.int k]
    | some .string => some [.str]
    | some (.slice e) => match shp P n e with
      | some l => if 0 < l.length ∧ P.cellsOf e = l.length then some [.sl l] else none
      | none => none
    | some (.struct fs) => match shpF P (shp P n) fs.toList 0 with
      | some l => if l.length = P.cellsOf t then some l else none
      | none => none
    | _ => none

/-- A value of a shape. -/
inductive Okv : Sh → AV → Prop
  | int (k : IntKind) (n : Int) (h : (Lit.int k n).wf = true) : Okv (.int k) (.int k n)
  | bool (b : Bool) : Okv .bool (.bool b)
  | str (s : ByteArray) (h : s.size ≤ maxLen) : Okv .str (.str s)
  | sl (l : List Sh) (rows : List (List AV)) (hl : rows.length ≤ maxLen) (hr : ∀ r ∈ rows, r.length = l.length) (hv : ∀ r ∈ rows, ∀ (j : Nat) s v, l[j]? = some s → r[j]? = some v → Okv s v) : Okv (.sl l) (.list l.length rows)
def OkL (l : List Sh) (r : List AV) : Prop := r.length = l.length ∧ ∀ (j : Nat) s v, l[j]? = some s → r[j]? = some v → Okv s v

theorem Okv.cell {s : Sh} {v : AV} (h : Okv s v) : isCell v = true := by cases h <;> rfl
theorem OkL.cells {l : List Sh} {r : List AV} (h : OkL l r) : Cells r := fun j av e => by
  have hj := (List.getElem?_eq_some_iff.1 e).1
  exact (h.2 j _ av (List.getElem?_eq_getElem (by rw [← h.1]; exact hj)) e).cell
theorem OkL.app {l l' : List Sh} {r r' : List AV} (h : OkL l r) (h' : OkL l' r') : OkL (l ++ l') (r ++ r') := by
  refine ⟨by simp [h.1, h'.1], fun j s v e e' => ?_⟩
  by_cases hj : j < l.length
  · rw [List.getElem?_append_left hj] at e
    rw [List.getElem?_append_left (by rw [h.1]; exact hj)] at e'
    exact h.2 j s v e e'
  · rw [List.getElem?_append_right (by omega)] at e
    rw [List.getElem?_append_right (by rw [h.1]; omega), h.1] at e'
    exact h'.2 _ s v e e'
theorem OkL.one {s : Sh} {v : AV} (h : Okv s v) : OkL [s] [v] := ⟨rfl, fun j s' v' e e' => by
  cases j with
  | zero => simp at e e'; subst e; subst e'; exact h
  | succ j => simp at e⟩

section
variable {H : Type} {enc : TypeId × Value → H} {P : Program} {C : Ctx} {sp : Nat → Bool}

theorem mapM_at {α β : Type} {f : α → Option β} : ∀ {l : List α} {r : List β}, l.mapM f = some r → ∀ x ∈ l, ∃ y, f x = some y := Go.WideShapes.mapM_each

theorem cells_at {w : World} {a : Addr} {n : Nat} {cs : List Value} (h : w.cells? 0 a n = some cs) : cs.length = n ∧ ∀ j, j < n → ∃ v, cs[j]? = some v ∧ w.cell? (a.add j) = some v := by
  unfold World.cells? at h
  rw [if_pos (Nat.zero_le _)] at h
  have key : ∀ (m : Nat) (s : Nat) (cs : List Value), (List.range' s m).mapM (fun i => w.cell? (a.add i)) = some cs → cs.length = m ∧ ∀ j, j < m → ∃ v, cs[j]? = some v ∧ w.cell? (a.add (s + j)) = some v := by
    intro m
    induction m with
    | zero =>
      intro s cs h
      simp at h
      subst h
      exact ⟨rfl, fun j hj => absurd hj (Nat.not_lt_zero _)⟩
    | succ m ih =>
      intro s cs h
      rw [List.range'_succ, List.mapM_cons] at h
      simp only [bind, Option.bind_eq_some_iff, pure, Option.some.injEq] at h
      obtain ⟨v, hv, r, hr, rfl⟩ := h
      obtain ⟨h1, h2⟩ := ih (s + 1) r hr
      refine ⟨by simp [h1], fun j hj => ?_⟩
      cases j with
      | zero => exact ⟨v, rfl, hv⟩
      | succ j =>
        obtain ⟨u, h3, h4⟩ := h2 j (by omega)
        exact ⟨u, by simpa using h3, by rw [show s + (j + 1) = s + 1 + j by omega]; exact h4⟩
  rw [List.range_eq_range'] at h
  obtain ⟨h1, h2⟩ := key n 0 cs h
  exact ⟨h1, fun j hj => by have := h2 j hj; rwa [Nat.zero_add] at this⟩

theorem trod_bool {w : World} {n : Nat} {t : TypeId} {cs : List Value} {x : DataW H × List MemPlace} (hu : P.underlying t = some .bool) (h : DataW.trod enc P w 0 sp true (n + 1) t cs = some x) : ∃ b, cs = [.bool b] := by
  unfold DataW.trod at h
  rw [hu] at h
  match cs, h with
  | [], h => cases h
  | [v], h => cases v <;> first | exact ⟨_, rfl⟩ | cases h
  | _ :: _ :: _, h => simp at h
theorem trod_int {w : World} {n : Nat} {t : TypeId} {k : IntKind} {cs : List Value} {x : DataW H × List MemPlace} (hu : P.underlying t = some (.int k)) (h : DataW.trod enc P w 0 sp true (n + 1) t cs = some x) : ∃ m, cs = [.int k m] ∧ (Lit.int k m).wf = true := by
  unfold DataW.trod at h
  rw [hu] at h
  match cs, h with
  | [], h => cases h
  | [v], h =>
    cases v
    case int k' m =>
      simp only at h
      split at h
      · rename_i hc
        obtain ⟨rfl, hw⟩ := hc
        exact ⟨m, rfl, hw⟩
      · cases h
    all_goals cases h
  | _ :: _ :: _, h => simp at h
theorem trod_str {w : World} {n : Nat} {t : TypeId} {cs : List Value} {x : DataW H × List MemPlace} (hu : P.underlying t = some .string) (h : DataW.trod enc P w 0 sp true (n + 1) t cs = some x) : ∃ s : ByteArray, cs = [.string s] ∧ s.size ≤ maxLen := by
  unfold DataW.trod at h
  rw [hu] at h
  match cs, h with
  | [], h => cases h
  | [v], h =>
    cases v
    case string s =>
      simp only at h
      split at h
      · rename_i hc; exact ⟨s, rfl, hc⟩
      · cases h
    all_goals cases h
  | _ :: _ :: _, h => simp at h
theorem trod_slice {w : World} {n : Nat} {t e : TypeId} {cs : List Value} {x : DataW H × List MemPlace} (hu : P.underlying t = some (.slice e)) (h : DataW.trod enc P w 0 sp true (n + 1) t cs = some x) :
    cs = [.slice none 0 0] ∨ ∃ a len cap elems, cs = [.slice (some a) len cap] ∧ len ≤ cap ∧ cap ≤ maxLen ∧ (List.range len).mapM (fun i => (w.cells? 0 (a.add (i * P.cellsOf e)) (P.cellsOf e)).bind (DataW.trod enc P w 0 sp true n e)) = some elems := by
  unfold DataW.trod at h
  rw [hu] at h
  match cs, h with
  | [], h => cases h
  | [v], h =>
    cases v
    case slice a len cap =>
      cases a with
      | none =>
        cases len with
        | zero =>
          cases cap with
          | zero => exact .inl rfl
          | succ => cases h
        | succ => cases h
      | some a =>
        simp only at h
        split at h
        · rename_i hb
          simp only [Option.bind_eq_some_iff, Option.map_eq_some_iff] at h
          obtain ⟨elems, he, _⟩ := h
          exact .inr ⟨a, len, cap, elems, rfl, hb.2.1, hb.2.2, he⟩
        · cases h
    all_goals cases h
  | _ :: _ :: _, h => simp at h
theorem trod_struct {w : World} {n : Nat} {t : TypeId} {fs : Array Field} {cs : List Value} {x : DataW H × List MemPlace} (hu : P.underlying t = some (.struct fs)) (h : DataW.trod enc P w 0 sp true (n + 1) t cs = some x) :
    cs.length = P.cellsOf t ∧ ∃ xs, (fs.toList.mapM fun f => DataW.trod enc P w 0 sp true n f.type ((cs.drop f.offset).take (P.cellsOf f.type))) = some xs := by
  unfold DataW.trod at h
  rw [hu] at h
  simp only at h
  split at h
  · rename_i hc
    simp only [Option.map_eq_some_iff] at h
    obtain ⟨xs, hx, _⟩ := h
    exact ⟨hc, xs, hx⟩
  · cases h

theorem trod_rep (hC : (∀ id, hget C.H id = none) ∧ ∀ g off, ¬ C.X g off) : ∀ (n : Nat) (t : TypeId) (cs : List Value) (x : DataW H × List MemPlace) (m : Nat) (ss : List Sh),
    shp P m t = some ss → DataW.trod enc P C.w 0 sp true n t cs = some x → ∃ avs, RepL C avs cs ∧ OkL ss avs
  | 0, t, cs, x, m, ss, hs, h => by simp [DataW.trod] at h
  | n + 1, t, cs, x, 0, ss, hs, h => by simp [shp] at hs
  | n + 1, t, cs, x, m + 1, ss, hs, h => by
    have ih := fun t cs x ss => trod_rep hC n t cs x m ss
    have noMut : ∀ g off, ¬ Mut C g off := fun g off h => h.elim (hC.2 g off) fun ⟨id, o, e, _⟩ => by rw [hC.1] at e; cases e
    have one : ∀ (s : Sh) (v : AV) (u : Value), Rep C v u → Okv s v → ∃ avs, RepL C avs [u] ∧ OkL [s] avs := fun s v u h1 h2 => ⟨[v], .cons h1 .nil, .one h2⟩
    unfold shp at hs
    split at hs
    · rename_i hu
      injection hs with hs
      subst hs
      obtain ⟨b, rfl⟩ := trod_bool hu h
      exact one .bool _ _ (.bool _) (.bool _)
    · rename_i k hu
      injection hs with hs
      subst hs
      obtain ⟨b, rfl, hw⟩ := trod_int hu h
      exact one (.int _) _ _ (.int _ _) (.int _ _ hw)
    · rename_i hu
      injection hs with hs
      subst hs
      obtain ⟨b, rfl, hw⟩ := trod_str hu h
      exact one .str _ _ (.str _) (.str _ hw)
    · rename_i e hu
      split at hs
      · rename_i l hl
        split at hs
        · rename_i hlen
          injection hs with hs
          subst hs
          rcases trod_slice hu h with rfl | ⟨a, len, cap, elems, rfl, hlc, hcm, he⟩
          case inl =>
            have hrep : Rep C (.list l.length []) (.slice none 0 0) := .list _ [] none 0 (fun _ => undef) hlen.1 (Nat.le_refl _) (fun _ => rfl) (by simp) (by simp) (by simp) (by simp)
            exact one (.sl l) _ _ hrep (.sl l [] (Nat.zero_le _) (by simp) (by simp))
          case inr =>
              have each := mapM_at he
              have H1 : ∀ i, i < len → ∃ avs, OkL l avs ∧ ∀ (j : Nat) av, avs[j]? = some av → ∃ v, C.w.cell? ((a.add (i * P.cellsOf e)).add j) = some v ∧ Rep C av v := by
                intro i hi
                obtain ⟨y, hy⟩ := each i (List.mem_range.2 hi)
                simp only [Option.bind_eq_some_iff] at hy
                obtain ⟨csi, h1, h2⟩ := hy
                obtain ⟨avs, h3, h4⟩ := ih e csi y l hl h2
                obtain ⟨h5, h6⟩ := cells_at h1
                refine ⟨avs, h4, fun j av ej => ?_⟩
                have hj := (List.getElem?_eq_some_iff.1 ej).1
                obtain ⟨v, h7, h8⟩ := h6 j (by rw [← h5, ← h3.1]; exact hj)
                exact ⟨v, h8, h3.2 j av v ej h7⟩
              let f : Nat → List AV := fun i => if hi : i < len then Classical.choose (H1 i hi) else []
              have hf : ∀ i, i < len → OkL l (f i) ∧ ∀ (j : Nat) av, (f i)[j]? = some av → ∃ v, C.w.cell? ((a.add (i * P.cellsOf e)).add j) = some v ∧ Rep C av v := by
                intro i hi
                simp only [f, dif_pos hi]
                exact Classical.choose_spec (H1 i hi)
              have hlenr : ((List.range len).map f).length = len := by simp
              have hrows : ∀ r ∈ (List.range len).map f, ∃ i, i < len ∧ r = f i := by
                intro r hr
                obtain ⟨i, hi, rfl⟩ := List.mem_map.1 hr
                exact ⟨i, List.mem_range.1 hi, rfl⟩
              have hrl : ∀ r ∈ (List.range len).map f, r.length = l.length := fun r hr => by
                obtain ⟨i, hi, rfl⟩ := hrows r hr
                exact (hf i hi).1.1
              have hspot : 0 < len → a.spot = none := by
                intro h0
                obtain ⟨h1, h2⟩ := hf 0 h0
                have h3 : 0 < (f 0).length := by rw [h1.1]; exact hlen.1
                obtain ⟨v, h4, _⟩ := h2 0 _ (List.getElem?_eq_getElem h3)
                simp only [Nat.zero_mul, Addr.add, if_true] at h4
                unfold World.cell? at h4
                split at h4
                · split at h4
                  · cases h4
                  · rename_i hsp
                    cases hs : a.spot with
                    | none => rfl
                    | some z => rw [hs] at hsp; simp at hsp
                · cases h4
              have hflat : ∀ (j : Nat) av, ((List.range len).map f).flatten[j]? = some av → ∃ v, C.w.cell? ⟨a.block, a.off + j, none⟩ = some v ∧ Rep C av v ∧ isCell av = true := by
                intro j av ej
                have hj := (List.getElem?_eq_some_iff.1 ej).1
                rw [flat_len hrl, hlenr] at hj
                have hdiv : j / l.length < len := Nat.div_lt_of_lt_mul (by rw [Nat.mul_comm]; exact hj)
                have hmod : j % l.length < l.length := Nat.mod_lt _ hlen.1
                have ejj : j = (j / l.length) * l.length + j % l.length := by rw [Nat.mul_comm]; exact (Nat.div_add_mod j l.length).symm
                have hrow : ((List.range len).map f)[j / l.length]? = some (f (j / l.length)) := by simp [hdiv]
                have f1 := rows_flat hrl hrow (j % l.length) hmod
                rw [← ejj, ej] at f1
                obtain ⟨h1, h2⟩ := hf _ hdiv
                obtain ⟨v, h3, h4⟩ := h2 _ _ f1.symm
                refine ⟨v, ?_, h4, h1.cells _ _ f1.symm⟩
                rw [add_none (hspot (Nat.lt_of_le_of_lt (Nat.zero_le _) hdiv)), add_none rfl] at h3
                rw [hlen.2] at h3
                have : a.off + j / l.length * l.length + j % l.length = a.off + j := by omega
                rw [← this]
                exact h3
              have hrep : Rep C (.list l.length ((List.range len).map f)) (.slice (some a) ((List.range len).map f).length cap) := by
                refine .list l.length _ (some a) cap (fun j => (C.w.cell? ⟨a.block, a.off + j, none⟩).getD undef) hlen.1 (by rw [hlenr]; exact hlc) (by simp) hrl (fun hne => ⟨a, rfl, hspot ?_⟩) (fun j av ej => ?_) (fun j av ej => ?_)
                · cases len with
                  | zero => exact absurd rfl hne
                  | succ => omega
                · obtain ⟨v, h1, h2, h3⟩ := hflat j av ej
                  refine ⟨h3, fun ad ea => ?_⟩
                  injection ea with ea
                  subst ea
                  exact ⟨by rw [h1]; rfl, noMut _ _⟩
                · obtain ⟨v, h1, h2, h3⟩ := hflat j av ej
                  rw [h1]
                  exact h2
              rw [hlenr] at hrep
              exact one (.sl l) _ _ hrep (.sl l _ (by rw [hlenr]; exact Nat.le_trans hlc hcm) hrl fun r hr j s v e1 e2 => by
                obtain ⟨i, hi, rfl⟩ := hrows r hr
                exact (hf i hi).1.2 j s v e1 e2)
        · cases hs
      · cases hs
    · rename_i fs hu
      split at hs
      · rename_i l hl
        split at hs
        · rename_i hlen
          injection hs with hs
          subst hs
          obtain ⟨hcl, xs, hx⟩ := trod_struct hu h
          · have hdummy := hcl
            have each := mapM_at hx
            have go : ∀ (L : List Field) (off : Nat) (l : List Sh), shpF P (shp P m) L off = some l → off + l.length ≤ cs.length → (∀ f ∈ L, ∃ y, DataW.trod enc P C.w 0 sp true n f.type ((cs.drop f.offset).take (P.cellsOf f.type)) = some y) →
                ∃ avs, RepL C avs ((cs.drop off).take l.length) ∧ OkL l avs := by
              intro L
              induction L with
              | nil =>
                intro off l h1 h2 h3
                simp only [shpF, Option.some.injEq] at h1
                subst h1
                exact ⟨[], by simpa using RepL.nil, ⟨rfl, by simp⟩⟩
              | cons f L ihL =>
                intro off l h1 h2 h3
                simp only [shpF] at h1
                split at h1
                · rename_i hoff
                  split at h1
                  · rename_i l1 hl1
                    split at h1
                    · rename_i hce
                      split at h1
                      · rename_i l2 hl2
                        injection h1 with h1
                        subst h1
                        obtain ⟨y, hy⟩ := h3 f (by simp)
                        obtain ⟨a1, r1, o1⟩ := ih f.type _ y l1 hl1 hy
                        obtain ⟨a2, r2, o2⟩ := ihL (off + l1.length) l2 hl2 (by simp at h2; omega) fun f' hf' => h3 f' (by simp [hf'])
                        refine ⟨a1 ++ a2, ?_, o1.app o2⟩
                        have e1 : (cs.drop off).take (l1 ++ l2).length = (cs.drop off).take l1.length ++ (cs.drop (off + l1.length)).take l2.length := by
                          rw [List.length_append, List.take_add, List.drop_drop]
                        rw [e1]
                        rw [hoff, hce] at r1
                        exact r1.app r2
                      · cases h1
                    · cases h1
                  · cases h1
                · cases h1
            obtain ⟨avs, r1, o1⟩ := go fs.toList 0 l hl (by simp; omega) each
            refine ⟨avs, ?_, o1⟩
            rw [List.drop_zero, List.take_of_length_le (by omega)] at r1
            exact r1
        · cases hs
      · cases hs
    · cases hs
end
end Go.Proofs.Abs
