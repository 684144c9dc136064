/- A part of a proof: the text that states the row tells what is proved. No condition is laid on anything. -/
import Derived.Test.YtligpalonlliaaaGreatAbsZ4
set_option linter.all false
set_option linter.constructorNameAsVariable false
set_option linter.defProp false
set_option linter.unusedVariables false
set_option linter.unusedSimpArgs false
namespace Go.Proofs.Abs
open Go
/-! ### The parts, in plain words -/
def placeL (z : List Int) (l : List (List R2)) : List Int := l.foldl (fun p s => numL (keysS p z s)) (List.replicate z.length 0)
theorem placeL_snoc (z : List Int) (l : List (List R2)) (s : List R2) : placeL z (l ++ [s]) = numL (keysS (placeL z l) z s) := by simp [placeL]
theorem numL_length (K : List K2) : (numL K).length = K.length := by simp [numL]
theorem placeL_length (z : List Int) (l : List (List R2)) : (placeL z l).length = z.length := by
  have h : ∀ (l : List (List R2)) (p : List Int), p.length = z.length → (l.foldl (fun p s => numL (keysS p z s)) p).length = z.length := by
    intro l
    induction l with
    | nil => intro p h; exact h
    | cons s l ih => intro p h; exact ih _ (by rw [numL_length]; simp [keysS, h])
  exact h l _ (by simp)
/-- Numbers from nothing on, none left out. -/
structure PlOK (p : List Int) : Prop where
  ne : 0 < p.length
  nn : ∀ v ∈ p, 0 ≤ v
  all : ∀ q : Nat, (q : Int) ≤ maxL p → (q : Int) ∈ p
  lt : ∀ v ∈ p, v < p.length
theorem foldl_mx : ∀ (l : List Int) (a : Int), a ≤ l.foldl mxI a ∧ (∀ v ∈ l, v ≤ l.foldl mxI a) ∧ (l.foldl mxI a = a ∨ l.foldl mxI a ∈ l)
  | [], a => ⟨Int.le_refl _, by simp, .inl rfl⟩
  | x :: l, a => by
    obtain ⟨h1, h2, h3⟩ := foldl_mx l (mxI a x)
    obtain ⟨m1, m2, m3⟩ := mxI_ok a x
    refine ⟨Int.le_trans m1 h1, fun v hv => ?_, ?_⟩
    · rcases List.mem_cons.1 hv with rfl | hv
      · exact Int.le_trans m2 h1
      · exact h2 v hv
    · rcases h3 with h3 | h3
      · rcases m3 with m3 | m3
        · exact .inl (h3.trans m3)
        · exact .inr (by rw [List.foldl_cons, h3, m3]; exact List.mem_cons_self ..)
      · exact .inr (List.mem_cons_of_mem _ h3)
theorem maxL_ge {l : List Int} {v : Int} (hv : v ∈ l) : v ≤ maxL l := by
  cases l with
  | nil => cases hv
  | cons x l =>
    have h := foldl_mx l x
    have e : maxL (x :: l) = l.foldl mxI x := rfl
    rw [e]
    rcases List.mem_cons.1 hv with rfl | hv
    · exact h.1
    · exact h.2.1 v hv
theorem maxL_mem {l : List Int} (h : 0 < l.length) : maxL l ∈ l := by
  cases l with
  | nil => simp at h
  | cons x l =>
    have e : maxL (x :: l) = l.foldl mxI x := rfl
    rw [e]
    rcases (foldl_mx l x).2.2 with h | h
    · rw [h]; exact List.mem_cons_self ..
    · exact List.mem_cons_of_mem _ h
theorem dd_nodup (l : List K2) : (dd l).Nodup := by
  have h : ∀ (l a : List K2), a.Nodup → (l.foldl ddA a).Nodup := by
    intro l
    induction l with
    | nil => intro a h; exact h
    | cons x l ih =>
      intro a h
      refine ih _ ?_
      unfold ddA
      split
      · exact h
      · rename_i hx
        rw [List.nodup_append]
        exact ⟨h, by simp, fun y hy z hz => by
          rw [List.mem_singleton.1 hz]
          exact fun e => hx (e ▸ hy)⟩
  exact h l [] List.nodup_nil
theorem numL_ok {K : List K2} (h : 0 < K.length) : PlOK (numL K) := by
  refine ⟨by rw [numL_length]; exact h, fun v hv => ?_, fun q hq => ?_, fun v hv => ?_⟩
  · obtain ⟨k, _, rfl⟩ := List.mem_map.1 hv
    unfold idxK
    omega
  · have hm := maxL_mem (l := numL K) (by rw [numL_length]; exact h)
    obtain ⟨k, hk, e⟩ := List.mem_map.1 hm
    have hlt : (dd K).idxOf k < (dd K).length := List.idxOf_lt_length_of_mem ((mem_dd K k).2 hk)
    unfold idxK at e
    have hq2 : q < (dd K).length := by omega
    refine List.mem_map.2 ⟨(dd K)[q], (mem_dd K _).1 (List.getElem_mem hq2), ?_⟩
    unfold idxK
    rw [(dd_nodup K).idxOf_getElem q hq2]
  · obtain ⟨k, hk, rfl⟩ := List.mem_map.1 hv
    have hlt : (dd K).idxOf k < (dd K).length := List.idxOf_lt_length_of_mem ((mem_dd K k).2 hk)
    have := dd_length K
    rw [numL_length]
    unfold idxK
    omega
theorem rep_ok {n : Nat} (h : 0 < n) : PlOK (List.replicate n 0) := by
  refine ⟨by simpa using h, fun v hv => by rw [List.eq_of_mem_replicate hv]; exact Int.le_refl _, fun q hq => ?_, fun v hv => by rw [List.eq_of_mem_replicate hv]; simp; omega⟩
  have hm := maxL_mem (l := List.replicate n (0 : Int)) (by simpa using h)
  have := List.eq_of_mem_replicate hm
  have : (q : Int) = 0 := by omega
  rw [this]
  exact List.mem_replicate.2 ⟨by omega, rfl⟩
theorem placeL_ok {z : List Int} (h : 0 < z.length) (l : List (List R2)) : PlOK (placeL z l) := by
  rcases List.eq_nil_or_concat l with rfl | ⟨l', s, rfl⟩
  · exact rep_ok h
  · rw [show l'.concat s = l' ++ [s] by simp, placeL_snoc]
    exact numL_ok (by simp [keysS, placeL_length]; exact h)
theorem maxL_int {p : List Int} (h : PlOK p) : 0 ≤ maxL p ∧ maxL p < p.length := ⟨h.nn _ (maxL_mem h.ne), h.lt _ (maxL_mem h.ne)⟩
/-- How many parts there are; the ranges of each, from the first j places. -/
def cntP (p : List Int) : Nat := (maxL p).toNat + 1
def rngU (z p : List Int) (j : Nat) (q : Nat) : List R2 := ((List.range j).filter fun i => decide (p.getD i 0 = (q : Int))).map fun i => (z.getD i 0, hiA z i)
def rngP (z p : List Int) (q : Nat) : List R2 := rngU z p z.length q
theorem rngU_next (z p : List Int) (j q : Nat) : rngU z p (j + 1) q = rngU z p j q ++ if p.getD j 0 = (q : Int) then [(z.getD j 0, hiA z j)] else [] := by
  unfold rngU
  rw [List.range_succ, List.filter_append, List.map_append]
  congr 1
  by_cases h : p.getD j 0 = (q : Int)
  · rw [if_pos h, List.filter_cons_of_pos (by simpa using h)]; rfl
  · rw [if_neg h, List.filter_cons_of_neg (by simpa using h)]; rfl
theorem rngU_length (z p : List Int) (j q : Nat) : (rngU z p j q).length ≤ j := by
  unfold rngU
  rw [List.length_map]
  exact Nat.le_trans (List.length_filter_le _ _) (by simp)
def partsB (l : List (List R2)) : Bool := l.all goodS && decide (cntP (placeL (startsL l.flatten) l) ≤ 256)
def partsV (l : List (List R2)) : List (List R2) :=
  if partsB l then (List.range (cntP (placeL (startsL l.flatten) l))).map fun q => ofV (rngP (startsL l.flatten) (placeL (startsL l.flatten) l) q) else []
theorem cntP_int {p : List Int} (h : PlOK p) (hl : p.length ≤ 1000000) : IntKind.i64.wrap (maxL p + 1) = ((cntP p : Nat) : Int) := by
  obtain ⟨h1, h2⟩ := maxL_int h
  rw [wrap64 (by omega) (by omega)]
  unfold cntP
  omega
theorem cntP_le {p : List Int} (h : PlOK p) : cntP p ≤ p.length := by
  obtain ⟨h1, h2⟩ := maxL_int h
  unfold cntP
  omega
/-- The first place, of the first j, that is of part q. -/
def firI (p : List Int) (j q : Nat) : Option Nat := (List.range j).find? fun i => decide (p.getD i 0 = (q : Int))
theorem firI_next (p : List Int) (j q : Nat) : firI p (j + 1) q = match firI p j q with
    | some i => some i
    | none => if p.getD j 0 = (q : Int) then some j else none := by
  unfold firI
  rw [List.range_succ, List.find?_append]
  cases h : (List.range j).find? fun i => decide (p.getD i 0 = (q : Int)) with
  | some i => rfl
  | none =>
    by_cases k : p.getD j 0 = (q : Int)
    · rw [List.find?_cons_of_pos (by simpa using k), if_pos k]; rfl
    · rw [List.find?_cons_of_neg (by simpa using k), if_neg k]; rfl
theorem firI_some {p : List Int} {j q i : Nat} (h : firI p j q = some i) : i < j ∧ p.getD i 0 = (q : Int) := by
  unfold firI at h
  have h1 := List.mem_of_find?_eq_some h
  have h2 := List.find?_some h
  exact ⟨List.mem_range.1 h1, by simpa using h2⟩
theorem firI_none {p z : List Int} {j q : Nat} (h : firI p j q = none) : rngU z p j q = [] := by
  unfold firI at h
  rw [List.find?_eq_none] at h
  unfold rngU
  rw [List.filter_eq_nil_iff.2 (fun i hi => by simpa using h i hi)]
  rfl
/-- The rows of the ranges, after j places. -/
def cellsP (B : Nat) (K : Nat → Nat) (z p : List Int) (G j : Nat) : List (List AV) := (List.range G).map fun q => match firI p j q with
  | some i => [.own [B, i, K i] (rngU z p j q).length]
  | none => [.nils]
theorem cellsP_length (B : Nat) (K : Nat → Nat) (z p : List Int) (G j : Nat) : (cellsP B K z p G j).length = G := by simp [cellsP]
theorem cellsP_get (B : Nat) (K : Nat → Nat) (z p : List Int) {G j q : Nat} (h : q < G) : (cellsP B K z p G j)[q]? = some (match firI p j q with
  | some i => [.own [B, i, K i] (rngU z p j q).length]
  | none => [.nils]) := by
  simp [cellsP, List.getElem?_map, List.getElem?_range h]
theorem cellsP_zero (B : Nat) (K : Nat → Nat) (z p : List Int) (G : Nat) : cellsP B K z p G 0 = List.replicate G [.nils] := by
  unfold cellsP
  rw [List.eq_replicate_iff]
  refine ⟨by simp, fun b hb => ?_⟩
  obtain ⟨q, _, rfl⟩ := List.mem_map.1 hb
  rfl
theorem cellsP_next {B : Nat} {K : Nat → Nat} {z p : List Int} {G j q : Nat} (hq : q < G) (hp : p.getD j 0 = (q : Int)) :
    (cellsP B K z p G j).set q (match firI p j q with
      | some i => [.own [B, i, K i] ((rngU z p j q).length + 1)]
      | none => [.own [B, j, K j] 1]) = cellsP B K z p G (j + 1) := by
  apply List.ext_getElem?
  intro r
  rw [List.getElem?_set, cellsP_length]
  by_cases hr : r < G
  · rw [cellsP_get B K z p hr, cellsP_get B K z p hr, firI_next, rngU_next]
    by_cases e : q = r
    · subst e
      rw [if_pos rfl, if_pos hr]
      cases h : firI p j q with
      | some i => simp only [hp, if_true, List.length_append, List.length_cons, List.length_nil, Nat.zero_add]
      | none => simp only [hp, if_true, firI_none (z := z) h, List.nil_append, List.length_cons, List.length_nil, Nat.zero_add]
    · have hne : ¬ p.getD j 0 = (r : Int) := by omega
      rw [if_neg e]
      cases h : firI p j r with
      | some i => simp only [hne, if_false, List.append_nil]
      | none => simp only [hne, if_false]
  · have h1 : ∀ k, (cellsP B K z p G k)[r]? = none := fun k => List.getElem?_eq_none (by rw [cellsP_length]; omega)
    rw [h1, h1]
    split
    · rename_i e; subst e; exact absurd hq hr
    · rfl
end Go.Proofs.Abs
