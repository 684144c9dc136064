/- A part of a proof: the text that states the row tells what is proved. No condition is laid on anything. -/
import Derived.Test.YtligpalonlliaaaGreatAbsZ7
set_option linter.all false
set_option linter.constructorNameAsVariable false
set_option linter.defProp false
set_option linter.unusedVariables false
set_option linter.unusedSimpArgs false
namespace Go.Proofs.Abs
open Go
theorem snoc_ind {α : Type} {P : List α → Prop} (h0 : P []) (h : ∀ l s, P l → P (l ++ [s])) (l : List α) : P l := by
  have : ∀ l : List α, P l.reverse := by
    intro l
    induction l with
    | nil => exact h0
    | cons x l ih => rw [List.reverse_cons]; exact h _ _ ih
  have := this l.reverse
  rwa [List.reverse_reverse] at this
/-! ### Two places are of one part just if no set parts them -/
theorem idxK_inj {K : List K2} {x y : K2} (hx : x ∈ K) (hy : y ∈ K) : idxK K x = idxK K y ↔ x = y := by
  constructor
  · intro h
    unfold idxK at h
    have h' : (dd K).idxOf x = (dd K).idxOf y := by omega
    have lx := List.idxOf_lt_length_of_mem ((mem_dd K x).2 hx)
    have ly := List.idxOf_lt_length_of_mem ((mem_dd K y).2 hy)
    have ex := List.getElem_idxOf lx
    have ey := List.getElem_idxOf ly
    rw [← ex, ← ey]
    simp only [h']
  · rintro rfl; rfl
theorem getK {K : List K2} {i : Nat} (h : i < K.length) : K.getD i (0, 0) ∈ K := by
  rw [List.getD_eq_getElem?_getD, List.getElem?_eq_getElem h]
  exact List.getElem_mem h
theorem numL_get {K : List K2} {i : Nat} (h : i < K.length) : (numL K).getD i 0 = idxK K (K.getD i (0, 0)) := by
  simp [numL, List.getElem?_eq_getElem h]
theorem same_place (z : List Int) : ∀ (l : List (List R2)) (i j : Nat), i < z.length → j < z.length →
    ((placeL z l).getD i 0 = (placeL z l).getD j 0 ↔ ∀ s ∈ l, inS (z.getD i 0) s = inS (z.getD j 0) s) := by
  intro l
  induction l using snoc_ind with
  | h0 =>
    intro i j hi hj
    simp [placeL, hi, hj]
  | h l s ih =>
    intro i j hi hj
    have hpl := placeL_length z l
    have hKl : (keysS (placeL z l) z s).length = z.length := by simp [keysS, hpl]
    rw [placeL_snoc, numL_get (by omega), numL_get (by omega), idxK_inj (getK (by omega)) (getK (by omega)), keysS_get (by omega) hi, keysS_get (by omega) hj, Prod.mk.injEq, ih i j hi hj]
    constructor
    · rintro ⟨h1, h2⟩ t ht
      rcases List.mem_append.1 ht with ht | ht
      · exact h1 t ht
      · rw [List.mem_singleton.1 ht]
        cases a : inS (z.getD i 0) s <;> cases b : inS (z.getD j 0) s <;> rw [a, b] at h2 <;> simp at h2 ⊢
    · intro h
      refine ⟨fun t ht => h t (List.mem_append_left _ ht), ?_⟩
      rw [h s (by simp)]
theorem idxK_head (k : K2) (K : List K2) : idxK (k :: K) k = 0 := by
  have h : ∀ (K a : List K2), ∃ b, K.foldl ddA (k :: a) = k :: b := by
    intro K
    induction K with
    | nil => intro a; exact ⟨a, rfl⟩
    | cons x K ih =>
      intro a
      rw [List.foldl_cons]
      have : ∃ c, ddA (k :: a) x = k :: c := by
        unfold ddA
        split
        · exact ⟨a, rfl⟩
        · exact ⟨a ++ [x], rfl⟩
      obtain ⟨c, e⟩ := this
      rw [e]
      exact ih c
  obtain ⟨b, e⟩ := h K []
  have e2 : dd (k :: K) = k :: b := by
    have e0 : ddA [] k = [k] := by simp [ddA]
    unfold dd
    rw [List.foldl_cons, e0]
    exact e
  unfold idxK
  rw [e2]
  simp
theorem placeL_zero (z : List Int) (l : List (List R2)) (h : 0 < z.length) : (placeL z l).getD 0 0 = 0 := by
  induction l using snoc_ind with
  | h0 => simp [placeL, h]
  | h l s ih =>
    have hpl := placeL_length z l
    have hKl : (keysS (placeL z l) z s).length = z.length := by simp [keysS, hpl]
    rw [placeL_snoc, numL_get (by omega)]
    cases hK : keysS (placeL z l) z s with
    | nil => rw [hK] at hKl; simp at hKl; omega
    | cons k K => exact idxK_head k K
/-! ### Stretches -/
theorem Grid.find {z : List Int} (h : Grid z) {v : Int} (hv : isS v = true) : ∃ i, i < z.length ∧ InSt z i v := by
  obtain ⟨h0, e0⟩ := h.pos
  have hb := isS_iff.1 hv
  have key : ∀ n, n < z.length → z.getD n 0 ≤ v → ∃ i, i < z.length ∧ InSt z i v := by
    intro n hn
    have : ∀ d n, z.length - n = d → n < z.length → z.getD n 0 ≤ v → ∃ i, i < z.length ∧ InSt z i v := by
      intro d
      induction d with
      | zero => intro n e hn; omega
      | succ d ih =>
        intro n e hn hle
        by_cases k : n + 1 < z.length ∧ z.getD (n + 1) 0 ≤ v
        · exact ih (n + 1) (by omega) k.1 k.2
        · exact ⟨n, hn, hle, fun q => by
            rcases Int.lt_or_le v (z.getD (n + 1) 0) with r | r
            · exact r
            · exact absurd ⟨q, r⟩ k⟩
    exact this _ n rfl hn
  exact key 0 h0 (by omega)
theorem Grid.one {z : List Int} (h : Grid z) {v : Int} {i j : Nat} (hi : i < z.length) (hj : j < z.length) (a : InSt z i v) (b : InSt z j v) : i = j := by
  have key : ∀ {i j : Nat}, i < z.length → j < z.length → InSt z i v → InSt z j v → ¬ i < j := by
    intro i j hi hj a b hlt
    have h1 := a.2 (by omega)
    have h2 := b.1
    by_cases e : i + 1 = j
    · rw [e] at h1; omega
    · have := h.lt (i := i + 1) (j := j) (by omega) hj
      omega
  rcases Nat.lt_trichotomy i j with k | k | k
  · exact absurd k (key hi hj a b)
  · exact k
  · exact absurd k (key hj hi b a)
/-- A part: a good set; a scalar is in it just if its stretch is of it. -/
theorem part_ok {z p : List Int} (h : Grid z) (q : Nat) : GdL (ofV (rngP z p q)) ∧ ∀ v i, isS v = true → i < z.length → InSt z i v → (memS (ofV (rngP z p q)) v ↔ p.getD i 0 = (q : Int)) := by
  have hw : ∀ r ∈ rngP z p q, wholeS r = true := fun r hr => by
    unfold rngP rngU at hr
    obtain ⟨i, hi, rfl⟩ := List.mem_map.1 hr
    have hi2 : i < z.length := by simpa using (List.mem_filter.1 hi).1
    obtain ⟨a, b, _⟩ := hiA_ok h hi2
    exact wholeS_iff.2 ⟨h.is hi2, a, b⟩
  obtain ⟨_, g, m, _⟩ := of_good hw
  refine ⟨g, fun v i hv hi hin => ?_⟩
  rw [m v hv]
  constructor
  · rintro ⟨r, hr, k1, k2⟩
    unfold rngP rngU at hr
    obtain ⟨j, hj, rfl⟩ := List.mem_map.1 hr
    have hj1 : j < z.length := by simpa using (List.mem_filter.1 hj).1
    have hj2 : p.getD j 0 = (q : Int) := by simpa using (List.mem_filter.1 hj).2
    have : InSt z j v := ⟨k1, ((hiA_ok h hj1).2.2 v hv).1 k2⟩
    rw [h.one hi hj1 hin this]
    exact hj2
  · intro e
    refine ⟨(z.getD i 0, hiA z i), ?_, hin.1, ((hiA_ok h hi).2.2 v hv).2 hin.2⟩
    unfold rngP rngU
    exact List.mem_map.2 ⟨i, List.mem_filter.2 ⟨by simpa using hi, by simpa using e⟩, rfl⟩
theorem stt_of {l : List (List R2)} (h : ∀ s ∈ l, goodS s = true) : Stt (startsL l.flatten) l.flatten := startsL_stt fun r hr => by
  obtain ⟨s, hs, hr'⟩ := List.mem_flatten.1 hr
  exact ((gdL_iff _).1 (h s hs)).whole r hr'
/-! ### One set -/
def allS : List R2 := [(0, 1114111)]
theorem allS_good : GdL allS := ⟨fun r hr => by rw [List.mem_singleton.1 hr]; decide, by simp [allS]⟩
theorem allS_mem {v : Int} (hv : isS v = true) : memS allS v := by
  have := isS_iff.1 hv
  exact ⟨(0, 1114111), by simp [allS], by simp only; omega, by simp only; omega⟩
theorem one_set {s : List R2} (hs : goodS s = true) :
    ((∀ v, isS v = true → inS v s = inS 0 s) → partsB [s] = true ∧ partsV [s] = [allS]) ∧
    ((∃ v, isS v = true ∧ inS v s = !inS 0 s) → partsB [s] = true ∧ partsV [s] = if inS 0 s then [s, notS s] else [notS s, s]) := by
  have hall : ∀ t ∈ [s], goodS t = true := fun t ht => by rw [List.mem_singleton.1 ht]; exact hs
  have hst := stt_of hall
  have hfl : [s].flatten = s := by simp
  have hga : [s].all goodS = true := by simp [hs]
  rw [hfl] at hst
  have hg := hst.g
  obtain ⟨hz0, ez0⟩ := hg.pos
  unfold partsV partsB
  rw [hga, hfl]
  generalize hz : startsL s = z at hst hg hz0 ez0 ⊢
  have hsame := same_place z [s]
  have hok := placeL_ok hz0 [s]
  have hp0 := placeL_zero z [s] hz0
  have hlen := placeL_length z [s]
  generalize placeL z [s] = p at hsame hok hp0 hlen ⊢
  -- a place's part tells whether its scalars are in the set as nothing is
  have hcl : ∀ v i, isS v = true → i < z.length → InSt z i v → (p.getD i 0 = 0 ↔ inS v s = inS 0 s) := fun v i hv hi hin => by
    have h1 := hsame i 0 hi hz0
    rw [hp0] at h1
    rw [h1, ez0]
    have h2 := stretch_in hst hi hin hv (l' := s) (fun r hr => hr)
    simp only [List.mem_singleton, forall_eq]
    rw [h2]
  have hpart := fun q => part_ok (p := p) hg q
  constructor
  · intro ha
    have hpz : ∀ i, i < z.length → p.getD i 0 = 0 := fun i hi => (hcl (z.getD i 0) i (hg.is hi) hi ⟨Int.le_refl _, fun q => hg.lt (Nat.lt_succ_self i) q⟩).2 (ha _ (hg.is hi))
    have hm : maxL p = 0 := by
      have := maxL_mem hok.ne
      obtain ⟨i, hi, e⟩ := List.getElem_of_mem this
      rw [← e, ← getD_int hi]
      exact hpz i (by omega)
    have hc : cntP p = 1 := by unfold cntP; rw [hm]; rfl
    have hB : (true && decide (cntP p ≤ 256)) = true := by rw [hc]; rfl
    refine ⟨hB, ?_⟩
    rw [if_pos hB, hc]
    have : ofV (rngP z p 0) = allS := by
      refine gdL_ext (hpart 0).1 allS_good fun v hv => ?_
      obtain ⟨i, hi, hin⟩ := hg.find hv
      rw [(hpart 0).2 v i hv hi hin, hpz i hi]
      exact ⟨fun _ => allS_mem hv, fun _ => rfl⟩
    show [ofV (rngP z p 0)] = [allS]
    rw [this]
  · rintro ⟨v, hv, hne⟩
    obtain ⟨i, hi, hin⟩ := hg.find hv
    have hpi : p.getD i 0 ≠ 0 := fun e => by
      have := (hcl v i hv hi hin).1 e
      rw [hne] at this
      cases inS 0 s <;> simp at this
    -- whatever is not of the first part is of one other
    have hone : ∀ j, j < z.length → p.getD j 0 ≠ 0 → p.getD j 0 = p.getD i 0 := fun j hj hpj => by
      have hj' := (hcl (z.getD j 0) j (hg.is hj) hj ⟨Int.le_refl _, fun q => hg.lt (Nat.lt_succ_self j) q⟩)
      have hi' := (hcl (z.getD i 0) i (hg.is hi) hi ⟨Int.le_refl _, fun q => hg.lt (Nat.lt_succ_self i) q⟩)
      rw [hsame j i hj hi]
      simp only [List.mem_singleton, forall_eq]
      have a := fun q => hpj (hj'.2 q)
      have b := fun q => hpi (hi'.2 q)
      generalize inS (z.getD j 0) s = x at a ⊢
      generalize inS (z.getD i 0) s = y at b ⊢
      generalize inS 0 s = w at a b
      cases x <;> cases y <;> cases w <;> simp at a b ⊢
    have hmem : ∀ x ∈ p, x = 0 ∨ x = p.getD i 0 := fun x hx => by
      obtain ⟨j, hj, e⟩ := List.getElem_of_mem hx
      rw [← e, ← getD_int hj]
      by_cases k : p.getD j 0 = 0
      · exact .inl k
      · exact .inr (hone j (by omega) k)
    have hmx := maxL_int hok
    have hpin : p.getD i 0 ∈ p := by rw [getD_int (by omega)]; exact List.getElem_mem _
    have hge := maxL_ge hpin
    have hnn := hok.nn _ hpin
    have h1 : p.getD i 0 = 1 := by
      have := hok.all 1 (by omega)
      rcases hmem _ this with k | k
      · exact absurd k (by decide)
      · exact k.symm
    have hm : maxL p = 1 := by
      rcases hmem _ (maxL_mem hok.ne) with k | k
      · omega
      · rw [k, h1]
    have hc : cntP p = 2 := by unfold cntP; rw [hm]; rfl
    have hB : (true && decide (cntP p ≤ 256)) = true := by rw [hc]; rfl
    refine ⟨hB, ?_⟩
    rw [if_pos hB, hc]
    obtain ⟨n1, n2⟩ := notS_good hs
    have hG := (gdL_iff _).1 hs
    have q0 : ∀ w, isS w = true → (memS (ofV (rngP z p 0)) w ↔ inS w s = inS 0 s) := fun w hw => by
      obtain ⟨j, hj, hjn⟩ := hg.find hw
      rw [(hpart 0).2 w j hw hj hjn]
      exact hcl w j hw hj hjn
    have q1 : ∀ w, isS w = true → (memS (ofV (rngP z p 1)) w ↔ ¬ inS w s = inS 0 s) := fun w hw => by
      obtain ⟨j, hj, hjn⟩ := hg.find hw
      rw [(hpart 1).2 w j hw hj hjn, ← hcl w j hw hj hjn]
      constructor
      · intro e1 e2; rw [e1] at e2; exact absurd e2 (by decide)
      · intro e
        rw [hone j hj e, h1]
        rfl
    show [ofV (rngP z p 0), ofV (rngP z p 1)] = _
    cases h00 : inS 0 s with
    | true =>
      rw [h00] at q0 q1
      have e0 : ofV (rngP z p 0) = s := gdL_ext (hpart 0).1 hG fun w hw => by rw [q0 w hw, inS_iff]
      have e1 : ofV (rngP z p 1) = notS s := gdL_ext (hpart 1).1 n1 fun w hw => by rw [q1 w hw, n2 w hw, inS_iff]
      rw [e0, e1]
      rfl
    | false =>
      rw [h00] at q0 q1
      have e0 : ofV (rngP z p 0) = notS s := gdL_ext (hpart 0).1 n1 fun w hw => by rw [q0 w hw, n2 w hw, ← inS_iff]; simp
      have e1 : ofV (rngP z p 1) = s := gdL_ext (hpart 1).1 hG fun w hw => by rw [q1 w hw, ← inS_iff]; simp
      rw [e0, e1]
      rfl
end Go.Proofs.Abs
