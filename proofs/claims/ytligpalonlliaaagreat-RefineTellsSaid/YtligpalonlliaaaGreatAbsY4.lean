/- A part of a proof: the text that states the row tells what is proved. No condition is laid on anything. -/
import Derived.Test.YtligpalonlliaaaGreatAbsY0
set_option linter.all false
set_option linter.constructorNameAsVariable false
set_option linter.defProp false
set_option linter.unusedVariables false
set_option linter.unusedSimpArgs false
namespace Go.Proofs.Abs
open Go
/-! ### Sets of ranges, by their scalars -/
abbrev R2 := Int × Int
def memS (s : List R2) (v : Int) : Prop := ∃ r ∈ s, r.1 ≤ v ∧ v ≤ r.2
/-- What goodS tells, told of all pairs. -/
structure GdL (s : List R2) : Prop where
  whole : ∀ r ∈ s, wholeS r = true
  apart : s.Pairwise fun a b => apartS a b = true
theorem isS_iff {v : Int} : isS v = true ↔ (0 ≤ v ∧ v < 55296) ∨ (57344 ≤ v ∧ v ≤ 1114111) := by simp [isS]
theorem wholeS_iff {r : R2} : wholeS r = true ↔ isS r.1 = true ∧ isS r.2 = true ∧ r.1 ≤ r.2 := by simp [wholeS, and_assoc]
theorem apartS_iff {a b : R2} : apartS a b = true ↔ a.2 < 1114111 ∧ nextV a.2 < b.1 := by simp [apartS, nextB]
theorem nextV_gt {v : Int} (h : v < 1114111) : v < nextV v := by
  unfold nextV
  split
  · omega
  · split
    · omega
    · split <;> omega
theorem nextV_le {v w : Int} (hw : isS w = true) (h : v < w) : nextV v ≤ w := by
  rw [isS_iff] at hw
  unfold nextV
  split
  · omega
  · split
    · omega
    · split <;> omega
theorem nextV_isS {v : Int} (hv : isS v = true) (h : v < 1114111) : isS (nextV v) = true := by
  rw [isS_iff] at hv ⊢
  unfold nextV
  split
  · omega
  · split
    · omega
    · split <;> omega
theorem apartS_lt {a b : R2} (h : apartS a b = true) : a.2 < b.1 := by
  obtain ⟨h1, h2⟩ := apartS_iff.1 h
  have := nextV_gt h1
  omega
theorem nextV_mono {v w : Int} (h : v ≤ w) (hw : w < 1114111) : nextV v ≤ nextV w := by
  unfold nextV
  repeat' split
  all_goals omega
theorem apartS_trans {a b c : R2} (h : apartS a b = true) (hb : wholeS b = true) (k : apartS b c = true) : apartS a c = true := by
  rw [apartS_iff] at h k ⊢
  obtain ⟨h1, h2⟩ := h
  obtain ⟨k1, k2⟩ := k
  obtain ⟨_, _, hb⟩ := wholeS_iff.1 hb
  have := nextV_gt k1
  exact ⟨h1, by omega⟩
theorem getD_eq {s : List R2} {i : Nat} (h : i < s.length) : s.getD i (0, 0) = s[i] := by simp [List.getElem?_eq_getElem h]
theorem gdL_iff (s : List R2) : goodS s = true ↔ GdL s := by
  constructor
  · intro h
    have hk : ∀ i, i < s.length → okAt s i = true := fun i hi => by
      unfold goodS at h
      rw [List.all_eq_true] at h
      exact h i (List.mem_range.2 hi)
    have hw : ∀ i (hi : i < s.length), wholeS s[i] = true := fun i hi => by
      have := hk i hi
      unfold okAt at this
      rw [getD_eq hi] at this
      simp only [Bool.and_eq_true] at this
      exact this.1
    refine ⟨fun r hr => ?_, ?_⟩
    · obtain ⟨i, hi, rfl⟩ := List.getElem_of_mem hr
      exact hw i hi
    · rw [List.pairwise_iff_getElem]
      have : ∀ d i (hi : i < s.length) (hj : i + (d + 1) < s.length), apartS s[i] s[i + (d + 1)] = true := by
        intro d
        induction d with
        | zero =>
          intro i hi hj
          have := hk (i + 1) hj
          unfold okAt at this
          rw [getD_eq hj] at this
          have e : i + 1 - 1 = i := by omega
          rw [e, getD_eq hi] at this
          simp only [Bool.and_eq_true, Bool.or_eq_true, decide_eq_true_eq] at this
          exact this.2.resolve_left (by omega)
        | succ d ih =>
          intro i hi hj
          have h1 := ih i hi (by omega)
          have := hk (i + (d + 1) + 1) (by omega)
          unfold okAt at this
          rw [getD_eq (by omega)] at this
          have e : i + (d + 1) + 1 - 1 = i + (d + 1) := by omega
          rw [e, getD_eq (by omega)] at this
          simp only [Bool.and_eq_true, Bool.or_eq_true, decide_eq_true_eq] at this
          have h2 : apartS s[i + (d + 1)] s[i + (d + 1) + 1] = true := this.2.resolve_left (by omega)
          exact apartS_trans h1 (hw _ _) h2
      intro i j hi hj hij
      have := this (j - i - 1) i hi (by omega)
      have e : i + (j - i - 1 + 1) = j := by omega
      simpa only [e] using this
  · intro h
    unfold goodS
    refine all_true fun i hi => ?_
    unfold okAt
    rw [getD_eq hi, Bool.and_eq_true]
    refine ⟨h.whole _ (List.getElem_mem hi), ?_⟩
    rw [Bool.or_eq_true]
    by_cases h0 : i = 0
    · left; simp [h0]
    · right
      rw [getD_eq (by omega)]
      exact List.pairwise_iff_getElem.1 h.apart (i - 1) i (by omega) hi (by omega)
theorem memS_append {s t : List R2} {v : Int} : memS (s ++ t) v ↔ memS s v ∨ memS t v := by
  simp only [memS, List.mem_append, or_and_right, exists_or]
theorem memS_cons {r : R2} {s : List R2} {v : Int} : memS (r :: s) v ↔ (r.1 ≤ v ∧ v ≤ r.2) ∨ memS s v := by
  simp [memS]
theorem memS_nil {v : Int} : ¬ memS [] v := by simp [memS]
theorem memS_perm {s t : List R2} (h : s.Perm t) {v : Int} : memS s v ↔ memS t v := by simp only [memS, h.mem_iff]
/-- One good set alone has its scalars. -/
theorem gdL_ext : ∀ {s t : List R2}, GdL s → GdL t → (∀ v, isS v = true → (memS s v ↔ memS t v)) → s = t
  | [], [], _, _, _ => rfl
  | [], r :: t, _, ht, h => by
    obtain ⟨h1, _, h3⟩ := wholeS_iff.1 (ht.whole r (List.mem_cons_self ..))
    exact absurd ((h r.1 h1).2 ⟨r, List.mem_cons_self .., Int.le_refl _, h3⟩) memS_nil
  | r :: s, [], hs, _, h => by
    obtain ⟨h1, _, h3⟩ := wholeS_iff.1 (hs.whole r (List.mem_cons_self ..))
    exact absurd ((h r.1 h1).1 ⟨r, List.mem_cons_self .., Int.le_refl _, h3⟩) memS_nil
  | r :: s, u :: t, hs, ht, h => by
    obtain ⟨hs1, hs2⟩ := List.pairwise_cons.1 hs.apart
    obtain ⟨ht1, ht2⟩ := List.pairwise_cons.1 ht.apart
    obtain ⟨r1, r2, r3⟩ := wholeS_iff.1 (hs.whole r (List.mem_cons_self ..))
    obtain ⟨u1, u2, u3⟩ := wholeS_iff.1 (ht.whole u (List.mem_cons_self ..))
    have lows : ∀ v, memS (r :: s) v → r.1 ≤ v := fun v hv => by
      rcases memS_cons.1 hv with ⟨a, _⟩ | ⟨x, hx, a, b⟩
      · exact a
      · have := apartS_lt (hs1 x hx); omega
    have lowt : ∀ v, memS (u :: t) v → u.1 ≤ v := fun v hv => by
      rcases memS_cons.1 hv with ⟨a, _⟩ | ⟨x, hx, a, b⟩
      · exact a
      · have := apartS_lt (ht1 x hx); omega
    have e1 : r.1 = u.1 := by
      have a := lowt r.1 ((h r.1 r1).1 ⟨r, List.mem_cons_self .., Int.le_refl _, r3⟩)
      have b := lows u.1 ((h u.1 u1).2 ⟨u, List.mem_cons_self .., Int.le_refl _, u3⟩)
      omega
    have key : ∀ {a b : R2} {x : List R2}, (∀ y ∈ x, apartS a y = true) → isS a.2 = true → isS b.2 = true → a.2 < b.2 → ¬ memS (a :: x) (nextV a.2) ∧ nextV a.2 ≤ b.2 ∧ isS (nextV a.2) = true ∧ a.2 < nextV a.2 := fun {a b x} hx ha hb hlt => by
      have hb' := isS_iff.1 hb
      have hlt2 : a.2 < 1114111 := by omega
      have hg := nextV_gt hlt2
      refine ⟨fun hm => ?_, nextV_le hb hlt, nextV_isS ha hlt2, hg⟩
      rcases memS_cons.1 hm with ⟨_, k⟩ | ⟨y, hy, k, _⟩
      · omega
      · have := (apartS_iff.1 (hx y hy)).2; omega
    have e2 : r.2 = u.2 := by
      rcases Int.lt_trichotomy r.2 u.2 with hlt | he | hlt
      · obtain ⟨k1, k2, k3, k4⟩ := key (b := u) hs1 r2 u2 hlt
        exact absurd ((h _ k3).2 ⟨u, List.mem_cons_self .., by omega, k2⟩) k1
      · exact he
      · obtain ⟨k1, k2, k3, k4⟩ := key (b := r) ht1 u2 r2 hlt
        exact absurd ((h _ k3).1 ⟨r, List.mem_cons_self .., by omega, k2⟩) k1
    obtain rfl : r = u := Prod.ext e1 e2
    congr 1
    refine gdL_ext ⟨fun x hx => hs.whole x (List.mem_cons_of_mem _ hx), hs2⟩ ⟨fun x hx => ht.whole x (List.mem_cons_of_mem _ hx), ht2⟩ fun v hv => ?_
    have hh := h v hv
    rw [memS_cons, memS_cons] at hh
    have n1 : memS s v → ¬ (r.1 ≤ v ∧ v ≤ r.2) := fun ⟨x, hx, a, _⟩ b => by have := apartS_lt (hs1 x hx); omega
    have n2 : memS t v → ¬ (r.1 ≤ v ∧ v ≤ r.2) := fun ⟨x, hx, a, _⟩ b => by have := apartS_lt (ht1 x hx); omega
    constructor
    · intro k
      rcases hh.1 (.inr k) with k' | k'
      · exact absurd k' (n1 k)
      · exact k'
    · intro k
      rcases hh.2 (.inr k) with k' | k'
      · exact absurd k' (n2 k)
      · exact k'
/-! ### Of -/
/-- What holds between two rounds of Of. -/
structure OfInv (u pre : List R2) : Prop where
  ok : GdL u
  mem : ∀ v, isS v = true → (memS u v ↔ memS pre v)
  lo : ∀ r ∈ u, ∃ r0 ∈ pre, r.1 = r0.1
theorem last_split {u : List R2} (h : u.length ≠ 0) : ∃ u' p, u = u' ++ [p] ∧ u.getD (u.length - 1) (0, 0) = p := by
  have hn : u ≠ [] := fun e => h (by simp [e])
  refine ⟨u.dropLast, u.getLast hn, (List.dropLast_concat_getLast hn).symm, ?_⟩
  rw [getD_eq (by omega), List.getLast_eq_getElem]
theorem addS_inv {u pre : List R2} {r : R2} (h : OfInv u pre) (hw : wholeS r = true) (hlo : ∀ r0 ∈ pre, r0.1 ≤ r.1) : OfInv (addS u r) (pre ++ [r]) := by
  obtain ⟨w1, w2, w3⟩ := wholeS_iff.1 hw
  have app : (∀ x ∈ u, apartS x r = true) → OfInv (u ++ [r]) (pre ++ [r]) := fun ha =>
    ⟨⟨fun x hx => by
        rcases List.mem_append.1 hx with hx | hx
        · exact h.ok.whole x hx
        · rw [List.mem_singleton.1 hx]; exact hw,
      List.pairwise_append.2 ⟨h.ok.apart, by simp, fun x hx y hy => by rw [List.mem_singleton.1 hy]; exact ha x hx⟩⟩,
    fun v hv => by rw [memS_append, memS_append, h.mem v hv],
    fun x hx => by
      rcases List.mem_append.1 hx with hx | hx
      · obtain ⟨r0, a, b⟩ := h.lo x hx
        exact ⟨r0, List.mem_append_left _ a, b⟩
      · rw [List.mem_singleton.1 hx]; exact ⟨r, by simp, rfl⟩⟩
  unfold addS
  by_cases h0 : u.length = 0
  · rw [if_pos (.inl h0)]
    have : u = [] := List.eq_nil_of_length_eq_zero h0
    exact app fun x hx => by rw [this] at hx; cases hx
  obtain ⟨u', p, rfl, hp⟩ := last_split h0
  rw [hp]
  obtain ⟨g1, g2, g3⟩ := List.pairwise_append.1 h.ok.apart
  have hpw := h.ok.whole p (by simp)
  obtain ⟨p1, p2, p3⟩ := wholeS_iff.1 hpw
  by_cases ha : apartS p r = true
  · rw [if_pos (.inr ha)]
    refine app fun x hx => ?_
    rcases List.mem_append.1 hx with hx | hx
    · exact apartS_trans (g3 x hx p (by simp)) hpw ha
    · rw [List.mem_singleton.1 hx]; exact ha
  · rw [if_neg (fun k => k.elim h0 ha)]
    have hpr : p.1 ≤ r.1 := by
      obtain ⟨r0, a, b⟩ := h.lo p (by simp)
      have := hlo r0 a
      omega
    have e : (u' ++ [p]).set ((u' ++ [p]).length - 1) (p.1, if p.2 < r.2 then r.2 else p.2) = u' ++ [(p.1, if p.2 < r.2 then r.2 else p.2)] := by
      rw [List.length_append, List.set_append_right _ _ (by simp)]
      simp
    rw [e]
    have hm : (p.2 ≤ (if p.2 < r.2 then r.2 else p.2)) ∧ r.2 ≤ (if p.2 < r.2 then r.2 else p.2) ∧ ((if p.2 < r.2 then r.2 else p.2) = p.2 ∨ (if p.2 < r.2 then r.2 else p.2) = r.2) := by
      split <;> omega
    generalize (if p.2 < r.2 then r.2 else p.2) = q at hm
    obtain ⟨q1, q2, q3⟩ := hm
    have hq : isS q = true := by rcases q3 with e | e <;> rw [e] <;> assumption
    have na : ∀ v, isS v = true → p.2 < v → r.1 ≤ v := fun v hv hlt => by
      have := nextV_le hv hlt
      rw [apartS_iff] at ha
      have := isS_iff.1 hv
      omega
    refine ⟨⟨fun x hx => ?_, List.pairwise_append.2 ⟨g1, by simp, fun x hx y hy => ?_⟩⟩, fun v hv => ?_, fun x hx => ?_⟩
    · rcases List.mem_append.1 hx with hx | hx
      · exact h.ok.whole x (List.mem_append_left _ hx)
      · rw [List.mem_singleton.1 hx, wholeS_iff]
        exact ⟨p1, hq, by simp only; omega⟩
    · rw [List.mem_singleton.1 hy]
      have := g3 x hx p (by simp)
      rw [apartS_iff] at this ⊢
      exact this
    · have hh := h.mem v hv
      rw [memS_append] at hh ⊢
      rw [memS_append, ← hh]
      simp only [memS_cons, memS_nil, or_false]
      have := na v hv
      constructor
      · rintro (k | ⟨k1, k2⟩)
        · exact .inl (.inl k)
        · by_cases hv2 : v ≤ p.2
          · exact .inl (.inr ⟨k1, hv2⟩)
          · right
            refine ⟨this (by omega), ?_⟩
            rcases q3 with e | e <;> omega
      · rintro ((k | ⟨k1, k2⟩) | ⟨k1, k2⟩)
        · exact .inl k
        · exact .inr ⟨k1, by omega⟩
        · exact .inr ⟨by omega, by omega⟩
    · rcases List.mem_append.1 hx with hx | hx
      · obtain ⟨r0, a, b⟩ := h.lo x (List.mem_append_left _ hx)
        exact ⟨r0, List.mem_append_left _ a, b⟩
      · obtain ⟨r0, a, b⟩ := h.lo p (by simp)
        rw [List.mem_singleton.1 hx]
        exact ⟨r0, List.mem_append_left _ a, b⟩
theorem ofA_inv : ∀ (l u pre : List R2), OfInv u pre → Rg.SortedZ l → (∀ r0 ∈ pre, ∀ r ∈ l, r0.1 ≤ r.1) → (∀ r ∈ l, wholeS r = true) → ∃ u', ofA u l = some u' ∧ OfInv u' (pre ++ l)
  | [], u, pre, h, _, _, _ => ⟨u, rfl, by simpa using h⟩
  | r :: l, u, pre, h, hs, hlo, hw => by
    obtain ⟨s1, s2⟩ := List.pairwise_cons.1 hs
    have hwr := hw r (List.mem_cons_self ..)
    obtain ⟨u', e, k⟩ := ofA_inv l (addS u r) (pre ++ [r]) (addS_inv h hwr fun r0 h0 => hlo r0 h0 r (List.mem_cons_self ..)) s2 (fun r0 h0 x hx => by
      rcases List.mem_append.1 h0 with h0 | h0
      · exact hlo r0 h0 x (List.mem_cons_of_mem _ hx)
      · rw [List.mem_singleton.1 h0]
        have := s1 x hx
        rw [Rg.ltZ_not] at this
        omega) fun x hx => hw x (List.mem_cons_of_mem _ hx)
    refine ⟨u', ?_, by simpa using k⟩
    simp only [ofA, hwr, if_true]
    exact e
theorem ofInv_nil : OfInv [] [] := ⟨⟨by simp, .nil⟩, fun v _ => Iff.rfl, by simp⟩
/-- Of: all ranges are whole: a good set with their scalars. -/
theorem of_good {l : List R2} (h : ∀ r ∈ l, wholeS r = true) : ofB l = true ∧ GdL (ofV l) ∧ (∀ v, isS v = true → (memS (ofV l) v ↔ memS l v)) ∧ (ofV l).length ≤ l.length := by
  obtain ⟨u, e, k⟩ := ofA_inv (Rg.sortZ l) [] [] ofInv_nil (Rg.sortZ_sorted l) (by simp) fun r hr => h r ((Rg.sortZ_perm l).mem_iff.1 hr)
  have hl := ofA_length _ _ _ e
  rw [Rg.sortZ_length] at hl
  unfold ofB ofV
  rw [e]
  refine ⟨rfl, k.ok, fun v hv => ?_, by simpa using hl⟩
  show memS u v ↔ _
  rw [k.mem v hv, List.nil_append, memS_perm (Rg.sortZ_perm l)]
/-- Of: a range is not whole: none. -/
theorem of_bad {l : List R2} {r : R2} (hr : r ∈ l) (h : wholeS r = false) : ofB l = false ∧ ofV l = [] := by
  obtain ⟨i, hi, e⟩ := List.getElem_of_mem ((Rg.sortZ_perm l).mem_iff.2 hr)
  have := ofA_bad (Rg.sortZ l) [] hi (by rw [getD_eq hi, e]; exact h)
  unfold ofB ofV
  rw [this]
  exact ⟨rfl, rfl⟩
theorem ofB_iff (l : List R2) : ofB l = true ↔ ∀ r ∈ l, wholeS r = true := by
  constructor
  · intro h r hr
    cases e : wholeS r with
    | true => rfl
    | false => rw [(of_bad hr e).1] at h; cases h
  · exact fun h => (of_good h).1
end Go.Proofs.Abs
