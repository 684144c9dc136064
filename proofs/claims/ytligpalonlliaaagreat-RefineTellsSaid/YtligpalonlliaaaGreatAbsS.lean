/- A part of a proof: the text that states the row tells what is proved. No condition is laid on anything. -/
import Derived.Test.YtligpalonlliaaaGreatAbsD
set_option linter.all false
set_option linter.constructorNameAsVariable false
set_option linter.defProp false
set_option linter.unusedVariables false
set_option linter.unusedSimpArgs false
namespace Go.Proofs.Abs
open Go

/-! ### What the functions of the lower layers tell, on data -/
instance : Inhabited Nd := ⟨⟨0, 0, 0, [], ⟨#[]⟩⟩⟩
def isS (v : Int) : Bool := (decide (0 ≤ v) && decide (v < 55296)) || (decide (57344 ≤ v) && decide (v ≤ 1114111))
def nextV (v : Int) : Int := if v < 0 then 0 else if 1114111 ≤ v then 0 else if 55295 ≤ v ∧ v < 57344 then 57344 else v + 1
def nextB (v : Int) : Bool := decide (v < 1114111)
def wholeS (r : Int × Int) : Bool := isS r.1 && isS r.2 && decide (r.1 ≤ r.2)
def apartS (a b : Int × Int) : Bool := nextB a.2 && decide (nextV a.2 < b.1)
def okAt (s : List (Int × Int)) (i : Nat) : Bool := wholeS (s.getD i (0, 0)) && (decide (i = 0) || apartS (s.getD (i - 1) (0, 0)) (s.getD i (0, 0)))
def goodS (s : List (Int × Int)) : Bool := (List.range s.length).all (okAt s)
theorem all_true {n : Nat} {f : Nat → Bool} (h : ∀ i, i < n → f i = true) : (List.range n).all f = true := by
  rw [List.all_eq_true]
  intro i hi
  exact h i (List.mem_range.1 hi)
theorem all_false {n i : Nat} {f : Nat → Bool} (hi : i < n) (h : f i = false) : (List.range n).all f = false := by
  rw [List.all_eq_false]
  exact ⟨i, List.mem_range.2 hi, by simp [h]⟩

/-! Trees. -/
def bareN (n : Nd) : Bool := decide (n.set.length = 0) && decide (n.name.size = 0)
def leafN (n : Nd) : Bool :=
  decide (n.a = 0) && decide (n.b = 0) && (if n.kind = 2 then decide (0 < n.set.length) && goodS n.set else (decide (n.kind = 0) || decide (n.kind = 1)) && bareN n)
def isFork (n : Nd) : Bool := decide (n.kind = 3) || decide (n.kind = 4)
/-- Where what is beneath the next node begins, if that may be. -/
def stepB (out : List Nat) (n : Nd) : Option Nat :=
  if isFork n then
    if 2 ≤ out.length ∧ n.b = out.length - 1 ∧ 1 ≤ out.getD (out.length - 1) 0 ∧ n.a = out.getD (out.length - 1) 0 - 1 ∧ bareN n = true then some (out.getD n.a.toNat 0) else none
  else if n.kind = 5 then
    if 1 ≤ out.length ∧ n.a = out.length - 1 ∧ n.b = 0 ∧ bareN n = true then some (out.getD n.a.toNat 0) else none
  else if leafN n then some out.length else none
def begsFrom : List Nat → List Nd → Option (List Nat)
  | out, [] => some out
  | out, n :: r => match stepB out n with
    | some b => begsFrom (out ++ [b]) r
    | none => none
def begs (t : List Nd) : Option (List Nat) := begsFrom [] t
def goodT (t : List Nd) : Bool := decide (1 ≤ t.length) && decide (t.length ≤ 40000) && (match begs t with
  | some l => decide (l.getD (t.length - 1) 0 = 0)
  | none => false)

theorem begsFrom_len : ∀ (r : List Nd) (out l : List Nat), begsFrom out r = some l → l.length = out.length + r.length ∧ l.take out.length = out
  | [], out, l, h => by
    injection h with h
    subst h
    simp
  | n :: r, out, l, h => by
    unfold begsFrom at h
    split at h
    · obtain ⟨h1, h2⟩ := begsFrom_len r _ l h
      refine ⟨by simp at h1 ⊢; omega, ?_⟩
      have := congrArg (List.take out.length) h2
      simpa [List.take_take, Nat.min_eq_left] using this
    · cases h
theorem begs_len {t : List Nd} {l : List Nat} (h : begs t = some l) : l.length = t.length := by
  have := (begsFrom_len _ _ _ h).1
  simpa using this
/-- Each of the nodes is right. -/
theorem begsFrom_step : ∀ (r : List Nd) (out l : List Nat), begsFrom out r = some l → ∀ i, (h : i < r.length) → stepB (l.take (out.length + i)) r[i] = some (l.getD (out.length + i) 0)
  | [], _, _, _, i, h => by simp at h
  | n :: r, out, l, h, i, hi => by
    unfold begsFrom at h
    split at h
    · rename_i b hb
      obtain ⟨h1, h2⟩ := begsFrom_len r _ l h
      have hlen : (out ++ [b]).length = out.length + 1 := by simp
      cases i with
      | zero =>
        have e1 : l.take out.length = out := by
          have := congrArg (List.take out.length) h2
          simpa [List.take_take, Nat.min_eq_left] using this
        have e2 : l.getD out.length 0 = b := by
          have := congrArg (fun x => x.getD out.length 0) h2
          simp [List.getD_eq_getElem?_getD, List.getElem?_take] at this
          simpa [List.getD_eq_getElem?_getD] using this
        simp only [Nat.add_zero, e1, e2, List.getElem_cons_zero, hb]
      | succ i =>
        have := begsFrom_step r _ l h i (by simpa using hi)
        rw [hlen] at this
        simpa [Nat.add_assoc, Nat.add_comm 1 i] using this
    · cases h
theorem begsFrom_take : ∀ (r : List Nd) (out l : List Nat) (k : Nat), begsFrom out r = some l → begsFrom out (r.take k) = some (l.take (out.length + k))
  | [], out, l, k, h => by
    injection h with h
    subst h
    simp only [List.take_nil, begsFrom]
    rw [List.take_of_length_le (by omega)]
  | n :: r, out, l, 0, h => by
    simp only [List.take_zero, begsFrom, Nat.add_zero]
    rw [(begsFrom_len _ _ _ h).2]
  | n :: r, out, l, k + 1, h => by
    unfold begsFrom at h
    split at h
    · rename_i b hb
      have := begsFrom_take r _ l k h
      simp only [List.take_succ_cons, begsFrom, hb, this]
      simp [Nat.add_assoc, Nat.add_comm 1 k]
    · cases h
theorem begs_take {t : List Nd} {l : List Nat} (h : begs t = some l) (k : Nat) : begs (t.take k) = some (l.take k) := by
  have := begsFrom_take t [] l k h
  simp only [List.length_nil, Nat.zero_add] at this
  exact this
theorem begs_step {t : List Nd} {l : List Nat} (h : begs t = some l) (i : Nat) (hi : i < t.length) : stepB (l.take i) t[i] = some (l.getD i 0) := by
  have := begsFrom_step t [] l h i hi
  simpa using this

theorem getD_take {l : List Nat} {i m : Nat} (h : i < m) : (l.take m).getD i 0 = l.getD i 0 := by
  simp [List.getD_eq_getElem?_getD, List.getElem?_take, h]
/-- A node of a right tree: what it is. -/
inductive Cut (l : List Nat) (i : Nat) (n : Nd) : Prop
  | fork (hk : isFork n = true) (h2 : 2 ≤ i) (hb : n.b = i - 1) (h1 : 1 ≤ l.getD (i - 1) 0) (ha : n.a = l.getD (i - 1) 0 - 1) (hn : bareN n = true) (h : l.getD i 0 = l.getD n.a.toNat 0)
  | star (hf : isFork n = false) (hk : n.kind = 5) (h1 : 1 ≤ i) (ha : n.a = i - 1) (hb : n.b = 0) (hn : bareN n = true) (h : l.getD i 0 = l.getD n.a.toNat 0)
  | leaf (hf : isFork n = false) (hk : n.kind ≠ 5) (hn : leafN n = true) (h : l.getD i 0 = i)
theorem begs_cut {t : List Nd} {l : List Nat} (h : begs t = some l) : ∀ i, (hi : i < t.length) → l.getD i 0 ≤ i ∧ Cut l i t[i] := by
  intro i
  induction i using Nat.strongRecOn with
  | ind i ih =>
    intro hi
    have hs := begs_step h i hi
    have hl := begs_len h
    have e : (l.take i).length = i := by simp; omega
    unfold stepB at hs
    rw [e] at hs
    by_cases hf : isFork t[i] = true
    · rw [if_pos hf] at hs
      split at hs
      · rename_i hc
        obtain ⟨c1, c2, c3, c4, c5⟩ := hc
        rw [getD_take (by omega)] at c3 c4
        have hp := (ih (i - 1) (by omega) (by omega)).1
        have hlt : t[i].a.toNat < i := by omega
        rw [getD_take hlt] at hs
        injection hs with hs
        have hq := (ih _ hlt (by omega)).1
        exact ⟨by omega, .fork hf c1 (by omega) c3 (by omega) c5 hs.symm⟩
      · cases hs
    · rw [if_neg hf] at hs
      split at hs
      · rename_i hk
        split at hs
        · rename_i hc
          obtain ⟨c1, c2, c3, c4⟩ := hc
          have hlt : t[i].a.toNat < i := by omega
          rw [getD_take hlt] at hs
          injection hs with hs
          have hq := (ih _ hlt (by omega)).1
          exact ⟨by omega, .star (by simpa using hf) hk c1 (by omega) c3 c4 hs.symm⟩
        · cases hs
      · rename_i hk
        split at hs
        · rename_i hc
          injection hs with hs
          exact ⟨by omega, .leaf (by simpa using hf) hk hc hs.symm⟩
        · cases hs

/-! ### Sizes -/
def inc (ch : List Nat) (a : Nat) : List Nat := ch.set a (ch.getD a 0 + 1)
structure Cn where
  lv : Nat
  fk : Nat
  ch : List Nat
def stepC (s : Cn) (n : Nd) : Cn :=
  if isFork n then ⟨s.lv, s.fk + 1, inc (inc s.ch n.a.toNat) n.b.toNat⟩
  else if n.kind = 5 then ⟨s.lv, s.fk, inc s.ch n.a.toNat⟩
  else ⟨s.lv + 1, s.fk, s.ch⟩
def cnt (t : List Nd) (j : Nat) : Cn := (t.take j).foldl stepC ⟨0, 0, List.replicate t.length 0⟩
theorem cnt_succ (t : List Nd) (j : Nat) (h : j < t.length) : cnt t (j + 1) = stepC (cnt t j) t[j] := by
  unfold cnt
  rw [show t.take (j + 1) = t.take j ++ [t[j]] by simp, List.foldl_append]
  rfl
/-- The nodes that have no parent yet. -/
inductive Ch (f : Nat → Nat) : Nat → List Nat → Prop
  | nil : Ch f 0 []
  | cons (m : Nat) (l : List Nat) (h : Ch f (f m) l) : Ch f (m + 1) (m :: l)
theorem Ch.lt {f : Nat → Nat} (hf : ∀ i, f i ≤ i) : ∀ {m : Nat} {l : List Nat}, Ch f m l → ∀ x ∈ l, x < m
  | _, _, .nil, x, hx => by simp at hx
  | _, _, .cons m l h, x, hx => by
    rcases List.mem_cons.1 hx with rfl | hx
    · omega
    · have := h.lt hf x hx
      have := hf m
      omega
theorem inc_len (ch : List Nat) (a : Nat) : (inc ch a).length = ch.length := by simp [inc]
theorem inc_get (ch : List Nat) (a i : Nat) (ha : a < ch.length) : (inc ch a).getD i 0 = if i = a then ch.getD i 0 + 1 else ch.getD i 0 := by
  unfold inc
  rw [List.getD_eq_getElem?_getD, List.getElem?_set]
  by_cases h : a = i
  · subst h
    simp [ha]
  · rw [if_neg h, if_neg (Ne.symm h), List.getD_eq_getElem?_getD]
theorem sizes_inv {t : List Nd} {l : List Nat} (h : begs t = some l) : ∀ j, j ≤ t.length → ∃ r, Ch (fun i => min (l.getD i 0) i) j r ∧ (cnt t j).lv = (cnt t j).fk + r.length ∧ (cnt t j).ch.length = t.length ∧
    (∀ i, (cnt t j).ch.getD i 0 = if i < j ∧ i ∉ r then 1 else 0) := by
  intro j
  induction j with
  | zero =>
    intro _
    refine ⟨[], .nil, by simp [cnt], by simp [cnt], fun i => ?_⟩
    simp [cnt, List.getD_eq_getElem?_getD, List.getElem?_replicate]
    split <;> rfl
  | succ j ih =>
    intro hj
    obtain ⟨r, hc, h1, h2, h3⟩ := ih (by omega)
    have hlt := fun x hx => hc.lt (fun i => Nat.min_le_right _ _) x hx
    obtain ⟨hle, hcut⟩ := begs_cut h j hj
    have fle := fun i hi => (begs_cut h i hi).1
    rw [cnt_succ t j hj]
    generalize cnt t j = s at h1 h2 h3
    generalize t[j] = n at hcut
    cases hcut with
    | fork hk c2 hb c1 ha hn hg =>
      obtain ⟨m, rfl⟩ : ∃ m, j = m + 1 := ⟨j - 1, by omega⟩
      simp only [Nat.add_sub_cancel] at *
      have hm := fle m (by omega)
      cases hc with
      | cons _ r' hc =>
        have e1 : min (l.getD m 0) m = l.getD m 0 := by omega
        rw [e1] at hc
        obtain ⟨a, hae⟩ : ∃ a, l.getD m 0 = a + 1 := ⟨l.getD m 0 - 1, by omega⟩
        rw [hae] at hc
        cases hc with
        | cons _ r2 hc =>
          have ea : n.a.toNat = a := by omega
          have eb : n.b.toNat = m := by omega
          have eqa : l.getD (m + 1) 0 = l.getD a 0 := by rw [hg, ea]
          have haa := fle a (by omega)
          refine ⟨(m + 1) :: r2, .cons _ _ ?_, ?_, ?_, ?_⟩
          · have : min (l.getD (m + 1) 0) (m + 1) = min (l.getD a 0) a := by omega
            simp only [this]
            exact hc
          · simp only [stepC, hk, if_true]
            simp at h1 ⊢
            omega
          · simp only [stepC, hk, if_true, inc_len]
            exact h2
          · intro i
            have hr2 : ∀ x ∈ r2, x < a := fun x hx => by
              have := hc.lt (fun i => Nat.min_le_right _ _) x hx
              omega
            simp only [stepC, hk, if_true, ea, eb]
            rw [inc_get _ _ _ (by rw [inc_len]; omega), inc_get _ _ _ (by omega), h3 i]
            simp only [List.mem_cons, not_or]
            have hna : a ∉ r2 := fun hx => by have := hr2 a hx; omega
            have hnm : m ∉ r2 := fun hx => by have := hr2 m hx; omega
            by_cases i1 : i = m
            · subst i1
              have : i ≠ a := by omega
              have h5 : i < i + 1 + 1 := by omega
              simp [this, hnm, h5]
            · by_cases i2 : i = a
              · subst i2
                have h5 : i < m + 1 + 1 := by omega
                have h6 : ¬ i = m + 1 := by omega
                simp [i1, hna, h5, h6]
              · by_cases i3 : i = m + 1
                · subst i3; simp [i1, i2]
                · by_cases i4 : i < m + 1
                  · have : i < m + 1 + 1 := by omega
                    simp [i1, i2, i3, i4, this]
                  · have : ¬ i < m + 1 + 1 := by omega
                    simp [i1, i2, i3, i4, this]
    | star hf hk c1 ha hb hn hg =>
      obtain ⟨m, rfl⟩ : ∃ m, j = m + 1 := ⟨j - 1, by omega⟩
      have hm := fle m (by omega)
      cases hc with
      | cons _ r' hc =>
        have ea : n.a.toNat = m := by omega
        have eqa : l.getD (m + 1) 0 = l.getD m 0 := by rw [hg, ea]
        refine ⟨(m + 1) :: r', .cons _ _ ?_, ?_, ?_, ?_⟩
        · have : min (l.getD (m + 1) 0) (m + 1) = min (l.getD m 0) m := by omega
          simp only [this]
          exact hc
        · simp only [stepC, hf, hk, if_true, Bool.false_eq_true, if_false]
          simp at h1 ⊢
          omega
        · simp only [stepC, hf, hk, if_true, Bool.false_eq_true, if_false, inc_len]
          exact h2
        · intro i
          have hr2 : ∀ x ∈ r', x < m := fun x hx => by
            have := hc.lt (fun i => Nat.min_le_right _ _) x hx
            omega
          simp only [stepC, hf, hk, if_true, Bool.false_eq_true, if_false, ea]
          rw [inc_get _ _ _ (by omega), h3 i]
          simp only [List.mem_cons, not_or]
          have hnm : m ∉ r' := fun hx => by have := hr2 m hx; omega
          by_cases i1 : i = m
          · subst i1
            have h5 : i < i + 1 + 1 := by omega
            simp [hnm, h5]
          · by_cases i3 : i = m + 1
            · subst i3; simp [i1]
            · by_cases i4 : i < m + 1
              · have : i < m + 1 + 1 := by omega
                simp [i1, i3, i4, this]
              · have : ¬ i < m + 1 + 1 := by omega
                simp [i1, i3, i4, this]
    | leaf hf hk hn hg =>
      refine ⟨j :: r, .cons _ _ ?_, ?_, ?_, ?_⟩
      · simp only [hg, Nat.min_self]
        exact hc
      · simp only [stepC, hf, hk, Bool.false_eq_true, if_false]
        simp
        omega
      · simp only [stepC, hf, hk, Bool.false_eq_true, if_false]
        exact h2
      · intro i
        simp only [stepC, hf, hk, Bool.false_eq_true, if_false]
        rw [h3 i]
        simp only [List.mem_cons, not_or]
        by_cases i3 : i = j
        · subst i3; simp
        · by_cases i4 : i < j
          · have : i < j + 1 := by omega
            simp [i3, i4, this]
          · have : ¬ i < j + 1 := by omega
            simp [i4, this]
theorem sizes_law {t : List Nd} (h : goodT t = true) : (cnt t t.length).lv = (cnt t t.length).fk + 1 ∧ (cnt t t.length).ch.length = t.length ∧ ∀ i, i < t.length → (cnt t t.length).ch.getD i 0 = if i + 1 < t.length then 1 else 0 := by
  unfold goodT at h
  simp only [Bool.and_eq_true, decide_eq_true_eq] at h
  obtain ⟨⟨h1, h2⟩, h3⟩ := h
  split at h3
  · rename_i l hl
    simp only [decide_eq_true_eq] at h3
    obtain ⟨r, hc, c1, c2, c3⟩ := sizes_inv hl t.length (Nat.le_refl _)
    obtain ⟨m, hm⟩ : ∃ m, t.length = m + 1 := ⟨t.length - 1, by omega⟩
    rw [hm] at hc
    cases hc with
    | cons _ r' hc =>
      have : min (l.getD m 0) m = 0 := by
        have : t.length - 1 = m := by omega
        rw [this] at h3
        omega
      rw [this] at hc
      cases hc
      refine ⟨by simpa using c1, c2, fun i hi => ?_⟩
      rw [c3 i, hm]
      simp only [List.mem_singleton]
      by_cases e : i = m
      · subst e; simp
      · have h5 : i < m := by omega
        simp [e, h5]
        omega
  · cases h3
end Go.Proofs.Abs
