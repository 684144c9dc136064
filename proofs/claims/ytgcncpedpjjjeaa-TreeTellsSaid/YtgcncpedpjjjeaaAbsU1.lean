/- A part of a proof: the text that states the row tells what is proved. No condition is laid on anything. -/
import Derived.Test.YtgcncpedpjjjeaaAbsU0
import Derived.Test.YtgcncpedpjjjeaaAbsS4
set_option linter.all false
set_option linter.constructorNameAsVariable false
set_option linter.defProp false
set_option linter.unusedVariables false
set_option linter.unusedSimpArgs false
set_option maxRecDepth 100000
set_option maxHeartbeats 1000000
namespace Go.Proofs.Abs
open Go
section
variable {t : List Nd} {l : List Int} {k : Nat}
theorem Ek_lt {i j : Nat} (h : j < i) : Ek t l k i j = false := by
  unfold Ek
  rw [decide_eq_false (by omega), Bool.false_and]
theorem Ek_le {i j : Nat} (h : i ≤ j) : Ek t l k i j = tk t l k i j := by
  unfold Ek
  rw [decide_eq_true h, Bool.true_and]
theorem Ek_alt (h : (t.getD k default).kind = 4) {a b : Nat} (ha : (t.getD k default).a = a) (hb : (t.getD k default).b = b) (h1 : a < k) (h2 : b < k) (i j : Nat) : Ek t l k i j = (Ek t l a i j || Ek t l b i j) := by
  by_cases hij : i ≤ j
  · rw [Ek_le hij, Ek_le hij, Ek_le hij, tk_alt h ha hb h1 h2]
  · rw [Ek_lt (by omega), Ek_lt (by omega), Ek_lt (by omega)]; rfl
def catG (t : List Nd) (l : List Int) (a b i c j : Nat) : Bool := (List.range c).any fun d => Ek t l a i (i + d) && Ek t l b (i + d) j
theorem catG_succ (a b i c j : Nat) : catG t l a b i (c + 1) j = (catG t l a b i c j || (Ek t l a i (i + c) && Ek t l b (i + c) j)) := any_succ _ _
theorem Ek_cat (h : (t.getD k default).kind = 3) {a b : Nat} (ha : (t.getD k default).a = a) (hb : (t.getD k default).b = b) (h1 : a < k) (h2 : b < k) {i j N : Nat} (hi : i < N) (hj : j < N) : catG t l a b i (N - i) j = Ek t l k i j := by
  unfold catG
  by_cases hij : i ≤ j
  · rw [Ek_le hij, tk_cat h ha hb h1 h2, Bool.eq_iff_iff]
    simp only [List.any_eq_true, List.mem_range, Bool.and_eq_true]
    constructor
    · rintro ⟨d, hd, e1, e2⟩
      by_cases hd2 : i + d ≤ j
      · rw [Ek_le (by omega)] at e1
        rw [Ek_le hd2] at e2
        exact ⟨d, by omega, e1, e2⟩
      · rw [Ek_lt (by omega)] at e2
        cases e2
    · rintro ⟨d, hd, e1, e2⟩
      exact ⟨d, by omega, by rw [Ek_le (by omega)]; exact e1, by rw [Ek_le (by omega)]; exact e2⟩
  · rw [Ek_lt (by omega)]
    refine any_false fun d hd => ?_
    rw [Ek_lt (t := t) (l := l) (k := b) (i := i + d) (j := j) (by omega), Bool.and_false]
def starG (t : List Nd) (l : List Int) (a i : Nat) : Nat → Nat → Bool
  | 0, j => decide (j = i)
  | c + 1, j => starG t l a i c j || (starG t l a i c (i + c) && Ek t l a (i + c) j)
theorem star_snoc (h : (t.getD k default).kind = 5) {a : Nat} (ha : (t.getD k default).a = a) (h1 : a < k) : ∀ (d i m j : Nat), m - i ≤ d → i ≤ m → m ≤ j → tk t l k i m = true → tk t l a m j = true → tk t l k i j = true := by
  intro d
  induction d with
  | zero =>
    intro i m j hd him hmj e1 e2
    have : i = m := by omega
    subst this
    rw [tk_star h ha h1, Bool.or_eq_true]
    by_cases hij : i = j
    · exact .inl (by simp [hij])
    · refine .inr (any_true (i := j - i - 1) (by omega) ?_)
      rw [show i + 1 + (j - i - 1) = j by omega, e2, Bool.true_and, tk_star h ha h1]
      simp
  | succ d ih =>
    intro i m j hd him hmj e1 e2
    by_cases him2 : i = m
    · subst him2
      exact ih i i j (by omega) (by omega) hmj e1 e2
    · rw [tk_star h ha h1, Bool.or_eq_true] at e1
      rcases e1 with e1 | e1
      · simp at e1; omega
      · simp only [List.any_eq_true, List.mem_range, Bool.and_eq_true] at e1
        obtain ⟨c, hc, e3, e4⟩ := e1
        have := ih (i + 1 + c) m j (by omega) (by omega) hmj e4 e2
        rw [tk_star h ha h1, Bool.or_eq_true]
        exact .inr (any_true (i := c) (by omega) (by rw [e3, this]; rfl))
theorem starG_sound (h : (t.getD k default).kind = 5) {a : Nat} (ha : (t.getD k default).a = a) (h1 : a < k) {i : Nat} : ∀ c j, starG t l a i c j = true → i ≤ j ∧ tk t l k i j = true := by
  intro c
  induction c with
  | zero =>
    intro j e
    simp only [starG, decide_eq_true_eq] at e
    subst e
    exact ⟨Nat.le_refl _, by rw [tk_star h ha h1]; simp⟩
  | succ c ih =>
    intro j e
    simp only [starG, Bool.or_eq_true, Bool.and_eq_true] at e
    rcases e with e | ⟨e1, e2⟩
    · exact ih j e
    · obtain ⟨h2, h3⟩ := ih _ e1
      by_cases hj : i + c ≤ j
      · rw [Ek_le hj] at e2
        exact ⟨by omega, star_snoc h ha h1 c i (i + c) j (by omega) (by omega) hj h3 e2⟩
      · rw [Ek_lt (by omega)] at e2
        cases e2
theorem starG_mono {a i : Nat} : ∀ c c' j, c ≤ c' → starG t l a i c j = true → starG t l a i c' j = true := by
  intro c c' j hc e
  induction c' with
  | zero => have : c = 0 := by omega
            subst this; exact e
  | succ c' ih =>
    by_cases h : c = c' + 1
    · subst h; exact e
    · simp only [starG, ih (by omega), Bool.true_or]
theorem starG_stay {a i m : Nat} : ∀ c, m < i + c → i ≤ m → starG t l a i c m = true → starG t l a i (m - i) m = true := by
  intro c
  induction c with
  | zero => intro h1 h2 _; omega
  | succ c ih =>
    intro h1 h2 e
    by_cases hm : m < i + c
    · simp only [starG, Bool.or_eq_true, Bool.and_eq_true] at e
      rcases e with e | ⟨_, e2⟩
      · exact ih hm h2 e
      · rw [Ek_lt hm] at e2; cases e2
    · have : m = i + c := by omega
      subst this
      simp only [starG, Bool.or_eq_true, Bool.and_eq_true] at e
      rw [show i + c - i = c by omega]
      rcases e with e | ⟨e1, _⟩
      · exact e
      · exact e1
theorem starG_full (h : (t.getD k default).kind = 5) {a : Nat} (ha : (t.getD k default).a = a) (h1 : a < k) {i N : Nat} : ∀ (d m j : Nat), j - m ≤ d → i ≤ m → m ≤ j → j < N → starG t l a i (N - i) m = true → tk t l k m j = true → starG t l a i (N - i) j = true := by
  intro d
  induction d with
  | zero =>
    intro m j hd him hmj hj e1 e2
    have : m = j := by omega
    subst this; exact e1
  | succ d ih =>
    intro m j hd him hmj hj e1 e2
    rw [tk_star h ha h1, Bool.or_eq_true] at e2
    rcases e2 with e2 | e2
    · simp at e2; subst e2; exact e1
    · simp only [List.any_eq_true, List.mem_range, Bool.and_eq_true] at e2
      obtain ⟨c, hc, e3, e4⟩ := e2
      have s1 := starG_stay (N - i) (by omega) him e1
      have s2 : starG t l a i (m - i + 1) (m + 1 + c) = true := by
        simp only [starG, Bool.or_eq_true, Bool.and_eq_true]
        rw [show i + (m - i) = m by omega]
        exact .inr ⟨s1, by rw [Ek_le (by omega)]; exact e3⟩
      exact ih (m + 1 + c) j (by omega) (by omega) (by omega) hj (starG_mono _ _ _ (by omega) s2) e4
theorem Ek_star (h : (t.getD k default).kind = 5) {a : Nat} (ha : (t.getD k default).a = a) (h1 : a < k) {i j N : Nat} (hi : i < N) (hj : j < N) : starG t l a i (N - i) j = Ek t l k i j := by
  rw [Bool.eq_iff_iff]
  constructor
  · intro e
    obtain ⟨h2, h3⟩ := starG_sound h ha h1 _ _ e
    rw [Ek_le h2]; exact h3
  · intro e
    by_cases hij : i ≤ j
    · rw [Ek_le hij] at e
      exact starG_full h ha h1 (j - i) i j (Nat.le_refl _) (Nat.le_refl _) hij hj (starG_mono 0 _ _ (Nat.zero_le _) (by simp [starG])) e
    · rw [Ek_lt (by omega)] at e; cases e
theorem Ek_empty (h : (t.getD k default).kind = 1) (i j : Nat) : fupd (fun _ => false) i true j = Ek t l k i j := by
  unfold fupd Ek
  rw [tk_empty h]
  by_cases e : j = i
  · subst e; simp
  · have : ¬ i = j := fun x => e x.symm
    simp [e, this]
theorem Ek_one (h : (t.getD k default).kind = 2) (i j : Nat) : fupd (fun _ => false) (i + 1) (hasS (t.getD k default).set (l.getD i 0)) j = Ek t l k i j := by
  unfold fupd Ek
  rw [tk_one h]
  by_cases e : j = i + 1
  · subst e; simp
  · simp [e]
theorem Ek_oneout (h : (t.getD k default).kind = 2) {i j : Nat} (hj : j ≤ i) : Ek t l k i j = false := by
  unfold Ek
  rw [tk_one h, decide_eq_false (show ¬ j = i + 1 by omega), Bool.false_and, Bool.and_false]
theorem Ek_other (h1 : (t.getD k default).kind ≠ 1) (h2 : (t.getD k default).kind ≠ 2) (h3 : (t.getD k default).kind ≠ 3) (h4 : (t.getD k default).kind ≠ 4) (h5 : (t.getD k default).kind ≠ 5) (i j : Nat) : Ek t l k i j = false := by
  unfold Ek
  rw [tk_other h1 h2 h3 h4 h5, Bool.and_false]
end
end Go.Proofs.Abs
