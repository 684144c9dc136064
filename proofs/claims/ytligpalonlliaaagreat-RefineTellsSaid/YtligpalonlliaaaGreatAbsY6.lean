/- A part of a proof: the text that states the row tells what is proved. No condition is laid on anything. -/
import Derived.Test.YtligpalonlliaaaGreatAbsY5
set_option linter.all false
set_option linter.constructorNameAsVariable false
set_option linter.defProp false
set_option linter.unusedVariables false
set_option linter.unusedSimpArgs false
set_option maxRecDepth 100000
set_option maxHeartbeats 16000000
namespace Go.Proofs.Abs
open Go
/-! 13: caesuralaw03.SetsOrder. -/
theorem ordZ_zero {x y : R2} : Rg.ordZ x y = 0 ↔ x = y := by
  unfold Rg.ordZ Lib.compareInt
  constructor
  · intro h
    refine Prod.ext ?_ ?_ <;> (repeat' split at h) <;> first | omega | simp_all
  · rintro rfl
    simp
theorem ordZ_neg {x y : R2} : Rg.ordZ x y < 0 ↔ (x.1 < y.1 ∨ (x.1 = y.1 ∧ x.2 < y.2)) := by
  unfold Rg.ordZ Lib.compareInt
  repeat' split
  all_goals omega
theorem lessS_nil (b : List R2) : lessS [] b = true ↔ b ≠ [] := by cases b <;> simp [lessS, cmpS]
theorem lessS_nil2 (a : List R2) : lessS a [] = false := by cases a <;> simp [lessS, cmpS]
theorem lessS_cons {x y : R2} {a b : List R2} : lessS (x :: a) (y :: b) = true ↔ (x.1 < y.1 ∨ (x.1 = y.1 ∧ x.2 < y.2)) ∨ (x = y ∧ lessS a b = true) := by
  unfold lessS
  rw [decide_eq_true_eq, decide_eq_true_eq]
  show (if Rg.ordZ x y = 0 then cmpS a b else Rg.ordZ x y) < 0 ↔ _
  by_cases h : x = y
  · rw [if_pos (ordZ_zero.2 h)]
    subst h
    simp
  · rw [if_neg (fun k => h (ordZ_zero.1 k)), ordZ_neg]
    simp [h]
theorem lessS_irr : ∀ a : List R2, lessS a a = false
  | [] => rfl
  | x :: a => by
    have := lessS_irr a
    cases h : lessS (x :: a) (x :: a) with
    | false => rfl
    | true =>
      rw [lessS_cons] at h
      rcases h with h | ⟨_, h⟩
      · omega
      · rw [this] at h; cases h
theorem lessS_trans : ∀ {a b c : List R2}, lessS a b = true → lessS b c = true → lessS a c = true
  | [], b, [], h1, h2 => by rw [lessS_nil2] at h2; cases h2
  | [], b, z :: c, h1, h2 => (lessS_nil _).2 (by simp)
  | x :: a, [], c, h1, h2 => by rw [lessS_nil2] at h1; cases h1
  | x :: a, y :: b, [], h1, h2 => by rw [lessS_nil2] at h2; cases h2
  | x :: a, y :: b, z :: c, h1, h2 => by
    rw [lessS_cons] at *
    rcases h1 with h1 | ⟨rfl, h1⟩ <;> rcases h2 with h2 | ⟨rfl, h2⟩
    · left; omega
    · exact .inl h1
    · exact .inl h2
    · exact .inr ⟨rfl, lessS_trans h1 h2⟩
theorem lessS_total : ∀ (a b : List R2), lessS a b = true ∨ a = b ∨ lessS b a = true
  | [], [] => .inr (.inl rfl)
  | [], y :: b => .inl ((lessS_nil _).2 (by simp))
  | x :: a, [] => .inr (.inr ((lessS_nil _).2 (by simp)))
  | x :: a, y :: b => by
    rw [lessS_cons, lessS_cons]
    by_cases h : x = y
    · subst h
      rcases lessS_total a b with h | rfl | h
      · exact .inl (.inr ⟨rfl, h⟩)
      · exact .inr (.inl rfl)
      · exact .inr (.inr (.inr ⟨rfl, h⟩))
    · have : x.1 ≠ y.1 ∨ x.2 ≠ y.2 := by
        by_cases h1 : x.1 = y.1
        · exact .inr fun h2 => h (Prod.ext h1 h2)
        · exact .inl h1
      omega
theorem lessS_asym {a b : List R2} (h : lessS a b = true) : lessS b a = false := by
  cases k : lessS b a with
  | false => rfl
  | true => have := lessS_trans h k; rw [lessS_irr] at this; cases this
theorem lessS_ne {a b : List R2} (h : lessS a b = true) : a ≠ b := fun e => by rw [e, lessS_irr] at h; cases h
def dupL (l : List R2) : List R2 := l.flatMap fun x => [x, x]
theorem dupL_snoc (l : List R2) (x : R2) : dupL (l ++ [x]) = dupL l ++ [x, x] := by simp [dupL]
theorem dupL_length (l : List R2) : (dupL l).length = 2 * l.length := by
  induction l with
  | nil => rfl
  | cons x l ih => simp only [dupL, List.flatMap_cons, List.length_append, List.length_cons, List.length_nil] at *; omega
theorem mem_dupL {l : List R2} {r : R2} : r ∈ dupL l.reverse ↔ r ∈ l := by simp [dupL]
theorem of_back {a : List R2} (h : goodS a = true) : ofB (dupL a.reverse) = true ∧ ofV (dupL a.reverse) = a := by
  have g := (gdL_iff a).1 h
  obtain ⟨e1, e2, e3, _⟩ := of_good (l := dupL a.reverse) fun r hr => g.whole r (mem_dupL.1 hr)
  refine ⟨e1, gdL_ext e2 g fun v hv => ?_⟩
  rw [e3 v hv]
  simp only [memS, mem_dupL]
theorem back_step {a : List R2} {j : Nat} (h : j < a.length) : dupL (a.drop j).reverse = dupL (a.drop (j + 1)).reverse ++ [a.getD j (0, 0), a.getD j (0, 0)] := by
  rw [drop_get h, List.reverse_cons, dupL_snoc]
def big2 (a b : List R2) : Bool := decide (60 < a.length) || decide (60 < b.length)
noncomputable def s2 : FT := s1
theorem s2_ok : FTOK Tryz.prog s2 := s1_ok

end Go.Proofs.Abs
