/- A part of a proof: the text that states the row tells what is proved. No condition is laid on anything. -/
import Derived.Test.YtligpalonlliaaaGreatAbsY10
set_option linter.all false
set_option linter.constructorNameAsVariable false
set_option linter.defProp false
set_option linter.unusedVariables false
set_option linter.unusedSimpArgs false
set_option maxRecDepth 100000
set_option maxHeartbeats 16000000
namespace Go.Proofs.Abs
open Go
/-! 12: caesuralaw03.SetsHold. -/
theorem inS_bool {s t : List R2} {v : Int} (h : memS s v ↔ memS t v) : inS v s = inS v t := by rw [Bool.eq_iff_iff, inS_iff, inS_iff]; exact h
theorem has_union {a b : List R2} (ha : goodS a = true) (hb : goodS b = true) (v : Int) : hasS (unionS a b) v = (hasS a v || hasS b v) := by
  obtain ⟨_, g, m⟩ := union_good ha hb
  rw [hasS_iff, hasS_iff, hasS_iff, ha, hb, good_of g]
  cases iv : isS v with
  | false => simp
  | true =>
    simp only [Bool.true_and]
    rw [Bool.eq_iff_iff, Bool.or_eq_true, inS_iff, inS_iff, inS_iff]
    exact m v iv
theorem has_both {a b : List R2} (ha : goodS a = true) (hb : goodS b = true) (v : Int) : hasS (bothS a b) v = (hasS a v && hasS b v) := by
  obtain ⟨g, m⟩ := both_good ha hb
  rw [hasS_iff, hasS_iff, hasS_iff, ha, hb, good_of g]
  cases iv : isS v with
  | false => simp
  | true =>
    simp only [Bool.true_and]
    rw [Bool.eq_iff_iff, Bool.and_eq_true, inS_iff, inS_iff, inS_iff]
    exact m v
theorem has_not {a : List R2} (ha : goodS a = true) (v : Int) : hasS (notS a) v = (isS v && !hasS a v) := by
  obtain ⟨g, m⟩ := notS_good ha
  rw [hasS_iff, hasS_iff, ha, good_of g]
  cases iv : isS v with
  | false => simp
  | true =>
    simp only [Bool.true_and]
    have := m v iv
    rw [← inS_iff, ← inS_iff] at this
    cases e1 : inS v (notS a) <;> cases e2 : inS v a <;> simp_all
theorem has_inv {a : List R2} {v : Int} (h : hasS a v = true) : isS v = true := by
  rw [hasS_iff] at h
  simp only [Bool.and_eq_true] at h
  exact h.1.2
theorem size_not {a : List R2} (ha : goodS a = true) : sizeS (notS a) + sizeS a = 1112064 := by
  obtain ⟨g, m⟩ := notS_good ha
  have h := card_not (s := a) (t := notS a) 1114112 rfl m
  rw [sizeS_card ha 1114112 rfl, sizeS_card (good_of g) 1114112 rfl]
  exact h
theorem size_le {a : List R2} (ha : goodS a = true) : 0 ≤ sizeS a ∧ sizeS a ≤ 1112064 := by
  obtain ⟨g, m⟩ := notS_good ha
  have h := size_not ha
  have h1 := sizeS_card ha 1114112 rfl
  have h2 := sizeS_card (good_of g) 1114112 rfl
  omega
theorem size_union {a b : List R2} (ha : goodS a = true) (hb : goodS b = true) : sizeS (unionS a b) + sizeS (bothS a b) = sizeS a + sizeS b := by
  obtain ⟨_, g, m⟩ := union_good ha hb
  obtain ⟨g2, m2⟩ := both_good ha hb
  have h := card_union (a := a) (b := b) (d := unionS a b) (e := bothS a b) 1114112 m fun v _ => m2 v
  rw [sizeS_card ha 1114112 rfl, sizeS_card hb 1114112 rfl, sizeS_card (good_of g) 1114112 rfl, sizeS_card (good_of g2) 1114112 rfl]
  omega
/-- The ends of ranges, and what is beside them. -/
def endsS (l : List R2) : List Int := l.flatMap fun r => [r.1, r.2, r.1 - 1, r.2 + 1]
theorem endsS_snoc (l : List R2) (r : R2) : endsS (l ++ [r]) = endsS l ++ [r.1, r.2, r.1 - 1, r.2 + 1] := by simp [endsS]
theorem endsS_length (l : List R2) : (endsS l).length = 4 * l.length := by
  induction l with
  | nil => rfl
  | cons x l ih => simp only [endsS, List.flatMap_cons, List.length_append, List.length_cons, List.length_nil] at *; omega
theorem getI {l : List Int} {j : Nat} (h : j < l.length) : (List.map (fun x => [AV.int .i64 x]) l)[j]? = some [AV.int .i64 (l.getD j 0)] := by
  simp [List.getElem?_eq_getElem h]
end Go.Proofs.Abs
