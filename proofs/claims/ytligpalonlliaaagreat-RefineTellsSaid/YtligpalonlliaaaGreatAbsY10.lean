/- A part of a proof: the text that states the row tells what is proved. No condition is laid on anything. -/
import Derived.Test.YtligpalonlliaaaGreatAbsY9
set_option linter.all false
set_option linter.constructorNameAsVariable false
set_option linter.defProp false
set_option linter.unusedVariables false
set_option linter.unusedSimpArgs false
set_option maxRecDepth 100000
set_option maxHeartbeats 16000000
namespace Go.Proofs.Abs
open Go
/-! 14: caesuralaw03.SetsLaws. -/
theorem good_of {s : List R2} (h : GdL s) : goodS s = true := (gdL_iff _).2 h
theorem union_comm {a b : List R2} (ha : goodS a = true) (hb : goodS b = true) : unionS b a = unionS a b := by
  obtain ⟨_, g1, m1⟩ := union_good ha hb
  obtain ⟨_, g2, m2⟩ := union_good hb ha
  exact gdL_ext g2 g1 fun v hv => by rw [m1 v hv, m2 v hv, or_comm]
theorem union_self {a : List R2} (ha : goodS a = true) : unionS a a = a := by
  obtain ⟨_, g1, m1⟩ := union_good ha ha
  exact gdL_ext g1 ((gdL_iff _).1 ha) fun v hv => by rw [m1 v hv, or_self]
theorem union_nil {a : List R2} (ha : goodS a = true) : unionS [] a = a := by
  obtain ⟨_, g1, m1⟩ := union_good (a := []) rfl ha
  exact gdL_ext g1 ((gdL_iff _).1 ha) fun v hv => by rw [m1 v hv]; simp [memS]
theorem both_comm {a b : List R2} (ha : goodS a = true) (hb : goodS b = true) : bothS b a = bothS a b := by
  obtain ⟨g1, m1⟩ := both_good ha hb
  obtain ⟨g2, m2⟩ := both_good hb ha
  exact gdL_ext g2 g1 fun v hv => by rw [m1 v, m2 v, and_comm]
theorem both_nil {a : List R2} (ha : goodS a = true) : bothS a [] = [] := by
  obtain ⟨g1, m1⟩ := both_good ha (b := []) rfl
  exact gdL_ext g1 .nil fun v hv => by rw [m1 v]; simp [memS]
theorem both_nots {a b : List R2} (ha : goodS a = true) (hb : goodS b = true) : bothS (notS a) (notS b) = notS (unionS a b) := by
  obtain ⟨g1, m1⟩ := notS_good ha
  obtain ⟨g2, m2⟩ := notS_good hb
  obtain ⟨_, g3, m3⟩ := union_good ha hb
  obtain ⟨g4, m4⟩ := notS_good (good_of g3)
  obtain ⟨g5, m5⟩ := both_good (good_of g1) (good_of g2)
  exact gdL_ext g5 g4 fun v hv => by rw [m5 v, m1 v hv, m2 v hv, m4 v hv, m3 v hv, not_or]
theorem not_not {a : List R2} (ha : goodS a = true) : notS (notS a) = a := by
  obtain ⟨g1, m1⟩ := notS_good ha
  obtain ⟨g2, m2⟩ := notS_good (good_of g1)
  exact gdL_ext g2 ((gdL_iff _).1 ha) fun v hv => by rw [m2 v hv, m1 v hv, Classical.not_not]
theorem union_len {a b : List R2} (ha : goodS a = true) (hb : goodS b = true) : (unionS a b).length ≤ a.length + b.length := by
  have ga := (gdL_iff _).1 ha
  have gb := (gdL_iff _).1 hb
  have := (of_good (l := a ++ b) fun r hr => (List.mem_append.1 hr).elim (ga.whole r) (gb.whole r)).2.2.2
  have e : unionS a b = ofV (a ++ b) := by simp [unionS, ha, hb]
  rw [e]
  simpa using this
theorem notA_len : ∀ (l : List R2) (f : Int) (m : Bool), (notA l f m).length ≤ l.length + 1
  | [], f, m => by cases m <;> simp [notA]
  | r :: l, f, m => by
    have := notA_len l (nextV r.2) (nextB r.2)
    simp only [notA, List.length_append, List.length_cons]
    split <;> simp <;> omega
theorem not_len (s : List R2) : (notS s).length ≤ s.length + 1 := by
  unfold notS
  split
  · exact notA_len _ _ _
  · simp
theorem bothF_len : ∀ (n : Nat) (a b : List R2), (bothF n a b).length ≤ n
  | 0, _, _ => by simp [bothF]
  | n + 1, [], _ => by simp [bothF]
  | n + 1, _ :: _, [] => by simp [bothF]
  | n + 1, x :: a, y :: b => by
    have h1 := bothF_len n a (y :: b)
    have h2 := bothF_len n (x :: a) b
    have h3 : (cutR x y).length ≤ 1 := by unfold cutR; split <;> simp
    simp only [bothF, List.length_append]
    split <;> omega
theorem both_len (a b : List R2) : (bothS a b).length ≤ a.length + b.length := by
  unfold bothS
  split
  · exact bothF_len _ _ _
  · simp
theorem e50n (a : List R2) (ha : a.length ≤ 400000) (q0 : Id) (H0 : Heap) : k50.ora q0 [(AV.list 2 (List.map (fun x => [AV.int .i64 x.1, AV.int .i64 x.2]) (a))), .list 2 []] H0 = some (.tuple [(AV.list 2 (List.map (fun x => [AV.int .i64 x.1, AV.int .i64 x.2]) (bothS a []))), .bool (goodS a && goodS [])], H0) := e50 a [] ⟨ha, by simp⟩ q0 H0
end Go.Proofs.Abs
