/- A part of a proof: the text that states the row tells what is proved. No condition is laid on anything. -/
import Derived.Test.YtgcncpedpjjjeaaAbsY9
set_option linter.all false
set_option linter.constructorNameAsVariable false
set_option linter.defProp false
set_option linter.unusedVariables false
set_option linter.unusedSimpArgs false
set_option maxRecDepth 100000
set_option maxHeartbeats 16000000
namespace Go.Proofs.Abs
open Go
/-! 14: caesuralaw03.SetsLaws. -/
theorem good_of {s : List R2} (h : GdL s) : goodS s = true := (gdL_iff _).2 h
theorem union_comm {a b : List R2} (ha : goodS a = true) (hb : goodS b = true) : unionS b a = unionS a b := by
  obtain ⟨_, g1, m1⟩ := union_good ha hb
  obtain ⟨_, g2, m2⟩ := union_good hb ha
  exact gdL_ext g2 g1 fun v hv => by rw [m1 v hv, m2 v hv, or_comm]
theorem union_self {a : List R2} (ha : goodS a = true) : unionS a a = a := by
  obtain ⟨_, g1, m1⟩ := union_good ha ha
  exact gdL_ext g1 ((gdL_iff _).1 ha) fun v hv => by rw [m1 v hv, or_self]
theorem union_nil {a : List R2} (ha : goodS a = true) : unionS [] a = a := by
  obtain ⟨_, g1, m1⟩ := union_good (a := []) rfl ha
  exact gdL_ext g1 ((gdL_iff _).1 ha) fun v hv => by rw [m1 v hv]; simp [memS]
theorem both_comm {a b : List R2} (ha : goodS a = true) (hb : goodS b = true) : bothS b a = bothS a b := by
  obtain ⟨g1, m1⟩ := both_good ha hb
  obtain ⟨g2, m2⟩ := both_good hb ha
  exact gdL_ext g2 g1 fun v hv => by rw [m1 v, m2 v, and_comm]
theorem both_nil {a : List R2} (ha : goodS a = true) : bothS a [] = [] := by
  obtain ⟨g1, m1⟩ := both_good ha (b := []) rfl
  exact gdL_ext g1 .nil fun v hv => by rw [m1 v]; simp [memS]
theorem both_nots {a b : List R2} (ha : goodS a = true) (hb : goodS b = true) : bothS (notS a) (notS b) = notS (unionS a b) := by
  obtain ⟨g1, m1⟩ := notS_good ha
  obtain ⟨g2, m2⟩ := notS_good hb
  obtain ⟨_, g3, m3⟩ := union_good ha hb
  obtain ⟨g4, m4⟩ := notS_good (good_of g3)
  obtain ⟨g5, m5⟩ := both_good (good_of g1) (good_of g2)
  exact gdL_ext g5 g4 fun v hv => by rw [m5 v, m1 v hv, m2 v hv, m4 v hv, m3 v hv, not_or]
theorem not_not {a : List R2} (ha : goodS a = true) : notS (notS a) = a := by
  obtain ⟨g1, m1⟩ := notS_good ha
  obtain ⟨g2, m2⟩ := notS_good (good_of g1)
  exact gdL_ext g2 ((gdL_iff _).1 ha) fun v hv => by rw [m2 v hv, m1 v hv, Classical.not_not]
theorem union_len {a b : List R2} (ha : goodS a = true) (hb : goodS b = true) : (unionS a b).length ≤ a.length + b.length := by
  have ga := (gdL_iff _).1 ha
  have gb := (gdL_iff _).1 hb
  have := (of_good (l := a ++ b) fun r hr => (List.mem_append.1 hr).elim (ga.whole r) (gb.whole r)).2.2.2
  have e : unionS a b = ofV (a ++ b) := by simp [unionS, ha, hb]
  rw [e]
  simpa using this
theorem notA_len : ∀ (l : List R2) (f : Int) (m : Bool), (notA l f m).length ≤ l.length + 1
  | [], f, m => by cases m <;> simp [notA]
  | r :: l, f, m => by
    have := notA_len l (nextV r.2) (nextB r.2)
    simp only [notA, List.length_append, List.length_cons]
    split <;> simp <;> omega
theorem not_len (s : List R2) : (notS s).length ≤ s.length + 1 := by
  unfold notS
  split
  · exact notA_len _ _ _
  · simp
theorem bothF_len : ∀ (n : Nat) (a b : List R2), (bothF n a b).length ≤ n
  | 0, _, _ => by simp [bothF]
  | n + 1, [], _ => by simp [bothF]
  | n + 1, _ :: _, [] => by simp [bothF]
  | n + 1, x :: a, y :: b => by
    have h1 := bothF_len n a (y :: b)
    have h2 := bothF_len n (x :: a) b
    have h3 : (cutR x y).length ≤ 1 := by unfold cutR; split <;> simp
    simp only [bothF, List.length_append]
    split <;> omega
theorem both_len (a b : List R2) : (bothS a b).length ≤ a.length + b.length := by
  unfold bothS
  split
  · exact bothF_len _ _ _
  · simp
theorem e49n (a : List R2) (ha : a.length ≤ 400000) (q0 : Id) (H0 : Heap) : k49.ora q0 [.list 2 [], (AV.list 2 (List.map (fun x => [AV.int .i64 x.1, AV.int .i64 x.2]) (a)))] H0 = some (.tuple [(AV.list 2 (List.map (fun x => [AV.int .i64 x.1, AV.int .i64 x.2]) (unionS [] a))), .bool (goodS [] && goodS a)], H0) := e49 [] a ⟨by simp, ha⟩ q0 H0
theorem e50n (a : List R2) (ha : a.length ≤ 400000) (q0 : Id) (H0 : Heap) : k50.ora q0 [(AV.list 2 (List.map (fun x => [AV.int .i64 x.1, AV.int .i64 x.2]) (a))), .list 2 []] H0 = some (.tuple [(AV.list 2 (List.map (fun x => [AV.int .i64 x.1, AV.int .i64 x.2]) (bothS a []))), .bool (goodS a && goodS [])], H0) := e50 a [] ⟨ha, by simp⟩ q0 H0
theorem run14 (a b : List R2) (wa : WfS a) (wb : WfS b) : cwp s6 14 [] [(AV.list 2 (List.map (fun x => [AV.int .i64 x.1, AV.int .i64 x.2]) (a))), (AV.list 2 (List.map (fun x => [AV.int .i64 x.1, AV.int .i64 x.2]) (b)))] [] (fun r H => r = .bool true ∧ H = []) := by
  refine run_fn (fn := fn14) rfl rfl ?_
  have la := wa.len
  have lb := wb.len
  by_cases hl : big2 a b = true
  · simp only [fn14_body, c14, c14_5, D0, ains, clsOf, abin, aint, aun, dnext, rowsOf, loadObj, cellsOf, ofCells, bnd, hmerge, Nat.reduceBEq, Nat.reduceAdd, reduceIte, Nat.reduceEqDiff, Nat.reduceLeDiff, Int.reduceEq, reduceCtorEq, Int.reduceBEq, Int.reduceBNe, Int.reduceLT, Int.reduceNeg, @use_all s6 46 k46.ora rfl, e46, @use_all s6 47 kW.ora rfl, eW, hl]
    simp only [F1, bodyRes, one, ains, clsOf, abin, aint, aun, dnext, rowsOf, loadObj, cellsOf, ofCells, bnd, hmerge, Nat.reduceBEq, Nat.reduceAdd, reduceIte, Nat.reduceEqDiff, Nat.reduceLeDiff, Int.reduceEq, reduceCtorEq, Int.reduceBEq, Int.reduceBNe, Int.reduceLT, Int.reduceNeg, fn14_res, fn14_keep]
  have hl' : big2 a b = false := by simpa using hl
  have hla : a.length ≤ 400000 := by simp [big2] at hl'; omega
  have hlb : b.length ≤ 400000 := by simp [big2] at hl'; omega
  cases ga : goodS a with
  | false =>
    simp only [fn14_body, c14, c14_5, D0, ains, clsOf, abin, aint, aun, dnext, rowsOf, loadObj, cellsOf, ofCells, bnd, hmerge, Nat.reduceBEq, Nat.reduceAdd, reduceIte, Nat.reduceEqDiff, Nat.reduceLeDiff, Int.reduceEq, reduceCtorEq, Int.reduceBEq, Int.reduceBNe, Int.reduceLT, Int.reduceNeg, @use_all s6 46 k46.ora rfl, e46, @use_all s6 57 k57.ora rfl, e57, la, lb, ga, @use_all s6 47 kW.ora rfl, eW, hl']
    simp only [F1, bodyRes, one, ains, clsOf, abin, aint, aun, dnext, rowsOf, loadObj, cellsOf, ofCells, bnd, hmerge, Nat.reduceBEq, Nat.reduceAdd, reduceIte, Nat.reduceEqDiff, Nat.reduceLeDiff, Int.reduceEq, reduceCtorEq, Int.reduceBEq, Int.reduceBNe, Int.reduceLT, Int.reduceNeg, fn14_res, fn14_keep]
  | true => cases gb : goodS b with
    | false =>
      simp only [fn14_body, c14, c14_5, D0, ains, clsOf, abin, aint, aun, dnext, rowsOf, loadObj, cellsOf, ofCells, bnd, hmerge, Nat.reduceBEq, Nat.reduceAdd, reduceIte, Nat.reduceEqDiff, Nat.reduceLeDiff, Int.reduceEq, reduceCtorEq, Int.reduceBEq, Int.reduceBNe, Int.reduceLT, Int.reduceNeg, @use_all s6 46 k46.ora rfl, e46, @use_all s6 57 k57.ora rfl, e57, la, lb, ga, gb, @use_all s6 47 kW.ora rfl, eW, hl']
      simp only [F1, bodyRes, one, ains, clsOf, abin, aint, aun, dnext, rowsOf, loadObj, cellsOf, ofCells, bnd, hmerge, Nat.reduceBEq, Nat.reduceAdd, reduceIte, Nat.reduceEqDiff, Nat.reduceLeDiff, Int.reduceEq, reduceCtorEq, Int.reduceBEq, Int.reduceBNe, Int.reduceLT, Int.reduceNeg, fn14_res, fn14_keep]
    | true =>
      have hla6 : a.length ≤ 60 := by simp [big2] at hl'; omega
      have hlb6 : b.length ≤ 60 := by simp [big2] at hl'; omega
      have lu := union_len ga gb
      have li := not_len a
      have lj := not_len b
      have gu : goodS (unionS a b) = true := good_of (union_good ga gb).2.1
      have gi : goodS (notS a) = true := good_of (notS_good ga).1
      have gj : goodS (notS b) = true := good_of (notS_good gb).1
      have h1 := union_comm ga gb
      have h2 := union_self ga
      have h3 := union_nil ga
      have h4 := both_comm ga gb
      have h5 := both_nil ga
      have h6 := both_nots ga gb
      have gn : goodS [] = true := rfl
      have hu4 : (unionS a b).length ≤ 1000000 := by omega
      have hu5 : (unionS a b).length ≤ 9223372036854775807 := by omega
      have hi4 : (notS a).length ≤ 400000 := by omega
      have hj4 : (notS b).length ≤ 400000 := by omega
      have ha6 : a.length ≤ 1000000 := by omega
      have hb6 : b.length ≤ 1000000 := by omega
      have lm : (bothS a b).length ≤ 9223372036854775807 := by have := both_len a b; omega
      have ln : (notS (unionS a b)).length ≤ 9223372036854775807 := by have := not_len (unionS a b); omega
      have hz : (((0 : Nat) : Int) == 0) = true := rfl
      simp only [fn14_body, c14, c14_5, c14_4, c14_3, c14_1, D0, ains, clsOf, abin, aint, aun, dnext, rowsOf, loadObj, cellsOf, ofCells, bnd, hmerge, Nat.reduceBEq, Nat.reduceAdd, reduceIte, Nat.reduceEqDiff, Nat.reduceLeDiff, Int.reduceEq, reduceCtorEq, Int.reduceBEq, Int.reduceBNe, Int.reduceLT, Int.reduceNeg, @use_all s6 46 k46.ora rfl, e46, @use_all s6 57 k57.ora rfl, e57, @use_all s6 49 k49.ora rfl, e49, @use_all s6 50 k50.ora rfl, e50, @use_all s6 51 k51.ora rfl, e51, la, lb, hla, hlb, ha6, hb6, ga, gb, gu, gi, gj, gn, h1, h2, h3, h4, h5, h6, hu4, hi4, hj4, e49n, e50n, hl', Bool.and_self, List.map_nil]
      simp only [c14_2, D0, ains, clsOf, abin, aint, aun, dnext, rowsOf, loadObj, cellsOf, ofCells, bnd, hmerge, Nat.reduceBEq, Nat.reduceAdd, reduceIte, Nat.reduceEqDiff, Nat.reduceLeDiff, Int.reduceEq, reduceCtorEq, Int.reduceBEq, Int.reduceBNe, Int.reduceLT, Int.reduceNeg, @use_all s6 62 k62.ora rfl, e62, la, lb, hu5, lm, ln, h1, h2, h3, h4, h5, h6, hz, List.map_nil, List.length_nil, eq_self, decide_true, @use_all s6 47 kW.ora rfl, eW]
      simp only [F1, bodyRes, one, ains, clsOf, abin, aint, aun, dnext, rowsOf, loadObj, cellsOf, ofCells, bnd, hmerge, Nat.reduceBEq, Nat.reduceAdd, reduceIte, Nat.reduceEqDiff, Nat.reduceLeDiff, Int.reduceEq, reduceCtorEq, Int.reduceBEq, Int.reduceBNe, Int.reduceLT, Int.reduceNeg, fn14_res, fn14_keep]
end Go.Proofs.Abs
