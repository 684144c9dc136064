/- A part of a proof: the text that states the row tells what is proved. No condition is laid on anything. -/
import Derived.Test.YtgcncpedpjjjeaaAbsY21
set_option linter.all false
set_option linter.constructorNameAsVariable false
set_option linter.defProp false
set_option linter.unusedVariables false
set_option linter.unusedSimpArgs false
set_option maxRecDepth 100000
set_option maxHeartbeats 16000000
namespace Go.Proofs.Abs
open Go
/-! 11: caesuralaw03.SetsTell. -/
theorem ofV_len (l : List R2) : (ofV l).length ≤ l.length := by
  cases h : ofB l with
  | true => exact (of_good ((ofB_iff l).1 h)).2.2.2
  | false =>
    have : ofV l = [] := by
      have := rOf_eq l
      unfold rOfV at this
      rw [all_whole, h] at this
      exact this.symm
    rw [this]
    simp
theorem unionS_len (a b : List R2) : (unionS a b).length ≤ a.length + b.length := by
  unfold unionS
  split
  · simpa using ofV_len (a ++ b)
  · simp
theorem run11 (a b : List R2) (v : Int) (wa : WfS a) (wb : WfS b) (wv : I64 v) : cwp s14 11 [] [(AV.list 2 (List.map (fun x => [AV.int .i64 x.1, AV.int .i64 x.2]) (a))), (AV.list 2 (List.map (fun x => [AV.int .i64 x.1, AV.int .i64 x.2]) (b))), .int .i64 v] [] (fun r H => r = .bool true ∧ H = []) := by
  refine run_fn (fn := fn11) rfl rfl ?_
  have la := wa.len
  have lb := wb.len
  by_cases hl : big2 a b = true
  · simp only [fn11_body, c11, c11_3, D0, ains, clsOf, abin, aint, aun, dnext, rowsOf, loadObj, cellsOf, ofCells, bnd, hmerge, Nat.reduceBEq, Nat.reduceAdd, reduceIte, Nat.reduceEqDiff, Nat.reduceLeDiff, Int.reduceEq, reduceCtorEq, Int.reduceBEq, Int.reduceBNe, Int.reduceLT, Int.reduceNeg, @use_all s14 46 k46.ora rfl, e46, @use_all s14 47 kW.ora rfl, eW, hl]
    simp only [F1, bodyRes, one, ains, clsOf, abin, aint, aun, dnext, rowsOf, loadObj, cellsOf, ofCells, bnd, hmerge, Nat.reduceBEq, Nat.reduceAdd, reduceIte, Nat.reduceEqDiff, Nat.reduceLeDiff, Int.reduceEq, reduceCtorEq, Int.reduceBEq, Int.reduceBNe, Int.reduceLT, Int.reduceNeg, fn11_res, fn11_keep]
  have hl' : big2 a b = false := by simpa using hl
  have hla : a.length ≤ 60 := by simp [big2] at hl'; omega
  have hlb : b.length ≤ 60 := by simp [big2] at hl'; omega
  have hla4 : a.length ≤ 400000 := by omega
  have hlb4 : b.length ≤ 400000 := by omega
  have hla6 : a.length ≤ 1000000 := by omega
  have hlb6 : b.length ≤ 1000000 := by omega
  have hla3 : a.length ≤ 1000 := by omega
  have hlab : a.length + b.length ≤ 1000 := by omega
  have hca : a.length * 16 ≤ 140737488355328 := by omega
  have hcb : b.length * 16 ≤ 140737488355328 := by omega
  have l1 : (ofV a).length ≤ 9223372036854775807 := by have := ofV_len a; omega
  have l2 : (unionS a b).length ≤ 9223372036854775807 := by have := unionS_len a b; omega
  have l3 : (bothS a b).length ≤ 9223372036854775807 := by have := both_len a b; omega
  have l4 : (notS a).length ≤ 9223372036854775807 := by have := not_len a; omega
  simp only [fn11_body, c11, c11_3, c11_2, D0, ains, clsOf, abin, aint, aun, dnext, rowsOf, loadObj, cellsOf, ofCells, bnd, hmerge, Nat.reduceBEq, Nat.reduceAdd, reduceIte, Nat.reduceEqDiff, Nat.reduceLeDiff, Int.reduceEq, reduceCtorEq, Int.reduceBEq, Int.reduceBNe, Int.reduceLT, Int.reduceNeg, @use_all s14 46 k46.ora rfl, e46, @use_all s14 48 k48.ora rfl, e48, @use_all s14 49 k49.ora rfl, e49, @use_all s14 50 k50.ora rfl, e50, @use_all s14 51 k51.ora rfl, e51, @use_all s14 52 k52.ora rfl, e52, @use_all s14 53 k53.ora rfl, e53, @use_all s14 54 k54.ora rfl, e54, @use_all s14 55 k55.ora rfl, e55, hl', hla3, hlab, hla6, hla4, hlb4, hca, hcb, fz, fzd, Nat.zero_add, List.nil_append, List.length_map]
  simp only [c11_1, D0, ains, clsOf, abin, aint, aun, dnext, rowsOf, loadObj, cellsOf, ofCells, bnd, hmerge, Nat.reduceBEq, Nat.reduceAdd, reduceIte, Nat.reduceEqDiff, Nat.reduceLeDiff, Int.reduceEq, reduceCtorEq, Int.reduceBEq, Int.reduceBNe, Int.reduceLT, Int.reduceNeg, @use_all s14 56 k56.ora rfl, e56, @use_all s14 57 k57.ora rfl, e57, @use_all s14 58 k58.ora rfl, e58, @use_all s14 59 k59.ora rfl, e59, @use_all s14 60 k60.ora rfl, e60, @use_all s14 61 k61.ora rfl, e61, @use_all s14 62 k62.ora rfl, e62, @use_all s14 63 k63.ora rfl, e63, @use_all s14 64 k64.ora rfl, e64, @use_all s14 65 k65.ora rfl, e65, la, lb, hla6, hlb6, l1, l2, l3, l4, fz, fzd, eq_self, beq_self_eq_true, decide_true, List.length_map, @use_all s14 47 kW.ora rfl, eW]
  simp only [F1, bodyRes, one, ains, clsOf, abin, aint, aun, dnext, rowsOf, loadObj, cellsOf, ofCells, bnd, hmerge, Nat.reduceBEq, Nat.reduceAdd, reduceIte, Nat.reduceEqDiff, Nat.reduceLeDiff, Int.reduceEq, reduceCtorEq, Int.reduceBEq, Int.reduceBNe, Int.reduceLT, Int.reduceNeg, fn11_res, fn11_keep]
end Go.Proofs.Abs
