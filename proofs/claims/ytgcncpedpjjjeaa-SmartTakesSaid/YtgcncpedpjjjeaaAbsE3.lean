/- A part of a proof: the text that states the row tells what is proved. No condition is laid on anything. -/
import Derived.Test.YtgcncpedpjjjeaaAbsE2
set_option linter.all false
set_option linter.constructorNameAsVariable false
set_option linter.defProp false
set_option linter.unusedVariables false
set_option linter.unusedSimpArgs false
set_option maxRecDepth 100000
set_option maxHeartbeats 4000000
namespace Go.Proofs.Abs
open Go
/-! 104: tree.leaf. -/
theorem run104 (k a b : Int) (c : List (Int × Int)) (z : ByteArray) (hs : c.length ≤ 9223372036854775807) : cwp t4 104 [] [AV.agg [AV.int .i64 k, AV.int .i64 a, AV.int .i64 b, (AV.list 2 (List.map (fun x => [AV.int .i64 x.1, AV.int .i64 x.2]) (c))), AV.str z]] [] (fun r H => r = .bool (leafN ⟨k, a, b, c, z⟩) ∧ H = []) := by
  refine run_fn (fn := fn104) rfl rfl ?_
  simp only [fn104_body, c104, eNd, eSet, @use_all t4 56 k56.ora rfl, e56, @use_all t4 103 k103.ora rfl, e103, hs, D0, ains, clsOf, abin, aint, aun, dnext, rowsOf, loadObj, cellsOf, ofCells, bnd, hmerge, Nat.reduceBEq, Nat.reduceAdd, reduceIte, Nat.reduceEqDiff, Nat.reduceLeDiff, Int.reduceEq, reduceCtorEq, Int.reduceBEq, Int.reduceBNe, Int.reduceLT, Int.reduceNeg]
  repeat' ((first | refine rw1_nsplit (fun h => ?_) (fun h => ?_) | refine rw1_split (fun h => ?_) (fun h => ?_) | refine dw1_nsplit (fun h => ?_) (fun h => ?_) | refine dw1_split (fun h => ?_) (fun h => ?_) | refine cg2_nsplit (fun h => ?_) (fun h => ?_) | refine cg2_split (fun h => ?_) (fun h => ?_)) <;> simp only [D0, ains, clsOf, abin, aint, aun, dnext, rowsOf, loadObj, cellsOf, ofCells, bnd, hmerge, Nat.reduceBEq, Nat.reduceAdd, reduceIte, Nat.reduceEqDiff, Nat.reduceLeDiff, Int.reduceEq, reduceCtorEq, Int.reduceBEq, Int.reduceBNe, Int.reduceLT, Int.reduceNeg, h, @use_all t4 56 k56.ora rfl, e56, @use_all t4 103 k103.ora rfl, e103, hs])
  all_goals simp only [F1, bodyRes, one, ains, clsOf, abin, aint, aun, dnext, rowsOf, loadObj, cellsOf, ofCells, bnd, hmerge, Nat.reduceBEq, Nat.reduceAdd, reduceIte, Nat.reduceEqDiff, Nat.reduceLeDiff, Int.reduceEq, reduceCtorEq, Int.reduceBEq, Int.reduceBNe, Int.reduceLT, Int.reduceNeg, fn104_res, fn104_keep]
  all_goals simp_all [leafN]
def k104 : Kon (Int × Int × Int × (List (Int × Int)) × ByteArray) := ⟨fun x => x.2.2.2.1.length ≤ 9223372036854775807, fun x => [AV.agg [AV.int .i64 x.1, AV.int .i64 x.2.1, AV.int .i64 x.2.2.1, (AV.list 2 (List.map (fun x => [AV.int .i64 x.1, AV.int .i64 x.2]) (x.2.2.2.1))), AV.str x.2.2.2.2]], fun x => .bool (leafN ⟨x.1, x.2.1, x.2.2.1, x.2.2.2.1, x.2.2.2.2⟩)⟩
theorem e104 (k : Int) (a : Int) (b : Int) (c : List (Int × Int)) (z : ByteArray) (hd : c.length ≤ 9223372036854775807) (q0 : Id) (H0 : Heap) : k104.ora q0 ([AV.agg [AV.int .i64 k, AV.int .i64 a, AV.int .i64 b, (AV.list 2 (List.map (fun x => [AV.int .i64 x.1, AV.int .i64 x.2]) (c))), AV.str z]]) H0 = some (.bool (leafN ⟨k, a, b, c, z⟩), H0) := k104.eq (ndInj5) (k, a, b, c, z) hd q0 H0
theorem ook104 : OraOK Try.prog (104 % 100000) k104.ora := k104.ok orders t4_ok (fun x hd => by simp [k104, PU]) (fun x hd => by simp [k104, PU]) (fun x hd => run104 x.1 x.2.1 x.2.2.1 x.2.2.2.1 x.2.2.2.2 hd)

noncomputable def t5 : FT := upd (t4) 104 k104.ora
theorem t5_ok : FTOK Try.prog t5 := upd_ok2 (f := 104) (t4_ok) ook104

end Go.Proofs.Abs
