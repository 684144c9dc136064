/- A part of a proof: the text that states the row tells what is proved. No condition is laid on anything. -/
import Derived.Test.YtgcncpedpjjjeaaAbsF8
set_option linter.all false
set_option linter.constructorNameAsVariable false
set_option linter.defProp false
set_option linter.unusedVariables false
set_option linter.unusedSimpArgs false
set_option maxRecDepth 100000
set_option maxHeartbeats 4000000
namespace Go.Proofs.Abs
open Go
/-! 28: caesurakeep.Tree. -/
theorem run28 (a b : List Nd) (ha : ∀ n ∈ a, n.set.length ≤ 600) (hla : a.length ≤ 9223372036854775807) : cwp y6 28 [] [(AV.list 5 (List.map eNd a)), (AV.list 5 (List.map eNd b))] [] (fun r H => r = .bool (sameT a b) ∧ H = []) := by
  refine run_fn (fn := fn28) rfl rfl ?_
  by_cases hl : a.length = b.length
  · have hl' : ((a.length : Int) != (b.length : Int)) = false := by simp [hl]
    simp only [fn28_body, c28, D0, ains, clsOf, abin, aint, aun, dnext, rowsOf, loadObj, cellsOf, ofCells, bnd, hmerge, Nat.reduceBEq, Nat.reduceAdd, reduceIte, Nat.reduceEqDiff, Nat.reduceLeDiff, Int.reduceEq, reduceCtorEq, Int.reduceBEq, Int.reduceBNe, Int.reduceLT, Int.reduceNeg, hl']
    refine lg_rule (fun j e H => e = [(0, (AV.list 5 (List.map eNd a))), (1, (AV.list 5 (List.map eNd b))), (4, .bool false), (5, .int .i64 j)] ∧ H = [[]] ∧ j ≤ a.length ∧ ∀ i, i < j → sameN (a.getD i default) (b.getD i default) = true) a.length ?_ ?_
    · exact ⟨rfl, rfl, by simp, by simp⟩
    rintro j e H ⟨rfl, rfl, hj, hi⟩
    simp only [D0, ains, clsOf, abin, aint, aun, dnext, rowsOf, loadObj, cellsOf, ofCells, bnd, hmerge, Nat.reduceBEq, Nat.reduceAdd, reduceIte, Nat.reduceEqDiff, Nat.reduceLeDiff, Int.reduceEq, reduceCtorEq, Int.reduceBEq, Int.reduceBNe, Int.reduceLT, Int.reduceNeg]
    by_cases h : j < a.length
    · have h' : (j : Int) < (a.length : Int) := by omega
      have hp := wrapp (j := j) (by omega)
      have hga := map_get (f := eNd) h default
      have hgb := map_get (f := eNd) (l := b) (j := j) (by omega) default
      have hsm := ha _ (getD_mem h)
      have bad : sameN (a.getD j default) (b.getD j default) = false → sameT a b = false := fun h1 => by
        unfold sameT
        rw [all_false h h1, Bool.and_false]
      have step : sameN (a.getD j default) (b.getD j default) = true → ∀ i, i < j + 1 → sameN (a.getD i default) (b.getD i default) = true := fun h1 i h2 => by
        by_cases e : i = j
        · rw [e]; exact h1
        · exact hi i (by omega)
      generalize a.getD j default = x at hga bad step hsm
      generalize b.getD j default = y at hgb bad step
      obtain ⟨k, p, q, c, z⟩ := x
      obtain ⟨k', p', q', c', z'⟩ := y
      simp only at hsm
      have hd : c.length ≤ 9223372036854775807 := by omega
      clear hi
      simp only [D0, ains, clsOf, abin, aint, aun, dnext, rowsOf, loadObj, cellsOf, ofCells, bnd, hmerge, Nat.reduceBEq, Nat.reduceAdd, reduceIte, Nat.reduceEqDiff, Nat.reduceLeDiff, Int.reduceEq, reduceCtorEq, Int.reduceBEq, Int.reduceBNe, Int.reduceLT, Int.reduceNeg, @use_all y6 63 k63.ora rfl, e63, hd, h', hga, hgb, eNd, eSet, hins, fins, idk, List.getLast?_cons_cons, List.getLast?_singleton, Option.getD_some, Option.isNone_none, Nat.reduceLT, lrc_x, apx, apart, apart1, needs, decide_true, Int.natCast_nonneg, Int.toNat_natCast]
      repeat' ((first | refine rw1_nsplit (fun h => ?_) (fun h => ?_) | refine rw1_split (fun h => ?_) (fun h => ?_) | refine dw1_nsplit (fun h => ?_) (fun h => ?_) | refine dw1_split (fun h => ?_) (fun h => ?_) | refine cg2_nsplit (fun h => ?_) (fun h => ?_) | refine cg2_split (fun h => ?_) (fun h => ?_)) <;> simp only [D0, ains, clsOf, abin, aint, aun, dnext, rowsOf, loadObj, cellsOf, ofCells, bnd, hmerge, Nat.reduceBEq, Nat.reduceAdd, reduceIte, Nat.reduceEqDiff, Nat.reduceLeDiff, Int.reduceEq, reduceCtorEq, Int.reduceBEq, Int.reduceBNe, Int.reduceLT, Int.reduceNeg, h, @use_all y6 63 k63.ora rfl, e63, hd, hp])
      all_goals simp only [F1, bodyRes, one, ains, clsOf, abin, aint, aun, dnext, rowsOf, loadObj, cellsOf, ofCells, bnd, hmerge, Nat.reduceBEq, Nat.reduceAdd, reduceIte, Nat.reduceEqDiff, Nat.reduceLeDiff, Int.reduceEq, reduceCtorEq, Int.reduceBEq, Int.reduceBNe, Int.reduceLT, Int.reduceNeg, fn28_res, fn28_keep]
      all_goals clear hga hgb hp ha hsm hd
      all_goals first | (rw [bad (by clear bad step; simp_all [sameN])]; done) | exact ⟨by omega, by omega, step (by clear bad step; simp_all [sameN])⟩
    · have h' : ¬ (j : Int) < (a.length : Int) := by omega
      have he : sameT a b = true := by
        unfold sameT
        rw [all_true fun i h1 => hi i (by omega)]
        simp [hl]
      simp only [D0, ains, clsOf, abin, aint, aun, dnext, rowsOf, loadObj, cellsOf, ofCells, bnd, hmerge, Nat.reduceBEq, Nat.reduceAdd, reduceIte, Nat.reduceEqDiff, Nat.reduceLeDiff, Int.reduceEq, reduceCtorEq, Int.reduceBEq, Int.reduceBNe, Int.reduceLT, Int.reduceNeg, h', decide_false]
      refine .inr ⟨by simp, ?_⟩
      simp only [F1, bodyRes, one, ains, clsOf, abin, aint, aun, dnext, rowsOf, loadObj, cellsOf, ofCells, bnd, hmerge, Nat.reduceBEq, Nat.reduceAdd, reduceIte, Nat.reduceEqDiff, Nat.reduceLeDiff, Int.reduceEq, reduceCtorEq, Int.reduceBEq, Int.reduceBNe, Int.reduceLT, Int.reduceNeg, fn28_res, fn28_keep, he]
  · have hl' : ((a.length : Int) != (b.length : Int)) = true := by
      simp only [bne_iff_ne, ne_eq]
      omega
    have he : sameT a b = false := by simp [sameT, hl]
    simp only [fn28_body, c28, D0, ains, clsOf, abin, aint, aun, dnext, rowsOf, loadObj, cellsOf, ofCells, bnd, hmerge, Nat.reduceBEq, Nat.reduceAdd, reduceIte, Nat.reduceEqDiff, Nat.reduceLeDiff, Int.reduceEq, reduceCtorEq, Int.reduceBEq, Int.reduceBNe, Int.reduceLT, Int.reduceNeg, hl']
    simp only [F1, bodyRes, one, ains, clsOf, abin, aint, aun, dnext, rowsOf, loadObj, cellsOf, ofCells, bnd, hmerge, Nat.reduceBEq, Nat.reduceAdd, reduceIte, Nat.reduceEqDiff, Nat.reduceLeDiff, Int.reduceEq, reduceCtorEq, Int.reduceBEq, Int.reduceBNe, Int.reduceLT, Int.reduceNeg, fn28_res, fn28_keep, he]
def k28 : Kon (List Nd × List Nd) := ⟨fun x => (∀ n ∈ x.1, n.set.length ≤ 600) ∧ x.1.length ≤ 9223372036854775807, fun x => [(AV.list 5 (List.map eNd x.1)), (AV.list 5 (List.map eNd x.2))], fun x => .bool (sameT x.1 x.2)⟩
theorem e28 (a : List Nd) (b : List Nd) (hd : (∀ n ∈ a, n.set.length ≤ 600) ∧ a.length ≤ 9223372036854775807) (q0 : Id) (H0 : Heap) : k28.ora q0 ([(AV.list 5 (List.map eNd a)), (AV.list 5 (List.map eNd b))]) H0 = some (.bool (sameT a b), H0) := k28.eq (tree2Inj) (a, b) hd q0 H0
theorem ook28 : OraOK Try.prog (28 % 100000) k28.ora := k28.ok orders y6_ok (fun x hd => by simp [k28, PU]) (fun x hd => by simp [k28, PU]) (fun x hd => run28 x.1 x.2 hd.1 hd.2)

noncomputable def y7 : FT := upd (y6) 28 k28.ora
theorem y7_ok : FTOK Try.prog y7 := upd_ok2 (f := 28) (y6_ok) ook28

end Go.Proofs.Abs
