/- A part of a proof: the text that states the row tells what is proved. No condition is laid on anything. -/
import Derived.Test.YtligpalonlliaaaGreatAbsE1
set_option linter.all false
set_option linter.constructorNameAsVariable false
set_option linter.defProp false
set_option linter.unusedVariables false
set_option linter.unusedSimpArgs false
set_option maxRecDepth 100000
set_option maxHeartbeats 4000000
namespace Go.Proofs.Abs
open Go
/-! 56: sets.Good. -/
theorem run56 (s : List (Int × Int)) (hs : s.length ≤ 9223372036854775807) : cwp t3 47 [] [eSet s] [] (fun r H => r = .bool (goodS s) ∧ H = []) := by
  refine run_fn (fn := fn56) rfl rfl ?_
  simp only [fn56_body, c56, eSet, D0, ains, appG, clsOf, abin, aint, aun, dnext, rowsOf, loadObj, cellsOf, ofCells, bnd, hmerge, Nat.reduceBEq, Nat.reduceAdd, reduceIte, Nat.reduceEqDiff, Nat.reduceLeDiff, Int.reduceEq, reduceCtorEq, Int.reduceBEq, Int.reduceBNe, Int.reduceLT, Int.reduceNeg]
  refine lg_rule (fun j e H => e = [(0, eSet s), (2, .bool false), (5, eSet s), (6, .int .i64 s.length), (7, .int .i64 j)] ∧ H = [[]] ∧ j ≤ s.length ∧ ∀ i, i < j → okAt s i = true) s.length ?_ ?_
  · exact ⟨rfl, rfl, by simp, by simp⟩
  rintro j e H ⟨rfl, rfl, hj, hi⟩
  simp only [eSet, D0, ains, appG, clsOf, abin, aint, aun, dnext, rowsOf, loadObj, cellsOf, ofCells, bnd, hmerge, Nat.reduceBEq, Nat.reduceAdd, reduceIte, Nat.reduceEqDiff, Nat.reduceLeDiff, Int.reduceEq, reduceCtorEq, Int.reduceBEq, Int.reduceBNe, Int.reduceLT, Int.reduceNeg]
  by_cases h : j < s.length
  · have h' : (j : Int) < (s.length : Int) := by omega
    have hg := map_get (f := fun x : Int × Int => [AV.int .i64 x.1, AV.int .i64 x.2]) h (0, 0)
    have hp := wrapp (j := j) (by omega)
    have step : okAt s j = true → ∀ i, i < j + 1 → okAt s i = true := fun h1 i h2 => by
      by_cases e : i = j
      · rw [e]; exact h1
      · exact hi i (by omega)
    have bad : okAt s j = false → goodS s = false := fun h1 => all_false h h1
    by_cases h0 : j = 0
    · have h0' : ¬ (j : Int) > 0 := by omega
      simp only [D0, ains, appG, clsOf, abin, aint, aun, dnext, rowsOf, loadObj, cellsOf, ofCells, bnd, hmerge, Nat.reduceBEq, Nat.reduceAdd, reduceIte, Nat.reduceEqDiff, Nat.reduceLeDiff, Int.reduceEq, reduceCtorEq, Int.reduceBEq, Int.reduceBNe, Int.reduceLT, Int.reduceNeg, @use_all t3 54 k88.ora rfl, e88, @use_all t3 55 k89.ora rfl, e89, h', hg, decide_true, Int.natCast_nonneg, Int.toNat_natCast]
      repeat' ((first | refine rw1_nsplit (fun h => ?_) (fun h => ?_) | refine rw1_split (fun h => ?_) (fun h => ?_) | refine dw1_nsplit (fun h => ?_) (fun h => ?_) | refine dw1_split (fun h => ?_) (fun h => ?_) | refine cg2_nsplit (fun h => ?_) (fun h => ?_) | refine cg2_split (fun h => ?_) (fun h => ?_)) <;> simp only [D0, ains, appG, clsOf, abin, aint, aun, dnext, rowsOf, loadObj, cellsOf, ofCells, bnd, hmerge, Nat.reduceBEq, Nat.reduceAdd, reduceIte, Nat.reduceEqDiff, Nat.reduceLeDiff, Int.reduceEq, reduceCtorEq, Int.reduceBEq, Int.reduceBNe, Int.reduceLT, Int.reduceNeg, h, @use_all t3 54 k88.ora rfl, e88, @use_all t3 55 k89.ora rfl, e89, hp, h0', decide_true, decide_false])
      all_goals simp only [F1, bodyRes, one, ains, appG, clsOf, abin, aint, aun, dnext, rowsOf, loadObj, cellsOf, ofCells, bnd, hmerge, Nat.reduceBEq, Nat.reduceAdd, reduceIte, Nat.reduceEqDiff, Nat.reduceLeDiff, Int.reduceEq, reduceCtorEq, Int.reduceBEq, Int.reduceBNe, Int.reduceLT, Int.reduceNeg, fn56_res, fn56_keep]
      all_goals clear hg hp hi
      all_goals try clear hm hg1
      all_goals first | (rw [bad (by clear bad step; simp_all [okAt])]; done) | exact ⟨by omega, by omega, step (by clear bad step; simp_all [okAt])⟩
    · have h0' : (j : Int) > 0 := by omega
      have hm := wrapm (j := j) (by omega) (by omega)
      have hg1 := map_get (f := fun x : Int × Int => [AV.int .i64 x.1, AV.int .i64 x.2]) (show j - 1 < s.length by omega) (0, 0)
      simp only [D0, ains, appG, clsOf, abin, aint, aun, dnext, rowsOf, loadObj, cellsOf, ofCells, bnd, hmerge, Nat.reduceBEq, Nat.reduceAdd, reduceIte, Nat.reduceEqDiff, Nat.reduceLeDiff, Int.reduceEq, reduceCtorEq, Int.reduceBEq, Int.reduceBNe, Int.reduceLT, Int.reduceNeg, @use_all t3 54 k88.ora rfl, e88, @use_all t3 55 k89.ora rfl, e89, h', hg, decide_true, Int.natCast_nonneg, Int.toNat_natCast]
      repeat' ((first | refine rw1_nsplit (fun h => ?_) (fun h => ?_) | refine rw1_split (fun h => ?_) (fun h => ?_) | refine dw1_nsplit (fun h => ?_) (fun h => ?_) | refine dw1_split (fun h => ?_) (fun h => ?_) | refine cg2_nsplit (fun h => ?_) (fun h => ?_) | refine cg2_split (fun h => ?_) (fun h => ?_)) <;> simp only [D0, ains, appG, clsOf, abin, aint, aun, dnext, rowsOf, loadObj, cellsOf, ofCells, bnd, hmerge, Nat.reduceBEq, Nat.reduceAdd, reduceIte, Nat.reduceEqDiff, Nat.reduceLeDiff, Int.reduceEq, reduceCtorEq, Int.reduceBEq, Int.reduceBNe, Int.reduceLT, Int.reduceNeg, h, @use_all t3 54 k88.ora rfl, e88, @use_all t3 55 k89.ora rfl, e89, hp, hm, hg1, h0', decide_true, Int.natCast_nonneg, Int.toNat_natCast])
      all_goals simp only [F1, bodyRes, one, ains, appG, clsOf, abin, aint, aun, dnext, rowsOf, loadObj, cellsOf, ofCells, bnd, hmerge, Nat.reduceBEq, Nat.reduceAdd, reduceIte, Nat.reduceEqDiff, Nat.reduceLeDiff, Int.reduceEq, reduceCtorEq, Int.reduceBEq, Int.reduceBNe, Int.reduceLT, Int.reduceNeg, fn56_res, fn56_keep]
      all_goals clear hg hp hi
      all_goals try clear hm hg1
      all_goals first | (rw [bad (by clear bad step; simp_all [okAt])]; done) | exact ⟨by omega, by omega, step (by clear bad step; simp_all [okAt])⟩
  · have h' : ¬ (j : Int) < (s.length : Int) := by omega
    simp only [D0, ains, appG, clsOf, abin, aint, aun, dnext, rowsOf, loadObj, cellsOf, ofCells, bnd, hmerge, Nat.reduceBEq, Nat.reduceAdd, reduceIte, Nat.reduceEqDiff, Nat.reduceLeDiff, Int.reduceEq, reduceCtorEq, Int.reduceBEq, Int.reduceBNe, Int.reduceLT, Int.reduceNeg, h', decide_false]
    refine .inr ⟨by simp, ?_⟩
    simp only [F1, bodyRes, one, ains, appG, clsOf, abin, aint, aun, dnext, rowsOf, loadObj, cellsOf, ofCells, bnd, hmerge, Nat.reduceBEq, Nat.reduceAdd, reduceIte, Nat.reduceEqDiff, Nat.reduceLeDiff, Int.reduceEq, reduceCtorEq, Int.reduceBEq, Int.reduceBNe, Int.reduceLT, Int.reduceNeg, fn56_res, fn56_keep]
    rw [show goodS s = true from all_true fun i hi' => hi i (by omega)]
/-! 57: caesuraref03.Good. -/
theorem run57 (s : List (Int × Int)) (hs : s.length ≤ 9223372036854775807) : cwp t3 19 [] [eSet s] [] (fun r H => r = .bool (goodS s) ∧ H = []) := by
  refine run_fn (fn := fn57) rfl rfl ?_
  simp only [fn57_body, c57, eSet, D0, ains, appG, clsOf, abin, aint, aun, dnext, rowsOf, loadObj, cellsOf, ofCells, bnd, hmerge, Nat.reduceBEq, Nat.reduceAdd, reduceIte, Nat.reduceEqDiff, Nat.reduceLeDiff, Int.reduceEq, reduceCtorEq, Int.reduceBEq, Int.reduceBNe, Int.reduceLT, Int.reduceNeg]
  refine lg_rule (fun j e H => e = [(0, eSet s), (2, .bool false), (3, .int .i64 j)] ∧ H = [[]] ∧ j ≤ s.length ∧ ∀ i, i < j → okAt s i = true) s.length ?_ ?_
  · exact ⟨rfl, rfl, by simp, by simp⟩
  rintro j e H ⟨rfl, rfl, hj, hi⟩
  simp only [eSet, D0, ains, appG, clsOf, abin, aint, aun, dnext, rowsOf, loadObj, cellsOf, ofCells, bnd, hmerge, Nat.reduceBEq, Nat.reduceAdd, reduceIte, Nat.reduceEqDiff, Nat.reduceLeDiff, Int.reduceEq, reduceCtorEq, Int.reduceBEq, Int.reduceBNe, Int.reduceLT, Int.reduceNeg]
  by_cases h : j < s.length
  · have h' : (j : Int) < (s.length : Int) := by omega
    have hg := map_get (f := fun x : Int × Int => [AV.int .i64 x.1, AV.int .i64 x.2]) h (0, 0)
    have hp := wrapp (j := j) (by omega)
    have step : okAt s j = true → ∀ i, i < j + 1 → okAt s i = true := fun h1 i h2 => by
      by_cases e : i = j
      · rw [e]; exact h1
      · exact hi i (by omega)
    have bad : okAt s j = false → goodS s = false := fun h1 => all_false h h1
    by_cases h0 : j = 0
    · have h0' : ¬ (j : Int) > 0 := by omega
      simp only [D0, ains, appG, clsOf, abin, aint, aun, dnext, rowsOf, loadObj, cellsOf, ofCells, bnd, hmerge, Nat.reduceBEq, Nat.reduceAdd, reduceIte, Nat.reduceEqDiff, Nat.reduceLeDiff, Int.reduceEq, reduceCtorEq, Int.reduceBEq, Int.reduceBNe, Int.reduceLT, Int.reduceNeg, @use_all t3 37 k66.ora rfl, e66, @use_all t3 42 k96.ora rfl, e96, h', hg, decide_true, Int.natCast_nonneg, Int.toNat_natCast]
      repeat' ((first | refine rw1_nsplit (fun h => ?_) (fun h => ?_) | refine rw1_split (fun h => ?_) (fun h => ?_) | refine dw1_nsplit (fun h => ?_) (fun h => ?_) | refine dw1_split (fun h => ?_) (fun h => ?_) | refine cg2_nsplit (fun h => ?_) (fun h => ?_) | refine cg2_split (fun h => ?_) (fun h => ?_)) <;> simp only [D0, ains, appG, clsOf, abin, aint, aun, dnext, rowsOf, loadObj, cellsOf, ofCells, bnd, hmerge, Nat.reduceBEq, Nat.reduceAdd, reduceIte, Nat.reduceEqDiff, Nat.reduceLeDiff, Int.reduceEq, reduceCtorEq, Int.reduceBEq, Int.reduceBNe, Int.reduceLT, Int.reduceNeg, h, @use_all t3 37 k66.ora rfl, e66, @use_all t3 42 k96.ora rfl, e96, hg, hp, h0', decide_true, decide_false, Int.natCast_nonneg, Int.toNat_natCast])
      all_goals simp only [F1, bodyRes, one, ains, appG, clsOf, abin, aint, aun, dnext, rowsOf, loadObj, cellsOf, ofCells, bnd, hmerge, Nat.reduceBEq, Nat.reduceAdd, reduceIte, Nat.reduceEqDiff, Nat.reduceLeDiff, Int.reduceEq, reduceCtorEq, Int.reduceBEq, Int.reduceBNe, Int.reduceLT, Int.reduceNeg, fn57_res, fn57_keep]
      all_goals clear hg hp hi
      all_goals try clear hm hg1
      all_goals first | (rw [bad (by clear bad step; simp_all [okAt, wholeS])]; done) | exact ⟨by omega, by omega, step (by clear bad step; simp_all [okAt, wholeS])⟩
    · have h0' : (j : Int) > 0 := by omega
      have hm := wrapm (j := j) (by omega) (by omega)
      have hg1 := map_get (f := fun x : Int × Int => [AV.int .i64 x.1, AV.int .i64 x.2]) (show j - 1 < s.length by omega) (0, 0)
      simp only [D0, ains, appG, clsOf, abin, aint, aun, dnext, rowsOf, loadObj, cellsOf, ofCells, bnd, hmerge, Nat.reduceBEq, Nat.reduceAdd, reduceIte, Nat.reduceEqDiff, Nat.reduceLeDiff, Int.reduceEq, reduceCtorEq, Int.reduceBEq, Int.reduceBNe, Int.reduceLT, Int.reduceNeg, @use_all t3 37 k66.ora rfl, e66, @use_all t3 42 k96.ora rfl, e96, h', hg, decide_true, Int.natCast_nonneg, Int.toNat_natCast]
      repeat' ((first | refine rw1_nsplit (fun h => ?_) (fun h => ?_) | refine rw1_split (fun h => ?_) (fun h => ?_) | refine dw1_nsplit (fun h => ?_) (fun h => ?_) | refine dw1_split (fun h => ?_) (fun h => ?_) | refine cg2_nsplit (fun h => ?_) (fun h => ?_) | refine cg2_split (fun h => ?_) (fun h => ?_)) <;> simp only [D0, ains, appG, clsOf, abin, aint, aun, dnext, rowsOf, loadObj, cellsOf, ofCells, bnd, hmerge, Nat.reduceBEq, Nat.reduceAdd, reduceIte, Nat.reduceEqDiff, Nat.reduceLeDiff, Int.reduceEq, reduceCtorEq, Int.reduceBEq, Int.reduceBNe, Int.reduceLT, Int.reduceNeg, h, @use_all t3 37 k66.ora rfl, e66, @use_all t3 42 k96.ora rfl, e96, hg, hp, hm, hg1, h0', decide_true, Int.natCast_nonneg, Int.toNat_natCast])
      all_goals simp only [F1, bodyRes, one, ains, appG, clsOf, abin, aint, aun, dnext, rowsOf, loadObj, cellsOf, ofCells, bnd, hmerge, Nat.reduceBEq, Nat.reduceAdd, reduceIte, Nat.reduceEqDiff, Nat.reduceLeDiff, Int.reduceEq, reduceCtorEq, Int.reduceBEq, Int.reduceBNe, Int.reduceLT, Int.reduceNeg, fn57_res, fn57_keep]
      all_goals clear hg hp hi
      all_goals try clear hm hg1
      all_goals first | (rw [bad (by clear bad step; simp_all [okAt, wholeS, apartS]; try (intros; omega))]; done) | exact ⟨by omega, by omega, step (by clear bad step; simp_all [okAt, wholeS, apartS]; try (intros; omega))⟩
  · have h' : ¬ (j : Int) < (s.length : Int) := by omega
    simp only [D0, ains, appG, clsOf, abin, aint, aun, dnext, rowsOf, loadObj, cellsOf, ofCells, bnd, hmerge, Nat.reduceBEq, Nat.reduceAdd, reduceIte, Nat.reduceEqDiff, Nat.reduceLeDiff, Int.reduceEq, reduceCtorEq, Int.reduceBEq, Int.reduceBNe, Int.reduceLT, Int.reduceNeg, h', decide_false]
    refine .inr ⟨by simp, ?_⟩
    simp only [F1, bodyRes, one, ains, appG, clsOf, abin, aint, aun, dnext, rowsOf, loadObj, cellsOf, ofCells, bnd, hmerge, Nat.reduceBEq, Nat.reduceAdd, reduceIte, Nat.reduceEqDiff, Nat.reduceLeDiff, Int.reduceEq, reduceCtorEq, Int.reduceBEq, Int.reduceBNe, Int.reduceLT, Int.reduceNeg, fn57_res, fn57_keep]
    rw [show goodS s = true from all_true fun i hi' => hi i (by omega)]
theorem setInj : ∀ a b : List (Int × Int), [eSet a] = [eSet b] → a = b := by
  intro a b h
  simp only [List.cons.injEq, and_true] at h
  exact eSet_inj h
noncomputable def k56 : Kon ((List (Int × Int))) := ⟨fun x => x.length ≤ 9223372036854775807, fun x => [(AV.list 2 (List.map (fun x => [AV.int .i64 x.1, AV.int .i64 x.2]) (x)))], fun x => .bool (goodS x)⟩
theorem e56 (s : List (Int × Int)) (hd : s.length ≤ 9223372036854775807) (q0 : Id) (H0 : Heap) : k56.ora q0 ([(AV.list 2 (List.map (fun x => [AV.int .i64 x.1, AV.int .i64 x.2]) (s)))]) H0 = some (.bool (goodS s), H0) := k56.eq (setInj) (s) hd q0 H0
theorem ook56 : OraOK Tryz.prog (47 % 100000) k56.ora := k56.ok orders t3_ok (fun x hd => by simp [k56, PU]) (fun x hd => by simp [k56, PU]) (fun x hd => run56 x hd)

noncomputable def k57 : Kon ((List (Int × Int))) := ⟨fun x => x.length ≤ 9223372036854775807, fun x => [(AV.list 2 (List.map (fun x => [AV.int .i64 x.1, AV.int .i64 x.2]) (x)))], fun x => .bool (goodS x)⟩
theorem e57 (s : List (Int × Int)) (hd : s.length ≤ 9223372036854775807) (q0 : Id) (H0 : Heap) : k57.ora q0 ([(AV.list 2 (List.map (fun x => [AV.int .i64 x.1, AV.int .i64 x.2]) (s)))]) H0 = some (.bool (goodS s), H0) := k57.eq (setInj) (s) hd q0 H0
theorem ook57 : OraOK Tryz.prog (19 % 100000) k57.ora := k57.ok orders t3_ok (fun x hd => by simp [k57, PU]) (fun x hd => by simp [k57, PU]) (fun x hd => run57 x hd)

noncomputable def t4 : FT := upd (upd (t3) 47 k56.ora) 19 k57.ora
theorem t4_ok : FTOK Tryz.prog t4 := upd_ok2 (f := 19) (upd_ok2 (f := 47) (t3_ok) ook56) ook57

end Go.Proofs.Abs
