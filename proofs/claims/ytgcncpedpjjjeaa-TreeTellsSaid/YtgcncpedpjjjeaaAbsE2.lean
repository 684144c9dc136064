/- A part of a proof: the text that states the row tells what is proved. No condition is laid on anything. -/
import Derived.Test.YtgcncpedpjjjeaaAbsE1
set_option linter.all false
set_option linter.constructorNameAsVariable false
set_option linter.defProp false
set_option linter.unusedVariables false
set_option linter.unusedSimpArgs false
set_option maxRecDepth 100000
set_option maxHeartbeats 4000000
namespace Go.Proofs.Abs
open Go
/-! 56: sets.Good. -/
theorem run56 (s : List (Int × Int)) (hs : s.length ≤ 9223372036854775807) : cwp t3 56 [] [eSet s] [] (fun r H => r = .bool (goodS s) ∧ H = []) := by
  refine run_fn (fn := fn56) rfl rfl ?_
  simp only [fn56_body, c56, eSet, mach, dat2, wanted, putd, eset, eget, AX.ev, ains, params, Nat.reduceBEq, Nat.reduceAdd, reduceIte, Nat.reduceEqDiff, slots, dnext, clsOf, abin, aint, aun, agetl, foldMin, Nat.reduceLeDiff, List.isEmpty, Int.reduceEq, argsOf, St.add, hadd, hget, fget, hset, fset, cellsOf, loadObj, ofCells, reduceCtorEq, partsOfA, afill, Int.reduceBEq, Int.reduceBNe, Int.reduceLT, Int.reduceNeg, partsOf, setRows, rowsOf, hmerge, hpop, bnd]
  refine lg_rule (fun j e H => e = [(0, eSet s), (2, .bool false), (5, eSet s), (6, .int .i64 s.length), (7, .int .i64 j)] ∧ H = [[]] ∧ j ≤ s.length ∧ ∀ i, i < j → okAt s i = true) s.length ?_ ?_
  · exact ⟨rfl, rfl, by simp, by simp⟩
  rintro j e H ⟨rfl, rfl, hj, hi⟩
  simp only [eSet, mach, dat2, wanted, putd, eset, eget, AX.ev, ains, params, Nat.reduceBEq, Nat.reduceAdd, reduceIte, Nat.reduceEqDiff, slots, dnext, clsOf, abin, aint, aun, agetl, foldMin, Nat.reduceLeDiff, List.isEmpty, Int.reduceEq, argsOf, St.add, hadd, hget, fget, hset, fset, cellsOf, loadObj, ofCells, reduceCtorEq, partsOfA, afill, Int.reduceBEq, Int.reduceBNe, Int.reduceLT, Int.reduceNeg, partsOf, setRows, rowsOf, hmerge, hpop, bnd]
  by_cases h : j < s.length
  · have h' : (j : Int) < (s.length : Int) := by omega
    have hg := map_get (f := fun x : Int × Int => [AV.int .i64 x.1, AV.int .i64 x.2]) h (0, 0)
    have hp := wrapp (j := j) (by omega)
    have step : okAt s j = true → ∀ i, i < j + 1 → okAt s i = true := fun h1 i h2 => by
      by_cases e : i = j
      · rw [e]; exact h1
      · exact hi i (by omega)
    have bad : okAt s j = false → goodS s = false := fun h1 => all_false h h1
    by_cases h0 : j = 0
    · have h0' : ¬ (j : Int) > 0 := by omega
      simp only [mach, dat2, wanted, putd, eset, eget, AX.ev, ains, params, Nat.reduceBEq, Nat.reduceAdd, reduceIte, Nat.reduceEqDiff, slots, dnext, clsOf, abin, aint, aun, agetl, foldMin, Nat.reduceLeDiff, List.isEmpty, Int.reduceEq, argsOf, St.add, hadd, hget, fget, hset, fset, cellsOf, loadObj, ofCells, reduceCtorEq, partsOfA, afill, Int.reduceBEq, Int.reduceBNe, Int.reduceLT, Int.reduceNeg, partsOf, setRows, rowsOf, hmerge, hpop, bnd, @cg88 t3 rfl, @dcg88 t3 rfl, @cg89 t3 rfl, @dcg89 t3 rfl, h', hg, decide_true, Int.natCast_nonneg, Int.toNat_natCast]
      repeat' ((first | refine rw1_nsplit (fun h => ?_) (fun h => ?_) | refine rw1_split (fun h => ?_) (fun h => ?_) | refine dw1_nsplit (fun h => ?_) (fun h => ?_) | refine dw1_split (fun h => ?_) (fun h => ?_) | refine cg2_nsplit (fun h => ?_) (fun h => ?_) | refine cg2_split (fun h => ?_) (fun h => ?_)) <;> simp only [mach, dat2, wanted, putd, eset, eget, AX.ev, ains, params, Nat.reduceBEq, Nat.reduceAdd, reduceIte, Nat.reduceEqDiff, slots, dnext, clsOf, abin, aint, aun, agetl, foldMin, Nat.reduceLeDiff, List.isEmpty, Int.reduceEq, argsOf, St.add, hadd, hget, fget, hset, fset, cellsOf, loadObj, ofCells, reduceCtorEq, partsOfA, afill, Int.reduceBEq, Int.reduceBNe, Int.reduceLT, Int.reduceNeg, partsOf, setRows, rowsOf, hmerge, hpop, bnd, h, @cg88 t3 rfl, @dcg88 t3 rfl, @cg89 t3 rfl, @dcg89 t3 rfl, hp, h0', decide_true, decide_false])
      all_goals simp only [bodyRes, resOf, one, hpop, hmerge, ob_some, endr, ne_eq, not_false_eq_true, not_true_eq_false, false_or, or_false, dat2, wanted, putd, eset, eget, AX.ev, ains, params, Nat.reduceBEq, Nat.reduceAdd, reduceIte, Nat.reduceEqDiff, slots, dnext, clsOf, abin, aint, aun, agetl, foldMin, Nat.reduceLeDiff, List.isEmpty, Int.reduceEq, argsOf, St.add, hadd, hget, fget, hset, fset, cellsOf, loadObj, ofCells, reduceCtorEq, partsOfA, afill, Int.reduceBEq, Int.reduceBNe, Int.reduceLT, Int.reduceNeg, partsOf, setRows, rowsOf, hmerge, hpop, bnd, fn56_res, fn56_keep]
      all_goals clear hg hp hi
      all_goals try clear hm hg1
      all_goals first | (rw [bad (by clear bad step; simp_all [okAt])]; done) | exact ⟨by omega, by omega, step (by clear bad step; simp_all [okAt])⟩
    · have h0' : (j : Int) > 0 := by omega
      have hm := wrapm (j := j) (by omega) (by omega)
      have hg1 := map_get (f := fun x : Int × Int => [AV.int .i64 x.1, AV.int .i64 x.2]) (show j - 1 < s.length by omega) (0, 0)
      simp only [mach, dat2, wanted, putd, eset, eget, AX.ev, ains, params, Nat.reduceBEq, Nat.reduceAdd, reduceIte, Nat.reduceEqDiff, slots, dnext, clsOf, abin, aint, aun, agetl, foldMin, Nat.reduceLeDiff, List.isEmpty, Int.reduceEq, argsOf, St.add, hadd, hget, fget, hset, fset, cellsOf, loadObj, ofCells, reduceCtorEq, partsOfA, afill, Int.reduceBEq, Int.reduceBNe, Int.reduceLT, Int.reduceNeg, partsOf, setRows, rowsOf, hmerge, hpop, bnd, @cg88 t3 rfl, @dcg88 t3 rfl, @cg89 t3 rfl, @dcg89 t3 rfl, h', hg, decide_true, Int.natCast_nonneg, Int.toNat_natCast]
      repeat' ((first | refine rw1_nsplit (fun h => ?_) (fun h => ?_) | refine rw1_split (fun h => ?_) (fun h => ?_) | refine dw1_nsplit (fun h => ?_) (fun h => ?_) | refine dw1_split (fun h => ?_) (fun h => ?_) | refine cg2_nsplit (fun h => ?_) (fun h => ?_) | refine cg2_split (fun h => ?_) (fun h => ?_)) <;> simp only [mach, dat2, wanted, putd, eset, eget, AX.ev, ains, params, Nat.reduceBEq, Nat.reduceAdd, reduceIte, Nat.reduceEqDiff, slots, dnext, clsOf, abin, aint, aun, agetl, foldMin, Nat.reduceLeDiff, List.isEmpty, Int.reduceEq, argsOf, St.add, hadd, hget, fget, hset, fset, cellsOf, loadObj, ofCells, reduceCtorEq, partsOfA, afill, Int.reduceBEq, Int.reduceBNe, Int.reduceLT, Int.reduceNeg, partsOf, setRows, rowsOf, hmerge, hpop, bnd, h, @cg88 t3 rfl, @dcg88 t3 rfl, @cg89 t3 rfl, @dcg89 t3 rfl, hp, hm, hg1, h0', decide_true, Int.natCast_nonneg, Int.toNat_natCast])
      all_goals simp only [bodyRes, resOf, one, hpop, hmerge, ob_some, endr, ne_eq, not_false_eq_true, not_true_eq_false, false_or, or_false, dat2, wanted, putd, eset, eget, AX.ev, ains, params, Nat.reduceBEq, Nat.reduceAdd, reduceIte, Nat.reduceEqDiff, slots, dnext, clsOf, abin, aint, aun, agetl, foldMin, Nat.reduceLeDiff, List.isEmpty, Int.reduceEq, argsOf, St.add, hadd, hget, fget, hset, fset, cellsOf, loadObj, ofCells, reduceCtorEq, partsOfA, afill, Int.reduceBEq, Int.reduceBNe, Int.reduceLT, Int.reduceNeg, partsOf, setRows, rowsOf, hmerge, hpop, bnd, fn56_res, fn56_keep]
      all_goals clear hg hp hi
      all_goals try clear hm hg1
      all_goals first | (rw [bad (by clear bad step; simp_all [okAt])]; done) | exact ⟨by omega, by omega, step (by clear bad step; simp_all [okAt])⟩
  · have h' : ¬ (j : Int) < (s.length : Int) := by omega
    simp only [mach, dat2, wanted, putd, eset, eget, AX.ev, ains, params, Nat.reduceBEq, Nat.reduceAdd, reduceIte, Nat.reduceEqDiff, slots, dnext, clsOf, abin, aint, aun, agetl, foldMin, Nat.reduceLeDiff, List.isEmpty, Int.reduceEq, argsOf, St.add, hadd, hget, fget, hset, fset, cellsOf, loadObj, ofCells, reduceCtorEq, partsOfA, afill, Int.reduceBEq, Int.reduceBNe, Int.reduceLT, Int.reduceNeg, partsOf, setRows, rowsOf, hmerge, hpop, bnd, h', decide_false]
    refine .inr ⟨by simp, ?_⟩
    simp only [bodyRes, resOf, one, hpop, hmerge, ob_some, endr, ne_eq, not_false_eq_true, not_true_eq_false, false_or, or_false, dat2, wanted, putd, eset, eget, AX.ev, ains, params, Nat.reduceBEq, Nat.reduceAdd, reduceIte, Nat.reduceEqDiff, slots, dnext, clsOf, abin, aint, aun, agetl, foldMin, Nat.reduceLeDiff, List.isEmpty, Int.reduceEq, argsOf, St.add, hadd, hget, fget, hset, fset, cellsOf, loadObj, ofCells, reduceCtorEq, partsOfA, afill, Int.reduceBEq, Int.reduceBNe, Int.reduceLT, Int.reduceNeg, partsOf, setRows, rowsOf, hmerge, hpop, bnd, fn56_res, fn56_keep]
    rw [show goodS s = true from all_true fun i hi' => hi i (by omega)]
/-! 57: caesuraref03.Good. -/
theorem run57 (s : List (Int × Int)) (hs : s.length ≤ 9223372036854775807) : cwp t3 57 [] [eSet s] [] (fun r H => r = .bool (goodS s) ∧ H = []) := by
  refine run_fn (fn := fn57) rfl rfl ?_
  simp only [fn57_body, c57, eSet, mach, dat2, wanted, putd, eset, eget, AX.ev, ains, params, Nat.reduceBEq, Nat.reduceAdd, reduceIte, Nat.reduceEqDiff, slots, dnext, clsOf, abin, aint, aun, agetl, foldMin, Nat.reduceLeDiff, List.isEmpty, Int.reduceEq, argsOf, St.add, hadd, hget, fget, hset, fset, cellsOf, loadObj, ofCells, reduceCtorEq, partsOfA, afill, Int.reduceBEq, Int.reduceBNe, Int.reduceLT, Int.reduceNeg, partsOf, setRows, rowsOf, hmerge, hpop, bnd]
  refine lg_rule (fun j e H => e = [(0, eSet s), (2, .bool false), (3, .int .i64 j)] ∧ H = [[]] ∧ j ≤ s.length ∧ ∀ i, i < j → okAt s i = true) s.length ?_ ?_
  · exact ⟨rfl, rfl, by simp, by simp⟩
  rintro j e H ⟨rfl, rfl, hj, hi⟩
  simp only [eSet, mach, dat2, wanted, putd, eset, eget, AX.ev, ains, params, Nat.reduceBEq, Nat.reduceAdd, reduceIte, Nat.reduceEqDiff, slots, dnext, clsOf, abin, aint, aun, agetl, foldMin, Nat.reduceLeDiff, List.isEmpty, Int.reduceEq, argsOf, St.add, hadd, hget, fget, hset, fset, cellsOf, loadObj, ofCells, reduceCtorEq, partsOfA, afill, Int.reduceBEq, Int.reduceBNe, Int.reduceLT, Int.reduceNeg, partsOf, setRows, rowsOf, hmerge, hpop, bnd]
  by_cases h : j < s.length
  · have h' : (j : Int) < (s.length : Int) := by omega
    have hg := map_get (f := fun x : Int × Int => [AV.int .i64 x.1, AV.int .i64 x.2]) h (0, 0)
    have hp := wrapp (j := j) (by omega)
    have step : okAt s j = true → ∀ i, i < j + 1 → okAt s i = true := fun h1 i h2 => by
      by_cases e : i = j
      · rw [e]; exact h1
      · exact hi i (by omega)
    have bad : okAt s j = false → goodS s = false := fun h1 => all_false h h1
    by_cases h0 : j = 0
    · have h0' : ¬ (j : Int) > 0 := by omega
      simp only [mach, dat2, wanted, putd, eset, eget, AX.ev, ains, params, Nat.reduceBEq, Nat.reduceAdd, reduceIte, Nat.reduceEqDiff, slots, dnext, clsOf, abin, aint, aun, agetl, foldMin, Nat.reduceLeDiff, List.isEmpty, Int.reduceEq, argsOf, St.add, hadd, hget, fget, hset, fset, cellsOf, loadObj, ofCells, reduceCtorEq, partsOfA, afill, Int.reduceBEq, Int.reduceBNe, Int.reduceLT, Int.reduceNeg, partsOf, setRows, rowsOf, hmerge, hpop, bnd, @cg66 t3 rfl, @dcg66 t3 rfl, @cg96 t3 rfl, @dcg96 t3 rfl, h', hg, decide_true, Int.natCast_nonneg, Int.toNat_natCast]
      repeat' ((first | refine rw1_nsplit (fun h => ?_) (fun h => ?_) | refine rw1_split (fun h => ?_) (fun h => ?_) | refine dw1_nsplit (fun h => ?_) (fun h => ?_) | refine dw1_split (fun h => ?_) (fun h => ?_) | refine cg2_nsplit (fun h => ?_) (fun h => ?_) | refine cg2_split (fun h => ?_) (fun h => ?_)) <;> simp only [mach, dat2, wanted, putd, eset, eget, AX.ev, ains, params, Nat.reduceBEq, Nat.reduceAdd, reduceIte, Nat.reduceEqDiff, slots, dnext, clsOf, abin, aint, aun, agetl, foldMin, Nat.reduceLeDiff, List.isEmpty, Int.reduceEq, argsOf, St.add, hadd, hget, fget, hset, fset, cellsOf, loadObj, ofCells, reduceCtorEq, partsOfA, afill, Int.reduceBEq, Int.reduceBNe, Int.reduceLT, Int.reduceNeg, partsOf, setRows, rowsOf, hmerge, hpop, bnd, h, @cg66 t3 rfl, @dcg66 t3 rfl, @cg96 t3 rfl, @dcg96 t3 rfl, hg, hp, h0', decide_true, decide_false, Int.natCast_nonneg, Int.toNat_natCast])
      all_goals simp only [bodyRes, resOf, one, hpop, hmerge, ob_some, endr, ne_eq, not_false_eq_true, not_true_eq_false, false_or, or_false, dat2, wanted, putd, eset, eget, AX.ev, ains, params, Nat.reduceBEq, Nat.reduceAdd, reduceIte, Nat.reduceEqDiff, slots, dnext, clsOf, abin, aint, aun, agetl, foldMin, Nat.reduceLeDiff, List.isEmpty, Int.reduceEq, argsOf, St.add, hadd, hget, fget, hset, fset, cellsOf, loadObj, ofCells, reduceCtorEq, partsOfA, afill, Int.reduceBEq, Int.reduceBNe, Int.reduceLT, Int.reduceNeg, partsOf, setRows, rowsOf, hmerge, hpop, bnd, fn57_res, fn57_keep]
      all_goals clear hg hp hi
      all_goals try clear hm hg1
      all_goals first | (rw [bad (by clear bad step; simp_all [okAt, wholeS])]; done) | exact ⟨by omega, by omega, step (by clear bad step; simp_all [okAt, wholeS])⟩
    · have h0' : (j : Int) > 0 := by omega
      have hm := wrapm (j := j) (by omega) (by omega)
      have hg1 := map_get (f := fun x : Int × Int => [AV.int .i64 x.1, AV.int .i64 x.2]) (show j - 1 < s.length by omega) (0, 0)
      simp only [mach, dat2, wanted, putd, eset, eget, AX.ev, ains, params, Nat.reduceBEq, Nat.reduceAdd, reduceIte, Nat.reduceEqDiff, slots, dnext, clsOf, abin, aint, aun, agetl, foldMin, Nat.reduceLeDiff, List.isEmpty, Int.reduceEq, argsOf, St.add, hadd, hget, fget, hset, fset, cellsOf, loadObj, ofCells, reduceCtorEq, partsOfA, afill, Int.reduceBEq, Int.reduceBNe, Int.reduceLT, Int.reduceNeg, partsOf, setRows, rowsOf, hmerge, hpop, bnd, @cg66 t3 rfl, @dcg66 t3 rfl, @cg96 t3 rfl, @dcg96 t3 rfl, h', hg, decide_true, Int.natCast_nonneg, Int.toNat_natCast]
      repeat' ((first | refine rw1_nsplit (fun h => ?_) (fun h => ?_) | refine rw1_split (fun h => ?_) (fun h => ?_) | refine dw1_nsplit (fun h => ?_) (fun h => ?_) | refine dw1_split (fun h => ?_) (fun h => ?_) | refine cg2_nsplit (fun h => ?_) (fun h => ?_) | refine cg2_split (fun h => ?_) (fun h => ?_)) <;> simp only [mach, dat2, wanted, putd, eset, eget, AX.ev, ains, params, Nat.reduceBEq, Nat.reduceAdd, reduceIte, Nat.reduceEqDiff, slots, dnext, clsOf, abin, aint, aun, agetl, foldMin, Nat.reduceLeDiff, List.isEmpty, Int.reduceEq, argsOf, St.add, hadd, hget, fget, hset, fset, cellsOf, loadObj, ofCells, reduceCtorEq, partsOfA, afill, Int.reduceBEq, Int.reduceBNe, Int.reduceLT, Int.reduceNeg, partsOf, setRows, rowsOf, hmerge, hpop, bnd, h, @cg66 t3 rfl, @dcg66 t3 rfl, @cg96 t3 rfl, @dcg96 t3 rfl, hg, hp, hm, hg1, h0', decide_true, Int.natCast_nonneg, Int.toNat_natCast])
      all_goals simp only [bodyRes, resOf, one, hpop, hmerge, ob_some, endr, ne_eq, not_false_eq_true, not_true_eq_false, false_or, or_false, dat2, wanted, putd, eset, eget, AX.ev, ains, params, Nat.reduceBEq, Nat.reduceAdd, reduceIte, Nat.reduceEqDiff, slots, dnext, clsOf, abin, aint, aun, agetl, foldMin, Nat.reduceLeDiff, List.isEmpty, Int.reduceEq, argsOf, St.add, hadd, hget, fget, hset, fset, cellsOf, loadObj, ofCells, reduceCtorEq, partsOfA, afill, Int.reduceBEq, Int.reduceBNe, Int.reduceLT, Int.reduceNeg, partsOf, setRows, rowsOf, hmerge, hpop, bnd, fn57_res, fn57_keep]
      all_goals clear hg hp hi
      all_goals try clear hm hg1
      all_goals first | (rw [bad (by clear bad step; simp_all [okAt, wholeS, apartS]; try (intros; omega))]; done) | exact ⟨by omega, by omega, step (by clear bad step; simp_all [okAt, wholeS, apartS]; try (intros; omega))⟩
  · have h' : ¬ (j : Int) < (s.length : Int) := by omega
    simp only [mach, dat2, wanted, putd, eset, eget, AX.ev, ains, params, Nat.reduceBEq, Nat.reduceAdd, reduceIte, Nat.reduceEqDiff, slots, dnext, clsOf, abin, aint, aun, agetl, foldMin, Nat.reduceLeDiff, List.isEmpty, Int.reduceEq, argsOf, St.add, hadd, hget, fget, hset, fset, cellsOf, loadObj, ofCells, reduceCtorEq, partsOfA, afill, Int.reduceBEq, Int.reduceBNe, Int.reduceLT, Int.reduceNeg, partsOf, setRows, rowsOf, hmerge, hpop, bnd, h', decide_false]
    refine .inr ⟨by simp, ?_⟩
    simp only [bodyRes, resOf, one, hpop, hmerge, ob_some, endr, ne_eq, not_false_eq_true, not_true_eq_false, false_or, or_false, dat2, wanted, putd, eset, eget, AX.ev, ains, params, Nat.reduceBEq, Nat.reduceAdd, reduceIte, Nat.reduceEqDiff, slots, dnext, clsOf, abin, aint, aun, agetl, foldMin, Nat.reduceLeDiff, List.isEmpty, Int.reduceEq, argsOf, St.add, hadd, hget, fget, hset, fset, cellsOf, loadObj, ofCells, reduceCtorEq, partsOfA, afill, Int.reduceBEq, Int.reduceBNe, Int.reduceLT, Int.reduceNeg, partsOf, setRows, rowsOf, hmerge, hpop, bnd, fn57_res, fn57_keep]
    rw [show goodS s = true from all_true fun i hi' => hi i (by omega)]
theorem setInj : ∀ a b : List (Int × Int), [eSet a] = [eSet b] → a = b := by
  intro a b h
  simp only [List.cons.injEq, and_true] at h
  exact eSet_inj h
noncomputable def o56 : Id → List AV → Heap → Option (AV × Heap) := oraF (fun (x : List (Int × Int)) => x.length ≤ 9223372036854775807) (fun (x : List (Int × Int)) => [(AV.list 2 (List.map (fun x => [AV.int .i64 x.1, AV.int .i64 x.2]) (x)))]) (fun (x : List (Int × Int)) => .bool (goodS x))
theorem inj56 : ∀ x y : List (Int × Int), ((fun (x : List (Int × Int)) => [(AV.list 2 (List.map (fun x => [AV.int .i64 x.1, AV.int .i64 x.2]) (x)))] : List (Int × Int) → List AV)) x = ((fun (x : List (Int × Int)) => [(AV.list 2 (List.map (fun x => [AV.int .i64 x.1, AV.int .i64 x.2]) (x)))] : List (Int × Int) → List AV)) y → x = y := setInj
theorem cg56 {ft : FT} (h : ft 56 = some (.ora o56)) (s : List (Int × Int)) (hd : s.length ≤ 9223372036854775807) (q0 : Id) (H0 : Heap) (d0 : Option Nat) (r0 : List AIn) (k0 : Nat) (dr0 : List Nat) (ks0 : List Kt) (Q0 : Fin) (s0 : St) : cg ft 56 q0 ([(AV.list 2 (List.map (fun x => [AV.int .i64 x.1, AV.int .i64 x.2]) (s)))]) H0 d0 r0 k0 dr0 ks0 Q0 s0 = rg ft r0 k0 dr0 ks0 Q0 { s0 with env := putd s0.env d0 (.bool (goodS s)), heap := H0, k := s0.k + 1 } := cg_has (dom := fun (x : List (Int × Int)) => x.length ≤ 9223372036854775807) (enc := fun (x : List (Int × Int)) => [(AV.list 2 (List.map (fun x => [AV.int .i64 x.1, AV.int .i64 x.2]) (x)))]) (out := fun (x : List (Int × Int)) => .bool (goodS x)) (a := ((s) : List (Int × Int))) h inj56 hd q0 H0 d0 r0 k0 dr0 ks0 Q0 s0
theorem dcg56 {ft : FT} (h : ft 56 = some (.ora o56)) (s : List (Int × Int)) (hd : s.length ≤ 9223372036854775807) (q0 : Id) (H0 : Heap) (i0 : AIn) (r0 : List AIn) (k0 : Nat) (l0 : List Rec) (dr0 : List Nat) (ks0 : List Kt) (Q0 : Fin) (s0 : St) : dcg ft 56 q0 ([(AV.list 2 (List.map (fun x => [AV.int .i64 x.1, AV.int .i64 x.2]) (s)))]) H0 i0 r0 k0 l0 dr0 ks0 Q0 s0 = dn ft (dnext (clsOf i0.i s0.env) (.bool (goodS s)) s0 { s0 with heap := H0, k := s0.k + 1 }) i0 r0 k0 l0 dr0 ks0 Q0 s0 := dcg_has (dom := fun (x : List (Int × Int)) => x.length ≤ 9223372036854775807) (enc := fun (x : List (Int × Int)) => [(AV.list 2 (List.map (fun x => [AV.int .i64 x.1, AV.int .i64 x.2]) (x)))]) (out := fun (x : List (Int × Int)) => .bool (goodS x)) (a := ((s) : List (Int × Int))) h inj56 hd q0 H0 i0 r0 k0 l0 dr0 ks0 Q0 s0
theorem ook56 : OraOK Try.prog 56 o56 := lift orders t3_ok (by decide) (fun x hd => by simp [pure_undef, pure_bool, pure_int, pure_str, pure_nils, pure_agg, pure_tuple, pure_setL, pure_treeL, pure_rowL, pureL_eNd, pure_nats]) (fun x hd => by simp [pure_undef, pure_bool, pure_int, pure_str, pure_nils, pure_agg, pure_tuple, pure_setL, pure_treeL, pure_rowL, pureL_eNd, pure_nats]) (fun x hd => cwp_run (run56 x hd))

noncomputable def o57 : Id → List AV → Heap → Option (AV × Heap) := oraF (fun (x : List (Int × Int)) => x.length ≤ 9223372036854775807) (fun (x : List (Int × Int)) => [(AV.list 2 (List.map (fun x => [AV.int .i64 x.1, AV.int .i64 x.2]) (x)))]) (fun (x : List (Int × Int)) => .bool (goodS x))
theorem inj57 : ∀ x y : List (Int × Int), ((fun (x : List (Int × Int)) => [(AV.list 2 (List.map (fun x => [AV.int .i64 x.1, AV.int .i64 x.2]) (x)))] : List (Int × Int) → List AV)) x = ((fun (x : List (Int × Int)) => [(AV.list 2 (List.map (fun x => [AV.int .i64 x.1, AV.int .i64 x.2]) (x)))] : List (Int × Int) → List AV)) y → x = y := setInj
theorem cg57 {ft : FT} (h : ft 57 = some (.ora o57)) (s : List (Int × Int)) (hd : s.length ≤ 9223372036854775807) (q0 : Id) (H0 : Heap) (d0 : Option Nat) (r0 : List AIn) (k0 : Nat) (dr0 : List Nat) (ks0 : List Kt) (Q0 : Fin) (s0 : St) : cg ft 57 q0 ([(AV.list 2 (List.map (fun x => [AV.int .i64 x.1, AV.int .i64 x.2]) (s)))]) H0 d0 r0 k0 dr0 ks0 Q0 s0 = rg ft r0 k0 dr0 ks0 Q0 { s0 with env := putd s0.env d0 (.bool (goodS s)), heap := H0, k := s0.k + 1 } := cg_has (dom := fun (x : List (Int × Int)) => x.length ≤ 9223372036854775807) (enc := fun (x : List (Int × Int)) => [(AV.list 2 (List.map (fun x => [AV.int .i64 x.1, AV.int .i64 x.2]) (x)))]) (out := fun (x : List (Int × Int)) => .bool (goodS x)) (a := ((s) : List (Int × Int))) h inj57 hd q0 H0 d0 r0 k0 dr0 ks0 Q0 s0
theorem dcg57 {ft : FT} (h : ft 57 = some (.ora o57)) (s : List (Int × Int)) (hd : s.length ≤ 9223372036854775807) (q0 : Id) (H0 : Heap) (i0 : AIn) (r0 : List AIn) (k0 : Nat) (l0 : List Rec) (dr0 : List Nat) (ks0 : List Kt) (Q0 : Fin) (s0 : St) : dcg ft 57 q0 ([(AV.list 2 (List.map (fun x => [AV.int .i64 x.1, AV.int .i64 x.2]) (s)))]) H0 i0 r0 k0 l0 dr0 ks0 Q0 s0 = dn ft (dnext (clsOf i0.i s0.env) (.bool (goodS s)) s0 { s0 with heap := H0, k := s0.k + 1 }) i0 r0 k0 l0 dr0 ks0 Q0 s0 := dcg_has (dom := fun (x : List (Int × Int)) => x.length ≤ 9223372036854775807) (enc := fun (x : List (Int × Int)) => [(AV.list 2 (List.map (fun x => [AV.int .i64 x.1, AV.int .i64 x.2]) (x)))]) (out := fun (x : List (Int × Int)) => .bool (goodS x)) (a := ((s) : List (Int × Int))) h inj57 hd q0 H0 i0 r0 k0 l0 dr0 ks0 Q0 s0
theorem ook57 : OraOK Try.prog 57 o57 := lift orders t3_ok (by decide) (fun x hd => by simp [pure_undef, pure_bool, pure_int, pure_str, pure_nils, pure_agg, pure_tuple, pure_setL, pure_treeL, pure_rowL, pureL_eNd, pure_nats]) (fun x hd => by simp [pure_undef, pure_bool, pure_int, pure_str, pure_nils, pure_agg, pure_tuple, pure_setL, pure_treeL, pure_rowL, pureL_eNd, pure_nats]) (fun x hd => cwp_run (run57 x hd))

noncomputable def t4 : FT := upd (upd (t3) 56 o56) 57 o57
theorem t4_ok : FTOK Try.prog t4 := upd_ok (upd_ok (t3_ok) (by decide) ook56) (by decide) ook57

end Go.Proofs.Abs
