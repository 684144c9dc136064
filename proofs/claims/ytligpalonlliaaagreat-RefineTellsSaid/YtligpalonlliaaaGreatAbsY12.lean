/- A part of a proof: the text that states the row tells what is proved. No condition is laid on anything. -/
import Derived.Test.YtligpalonlliaaaGreatAbsY11
set_option linter.all false
set_option linter.constructorNameAsVariable false
set_option linter.defProp false
set_option linter.unusedVariables false
set_option linter.unusedSimpArgs false
set_option maxRecDepth 100000
set_option maxHeartbeats 16000000
namespace Go.Proofs.Abs
open Go
/-! 59: caesuraref03.Has. -/
theorem run59 (s : List R2) (v : Int) (hs : s.length ≤ 1000000) : cwp s6 30 [] [(AV.list 2 (List.map (fun x => [AV.int .i64 x.1, AV.int .i64 x.2]) (s))), .int .i64 v] [] (fun r H => r = .bool (hasS s v) ∧ H = []) := by
  refine run_fn (fn := fn59) rfl rfl ?_
  have ls : s.length ≤ 9223372036854775807 := by omega
  simp only [fn59_body, c59, D0, ains, appG, clsOf, abin, aint, aun, dnext, rowsOf, loadObj, cellsOf, ofCells, bnd, hmerge, Nat.reduceBEq, Nat.reduceAdd, reduceIte, Nat.reduceEqDiff, Nat.reduceLeDiff, Int.reduceEq, reduceCtorEq, Int.reduceBEq, Int.reduceBNe, Int.reduceLT, Int.reduceNeg]
  refine lg_rule (fun j e H => e = [(0, (AV.list 2 (List.map (fun x => [AV.int .i64 x.1, AV.int .i64 x.2]) (s)))), (1, .int .i64 v), (4, .bool false), (5, .int .i64 j)] ∧ H = [[]] ∧ j ≤ s.length ∧ inS v (s.take j) = false) s.length ?_ ?_
  · exact ⟨rfl, rfl, by simp, rfl⟩
  rintro j e H ⟨rfl, rfl, hj, hi⟩
  simp only [D0, ains, appG, clsOf, abin, aint, aun, dnext, rowsOf, loadObj, cellsOf, ofCells, bnd, hmerge, Nat.reduceBEq, Nat.reduceAdd, reduceIte, Nat.reduceEqDiff, Nat.reduceLeDiff, Int.reduceEq, reduceCtorEq, Int.reduceBEq, Int.reduceBNe, Int.reduceLT, Int.reduceNeg]
  by_cases h : j < s.length
  · have h' : (j : Int) < (s.length : Int) := by omega
    have hp := wrapp (j := j) (by omega)
    have hg := map_get (f := fun x : Int × Int => [AV.int .i64 x.1, AV.int .i64 x.2]) h (0, 0)
    have hn := inS_snoc v (s.take j) (s.getD j (0, 0))
    rw [← take_snoc h, hi, Bool.false_or] at hn
    have hit : inR v (s.getD j (0, 0)) = true → hasS s v = (isS v && goodS s) := fun hr => by
      have : inS v s = true := by
        unfold inS
        rw [List.any_eq_true]
        exact ⟨_, getD_mem' h, hr⟩
      rw [hasS_iff, this, Bool.and_true, Bool.and_comm]
    generalize s.getD j (0, 0) = r at hg hn hit
    obtain ⟨a, b⟩ := r
    by_cases h1 : a ≤ v
    · by_cases h2 : v ≤ b
      · have hh := hit (by simp [inR, h1, h2])
        cases e1 : isS v
        all_goals rw [e1] at hh
        all_goals simp only [D0, ains, appG, clsOf, abin, aint, aun, dnext, rowsOf, loadObj, cellsOf, ofCells, bnd, hmerge, Nat.reduceBEq, Nat.reduceAdd, reduceIte, Nat.reduceEqDiff, Nat.reduceLeDiff, Int.reduceEq, reduceCtorEq, Int.reduceBEq, Int.reduceBNe, Int.reduceLT, Int.reduceNeg, @use_all s6 37 k66.ora rfl, e66, @use_all s6 19 k57.ora rfl, e57, ls, h', hg, hp, h1, h2, e1, decide_true, Int.natCast_nonneg, Int.toNat_natCast]
        all_goals simp only [F1, bodyRes, one, ains, appG, clsOf, abin, aint, aun, dnext, rowsOf, loadObj, cellsOf, ofCells, bnd, hmerge, Nat.reduceBEq, Nat.reduceAdd, reduceIte, Nat.reduceEqDiff, Nat.reduceLeDiff, Int.reduceEq, reduceCtorEq, Int.reduceBEq, Int.reduceBNe, Int.reduceLT, Int.reduceNeg, fn59_res, fn59_keep, hh, Bool.false_and, Bool.true_and]
      · have hf : inR v (a, b) = false := by simp [inR, h2]
        rw [hf] at hn
        simp only [D0, ains, appG, clsOf, abin, aint, aun, dnext, rowsOf, loadObj, cellsOf, ofCells, bnd, hmerge, Nat.reduceBEq, Nat.reduceAdd, reduceIte, Nat.reduceEqDiff, Nat.reduceLeDiff, Int.reduceEq, reduceCtorEq, Int.reduceBEq, Int.reduceBNe, Int.reduceLT, Int.reduceNeg, @use_all s6 37 k66.ora rfl, e66, @use_all s6 19 k57.ora rfl, e57, ls, h', hg, hp, h1, h2, decide_true, decide_false, Int.natCast_nonneg, Int.toNat_natCast]
        simp only [F1, bodyRes, one, ains, appG, clsOf, abin, aint, aun, dnext, rowsOf, loadObj, cellsOf, ofCells, bnd, hmerge, Nat.reduceBEq, Nat.reduceAdd, reduceIte, Nat.reduceEqDiff, Nat.reduceLeDiff, Int.reduceEq, reduceCtorEq, Int.reduceBEq, Int.reduceBNe, Int.reduceLT, Int.reduceNeg]
        exact ⟨h, h, hn⟩
    · have hf : inR v (a, b) = false := by simp [inR, h1]
      rw [hf] at hn
      simp only [D0, ains, appG, clsOf, abin, aint, aun, dnext, rowsOf, loadObj, cellsOf, ofCells, bnd, hmerge, Nat.reduceBEq, Nat.reduceAdd, reduceIte, Nat.reduceEqDiff, Nat.reduceLeDiff, Int.reduceEq, reduceCtorEq, Int.reduceBEq, Int.reduceBNe, Int.reduceLT, Int.reduceNeg, @use_all s6 37 k66.ora rfl, e66, @use_all s6 19 k57.ora rfl, e57, ls, h', hg, hp, h1, decide_true, decide_false, Int.natCast_nonneg, Int.toNat_natCast]
      simp only [F1, bodyRes, one, ains, appG, clsOf, abin, aint, aun, dnext, rowsOf, loadObj, cellsOf, ofCells, bnd, hmerge, Nat.reduceBEq, Nat.reduceAdd, reduceIte, Nat.reduceEqDiff, Nat.reduceLeDiff, Int.reduceEq, reduceCtorEq, Int.reduceBEq, Int.reduceBNe, Int.reduceLT, Int.reduceNeg]
      exact ⟨h, h, hn⟩
  · have h' : ¬ (j : Int) < (s.length : Int) := by omega
    have hjl : j = s.length := by omega
    subst hjl
    rw [List.take_length] at hi
    have hh : hasS s v = false := by rw [hasS_iff, hi, Bool.and_false]
    simp only [D0, ains, appG, clsOf, abin, aint, aun, dnext, rowsOf, loadObj, cellsOf, ofCells, bnd, hmerge, Nat.reduceBEq, Nat.reduceAdd, reduceIte, Nat.reduceEqDiff, Nat.reduceLeDiff, Int.reduceEq, reduceCtorEq, Int.reduceBEq, Int.reduceBNe, Int.reduceLT, Int.reduceNeg, h', decide_false]
    refine .inr ⟨by simp, ?_⟩
    simp only [F1, bodyRes, one, ains, appG, clsOf, abin, aint, aun, dnext, rowsOf, loadObj, cellsOf, ofCells, bnd, hmerge, Nat.reduceBEq, Nat.reduceAdd, reduceIte, Nat.reduceEqDiff, Nat.reduceLeDiff, Int.reduceEq, reduceCtorEq, Int.reduceBEq, Int.reduceBNe, Int.reduceLT, Int.reduceNeg, fn59_res, fn59_keep, hh]
theorem setIntInj : ∀ x y : List R2 × Int, [(AV.list 2 (List.map (fun x => [AV.int .i64 x.1, AV.int .i64 x.2]) (x.1))), AV.int .i64 x.2] = [(AV.list 2 (List.map (fun x => [AV.int .i64 x.1, AV.int .i64 x.2]) (y.1))), AV.int .i64 y.2] → x = y := by
  rintro ⟨a, m⟩ ⟨b, n⟩ h
  simp only [List.cons.injEq, AV.int.injEq, and_true, true_and] at h
  rw [eSet_inj (a := a) (b := b) h.1, h.2]
noncomputable def k59 : Kon ((List (Int × Int)) × Int) := ⟨fun x => x.1.length ≤ 1000000, fun x => [(AV.list 2 (List.map (fun x => [AV.int .i64 x.1, AV.int .i64 x.2]) (x.1))), .int .i64 x.2], fun x => .bool (hasS x.1 x.2)⟩
theorem e59 (s : List (Int × Int)) (v : Int) (hd : s.length ≤ 1000000) (q0 : Id) (H0 : Heap) : k59.ora q0 ([(AV.list 2 (List.map (fun x => [AV.int .i64 x.1, AV.int .i64 x.2]) (s))), .int .i64 v]) H0 = some (.bool (hasS s v), H0) := k59.eq (setIntInj) (s, v) hd q0 H0
theorem ook59 : OraOK Tryz.prog (30 % 100000) k59.ora := k59.ok orders s6_ok (fun x hd => by simp [k59, PU]) (fun x hd => by simp [k59, PU]) (fun x hd => run59 x.1 x.2 hd)

/-! 120: caesuraref01.Prev. -/
theorem run120 (v : Int) : cwp s6 56 [] [.int .i64 v] [] (fun r H => r = .agg [.int .i64 (prevV v), .bool (prevB v)] ∧ H = []) := by
  refine run_fn (fn := fn120) rfl rfl ?_
  simp only [fn120_body, c120, D0, ains, appG, clsOf, abin, aint, aun, dnext, rowsOf, loadObj, cellsOf, ofCells, bnd, hmerge, Nat.reduceBEq, Nat.reduceAdd, reduceIte, Nat.reduceEqDiff, Nat.reduceLeDiff, Int.reduceEq, reduceCtorEq, Int.reduceBEq, Int.reduceBNe, Int.reduceLT, Int.reduceNeg]
  repeat' ((first | refine rw1_nsplit (fun h => ?_) (fun h => ?_) | refine rw1_split (fun h => ?_) (fun h => ?_) | refine dw1_nsplit (fun h => ?_) (fun h => ?_) | refine dw1_split (fun h => ?_) (fun h => ?_) | refine cg2_nsplit (fun h => ?_) (fun h => ?_) | refine cg2_split (fun h => ?_) (fun h => ?_)) <;> simp only [D0, ains, appG, clsOf, abin, aint, aun, dnext, rowsOf, loadObj, cellsOf, ofCells, bnd, hmerge, Nat.reduceBEq, Nat.reduceAdd, reduceIte, Nat.reduceEqDiff, Nat.reduceLeDiff, Int.reduceEq, reduceCtorEq, Int.reduceBEq, Int.reduceBNe, Int.reduceLT, Int.reduceNeg, h, if_true])
  all_goals simp only [F1, bodyRes, one, ains, appG, clsOf, abin, aint, aun, dnext, rowsOf, loadObj, cellsOf, ofCells, bnd, hmerge, Nat.reduceBEq, Nat.reduceAdd, reduceIte, Nat.reduceEqDiff, Nat.reduceLeDiff, Int.reduceEq, reduceCtorEq, Int.reduceBEq, Int.reduceBNe, Int.reduceLT, Int.reduceNeg, fn120_res, fn120_keep]
  all_goals try simp only [decide_eq_true_eq, decide_eq_false_iff_not] at *
  all_goals try simp (disch := omega) only [wrap32, wrap64] at *
  all_goals try simp only [AV.tuple.injEq, AV.agg.injEq, List.cons.injEq, AV.int.injEq, AV.bool.injEq, and_true, true_and]
  all_goals refine ⟨by unfold prevV; (repeat' split) <;> omega, ?_⟩
  all_goals (rw [Bool.eq_iff_iff]; simp [prevB]; try omega)
noncomputable def k120 : Kon (Int) := ⟨fun _ => True, fun x => [.int .i64 x], fun x => .agg [.int .i64 (prevV x), .bool (prevB x)]⟩
theorem e120 (v : Int) (q0 : Id) (H0 : Heap) : k120.ora q0 ([.int .i64 v]) H0 = some (.agg [.int .i64 (prevV v), .bool (prevB v)], H0) := k120.eq (intInj) (v) trivial q0 H0
theorem ook120 : OraOK Tryz.prog (56 % 100000) k120.ora := k120.ok orders s6_ok (fun x hd => by simp [k120, PU]) (fun x hd => by simp [k120, PU]) (fun x hd => run120 x)

end Go.Proofs.Abs
