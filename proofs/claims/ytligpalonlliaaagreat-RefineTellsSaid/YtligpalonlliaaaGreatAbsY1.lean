/- A part of a proof: the text that states the row tells what is proved. No condition is laid on anything. -/
import Derived.Test.YtligpalonlliaaaGreatAbsY0
set_option linter.all false
set_option linter.constructorNameAsVariable false
set_option linter.defProp false
set_option linter.unusedVariables false
set_option linter.unusedSimpArgs false
set_option maxRecDepth 100000
set_option maxHeartbeats 4000000
namespace Go.Proofs.Abs
open Go
/-! 48: sets.Of. -/
theorem run48 (l : List (Int × Int)) (hl : l.length ≤ 1000000) : cwp t4 28 [] [(AV.list 2 (List.map (fun x => [AV.int .i64 x.1, AV.int .i64 x.2]) (l)))] [] (fun r H => r = .tuple [(AV.list 2 (List.map (fun x => [AV.int .i64 x.1, AV.int .i64 x.2]) (ofV l))), .bool (ofB l)] ∧ H = []) := by
  refine run_fn (fn := fn48) rfl rfl ?_
  simp only [fn48_body, c48, D0, ains, appG, clsOf, abin, aint, aun, dnext, rowsOf, loadObj, cellsOf, ofCells, bnd, hmerge, Nat.reduceBEq, Nat.reduceAdd, reduceIte, Nat.reduceEqDiff, Nat.reduceLeDiff, Int.reduceEq, reduceCtorEq, Int.reduceBEq, Int.reduceBNe, Int.reduceLT, Int.reduceNeg]
  refine cg_code (fn := fn86) rfl rfl ?_
  simp only [fn86_body, c86, D0, ains, appG, clsOf, abin, aint, aun, dnext, rowsOf, loadObj, cellsOf, ofCells, bnd, hmerge, Nat.reduceBEq, Nat.reduceAdd, reduceIte, Nat.reduceEqDiff, Nat.reduceLeDiff, Int.reduceEq, reduceCtorEq, Int.reduceBEq, Int.reduceBNe, Int.reduceLT, Int.reduceNeg]
  simp only [F1, bodyRes, one, ains, appG, clsOf, abin, aint, aun, dnext, rowsOf, loadObj, cellsOf, ofCells, bnd, hmerge, Nat.reduceBEq, Nat.reduceAdd, reduceIte, Nat.reduceEqDiff, Nat.reduceLeDiff, Int.reduceEq, reduceCtorEq, Int.reduceBEq, Int.reduceBNe, Int.reduceLT, Int.reduceNeg, fn86_res, fn86_keep]
  simp only [D0, ains, appG, clsOf, abin, aint, aun, dnext, rowsOf, loadObj, cellsOf, ofCells, bnd, hmerge, Nat.reduceBEq, Nat.reduceAdd, reduceIte, Nat.reduceEqDiff, Nat.reduceLeDiff, Int.reduceEq, reduceCtorEq, Int.reduceBEq, Int.reduceBNe, Int.reduceLT, Int.reduceNeg, @use_all t4 51 sfSpec rfl]
  rw [e85 (l := l) (hl := hl)]
  rotate_left
  · rfl
  unfold ofV ofB
  have hzl := Rg.sortZ_length l
  generalize Rg.sortZ l = z at hzl
  simp only [D0, ains, appG, clsOf, abin, aint, aun, dnext, rowsOf, loadObj, cellsOf, ofCells, bnd, hmerge, Nat.reduceBEq, Nat.reduceAdd, reduceIte, Nat.reduceEqDiff, Nat.reduceLeDiff, Int.reduceEq, reduceCtorEq, Int.reduceBEq, Int.reduceBNe, Int.reduceLT, Int.reduceNeg, hzl]
  refine lg_rule (fun j e H => ∃ u, ofA [] (z.take j) = some u ∧ u.length ≤ j ∧ e = [(0, (AV.list 2 (List.map (fun x => [AV.int .i64 x.1, AV.int .i64 x.2]) (l)))), (2, .own [0] 0), (3, .bool false), (4, .own [2] u.length), (10, .own [5, 0] l.length), (11, .int .i64 l.length), (12, .int .i64 j)] ∧
    H = [[([5, 0], .row true true 55 2 (List.map (fun x => [AV.int .i64 x.1, AV.int .i64 x.2]) z)), ([4, 0], .box [(AV.list 2 (List.map (fun x => [AV.int .i64 x.1, AV.int .i64 x.2]) (l)))]), ([2], .row true true 55 2 (List.map (fun x => [AV.int .i64 x.1, AV.int .i64 x.2]) u)), ([0], .row true true 55 2 [])]] ∧ j ≤ l.length) l.length ?_ ?_
  · exact ⟨[], rfl, by simp, rfl, rfl, by simp⟩
  rintro j e H ⟨u, hu, hul, rfl, rfl, hj⟩
  simp only [D0, ains, appG, clsOf, abin, aint, aun, dnext, rowsOf, loadObj, cellsOf, ofCells, bnd, hmerge, Nat.reduceBEq, Nat.reduceAdd, reduceIte, Nat.reduceEqDiff, Nat.reduceLeDiff, Int.reduceEq, reduceCtorEq, Int.reduceBEq, Int.reduceBNe, Int.reduceLT, Int.reduceNeg]
  by_cases h : j < l.length
  · have h' : (j : Int) < (l.length : Int) := by omega
    have hg := map_get (f := fun x : Int × Int => [AV.int .i64 x.1, AV.int .i64 x.2]) (l := z) (j := j) (by omega) (0, 0)
    have hp := wrapp (j := j) (by omega)
    have hsn := ofA_snoc (z.take j) [] (z.getD j (0, 0)) hu
    rw [← take_snoc (by omega)] at hsn
    have bad := ofA_bad z [] (i := j) (by omega)
    generalize z.getD j (0, 0) = r at hg hsn bad
    obtain ⟨a, b⟩ := r
    by_cases hw : wholeS (a, b) = true
    · rw [if_pos hw] at hsn
      have hlen := addS_length u (a, b)
      have hcap : (u.length + 1) * 16 ≤ 140737488355328 := by omega
      by_cases h0 : u.length = 0
      · have h0' : ((u.length : Int) == 0) = true := by simp [h0]
        have hadd : addS u (a, b) = u ++ [(a, b)] := by unfold addS; rw [if_pos (.inl h0)]
        simp only [D0, ains, appG, clsOf, abin, aint, aun, dnext, rowsOf, loadObj, cellsOf, ofCells, bnd, hmerge, Nat.reduceBEq, Nat.reduceAdd, reduceIte, Nat.reduceEqDiff, Nat.reduceLeDiff, Int.reduceEq, reduceCtorEq, Int.reduceBEq, Int.reduceBNe, Int.reduceLT, Int.reduceNeg, @use_all t4 54 k88.ora rfl, e88, @use_all t4 55 k89.ora rfl, e89, h', hg, hw, h0', hzl, decide_true, Int.natCast_nonneg, Int.toNat_natCast, List.length_map, Nat.reduceLT]
        simp only [D0, ains, appG, clsOf, abin, aint, aun, dnext, rowsOf, loadObj, cellsOf, ofCells, bnd, hmerge, Nat.reduceBEq, Nat.reduceAdd, reduceIte, Nat.reduceEqDiff, Nat.reduceLeDiff, Int.reduceEq, reduceCtorEq, Int.reduceBEq, Int.reduceBNe, Int.reduceLT, Int.reduceNeg, hcap, hp]
        simp only [F1, bodyRes, one, ains, appG, clsOf, abin, aint, aun, dnext, rowsOf, loadObj, cellsOf, ofCells, bnd, hmerge, Nat.reduceBEq, Nat.reduceAdd, reduceIte, Nat.reduceEqDiff, Nat.reduceLeDiff, Int.reduceEq, reduceCtorEq, Int.reduceBEq, Int.reduceBNe, Int.reduceLT, Int.reduceNeg]
        refine ⟨h, _, hsn, by omega, ?_⟩
        rw [hadd]
        simp [List.map_append]
        omega
      · have h0' : ((u.length : Int) == 0) = false := by simp [h0]
        have hm := wrapm (j := u.length) (by omega) (by omega)
        have hgu := map_get (f := fun x : Int × Int => [AV.int .i64 x.1, AV.int .i64 x.2]) (l := u) (j := u.length - 1) (by omega) (0, 0)
        have hun : ((u.length - 1 : Nat) : Int) < (u.length : Int) := by omega
        have hun' : u.length - 1 < u.length := by omega
        have hadd : addS u (a, b) = if apartS (u.getD (u.length - 1) (0, 0)) (a, b) = true then u ++ [(a, b)] else u.set (u.length - 1) ((u.getD (u.length - 1) (0, 0)).1, if (u.getD (u.length - 1) (0, 0)).2 < b then b else (u.getD (u.length - 1) (0, 0)).2) := by unfold addS; simp [h0]
        generalize u.getD (u.length - 1) (0, 0) = p at hgu hadd
        obtain ⟨c, d⟩ := p
        by_cases ha : apartS (c, d) (a, b) = true
        · rw [if_pos ha] at hadd
          simp only [D0, ains, appG, clsOf, abin, aint, aun, dnext, rowsOf, loadObj, cellsOf, ofCells, bnd, hmerge, Nat.reduceBEq, Nat.reduceAdd, reduceIte, Nat.reduceEqDiff, Nat.reduceLeDiff, Int.reduceEq, reduceCtorEq, Int.reduceBEq, Int.reduceBNe, Int.reduceLT, Int.reduceNeg, @use_all t4 54 k88.ora rfl, e88, @use_all t4 55 k89.ora rfl, e89, h', hg, hw, h0', hzl, hm, hgu, hun, hun', ha, hcap, hp, lrc_x, apx, apart, apart1, needs, decide_true, Int.natCast_nonneg, Int.toNat_natCast, List.length_map, Nat.reduceLT]
          simp only [F1, bodyRes, one, ains, appG, clsOf, abin, aint, aun, dnext, rowsOf, loadObj, cellsOf, ofCells, bnd, hmerge, Nat.reduceBEq, Nat.reduceAdd, reduceIte, Nat.reduceEqDiff, Nat.reduceLeDiff, Int.reduceEq, reduceCtorEq, Int.reduceBEq, Int.reduceBNe, Int.reduceLT, Int.reduceNeg]
          refine ⟨h, _, hsn, by omega, ?_⟩
          rw [hadd]
          simp [List.map_append]
          omega
        · have ha' : apartS (c, d) (a, b) = false := by simpa using ha
          rw [if_neg ha] at hadd
          simp only [D0, ains, appG, clsOf, abin, aint, aun, dnext, rowsOf, loadObj, cellsOf, ofCells, bnd, hmerge, Nat.reduceBEq, Nat.reduceAdd, reduceIte, Nat.reduceEqDiff, Nat.reduceLeDiff, Int.reduceEq, reduceCtorEq, Int.reduceBEq, Int.reduceBNe, Int.reduceLT, Int.reduceNeg, @use_all t4 54 k88.ora rfl, e88, @use_all t4 55 k89.ora rfl, e89, h', hg, hw, h0', hzl, hm, hgu, hun, hun', ha', hp, lrc_x, apx, apart, apart1, needs, decide_true, Int.natCast_nonneg, Int.toNat_natCast, List.length_map, Nat.reduceLT]
          simp only [F1, bodyRes, one, ains, appG, clsOf, abin, aint, aun, dnext, rowsOf, loadObj, cellsOf, ofCells, bnd, hmerge, Nat.reduceBEq, Nat.reduceAdd, reduceIte, Nat.reduceEqDiff, Nat.reduceLeDiff, Int.reduceEq, reduceCtorEq, Int.reduceBEq, Int.reduceBNe, Int.reduceLT, Int.reduceNeg]
          refine ⟨h, _, hsn, by omega, ?_⟩
          rw [hadd]
          simp [List.map_set]
          omega
    · have hw' : wholeS (a, b) = false := by simpa using hw
      have hno := bad hw'
      simp only [D0, ains, appG, clsOf, abin, aint, aun, dnext, rowsOf, loadObj, cellsOf, ofCells, bnd, hmerge, Nat.reduceBEq, Nat.reduceAdd, reduceIte, Nat.reduceEqDiff, Nat.reduceLeDiff, Int.reduceEq, reduceCtorEq, Int.reduceBEq, Int.reduceBNe, Int.reduceLT, Int.reduceNeg, @use_all t4 54 k88.ora rfl, e88, @use_all t4 55 k89.ora rfl, e89, h', hg, hw', hzl, decide_true, Int.natCast_nonneg, Int.toNat_natCast, List.length_map, Nat.reduceLT]
      simp only [F1, bodyRes, one, ains, appG, clsOf, abin, aint, aun, dnext, rowsOf, loadObj, cellsOf, ofCells, bnd, hmerge, Nat.reduceBEq, Nat.reduceAdd, reduceIte, Nat.reduceEqDiff, Nat.reduceLeDiff, Int.reduceEq, reduceCtorEq, Int.reduceBEq, Int.reduceBNe, Int.reduceLT, Int.reduceNeg, fn48_res, fn48_keep, hno, fz, fzd, fzd.fzcells]
      rfl
  · have h' : ¬ (j : Int) < (l.length : Int) := by omega
    have hjl : j = z.length := by omega
    rw [hjl, List.take_length] at hu
    simp only [D0, ains, appG, clsOf, abin, aint, aun, dnext, rowsOf, loadObj, cellsOf, ofCells, bnd, hmerge, Nat.reduceBEq, Nat.reduceAdd, reduceIte, Nat.reduceEqDiff, Nat.reduceLeDiff, Int.reduceEq, reduceCtorEq, Int.reduceBEq, Int.reduceBNe, Int.reduceLT, Int.reduceNeg, h', decide_false]
    refine .inr ⟨by simp, ?_⟩
    simp only [F1, bodyRes, one, ains, appG, clsOf, abin, aint, aun, dnext, rowsOf, loadObj, cellsOf, ofCells, bnd, hmerge, Nat.reduceBEq, Nat.reduceAdd, reduceIte, Nat.reduceEqDiff, Nat.reduceLeDiff, Int.reduceEq, reduceCtorEq, Int.reduceBEq, Int.reduceBNe, Int.reduceLT, Int.reduceNeg, fn48_res, fn48_keep, hu, fz, fzd, fzd.fzcells, Option.getD_some, Option.isSome_some]
theorem setInj0 : ∀ a b : List (Int × Int), [(AV.list 2 (List.map (fun x => [AV.int .i64 x.1, AV.int .i64 x.2]) (a)))] = [(AV.list 2 (List.map (fun x => [AV.int .i64 x.1, AV.int .i64 x.2]) (b)))] → a = b := setInj
noncomputable def k48 : Kon ((List (Int × Int))) := ⟨fun x => x.length ≤ 1000000, fun x => [(AV.list 2 (List.map (fun x => [AV.int .i64 x.1, AV.int .i64 x.2]) (x)))], fun x => .tuple [(AV.list 2 (List.map (fun x => [AV.int .i64 x.1, AV.int .i64 x.2]) (ofV x))), .bool (ofB x)]⟩
theorem e48 (l : List (Int × Int)) (hd : l.length ≤ 1000000) (q0 : Id) (H0 : Heap) : k48.ora q0 ([(AV.list 2 (List.map (fun x => [AV.int .i64 x.1, AV.int .i64 x.2]) (l)))]) H0 = some (.tuple [(AV.list 2 (List.map (fun x => [AV.int .i64 x.1, AV.int .i64 x.2]) (ofV l))), .bool (ofB l)], H0) := k48.eq (setInj0) (l) hd q0 H0
theorem ook48 : OraOK Tryz.prog (28 % 100000) k48.ora := k48.ok orders t4_ok (fun x hd => by simp [k48, PU]) (fun x hd => by simp [k48, PU]) (fun x hd => run48 x hd)

end Go.Proofs.Abs
