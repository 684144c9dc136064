/- A part of a proof: the text that states the row tells what is proved. No condition is laid on anything. -/
import Derived.Test.YtligpalonlliaaaGreatAbsY12
set_option linter.all false
set_option linter.constructorNameAsVariable false
set_option linter.defProp false
set_option linter.unusedVariables false
set_option linter.unusedSimpArgs false
set_option maxRecDepth 100000
set_option maxHeartbeats 16000000
namespace Go.Proofs.Abs
open Go
/-! 125, 101, 61: caesuraref03.Size. -/
def belV (v : Int) : Int := if v ≤ 55296 then v else (if v < 57344 then 57344 else v) - 2048
theorem run125 (v : Int) (h0 : 0 ≤ v) (h1 : v ≤ 1114112) : cwp s6 81 [] [.int .i64 v] [] (fun r H => r = .int .i64 (belV v) ∧ H = []) := by
  refine run_fn (fn := fn125) rfl rfl ?_
  have e1 : (if 1114112 < v then 1114112 else v) = v := if_neg (by omega)
  have e2 : (if 0 < v then v else 0) = v := by split <;> omega
  by_cases h : v ≤ 55296
  · have e : belV v = v := by simp [belV, h]
    simp only [fn125_body, c125, D0, ains, appG, clsOf, abin, aint, aun, dnext, rowsOf, loadObj, cellsOf, ofCells, bnd, hmerge, Nat.reduceBEq, Nat.reduceAdd, reduceIte, Nat.reduceEqDiff, Nat.reduceLeDiff, Int.reduceEq, reduceCtorEq, Int.reduceBEq, Int.reduceBNe, Int.reduceLT, Int.reduceNeg, e1, e2, h, decide_true]
    simp only [F1, bodyRes, one, ains, appG, clsOf, abin, aint, aun, dnext, rowsOf, loadObj, cellsOf, ofCells, bnd, hmerge, Nat.reduceBEq, Nat.reduceAdd, reduceIte, Nat.reduceEqDiff, Nat.reduceLeDiff, Int.reduceEq, reduceCtorEq, Int.reduceBEq, Int.reduceBNe, Int.reduceLT, Int.reduceNeg, fn125_res, fn125_keep, e]
  · have e : belV v = (if v < 57344 then 57344 else v) - 2048 := by simp [belV, h]
    have hb : 57344 ≤ (if v < 57344 then 57344 else v) ∧ (if v < 57344 then 57344 else v) ≤ 1114112 := by split <;> omega
    have w : IntKind.i64.wrap ((if v < 57344 then 57344 else v) - 2048) = (if v < 57344 then 57344 else v) - 2048 := wrap64 (by omega) (by omega)
    simp only [fn125_body, c125, D0, ains, appG, clsOf, abin, aint, aun, dnext, rowsOf, loadObj, cellsOf, ofCells, bnd, hmerge, Nat.reduceBEq, Nat.reduceAdd, reduceIte, Nat.reduceEqDiff, Nat.reduceLeDiff, Int.reduceEq, reduceCtorEq, Int.reduceBEq, Int.reduceBNe, Int.reduceLT, Int.reduceNeg, e1, e2, h, decide_false, w]
    simp only [F1, bodyRes, one, ains, appG, clsOf, abin, aint, aun, dnext, rowsOf, loadObj, cellsOf, ofCells, bnd, hmerge, Nat.reduceBEq, Nat.reduceAdd, reduceIte, Nat.reduceEqDiff, Nat.reduceLeDiff, Int.reduceEq, reduceCtorEq, Int.reduceBEq, Int.reduceBNe, Int.reduceLT, Int.reduceNeg, fn125_res, fn125_keep, e]
noncomputable def k125 : Kon (Int) := ⟨fun x => 0 ≤ x ∧ x ≤ 1114112, fun x => [.int .i64 x], fun x => .int .i64 (belV x)⟩
theorem e125 (v : Int) (hd : 0 ≤ v ∧ v ≤ 1114112) (q0 : Id) (H0 : Heap) : k125.ora q0 ([.int .i64 v]) H0 = some (.int .i64 (belV v), H0) := k125.eq (intInj) (v) hd q0 H0
theorem ook125 : OraOK Tryz.prog (81 % 100000) k125.ora := k125.ok orders s6_ok (fun x hd => by simp [k125, PU]) (fun x hd => by simp [k125, PU]) (fun x hd => run125 x hd.1 hd.2)

noncomputable def s7 : FT := upd (upd (upd (s6) 30 k59.ora) 56 k120.ora) 81 k125.ora
theorem s7_ok : FTOK Tryz.prog s7 := upd_ok2 (f := 81) (upd_ok2 (f := 56) (upd_ok2 (f := 30) (s6_ok) ook59) ook120) ook125

theorem run101 (a b : Int) (ha : isS a = true) (hb : isS b = true) (hab : a ≤ b) : cwp s7 61 [] [.int .i64 a, .int .i64 b] [] (fun r H => r = .int .i64 (cntV a b) ∧ H = []) := by
  refine run_fn (fn := fn101) rfl rfl ?_
  have d1 := isS_iff.1 ha
  have d2 := isS_iff.1 hb
  have n1 : ¬ a > b := by omega
  have n2 : ¬ b < 0 := by omega
  have n3 : ¬ a > 1114111 := by omega
  have e1 : (if 1114111 < b then 1114111 else b) = b := if_neg (by omega)
  have w1 : IntKind.i64.wrap (b + 1) = b + 1 := wrap64 (by omega) (by omega)
  have k1 : 0 ≤ b + 1 := by omega
  have k2 : b + 1 ≤ 1114112 := by omega
  have k3 : 0 ≤ a := by omega
  have k4 : a ≤ 1114112 := by omega
  have w2 : IntKind.i64.wrap (belV (b + 1) - belV a) = cntV a b := by
    have : belV (b + 1) - belV a = cntV a b := by unfold belV cntV numV; (repeat' split) <;> omega
    rw [this, wrap64] <;> (unfold cntV numV; (repeat' split) <;> omega)
  simp only [fn101_body, c101, D0, ains, appG, clsOf, abin, aint, aun, dnext, rowsOf, loadObj, cellsOf, ofCells, bnd, hmerge, Nat.reduceBEq, Nat.reduceAdd, reduceIte, Nat.reduceEqDiff, Nat.reduceLeDiff, Int.reduceEq, reduceCtorEq, Int.reduceBEq, Int.reduceBNe, Int.reduceLT, Int.reduceNeg, @use_all s7 81 k125.ora rfl, e125, n1, n2, n3, e1, w1, k1, k2, k3, k4, w2, decide_false]
  simp only [F1, bodyRes, one, ains, appG, clsOf, abin, aint, aun, dnext, rowsOf, loadObj, cellsOf, ofCells, bnd, hmerge, Nat.reduceBEq, Nat.reduceAdd, reduceIte, Nat.reduceEqDiff, Nat.reduceLeDiff, Int.reduceEq, reduceCtorEq, Int.reduceBEq, Int.reduceBNe, Int.reduceLT, Int.reduceNeg, fn101_res, fn101_keep]
noncomputable def k101 : Kon (Int × Int) := ⟨fun x => isS x.1 = true ∧ isS x.2 = true ∧ x.1 ≤ x.2, fun x => [.int .i64 x.1, .int .i64 x.2], fun x => .int .i64 (cntV x.1 x.2)⟩
theorem e101 (a : Int) (b : Int) (hd : isS a = true ∧ isS b = true ∧ a ≤ b) (q0 : Id) (H0 : Heap) : k101.ora q0 ([.int .i64 a, .int .i64 b]) H0 = some (.int .i64 (cntV a b), H0) := k101.eq (int2Inj) (a, b) hd q0 H0
theorem ook101 : OraOK Tryz.prog (61 % 100000) k101.ora := k101.ok orders s7_ok (fun x hd => by simp [k101, PU]) (fun x hd => by simp [k101, PU]) (fun x hd => run101 x.1 x.2 hd.1 hd.2.1 hd.2.2)

noncomputable def s8 : FT := upd (s7) 61 k101.ora
theorem s8_ok : FTOK Tryz.prog s8 := upd_ok2 (f := 61) (s7_ok) ook101

theorem run61 (s : List R2) (hs : s.length ≤ 1000000) : cwp s8 40 [] [(AV.list 2 (List.map (fun x => [AV.int .i64 x.1, AV.int .i64 x.2]) (s)))] [] (fun r H => r = .int .i64 (sizeS s) ∧ H = []) := by
  refine run_fn (fn := fn61) rfl rfl ?_
  have ls : s.length ≤ 9223372036854775807 := by omega
  cases gs : goodS s with
  | false =>
    have e : sizeS s = 0 := by simp [sizeS, gs]
    simp only [fn61_body, c61, D0, ains, appG, clsOf, abin, aint, aun, dnext, rowsOf, loadObj, cellsOf, ofCells, bnd, hmerge, Nat.reduceBEq, Nat.reduceAdd, reduceIte, Nat.reduceEqDiff, Nat.reduceLeDiff, Int.reduceEq, reduceCtorEq, Int.reduceBEq, Int.reduceBNe, Int.reduceLT, Int.reduceNeg]
    refine lg_rule (fun j e H => j = 0 ∧ e = [(0, (AV.list 2 (List.map (fun x => [AV.int .i64 x.1, AV.int .i64 x.2]) (s)))), (2, .int .i64 0), (3, .int .i64 0), (4, .int .i64 0)] ∧ H = [[]]) 0 ?_ ?_
    · exact ⟨rfl, rfl, rfl⟩
    rintro j e' H ⟨rfl, rfl, rfl⟩
    by_cases h : 0 < s.length
    · have h' : (0 : Int) < (s.length : Int) := by omega
      simp only [D0, ains, appG, clsOf, abin, aint, aun, dnext, rowsOf, loadObj, cellsOf, ofCells, bnd, hmerge, Nat.reduceBEq, Nat.reduceAdd, reduceIte, Nat.reduceEqDiff, Nat.reduceLeDiff, Int.reduceEq, reduceCtorEq, Int.reduceBEq, Int.reduceBNe, Int.reduceLT, Int.reduceNeg, @use_all s8 19 k57.ora rfl, e57, ls, gs, h', decide_true]
      refine .inr ⟨by simp, ?_⟩
      simp only [F1, bodyRes, one, ains, appG, clsOf, abin, aint, aun, dnext, rowsOf, loadObj, cellsOf, ofCells, bnd, hmerge, Nat.reduceBEq, Nat.reduceAdd, reduceIte, Nat.reduceEqDiff, Nat.reduceLeDiff, Int.reduceEq, reduceCtorEq, Int.reduceBEq, Int.reduceBNe, Int.reduceLT, Int.reduceNeg, fn61_res, fn61_keep, e]
    · have h' : ¬ (0 : Int) < (s.length : Int) := by omega
      simp only [D0, ains, appG, clsOf, abin, aint, aun, dnext, rowsOf, loadObj, cellsOf, ofCells, bnd, hmerge, Nat.reduceBEq, Nat.reduceAdd, reduceIte, Nat.reduceEqDiff, Nat.reduceLeDiff, Int.reduceEq, reduceCtorEq, Int.reduceBEq, Int.reduceBNe, Int.reduceLT, Int.reduceNeg, @use_all s8 19 k57.ora rfl, e57, ls, gs, h', decide_false]
      refine .inr ⟨by simp, ?_⟩
      simp only [F1, bodyRes, one, ains, appG, clsOf, abin, aint, aun, dnext, rowsOf, loadObj, cellsOf, ofCells, bnd, hmerge, Nat.reduceBEq, Nat.reduceAdd, reduceIte, Nat.reduceEqDiff, Nat.reduceLeDiff, Int.reduceEq, reduceCtorEq, Int.reduceBEq, Int.reduceBNe, Int.reduceLT, Int.reduceNeg, fn61_res, fn61_keep, e]
  | true =>
    have e : sizeS s = sumC s := by simp [sizeS, gs, sumC]
    have gd := (gdL_iff s).1 gs
    rw [e]
    clear e
    simp only [fn61_body, c61, D0, ains, appG, clsOf, abin, aint, aun, dnext, rowsOf, loadObj, cellsOf, ofCells, bnd, hmerge, Nat.reduceBEq, Nat.reduceAdd, reduceIte, Nat.reduceEqDiff, Nat.reduceLeDiff, Int.reduceEq, reduceCtorEq, Int.reduceBEq, Int.reduceBNe, Int.reduceLT, Int.reduceNeg]
    refine lg_rule (fun j e H => ∃ n : Int, n = sumC (s.take j) ∧ 0 ≤ n ∧ n ≤ 2228224 * j ∧ e = [(0, (AV.list 2 (List.map (fun x => [AV.int .i64 x.1, AV.int .i64 x.2]) (s)))), (2, .int .i64 0), (3, .int .i64 n), (4, .int .i64 j)] ∧ H = [[]] ∧ j ≤ s.length) s.length ?_ ?_
    · exact ⟨0, rfl, by simp, by simp, rfl, rfl, by simp⟩
    rintro j e H ⟨n, hn, hn0, hn1, rfl, rfl, hj⟩
    simp only [D0, ains, appG, clsOf, abin, aint, aun, dnext, rowsOf, loadObj, cellsOf, ofCells, bnd, hmerge, Nat.reduceBEq, Nat.reduceAdd, reduceIte, Nat.reduceEqDiff, Nat.reduceLeDiff, Int.reduceEq, reduceCtorEq, Int.reduceBEq, Int.reduceBNe, Int.reduceLT, Int.reduceNeg]
    by_cases h : j < s.length
    · have h' : (j : Int) < (s.length : Int) := by omega
      have hp := wrapp (j := j) (by omega)
      have hg := map_get (f := fun x : Int × Int => [AV.int .i64 x.1, AV.int .i64 x.2]) h (0, 0)
      have hsn := sumC_snoc (s.take j) (s.getD j (0, 0))
      rw [← take_snoc h] at hsn
      have hw := gd.whole _ (getD_mem' h)
      generalize s.getD j (0, 0) = r at hg hsn hw
      obtain ⟨a, b⟩ := r
      obtain ⟨w1, w2, w3⟩ := wholeS_iff.1 hw
      have d1 := isS_iff.1 w1
      have d2 := isS_iff.1 w2
      simp only at d1 d2 w1 w2 w3
      have n1 := numV_le (show 0 ≤ a by omega) (show min b 55295 ≤ 1114111 by omega)
      have n2 := numV_le (show 0 ≤ max a 57344 by omega) (show b ≤ 1114111 by omega)
      have hc : 0 ≤ cntV a b ∧ cntV a b ≤ 2228224 := by unfold cntV; omega
      have hwr : IntKind.i64.wrap (n + cntV a b) = n + cntV a b := wrap64 (by omega) (by omega)
      simp only [D0, ains, appG, clsOf, abin, aint, aun, dnext, rowsOf, loadObj, cellsOf, ofCells, bnd, hmerge, Nat.reduceBEq, Nat.reduceAdd, reduceIte, Nat.reduceEqDiff, Nat.reduceLeDiff, Int.reduceEq, reduceCtorEq, Int.reduceBEq, Int.reduceBNe, Int.reduceLT, Int.reduceNeg, @use_all s8 19 k57.ora rfl, e57, @use_all s8 61 k101.ora rfl, e101, ls, gs, h', hg, hp, w1, w2, w3, hwr, lrc_x, apx, apart, apart1, needs, decide_true, Int.natCast_nonneg, Int.toNat_natCast]
      simp only [F1, bodyRes, one, ains, appG, clsOf, abin, aint, aun, dnext, rowsOf, loadObj, cellsOf, ofCells, bnd, hmerge, Nat.reduceBEq, Nat.reduceAdd, reduceIte, Nat.reduceEqDiff, Nat.reduceLeDiff, Int.reduceEq, reduceCtorEq, Int.reduceBEq, Int.reduceBNe, Int.reduceLT, Int.reduceNeg]
      exact ⟨h, _, by rw [hsn, hn], by omega, by omega, rfl, h⟩
    · have h' : ¬ (j : Int) < (s.length : Int) := by omega
      have hjl : j = s.length := by omega
      subst hjl
      rw [List.take_length] at hn
      simp only [D0, ains, appG, clsOf, abin, aint, aun, dnext, rowsOf, loadObj, cellsOf, ofCells, bnd, hmerge, Nat.reduceBEq, Nat.reduceAdd, reduceIte, Nat.reduceEqDiff, Nat.reduceLeDiff, Int.reduceEq, reduceCtorEq, Int.reduceBEq, Int.reduceBNe, Int.reduceLT, Int.reduceNeg, h', decide_false]
      refine .inr ⟨by simp, ?_⟩
      simp only [F1, bodyRes, one, ains, appG, clsOf, abin, aint, aun, dnext, rowsOf, loadObj, cellsOf, ofCells, bnd, hmerge, Nat.reduceBEq, Nat.reduceAdd, reduceIte, Nat.reduceEqDiff, Nat.reduceLeDiff, Int.reduceEq, reduceCtorEq, Int.reduceBEq, Int.reduceBNe, Int.reduceLT, Int.reduceNeg, fn61_res, fn61_keep, hn]
noncomputable def k61 : Kon ((List (Int × Int))) := ⟨fun x => x.length ≤ 1000000, fun x => [(AV.list 2 (List.map (fun x => [AV.int .i64 x.1, AV.int .i64 x.2]) (x)))], fun x => .int .i64 (sizeS x)⟩
theorem e61 (s : List (Int × Int)) (hd : s.length ≤ 1000000) (q0 : Id) (H0 : Heap) : k61.ora q0 ([(AV.list 2 (List.map (fun x => [AV.int .i64 x.1, AV.int .i64 x.2]) (s)))]) H0 = some (.int .i64 (sizeS s), H0) := k61.eq (setInj) (s) hd q0 H0
theorem ook61 : OraOK Tryz.prog (40 % 100000) k61.ora := k61.ok orders s8_ok (fun x hd => by simp [k61, PU]) (fun x hd => by simp [k61, PU]) (fun x hd => run61 x hd)

end Go.Proofs.Abs
