/- A part of a proof: the text that states the row tells what is proved. No condition is laid on anything. -/
import Derived.Test.YtgcncpedpjjjeaaAbsL8
import Derived.Test.YtgcncpedpjjjeaaAbsN1
set_option linter.all false
set_option linter.constructorNameAsVariable false
set_option linter.defProp false
set_option linter.unusedVariables false
set_option linter.unusedSimpArgs false
set_option maxRecDepth 100000
set_option maxHeartbeats 16000000
namespace Go.Proofs.Abs
open Go
/-! 9: caesuralaw12.SmartChains. -/
theorem run9 (a b c : List Nd) (wa : WfT a) (wb : WfT b) (wc : WfT c) : cwp q9 9 [] [(AV.list 5 (List.map eNd a)), (AV.list 5 (List.map eNd b)), (AV.list 5 (List.map eNd c))] [] (fun v H => v = .bool true ∧ H = []) := by
  refine run_fn (fn := fn9) rfl rfl ?_
  by_cases l3 : IntKind.i64.wrap (IntKind.i64.wrap ((a.length : Int) + (b.length : Int)) + (c.length : Int)) > 100
  case pos =>
    simp (maxSteps := 2000000) only [fn9_body, c9, D0, ains, clsOf, abin, aint, aun, dnext, rowsOf, loadObj, cellsOf, ofCells, bnd, hmerge, Nat.reduceBEq, Nat.reduceAdd, reduceIte, Nat.reduceEqDiff, Nat.reduceLeDiff, Int.reduceEq, reduceCtorEq, Int.reduceBEq, Int.reduceBNe, Int.reduceLT, Int.reduceNeg, @use_all q9 16 k16.ora rfl, e16, @use_all q9 30 k30.ora rfl, e30, @use_all q9 37 kW.ora rfl, eW, l3]
    simp only [F1, bodyRes, one, ains, clsOf, abin, aint, aun, dnext, rowsOf, loadObj, cellsOf, ofCells, bnd, hmerge, Nat.reduceBEq, Nat.reduceAdd, reduceIte, Nat.reduceEqDiff, Nat.reduceLeDiff, Int.reduceEq, reduceCtorEq, Int.reduceBEq, Int.reduceBNe, Int.reduceLT, Int.reduceNeg, fn9_res, fn9_keep]
  by_cases ba : goodT a = false
  case pos =>
    simp (maxSteps := 2000000) only [fn9_body, c9, D0, ains, clsOf, abin, aint, aun, dnext, rowsOf, loadObj, cellsOf, ofCells, bnd, hmerge, Nat.reduceBEq, Nat.reduceAdd, reduceIte, Nat.reduceEqDiff, Nat.reduceLeDiff, Int.reduceEq, reduceCtorEq, Int.reduceBEq, Int.reduceBNe, Int.reduceLT, Int.reduceNeg, @use_all q9 16 k16.ora rfl, e16, @use_all q9 30 k30.ora rfl, e30, @use_all q9 37 kW.ora rfl, eW, l3, wa, ba]
    simp only [F1, bodyRes, one, ains, clsOf, abin, aint, aun, dnext, rowsOf, loadObj, cellsOf, ofCells, bnd, hmerge, Nat.reduceBEq, Nat.reduceAdd, reduceIte, Nat.reduceEqDiff, Nat.reduceLeDiff, Int.reduceEq, reduceCtorEq, Int.reduceBEq, Int.reduceBNe, Int.reduceLT, Int.reduceNeg, fn9_res, fn9_keep]
  have oa : goodT a = true := by simpa using ba
  by_cases bb : goodT b = false
  case pos =>
    simp (maxSteps := 2000000) only [fn9_body, c9, D0, ains, clsOf, abin, aint, aun, dnext, rowsOf, loadObj, cellsOf, ofCells, bnd, hmerge, Nat.reduceBEq, Nat.reduceAdd, reduceIte, Nat.reduceEqDiff, Nat.reduceLeDiff, Int.reduceEq, reduceCtorEq, Int.reduceBEq, Int.reduceBNe, Int.reduceLT, Int.reduceNeg, @use_all q9 16 k16.ora rfl, e16, @use_all q9 30 k30.ora rfl, e30, @use_all q9 37 kW.ora rfl, eW, l3, wa, oa, wb, bb]
    simp only [F1, bodyRes, one, ains, clsOf, abin, aint, aun, dnext, rowsOf, loadObj, cellsOf, ofCells, bnd, hmerge, Nat.reduceBEq, Nat.reduceAdd, reduceIte, Nat.reduceEqDiff, Nat.reduceLeDiff, Int.reduceEq, reduceCtorEq, Int.reduceBEq, Int.reduceBNe, Int.reduceLT, Int.reduceNeg, fn9_res, fn9_keep]
  have ob : goodT b = true := by simpa using bb
  by_cases bc : goodT c = false
  case pos =>
    simp (maxSteps := 2000000) only [fn9_body, c9, D0, ains, clsOf, abin, aint, aun, dnext, rowsOf, loadObj, cellsOf, ofCells, bnd, hmerge, Nat.reduceBEq, Nat.reduceAdd, reduceIte, Nat.reduceEqDiff, Nat.reduceLeDiff, Int.reduceEq, reduceCtorEq, Int.reduceBEq, Int.reduceBNe, Int.reduceLT, Int.reduceNeg, @use_all q9 16 k16.ora rfl, e16, @use_all q9 30 k30.ora rfl, e30, @use_all q9 37 kW.ora rfl, eW, l3, wa, oa, wb, ob, wc, bc]
    simp only [F1, bodyRes, one, ains, clsOf, abin, aint, aun, dnext, rowsOf, loadObj, cellsOf, ofCells, bnd, hmerge, Nat.reduceBEq, Nat.reduceAdd, reduceIte, Nat.reduceEqDiff, Nat.reduceLeDiff, Int.reduceEq, reduceCtorEq, Int.reduceBEq, Int.reduceBNe, Int.reduceLT, Int.reduceNeg, fn9_res, fn9_keep]
  have oc : goodT c = true := by simpa using bc
  by_cases ga : large a = true
  case pos =>
    simp (maxSteps := 2000000) only [fn9_body, c9, D0, ains, clsOf, abin, aint, aun, dnext, rowsOf, loadObj, cellsOf, ofCells, bnd, hmerge, Nat.reduceBEq, Nat.reduceAdd, reduceIte, Nat.reduceEqDiff, Nat.reduceLeDiff, Int.reduceEq, reduceCtorEq, Int.reduceBEq, Int.reduceBNe, Int.reduceLT, Int.reduceNeg, @use_all q9 16 k16.ora rfl, e16, @use_all q9 30 k30.ora rfl, e30, @use_all q9 37 kW.ora rfl, eW, l3, wa, oa, wb, ob, wc, oc, wa, ga]
    simp only [F1, bodyRes, one, ains, clsOf, abin, aint, aun, dnext, rowsOf, loadObj, cellsOf, ofCells, bnd, hmerge, Nat.reduceBEq, Nat.reduceAdd, reduceIte, Nat.reduceEqDiff, Nat.reduceLeDiff, Int.reduceEq, reduceCtorEq, Int.reduceBEq, Int.reduceBNe, Int.reduceLT, Int.reduceNeg, fn9_res, fn9_keep]
  have la : large a = false := by simpa using ga
  by_cases gb : large b = true
  case pos =>
    simp (maxSteps := 2000000) only [fn9_body, c9, D0, ains, clsOf, abin, aint, aun, dnext, rowsOf, loadObj, cellsOf, ofCells, bnd, hmerge, Nat.reduceBEq, Nat.reduceAdd, reduceIte, Nat.reduceEqDiff, Nat.reduceLeDiff, Int.reduceEq, reduceCtorEq, Int.reduceBEq, Int.reduceBNe, Int.reduceLT, Int.reduceNeg, @use_all q9 16 k16.ora rfl, e16, @use_all q9 30 k30.ora rfl, e30, @use_all q9 37 kW.ora rfl, eW, l3, wa, oa, wb, ob, wc, oc, wa, la, wb, gb]
    simp only [F1, bodyRes, one, ains, clsOf, abin, aint, aun, dnext, rowsOf, loadObj, cellsOf, ofCells, bnd, hmerge, Nat.reduceBEq, Nat.reduceAdd, reduceIte, Nat.reduceEqDiff, Nat.reduceLeDiff, Int.reduceEq, reduceCtorEq, Int.reduceBEq, Int.reduceBNe, Int.reduceLT, Int.reduceNeg, fn9_res, fn9_keep]
  have lb : large b = false := by simpa using gb
  by_cases gc : large c = true
  case pos =>
    simp (maxSteps := 2000000) only [fn9_body, c9, D0, ains, clsOf, abin, aint, aun, dnext, rowsOf, loadObj, cellsOf, ofCells, bnd, hmerge, Nat.reduceBEq, Nat.reduceAdd, reduceIte, Nat.reduceEqDiff, Nat.reduceLeDiff, Int.reduceEq, reduceCtorEq, Int.reduceBEq, Int.reduceBNe, Int.reduceLT, Int.reduceNeg, @use_all q9 16 k16.ora rfl, e16, @use_all q9 30 k30.ora rfl, e30, @use_all q9 37 kW.ora rfl, eW, l3, wa, oa, wb, ob, wc, oc, wa, la, wb, lb, wc, gc]
    simp only [F1, bodyRes, one, ains, clsOf, abin, aint, aun, dnext, rowsOf, loadObj, cellsOf, ofCells, bnd, hmerge, Nat.reduceBEq, Nat.reduceAdd, reduceIte, Nat.reduceEqDiff, Nat.reduceLeDiff, Int.reduceEq, reduceCtorEq, Int.reduceBEq, Int.reduceBNe, Int.reduceLT, Int.reduceNeg, fn9_res, fn9_keep]
  have lc : large c = false := by simpa using gc
  have hla := large_len la
  have hlb := large_len lb
  have hlc := large_len lc
  have hsum : a.length + b.length + c.length ≤ 100 := by
    rw [wrap64 (by rw [wrap64 (by omega) (by omega)]; omega) (by rw [wrap64 (by omega) (by omega)]; omega), wrap64 (by omega) (by omega)] at l3
    omega
  have sa := large_set wa la
  have sb := large_set wb lb
  have sc := large_set wc lc
  obtain ⟨x, hx, rfl⟩ := okS_of ⟨sa, oa⟩
  obtain ⟨y, hy, rfl⟩ := okS_of ⟨sb, ob⟩
  obtain ⟨z, hz, rfl⟩ := okS_of ⟨sc, oc⟩
  rw [enc_len, enc_len, enc_len] at hsum
  have cx := cleanS_enc hx
  have cy := cleanS_enc hy
  have cz := cleanS_enc hz
  have op := okS_clean hx
  have oq := okS_clean hy
  have os := okS_clean hz
  have np := nf_sClean x hx.1
  have nq := nf_sClean y hy.1
  have ns := nf_sClean z hz.1
  have bp := sz_sClean x
  have bq := sz_sClean y
  have bs := sz_sClean z
  have dx := dom_s hx
  have dy := dom_s hy
  have dz := dom_s hz
  generalize sClean x = p at *
  generalize sClean y = q at *
  generalize sClean z = s at *
  have z1 := sz_sCat q p
  have z2 := sz_sCat s q
  have z3 := sz_sAlt p q
  have z4 := sz_sAlt q s
  have z5 := sz_sAlt (sAlt p q) s
  have t1 := cat_small op oq (by omega)
  have o1 : OkS (sCat p q) := ok_catO op oq (catO_some _ _ (by omega))
  have t2 := cat_small o1 os (by omega)
  have o2 : OkS (sCat (sCat p q) s) := ok_catO o1 os (catO_some _ _ (by omega))
  have t3 := cat_small oq os (by omega)
  have o3 : OkS (sCat q s) := ok_catO oq os (catO_some _ _ (by omega))
  have t4 := cat_small op o3 (by omega)
  rw [← law_cat_assoc np nq ns] at t4
  have t5 := alt_small op oq (by omega)
  have o5 : OkS (sAlt p q) := ok_altO op oq (altO_some (by omega))
  have t6 := alt_small o5 os (by omega)
  have o6 : OkS (sAlt (sAlt p q) s) := ok_altO o5 os (altO_some (by omega))
  have t7 := alt_small oq os (by omega)
  have o7 : OkS (sAlt q s) := ok_altO oq os (altO_some (by omega))
  have t8 := alt_small op o7 (by omega)
  rw [← law_alt_assoc np nq ns] at t8
  have t9 := alt_small o6 o5 (by omega)
  rw [law_alt_again (nf_sAlt np nq) ns] at t9
  generalize sCat (sCat p q) s = u1 at *
  generalize sCat p q = u2 at *
  generalize sCat q s = u3 at *
  generalize sAlt (sAlt p q) s = u4 at *
  generalize sAlt p q = u5 at *
  generalize sAlt q s = u6 at *
  have d1 := dom_p op oq
  have d2 := dom_p o1 os
  have d3 := dom_p oq os
  have d4 := dom_p op o3
  have d5 := dom_p o5 os
  have d6 := dom_p op o7
  have d7 := dom_p o6 o5
  have m1 := o2.sm
  have m2 := o6.sm
  have same := sameT_self
  simp (maxSteps := 2000000) only [fn9_body, c9, D0, ains, clsOf, abin, aint, aun, dnext, rowsOf, loadObj, cellsOf, ofCells, bnd, hmerge, Nat.reduceBEq, Nat.reduceAdd, reduceIte, Nat.reduceEqDiff, Nat.reduceLeDiff, Int.reduceEq, reduceCtorEq, Int.reduceBEq, Int.reduceBNe, Int.reduceLT, Int.reduceNeg, @use_all q9 16 k16.ora rfl, e16, @use_all q9 30 k30.ora rfl, e30, @use_all q9 33 k33.ora rfl, e33, @use_all q9 38 k38.ora rfl, e38, @use_all q9 39 k39.ora rfl, e39, @use_all q9 41 k41.ora rfl, e41, @use_all q9 37 kW.ora rfl, eW, l3, wa, oa, wb, ob, wc, oc, wa, la, wb, lb, wc, lc, dx, dy, dz, cx, cy, cz, t1, t2, t3, t4, t5, t6, t7, t8, t9, d1, d2, d3, d4, d5, d6, d7, m1, m2, same, resO, encO, Option.isSome_some]
  simp only [F1, bodyRes, one, ains, clsOf, abin, aint, aun, dnext, rowsOf, loadObj, cellsOf, ofCells, bnd, hmerge, Nat.reduceBEq, Nat.reduceAdd, reduceIte, Nat.reduceEqDiff, Nat.reduceLeDiff, Int.reduceEq, reduceCtorEq, Int.reduceBEq, Int.reduceBNe, Int.reduceLT, Int.reduceNeg, fn9_res, fn9_keep]
end Go.Proofs.Abs
