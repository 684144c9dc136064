/- A part of a proof: the text that states the row tells what is proved. No condition is laid on anything. -/
import Derived.Test.YtgcncpedpjjjeaaAbsL8
import Derived.Test.YtgcncpedpjjjeaaAbsN2
import Derived.Test.YtgcncpedpjjjeaaAbsT4
set_option linter.all false
set_option linter.constructorNameAsVariable false
set_option linter.defProp false
set_option linter.unusedVariables false
set_option linter.unusedSimpArgs false
set_option maxRecDepth 100000
set_option maxHeartbeats 16000000
namespace Go.Proofs.Abs
open Go
/-! 10: caesuralaw12.SmartTakes. -/
noncomputable def q10 : FT := upd (upd (q9) 58 k58.ora) 31 k31.ora
theorem q10_ok : FTOK Try.prog q10 := upd_ok2 (f := 31) (upd_ok2 (f := 58) (q9_ok) ook58) ook31

theorem run10 (a b : List Nd) (l : List Int) (wa : WfT a) (wb : WfT b) (wl : l.length ≤ 9223372036854775807 ∧ ∀ x ∈ l, I64 x) : cwp q10 10 [] [(AV.list 5 (List.map eNd a)), (AV.list 5 (List.map eNd b)), (AV.list 1 (List.map (fun x => [AV.int .i64 x]) (l)))] [] (fun v H => v = .bool true ∧ H = []) := by
  refine run_fn (fn := fn10) rfl rfl ?_
  by_cases ga : large a = true
  case pos =>
    simp (maxSteps := 2000000) only [fn10_body, c10, D0, ains, clsOf, abin, aint, aun, dnext, rowsOf, loadObj, cellsOf, ofCells, bnd, hmerge, Nat.reduceBEq, Nat.reduceAdd, reduceIte, Nat.reduceEqDiff, Nat.reduceLeDiff, Int.reduceEq, reduceCtorEq, Int.reduceBEq, Int.reduceBNe, Int.reduceLT, Int.reduceNeg, @use_all q10 16 k16.ora rfl, e16, @use_all q10 30 k30.ora rfl, e30, @use_all q10 37 kW.ora rfl, eW, wa, ga]
    simp only [F1, bodyRes, one, ains, clsOf, abin, aint, aun, dnext, rowsOf, loadObj, cellsOf, ofCells, bnd, hmerge, Nat.reduceBEq, Nat.reduceAdd, reduceIte, Nat.reduceEqDiff, Nat.reduceLeDiff, Int.reduceEq, reduceCtorEq, Int.reduceBEq, Int.reduceBNe, Int.reduceLT, Int.reduceNeg, fn10_res, fn10_keep]
  have la : large a = false := by simpa using ga
  by_cases gb : large b = true
  case pos =>
    simp (maxSteps := 2000000) only [fn10_body, c10, D0, ains, clsOf, abin, aint, aun, dnext, rowsOf, loadObj, cellsOf, ofCells, bnd, hmerge, Nat.reduceBEq, Nat.reduceAdd, reduceIte, Nat.reduceEqDiff, Nat.reduceLeDiff, Int.reduceEq, reduceCtorEq, Int.reduceBEq, Int.reduceBNe, Int.reduceLT, Int.reduceNeg, @use_all q10 16 k16.ora rfl, e16, @use_all q10 30 k30.ora rfl, e30, @use_all q10 37 kW.ora rfl, eW, wa, la, wb, gb]
    simp only [F1, bodyRes, one, ains, clsOf, abin, aint, aun, dnext, rowsOf, loadObj, cellsOf, ofCells, bnd, hmerge, Nat.reduceBEq, Nat.reduceAdd, reduceIte, Nat.reduceEqDiff, Nat.reduceLeDiff, Int.reduceEq, reduceCtorEq, Int.reduceBEq, Int.reduceBNe, Int.reduceLT, Int.reduceNeg, fn10_res, fn10_keep]
  have lb : large b = false := by simpa using gb
  by_cases ba : goodT a = false
  case pos =>
    simp (maxSteps := 2000000) only [fn10_body, c10, D0, ains, clsOf, abin, aint, aun, dnext, rowsOf, loadObj, cellsOf, ofCells, bnd, hmerge, Nat.reduceBEq, Nat.reduceAdd, reduceIte, Nat.reduceEqDiff, Nat.reduceLeDiff, Int.reduceEq, reduceCtorEq, Int.reduceBEq, Int.reduceBNe, Int.reduceLT, Int.reduceNeg, @use_all q10 16 k16.ora rfl, e16, @use_all q10 30 k30.ora rfl, e30, @use_all q10 37 kW.ora rfl, eW, wa, la, wb, lb, wa, ba]
    simp only [F1, bodyRes, one, ains, clsOf, abin, aint, aun, dnext, rowsOf, loadObj, cellsOf, ofCells, bnd, hmerge, Nat.reduceBEq, Nat.reduceAdd, reduceIte, Nat.reduceEqDiff, Nat.reduceLeDiff, Int.reduceEq, reduceCtorEq, Int.reduceBEq, Int.reduceBNe, Int.reduceLT, Int.reduceNeg, fn10_res, fn10_keep]
  have oa : goodT a = true := by simpa using ba
  by_cases bb : goodT b = false
  case pos =>
    simp (maxSteps := 2000000) only [fn10_body, c10, D0, ains, clsOf, abin, aint, aun, dnext, rowsOf, loadObj, cellsOf, ofCells, bnd, hmerge, Nat.reduceBEq, Nat.reduceAdd, reduceIte, Nat.reduceEqDiff, Nat.reduceLeDiff, Int.reduceEq, reduceCtorEq, Int.reduceBEq, Int.reduceBNe, Int.reduceLT, Int.reduceNeg, @use_all q10 16 k16.ora rfl, e16, @use_all q10 30 k30.ora rfl, e30, @use_all q10 37 kW.ora rfl, eW, wa, la, wb, lb, wa, oa, wb, bb]
    simp only [F1, bodyRes, one, ains, clsOf, abin, aint, aun, dnext, rowsOf, loadObj, cellsOf, ofCells, bnd, hmerge, Nat.reduceBEq, Nat.reduceAdd, reduceIte, Nat.reduceEqDiff, Nat.reduceLeDiff, Int.reduceEq, reduceCtorEq, Int.reduceBEq, Int.reduceBNe, Int.reduceLT, Int.reduceNeg, fn10_res, fn10_keep]
  have ob : goodT b = true := by simpa using bb
  by_cases l3 : (l.length : Int) > 6
  case pos =>
    simp (maxSteps := 2000000) only [fn10_body, c10, D0, ains, clsOf, abin, aint, aun, dnext, rowsOf, loadObj, cellsOf, ofCells, bnd, hmerge, Nat.reduceBEq, Nat.reduceAdd, reduceIte, Nat.reduceEqDiff, Nat.reduceLeDiff, Int.reduceEq, reduceCtorEq, Int.reduceBEq, Int.reduceBNe, Int.reduceLT, Int.reduceNeg, @use_all q10 16 k16.ora rfl, e16, @use_all q10 30 k30.ora rfl, e30, @use_all q10 37 kW.ora rfl, eW, wa, la, wb, lb, wa, oa, wb, ob, l3]
    simp only [F1, bodyRes, one, ains, clsOf, abin, aint, aun, dnext, rowsOf, loadObj, cellsOf, ofCells, bnd, hmerge, Nat.reduceBEq, Nat.reduceAdd, reduceIte, Nat.reduceEqDiff, Nat.reduceLeDiff, Int.reduceEq, reduceCtorEq, Int.reduceBEq, Int.reduceBNe, Int.reduceLT, Int.reduceNeg, fn10_res, fn10_keep]
  have hla := large_len la
  have hlb := large_len lb
  have e1 : IntKind.i64.wrap ((a.length : Int) + (b.length : Int)) = ((a.length + b.length : Nat) : Int) := by
    rw [wrap64 (by omega) (by omega)]; omega
  by_cases l4 : ((a.length + b.length : Nat) : Int) > 150
  case pos =>
    simp (maxSteps := 2000000) only [fn10_body, c10, D0, ains, clsOf, abin, aint, aun, dnext, rowsOf, loadObj, cellsOf, ofCells, bnd, hmerge, Nat.reduceBEq, Nat.reduceAdd, reduceIte, Nat.reduceEqDiff, Nat.reduceLeDiff, Int.reduceEq, reduceCtorEq, Int.reduceBEq, Int.reduceBNe, Int.reduceLT, Int.reduceNeg, @use_all q10 16 k16.ora rfl, e16, @use_all q10 30 k30.ora rfl, e30, @use_all q10 37 kW.ora rfl, eW, wa, la, wb, lb, wa, oa, wb, ob, l3, e1, l4]
    simp only [F1, bodyRes, one, ains, clsOf, abin, aint, aun, dnext, rowsOf, loadObj, cellsOf, ofCells, bnd, hmerge, Nat.reduceBEq, Nat.reduceAdd, reduceIte, Nat.reduceEqDiff, Nat.reduceLeDiff, Int.reduceEq, reduceCtorEq, Int.reduceBEq, Int.reduceBNe, Int.reduceLT, Int.reduceNeg, fn10_res, fn10_keep]
  have sa := large_set wa la
  have sb := large_set wb lb
  obtain ⟨x, hx, rfl⟩ := okS_of ⟨sa, oa⟩
  obtain ⟨y, hy, rfl⟩ := okS_of ⟨sb, ob⟩
  have zx := enc_len x
  have zy := enc_len y
  have hz : sz x + sz y ≤ 150 := by omega
  have t1 := cat_small hx hy (by omega)
  have t2 := alt_small hx hy (by omega)
  have t3 := star_small hx (by omega)
  have t4 := cleanS_enc hx
  have z1 := sz_sCat y x
  have z2 := sz_sAlt x y
  have z3 := sz_sStar x
  have z4 := sz_sClean x
  have o1 : OkS (sCat x y) := ok_catO hx hy (catO_some _ _ (by omega))
  have o2 : OkS (sAlt x y) := ok_altO hx hy (altO_some (by omega))
  have o3 : OkS (sStar x) := ok_starO hx (starO_some (by omega))
  have o4 := okS_clean hx
  obtain ⟨j1, j2⟩ := encO_join (k := 3) (.inl rfl) hx hy
  obtain ⟨j3, j4⟩ := encO_join (k := 4) (.inr rfl) hx hy
  obtain ⟨j5, j6⟩ := encO_star hx
  have k1 : joinO 3 x y = some (.cat x y) := by simp [joinO]; omega
  have k2 : joinO 4 x y = some (.alt x y) := by simp [joinO]; omega
  have k3 : starJ x = some (.star x) := by simp [starJ]; omega
  have o5 : OkS (.cat x y) := ok_joinO hx hy k1
  have o6 : OkS (.alt x y) := ok_joinO hx hy k2
  have o7 : OkS (.star x) := ⟨hx.1, by simp only [sz]; omega⟩
  have s1 := takes_eq o1 o5 (sem_sCat y x hx.1 hy.1) l
  have s2 := takes_eq o2 o6 (sem_sAlt hx.1 hy.1) l
  have s3 := takes_eq o3 o7 (sem_sStar hx.1) l
  have s4 := takes_eq o4 hx (sem_sClean x hx.1) l
  have i1 : ((enc (sCat x y)).length : Int) ≤ ((enc (.cat x y)).length : Int) := by rw [enc_len, enc_len]; simp only [sz]; omega
  have i2 : ((enc (sAlt x y)).length : Int) ≤ ((enc (.alt x y)).length : Int) := by rw [enc_len, enc_len]; simp only [sz]; omega
  have i3 : ((enc (sStar x)).length : Int) ≤ ((enc (.star x)).length : Int) := by rw [enc_len, enc_len]; simp only [sz]; omega
  have i4 : ((enc (sClean x)).length : Int) ≤ ((enc x).length : Int) := by rw [enc_len, enc_len]; omega
  have hl1 : l.length ≤ 1000000 := by omega
  have w1 : WfT (enc (sCat x y)) ∧ l.length ≤ 1000000 := ⟨o1.sm.wf, hl1⟩
  have w2 : WfT (enc (sAlt x y)) ∧ l.length ≤ 1000000 := ⟨o2.sm.wf, hl1⟩
  have w3 : WfT (enc (sStar x)) ∧ l.length ≤ 1000000 := ⟨o3.sm.wf, hl1⟩
  have w4 : WfT (enc (sClean x)) ∧ l.length ≤ 1000000 := ⟨o4.sm.wf, hl1⟩
  have w5 : WfT (enc (.cat x y)) ∧ l.length ≤ 1000000 := ⟨o5.sm.wf, hl1⟩
  have w6 : WfT (enc (.alt x y)) ∧ l.length ≤ 1000000 := ⟨o6.sm.wf, hl1⟩
  have w7 : WfT (enc (.star x)) ∧ l.length ≤ 1000000 := ⟨o7.sm.wf, hl1⟩
  have w8 : WfT (enc x) ∧ l.length ≤ 1000000 := ⟨hx.sm.wf, hl1⟩
  have d1 := dom_p hx hy
  have d2 := dom_s hx
  rw [k1] at j1 j2
  rw [k2] at j3 j4
  rw [k3] at j5 j6
  generalize sCat x y = c1 at *
  generalize sAlt x y = c2 at *
  generalize sStar x = c3 at *
  generalize sClean x = c4 at *
  generalize Tr.cat x y = c5 at *
  generalize Tr.alt x y = c6 at *
  generalize Tr.star x = c7 at *
  simp (maxSteps := 2000000) only [fn10_body, c10, D0, ains, clsOf, abin, aint, aun, dnext, rowsOf, loadObj, cellsOf, ofCells, bnd, hmerge, Nat.reduceBEq, Nat.reduceAdd, reduceIte, Nat.reduceEqDiff, Nat.reduceLeDiff, Int.reduceEq, reduceCtorEq, Int.reduceBEq, Int.reduceBNe, Int.reduceLT, Int.reduceNeg, @use_all q10 16 k16.ora rfl, e16, @use_all q10 30 k30.ora rfl, e30, @use_all q10 38 k38.ora rfl, e38, @use_all q10 39 k39.ora rfl, e39, @use_all q10 40 k40.ora rfl, e40, @use_all q10 41 k41.ora rfl, e41, @use_all q10 19 k19.ora rfl, e19, @use_all q10 20 k20.ora rfl, e20, @use_all q10 21 k21.ora rfl, e21, @use_all q10 31 k31.ora rfl, e31, @use_all q10 37 kW.ora rfl, eW, wa, la, wb, lb, wa, oa, wb, ob, l3, e1, l4, t1, t2, t3, t4, j1, j2, j3, j4, j5, j6, d1, d2, w1, w2, w3, w4, w5, w6, w7, w8, s1, s2, s3, s4, i1, i2, i3, i4, resO, encO, Option.isSome_some]
  simp only [F1, bodyRes, one, ains, clsOf, abin, aint, aun, dnext, rowsOf, loadObj, cellsOf, ofCells, bnd, hmerge, Nat.reduceBEq, Nat.reduceAdd, reduceIte, Nat.reduceEqDiff, Nat.reduceLeDiff, Int.reduceEq, reduceCtorEq, Int.reduceBEq, Int.reduceBNe, Int.reduceLT, Int.reduceNeg, fn10_res, fn10_keep]
end Go.Proofs.Abs
