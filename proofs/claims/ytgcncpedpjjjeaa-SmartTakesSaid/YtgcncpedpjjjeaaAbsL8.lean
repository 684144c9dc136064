/- A part of a proof: the text that states the row tells what is proved. No condition is laid on anything. -/
import Derived.Test.YtgcncpedpjjjeaaAbsL7
import Derived.Test.YtgcncpedpjjjeaaAbsN1
set_option linter.all false
set_option linter.constructorNameAsVariable false
set_option linter.defProp false
set_option linter.unusedVariables false
set_option linter.unusedSimpArgs false
set_option maxRecDepth 100000
set_option maxHeartbeats 16000000
namespace Go.Proofs.Abs
open Go
/-! 8: caesuralaw12.SmartLaws. -/
theorem cat_small {x y : Tr} (hx : OkS x) (hy : OkS y) (h : sz x + sz y + 1 ≤ 40000) : catT (enc x) (enc y) = some (sCat x y) := by rw [catT_enc hx hy, catO_some _ _ h]
theorem alt_small {x y : Tr} (hx : OkS x) (hy : OkS y) (h : sz x + sz y + 1 ≤ 40000) : altT (enc x) (enc y) = some (sAlt x y) := by rw [altT_enc hx hy, altO_some h]
theorem star_small {x : Tr} (hx : OkS x) (h : sz x + 1 ≤ 40000) : starS (enc x) = some (sStar x) := by rw [starS_enc hx, starO_some h]
def DomP (a b : List Nd) : Prop := (SmS a ∧ SmS b) ∧ a.length ≤ 1000000 ∧ b.length ≤ 1000000
theorem dom_p {x y : Tr} (hx : OkS x) (hy : OkS y) : (SmS (enc x) ∧ SmS (enc y)) ∧ (enc x).length ≤ 1000000 ∧ (enc y).length ≤ 1000000 := ⟨⟨hx.sm, hy.sm⟩, by have := hx.len; omega, by have := hy.len; omega⟩
theorem dom_s {x : Tr} (hx : OkS x) : SmS (enc x) ∧ (enc x).length ≤ 1000000 := ⟨hx.sm, by have := hx.len; omega⟩
theorem ok_of {x : Tr} (h : Ok x) {n : Nat} (hs : sz x ≤ n) (hn : n ≤ 40000) : OkS x := ⟨h, by omega⟩
theorem run8 (a b : List Nd) (wa : WfT a) (wb : WfT b) : cwp q9 8 [] [(AV.list 5 (List.map eNd a)), (AV.list 5 (List.map eNd b))] [] (fun v H => v = .bool true ∧ H = []) := by
  refine run_fn (fn := fn8) rfl rfl ?_
  by_cases ga : large a = true
  case pos =>
    simp (maxSteps := 2000000) only [fn8_body, c8, D0, ains, clsOf, abin, aint, aun, dnext, rowsOf, loadObj, cellsOf, ofCells, bnd, hmerge, Nat.reduceBEq, Nat.reduceAdd, reduceIte, Nat.reduceEqDiff, Nat.reduceLeDiff, Int.reduceEq, reduceCtorEq, Int.reduceBEq, Int.reduceBNe, Int.reduceLT, Int.reduceNeg, @use_all q9 16 k16.ora rfl, e16, @use_all q9 30 k30.ora rfl, e30, @use_all q9 37 kW.ora rfl, eW, wa, ga]
    simp only [F1, bodyRes, one, ains, clsOf, abin, aint, aun, dnext, rowsOf, loadObj, cellsOf, ofCells, bnd, hmerge, Nat.reduceBEq, Nat.reduceAdd, reduceIte, Nat.reduceEqDiff, Nat.reduceLeDiff, Int.reduceEq, reduceCtorEq, Int.reduceBEq, Int.reduceBNe, Int.reduceLT, Int.reduceNeg, fn8_res, fn8_keep]
  have la : large a = false := by simpa using ga
  by_cases gb : large b = true
  case pos =>
    simp (maxSteps := 2000000) only [fn8_body, c8, D0, ains, clsOf, abin, aint, aun, dnext, rowsOf, loadObj, cellsOf, ofCells, bnd, hmerge, Nat.reduceBEq, Nat.reduceAdd, reduceIte, Nat.reduceEqDiff, Nat.reduceLeDiff, Int.reduceEq, reduceCtorEq, Int.reduceBEq, Int.reduceBNe, Int.reduceLT, Int.reduceNeg, @use_all q9 16 k16.ora rfl, e16, @use_all q9 30 k30.ora rfl, e30, @use_all q9 37 kW.ora rfl, eW, wa, la, wb, gb]
    simp only [F1, bodyRes, one, ains, clsOf, abin, aint, aun, dnext, rowsOf, loadObj, cellsOf, ofCells, bnd, hmerge, Nat.reduceBEq, Nat.reduceAdd, reduceIte, Nat.reduceEqDiff, Nat.reduceLeDiff, Int.reduceEq, reduceCtorEq, Int.reduceBEq, Int.reduceBNe, Int.reduceLT, Int.reduceNeg, fn8_res, fn8_keep]
  have lb : large b = false := by simpa using gb
  by_cases ba : goodT a = false
  case pos =>
    simp (maxSteps := 2000000) only [fn8_body, c8, D0, ains, clsOf, abin, aint, aun, dnext, rowsOf, loadObj, cellsOf, ofCells, bnd, hmerge, Nat.reduceBEq, Nat.reduceAdd, reduceIte, Nat.reduceEqDiff, Nat.reduceLeDiff, Int.reduceEq, reduceCtorEq, Int.reduceBEq, Int.reduceBNe, Int.reduceLT, Int.reduceNeg, @use_all q9 16 k16.ora rfl, e16, @use_all q9 30 k30.ora rfl, e30, @use_all q9 37 kW.ora rfl, eW, wa, la, wb, lb, wa, ba]
    simp only [F1, bodyRes, one, ains, clsOf, abin, aint, aun, dnext, rowsOf, loadObj, cellsOf, ofCells, bnd, hmerge, Nat.reduceBEq, Nat.reduceAdd, reduceIte, Nat.reduceEqDiff, Nat.reduceLeDiff, Int.reduceEq, reduceCtorEq, Int.reduceBEq, Int.reduceBNe, Int.reduceLT, Int.reduceNeg, fn8_res, fn8_keep]
  have oa : goodT a = true := by simpa using ba
  by_cases bb : goodT b = false
  case pos =>
    simp (maxSteps := 2000000) only [fn8_body, c8, D0, ains, clsOf, abin, aint, aun, dnext, rowsOf, loadObj, cellsOf, ofCells, bnd, hmerge, Nat.reduceBEq, Nat.reduceAdd, reduceIte, Nat.reduceEqDiff, Nat.reduceLeDiff, Int.reduceEq, reduceCtorEq, Int.reduceBEq, Int.reduceBNe, Int.reduceLT, Int.reduceNeg, @use_all q9 16 k16.ora rfl, e16, @use_all q9 30 k30.ora rfl, e30, @use_all q9 37 kW.ora rfl, eW, wa, la, wb, lb, wa, oa, wb, bb]
    simp only [F1, bodyRes, one, ains, clsOf, abin, aint, aun, dnext, rowsOf, loadObj, cellsOf, ofCells, bnd, hmerge, Nat.reduceBEq, Nat.reduceAdd, reduceIte, Nat.reduceEqDiff, Nat.reduceLeDiff, Int.reduceEq, reduceCtorEq, Int.reduceBEq, Int.reduceBNe, Int.reduceLT, Int.reduceNeg, fn8_res, fn8_keep]
  have ob : goodT b = true := by simpa using bb
  have hla := large_len la
  have hlb := large_len lb
  have e1 : IntKind.i64.wrap ((a.length : Int) + (b.length : Int)) = ((a.length + b.length : Nat) : Int) := by
    rw [wrap64 (by omega) (by omega)]; omega
  by_cases l3 : ((a.length + b.length : Nat) : Int) > 150
  case pos =>
    simp (maxSteps := 2000000) only [fn8_body, c8, D0, ains, clsOf, abin, aint, aun, dnext, rowsOf, loadObj, cellsOf, ofCells, bnd, hmerge, Nat.reduceBEq, Nat.reduceAdd, reduceIte, Nat.reduceEqDiff, Nat.reduceLeDiff, Int.reduceEq, reduceCtorEq, Int.reduceBEq, Int.reduceBNe, Int.reduceLT, Int.reduceNeg, @use_all q9 16 k16.ora rfl, e16, @use_all q9 30 k30.ora rfl, e30, @use_all q9 37 kW.ora rfl, eW, wa, la, wb, lb, wa, oa, wb, ob, e1, l3]
    simp only [F1, bodyRes, one, ains, clsOf, abin, aint, aun, dnext, rowsOf, loadObj, cellsOf, ofCells, bnd, hmerge, Nat.reduceBEq, Nat.reduceAdd, reduceIte, Nat.reduceEqDiff, Nat.reduceLeDiff, Int.reduceEq, reduceCtorEq, Int.reduceBEq, Int.reduceBNe, Int.reduceLT, Int.reduceNeg, fn8_res, fn8_keep]
  have sa := large_set wa la
  have sb := large_set wb lb
  obtain ⟨x, hx, rfl⟩ := okS_of ⟨sa, oa⟩
  obtain ⟨y, hy, rfl⟩ := okS_of ⟨sb, ob⟩
  have zx := enc_len x
  have zy := enc_len y
  have cx := cleanS_enc hx
  have cy := cleanS_enc hy
  have op := okS_clean hx
  have oq := okS_clean hy
  have np := nf_sClean x hx.1
  have nq := nf_sClean y hy.1
  have bp := sz_sClean x
  have bq := sz_sClean y
  have dx := dom_s hx
  have dy := dom_s hy
  have hz : sz x + sz y ≤ 150 := by omega
  generalize sClean x = p at *
  generalize sClean y = q at *
  have t0 : cleanS (enc p) = some p := by rw [cleanS_enc op, clean_id p np]
  have se : sz empty = 1 := rfl
  have sn : sz never = 1 := rfl
  have t1 := cat_small op okS_empty (by omega)
  have t2 := cat_small okS_empty op (by omega)
  have t3 := cat_small okS_never op (by omega)
  have t4 := alt_small op okS_never (by omega)
  have t5 := alt_small op op (by omega)
  have t6 := alt_small op oq (by omega)
  have z6 := sz_sAlt p q
  have o6 : OkS (sAlt p q) := ok_altO op oq (altO_some (by omega))
  have t7 := alt_small o6 op (by omega)
  have t8 := star_small op (by omega)
  have z8 := sz_sStar p
  have o8 : OkS (sStar p) := ok_starO op (starO_some (by omega))
  have t9 := star_small o8 (by omega)
  have t10 := alt_small op okS_empty (by omega)
  have z10 := sz_sAlt p empty
  have o10 : OkS (sAlt p empty) := ok_altO op okS_empty (altO_some (by omega))
  have t11 := star_small o10 (by omega)
  rw [law_cat_e np] at t1
  rw [law_e_cat np] at t2
  rw [law_n_cat] at t3
  rw [law_alt_n np] at t4
  rw [law_alt_self np] at t5
  rw [law_alt_again np nq] at t7
  rw [law_star_star np] at t9
  rw [law_star_opt np] at t11
  generalize sAlt p q = c at t6 t7 o6
  generalize sStar p = s at t8 t9 t11 o8
  generalize sAlt p empty = u at t10 t11 o10
  have d0 := dom_s op
  have d1 := dom_p op okS_empty
  have d2 := dom_p okS_empty op
  have d3 := dom_p okS_never op
  have d4 := dom_p op okS_never
  have d5 := dom_p op op
  have d6 := dom_p op oq
  have d7 := dom_p o6 op
  have d8 := dom_s o8
  have d10 := dom_s o10
  have m1 := op.sm
  have m2 := okS_never.sm
  have m3 := o6.sm
  have m4 := o8.sm
  have same := sameT_self
  simp (maxSteps := 2000000) only [fn8_body, c8, D0, ains, clsOf, abin, aint, aun, dnext, rowsOf, loadObj, cellsOf, ofCells, bnd, hmerge, Nat.reduceBEq, Nat.reduceAdd, reduceIte, Nat.reduceEqDiff, Nat.reduceLeDiff, Int.reduceEq, reduceCtorEq, Int.reduceBEq, Int.reduceBNe, Int.reduceLT, Int.reduceNeg, @use_all q9 16 k16.ora rfl, e16, @use_all q9 30 k30.ora rfl, e30, @use_all q9 33 k33.ora rfl, e33, @use_all q9 34 k34.ora rfl, e34, @use_all q9 38 k38.ora rfl, e38, @use_all q9 39 k39.ora rfl, e39, @use_all q9 40 k40.ora rfl, e40, @use_all q9 41 k41.ora rfl, e41, @use_all q9 37 kW.ora rfl, eW, wa, la, wb, lb, wa, oa, wb, ob, e1, l3, dx, dy, cx, cy, leafT0, leafT1, t0, t1, t2, t3, t4, t5, t6, t7, t8, t9, t10, t11, d0, d1, d2, d3, d4, d5, d6, d7, d8, d10, m1, m2, m3, m4, same, resO, encO, Option.isSome_some]
  simp only [F1, bodyRes, one, ains, clsOf, abin, aint, aun, dnext, rowsOf, loadObj, cellsOf, ofCells, bnd, hmerge, Nat.reduceBEq, Nat.reduceAdd, reduceIte, Nat.reduceEqDiff, Nat.reduceLeDiff, Int.reduceEq, reduceCtorEq, Int.reduceBEq, Int.reduceBNe, Int.reduceLT, Int.reduceNeg, fn8_res, fn8_keep]
end Go.Proofs.Abs
