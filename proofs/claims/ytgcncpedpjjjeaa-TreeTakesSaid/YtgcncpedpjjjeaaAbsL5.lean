/- A part of a proof: the text that states the row tells what is proved. No condition is laid on anything. -/
import Derived.Test.YtgcncpedpjjjeaaAbsS4
set_option linter.all false
set_option linter.constructorNameAsVariable false
set_option linter.defProp false
set_option linter.unusedVariables false
set_option linter.unusedSimpArgs false
set_option maxRecDepth 100000
set_option maxHeartbeats 8000000
namespace Go.Proofs.Abs
open Go
/-! 5: caesuralaw11.TreeTakes. -/
theorem run5 (a b : List Nd) (l : List Int) (wa : WfT a) (wb : WfT b) (wl : l.length ≤ 9223372036854775807) : cwp w1 5 [] [(AV.list 5 (List.map eNd a)), (AV.list 5 (List.map eNd b)), (AV.list 1 (List.map (fun x => [AV.int .i64 x]) (l)))] [] (fun r H => r = .bool true ∧ H = []) := by
  refine run_fn (fn := fn5) rfl rfl ?_
  by_cases l1 : large a = true
  · simp only [fn5_body, c5, mach, dat2, wanted, putd, eset, eget, AX.ev, ains, params, Nat.reduceBEq, Nat.reduceAdd, reduceIte, Nat.reduceEqDiff, slots, dnext, clsOf, abin, aint, aun, agetl, foldMin, Nat.reduceLeDiff, List.isEmpty, Int.reduceEq, argsOf, St.add, hadd, hget, fget, hset, fset, cellsOf, loadObj, ofCells, reduceCtorEq, partsOfA, afill, Int.reduceBEq, Int.reduceBNe, Int.reduceLT, Int.reduceNeg, partsOf, setRows, rowsOf, hmerge, hpop, bnd, @cg16 w1 rfl, @dcg16 w1 rfl, @cg17 w1 rfl, @dcg17 w1 rfl, wa, l1]
    simp only [bodyRes, resOf, one, hpop, hmerge, ob_some, endr, ne_eq, not_false_eq_true, not_true_eq_false, false_or, or_false, dat2, wanted, putd, eset, eget, AX.ev, ains, params, Nat.reduceBEq, Nat.reduceAdd, reduceIte, Nat.reduceEqDiff, slots, dnext, clsOf, abin, aint, aun, agetl, foldMin, Nat.reduceLeDiff, List.isEmpty, Int.reduceEq, argsOf, St.add, hadd, hget, fget, hset, fset, cellsOf, loadObj, ofCells, reduceCtorEq, partsOfA, afill, Int.reduceBEq, Int.reduceBNe, Int.reduceLT, Int.reduceNeg, partsOf, setRows, rowsOf, hmerge, hpop, bnd, fn5_res, fn5_keep]
  have l1' : large a = false := by simpa using l1
  by_cases l2 : large b = true
  · simp only [fn5_body, c5, mach, dat2, wanted, putd, eset, eget, AX.ev, ains, params, Nat.reduceBEq, Nat.reduceAdd, reduceIte, Nat.reduceEqDiff, slots, dnext, clsOf, abin, aint, aun, agetl, foldMin, Nat.reduceLeDiff, List.isEmpty, Int.reduceEq, argsOf, St.add, hadd, hget, fget, hset, fset, cellsOf, loadObj, ofCells, reduceCtorEq, partsOfA, afill, Int.reduceBEq, Int.reduceBNe, Int.reduceLT, Int.reduceNeg, partsOf, setRows, rowsOf, hmerge, hpop, bnd, @cg16 w1 rfl, @dcg16 w1 rfl, @cg17 w1 rfl, @dcg17 w1 rfl, wa, wb, l1', l2]
    simp only [bodyRes, resOf, one, hpop, hmerge, ob_some, endr, ne_eq, not_false_eq_true, not_true_eq_false, false_or, or_false, dat2, wanted, putd, eset, eget, AX.ev, ains, params, Nat.reduceBEq, Nat.reduceAdd, reduceIte, Nat.reduceEqDiff, slots, dnext, clsOf, abin, aint, aun, agetl, foldMin, Nat.reduceLeDiff, List.isEmpty, Int.reduceEq, argsOf, St.add, hadd, hget, fget, hset, fset, cellsOf, loadObj, ofCells, reduceCtorEq, partsOfA, afill, Int.reduceBEq, Int.reduceBNe, Int.reduceLT, Int.reduceNeg, partsOf, setRows, rowsOf, hmerge, hpop, bnd, fn5_res, fn5_keep]
  have l2' : large b = false := by simpa using l2
  by_cases g1 : goodT a = true
  case neg =>
    have g1' : goodT a = false := by simpa using g1
    simp only [fn5_body, c5, mach, dat2, wanted, putd, eset, eget, AX.ev, ains, params, Nat.reduceBEq, Nat.reduceAdd, reduceIte, Nat.reduceEqDiff, slots, dnext, clsOf, abin, aint, aun, agetl, foldMin, Nat.reduceLeDiff, List.isEmpty, Int.reduceEq, argsOf, St.add, hadd, hget, fget, hset, fset, cellsOf, loadObj, ofCells, reduceCtorEq, partsOfA, afill, Int.reduceBEq, Int.reduceBNe, Int.reduceLT, Int.reduceNeg, partsOf, setRows, rowsOf, hmerge, hpop, bnd, @cg16 w1 rfl, @dcg16 w1 rfl, @cg17 w1 rfl, @dcg17 w1 rfl, @cg30 w1 rfl, @dcg30 w1 rfl, wa, wb, l1', l2', g1']
    simp only [bodyRes, resOf, one, hpop, hmerge, ob_some, endr, ne_eq, not_false_eq_true, not_true_eq_false, false_or, or_false, dat2, wanted, putd, eset, eget, AX.ev, ains, params, Nat.reduceBEq, Nat.reduceAdd, reduceIte, Nat.reduceEqDiff, slots, dnext, clsOf, abin, aint, aun, agetl, foldMin, Nat.reduceLeDiff, List.isEmpty, Int.reduceEq, argsOf, St.add, hadd, hget, fget, hset, fset, cellsOf, loadObj, ofCells, reduceCtorEq, partsOfA, afill, Int.reduceBEq, Int.reduceBNe, Int.reduceLT, Int.reduceNeg, partsOf, setRows, rowsOf, hmerge, hpop, bnd, fn5_res, fn5_keep]
  by_cases g2 : goodT b = true
  case neg =>
    have g2' : goodT b = false := by simpa using g2
    simp only [fn5_body, c5, mach, dat2, wanted, putd, eset, eget, AX.ev, ains, params, Nat.reduceBEq, Nat.reduceAdd, reduceIte, Nat.reduceEqDiff, slots, dnext, clsOf, abin, aint, aun, agetl, foldMin, Nat.reduceLeDiff, List.isEmpty, Int.reduceEq, argsOf, St.add, hadd, hget, fget, hset, fset, cellsOf, loadObj, ofCells, reduceCtorEq, partsOfA, afill, Int.reduceBEq, Int.reduceBNe, Int.reduceLT, Int.reduceNeg, partsOf, setRows, rowsOf, hmerge, hpop, bnd, @cg16 w1 rfl, @dcg16 w1 rfl, @cg17 w1 rfl, @dcg17 w1 rfl, @cg30 w1 rfl, @dcg30 w1 rfl, wa, wb, l1', l2', g1, g2']
    simp only [bodyRes, resOf, one, hpop, hmerge, ob_some, endr, ne_eq, not_false_eq_true, not_true_eq_false, false_or, or_false, dat2, wanted, putd, eset, eget, AX.ev, ains, params, Nat.reduceBEq, Nat.reduceAdd, reduceIte, Nat.reduceEqDiff, slots, dnext, clsOf, abin, aint, aun, agetl, foldMin, Nat.reduceLeDiff, List.isEmpty, Int.reduceEq, argsOf, St.add, hadd, hget, fget, hset, fset, cellsOf, loadObj, ofCells, reduceCtorEq, partsOfA, afill, Int.reduceBEq, Int.reduceBNe, Int.reduceLT, Int.reduceNeg, partsOf, setRows, rowsOf, hmerge, hpop, bnd, fn5_res, fn5_keep]
  by_cases l3 : l.length > 6
  · have l3' : (l.length : Int) > 6 := by omega
    simp only [fn5_body, c5, mach, dat2, wanted, putd, eset, eget, AX.ev, ains, params, Nat.reduceBEq, Nat.reduceAdd, reduceIte, Nat.reduceEqDiff, slots, dnext, clsOf, abin, aint, aun, agetl, foldMin, Nat.reduceLeDiff, List.isEmpty, Int.reduceEq, argsOf, St.add, hadd, hget, fget, hset, fset, cellsOf, loadObj, ofCells, reduceCtorEq, partsOfA, afill, Int.reduceBEq, Int.reduceBNe, Int.reduceLT, Int.reduceNeg, partsOf, setRows, rowsOf, hmerge, hpop, bnd, @cg16 w1 rfl, @dcg16 w1 rfl, @cg17 w1 rfl, @dcg17 w1 rfl, @cg30 w1 rfl, @dcg30 w1 rfl, wa, wb, l1', l2', g1, g2, l3', decide_true]
    simp only [bodyRes, resOf, one, hpop, hmerge, ob_some, endr, ne_eq, not_false_eq_true, not_true_eq_false, false_or, or_false, dat2, wanted, putd, eset, eget, AX.ev, ains, params, Nat.reduceBEq, Nat.reduceAdd, reduceIte, Nat.reduceEqDiff, slots, dnext, clsOf, abin, aint, aun, agetl, foldMin, Nat.reduceLeDiff, List.isEmpty, Int.reduceEq, argsOf, St.add, hadd, hget, fget, hset, fset, cellsOf, loadObj, ofCells, reduceCtorEq, partsOfA, afill, Int.reduceBEq, Int.reduceBNe, Int.reduceLT, Int.reduceNeg, partsOf, setRows, rowsOf, hmerge, hpop, bnd, fn5_res, fn5_keep]
  have l3' : ¬ (l.length : Int) > 6 := by omega
  have la := large_len l1'
  have lb := large_len l2'
  have sa := large_set wa l1'
  have sb := large_set wb l2'
  have hpb : pairB a b = true := by simp [pairB, g1, g2]; omega
  have hsb : starB a = true := by simp [starB, g1]; omega
  have d : (SmS a ∧ SmS b) ∧ a.length ≤ 1000000 ∧ b.length ≤ 1000000 := ⟨⟨sa, sb⟩, by omega, by omega⟩
  have ds : SmS a ∧ a.length ≤ 1000000 := ⟨sa, by omega⟩
  have e3 : pairT 3 a b = joinT 3 a b := by simp [pairT, hpb]
  have e4 : pairT 4 a b = joinT 4 a b := by simp [pairT, hpb]
  have es : starTT a = starT a := by simp [starTT, hsb]
  have gs := good_star g1 (by omega)
  have w3 := (sm_join (k := 3) (.inl rfl) sa sb g1 g2).wf
  have w4 := (sm_join (k := 4) (.inr rfl) sa sb g1 g2).wf
  have ws := (sm_star sa g1).wf
  have tc := takes_cat (l := l) g1 g2 (by omega)
  have td := takes_alt (l := l) g1 g2 (by omega)
  have ts := takes_star (l := l) g1 (by omega)
  have c0 : catF a b l 0 = false := rfl
  have s0 : starF a l 0 = ((l.length : Int) == 0) := by
    unfold starF
    rw [Bool.eq_iff_iff]
    simp
  simp (maxSteps := 1000000) only [fn5_body, c5, mach, dat2, wanted, putd, eset, eget, AX.ev, ains, params, Nat.reduceBEq, Nat.reduceAdd, reduceIte, Nat.reduceEqDiff, slots, dnext, clsOf, abin, aint, aun, agetl, foldMin, Nat.reduceLeDiff, List.isEmpty, Int.reduceEq, argsOf, St.add, hadd, hget, fget, hset, fset, cellsOf, loadObj, ofCells, reduceCtorEq, partsOfA, afill, Int.reduceBEq, Int.reduceBNe, Int.reduceLT, Int.reduceNeg, partsOf, setRows, rowsOf, hmerge, hpop, bnd, @cg16 w1 rfl, @dcg16 w1 rfl, @cg17 w1 rfl, @dcg17 w1 rfl, @cg30 w1 rfl, @dcg30 w1 rfl, @cg19 w1 rfl, @dcg19 w1 rfl, @cg20 w1 rfl, @dcg20 w1 rfl, @cg21 w1 rfl, @dcg21 w1 rfl, wa, wb, l1', l2', g1, g2, l3', d, ds, e3, e4, es, hpb, hsb, decide_false]
  refine lg_rule (fun k e H => e = [(0, (AV.list 5 (List.map eNd a))), (1, (AV.list 5 (List.map eNd b))), (2, (AV.list 1 (List.map (fun x => [AV.int .i64 x]) (l)))), (6, .bool false), (7, .list 5 (List.map eNd (joinT 3 a b))), (8, .bool true), (9, .list 5 (List.map eNd (joinT 4 a b))), (10, .bool true), (11, .list 5 (List.map eNd (starT a))), (12, .bool true), (13, .bool (catF a b l k)), (14, .bool (starF a l k)), (15, .int .i64 k)] ∧
    H = [[]] ∧ k ≤ l.length + 1) (l.length + 1) ?_ ?_
  · exact ⟨by rw [c0, s0]; rfl, rfl, by omega⟩
  rintro k e H ⟨rfl, rfl, hk⟩
  simp only [mach, dat2, wanted, putd, eset, eget, AX.ev, ains, params, Nat.reduceBEq, Nat.reduceAdd, reduceIte, Nat.reduceEqDiff, slots, dnext, clsOf, abin, aint, aun, agetl, foldMin, Nat.reduceLeDiff, List.isEmpty, Int.reduceEq, argsOf, St.add, hadd, hget, fget, hset, fset, cellsOf, loadObj, ofCells, reduceCtorEq, partsOfA, afill, Int.reduceBEq, Int.reduceBNe, Int.reduceLT, Int.reduceNeg, partsOf, setRows, rowsOf, hmerge, hpop, bnd]
  by_cases h : k ≤ l.length
  · have h' : (k : Int) ≤ (l.length : Int) := by omega
    have hp := wrapp (j := k) (by omega)
    have cs := catF_succ a b l k
    have ss := starF_succ a l k
    have ta := takes_take (l := l) g1 h
    have tb := takes_drop (l := l) g2 h
    have tsd := takes_drop (l := l) gs h
    rw [starT_len, Nat.add_sub_cancel] at tsd
    generalize tk a l (a.length - 1) 0 k = A at cs ss ta
    generalize tk b l (b.length - 1) k l.length = B at cs tb
    generalize tk (starT a) l a.length k l.length = S2 at ss tsd
    generalize catF a b l k = C at cs
    generalize starF a l k = S at ss
    generalize catF a b l (k + 1) = C' at cs
    generalize starF a l (k + 1) = S' at ss
    have mtk : (List.map (fun x : Int => [AV.int .i64 x]) l).take k = List.map (fun x : Int => [AV.int .i64 x]) (l.take k) := by simp
    have mtd : ((List.map (fun x : Int => [AV.int .i64 x]) l).take l.length).drop k = List.map (fun x : Int => [AV.int .i64 x]) (l.drop k) := by
      rw [List.take_of_length_le (by simp)]
      simp
    have i1 : 0 ≤ k ∧ k ≤ l.length ∧ l.length ≤ l.length := ⟨by omega, h, by omega⟩
    have ll : (l.take k).length ≤ 1000000 := by simp; omega
    have ll2 : (l.drop k).length ≤ 1000000 := by simp; omega
    by_cases hk0 : k = 0
    · have hk0' : ¬ (k : Int) > 0 := by omega
      have hkd : decide (0 < k) = false := by simp [hk0]
      rw [hkd, Bool.false_and, Bool.or_false] at ss
      clear tc td ts c0 s0 l1 l1' l2 l2' g1 g2 sa sb hpb hsb d ds e3 e4 es gs
      simp only [mach, dat2, wanted, putd, eset, eget, AX.ev, ains, params, Nat.reduceBEq, Nat.reduceAdd, reduceIte, Nat.reduceEqDiff, slots, dnext, clsOf, abin, aint, aun, agetl, foldMin, Nat.reduceLeDiff, List.isEmpty, Int.reduceEq, argsOf, St.add, hadd, hget, fget, hset, fset, cellsOf, loadObj, ofCells, reduceCtorEq, partsOfA, afill, Int.reduceBEq, Int.reduceBNe, Int.reduceLT, Int.reduceNeg, partsOf, setRows, rowsOf, hmerge, hpop, bnd, @cg31 w1 rfl, @dcg31 w1 rfl, h', decide_true, wa, wb, ws, ta, tb, tsd, mtk, mtd, i1, ll, ll2, hk0', decide_false, hp, Int.natCast_nonneg, Int.toNat_natCast]
      repeat' ((first | refine rw1_nsplit (fun h => ?_) (fun h => ?_) | refine rw1_split (fun h => ?_) (fun h => ?_) | refine dw1_nsplit (fun h => ?_) (fun h => ?_) | refine dw1_split (fun h => ?_) (fun h => ?_) | refine cg2_nsplit (fun h => ?_) (fun h => ?_) | refine cg2_split (fun h => ?_) (fun h => ?_)) <;> simp only [mach, dat2, wanted, putd, eset, eget, AX.ev, ains, params, Nat.reduceBEq, Nat.reduceAdd, reduceIte, Nat.reduceEqDiff, slots, dnext, clsOf, abin, aint, aun, agetl, foldMin, Nat.reduceLeDiff, List.isEmpty, Int.reduceEq, argsOf, St.add, hadd, hget, fget, hset, fset, cellsOf, loadObj, ofCells, reduceCtorEq, partsOfA, afill, Int.reduceBEq, Int.reduceBNe, Int.reduceLT, Int.reduceNeg, partsOf, setRows, rowsOf, hmerge, hpop, bnd, h, @cg31 w1 rfl, @dcg31 w1 rfl, decide_true, wa, wb, ws, ta, tb, tsd, mtk, mtd, i1, ll, ll2, hk0', decide_false, hp, Int.natCast_nonneg, Int.toNat_natCast])
      all_goals simp only [bodyRes, resOf, one, hpop, hmerge, ob_some, endr, ne_eq, not_false_eq_true, not_true_eq_false, false_or, or_false, dat2, wanted, putd, eset, eget, AX.ev, ains, params, Nat.reduceBEq, Nat.reduceAdd, reduceIte, Nat.reduceEqDiff, slots, dnext, clsOf, abin, aint, aun, agetl, foldMin, Nat.reduceLeDiff, List.isEmpty, Int.reduceEq, argsOf, St.add, hadd, hget, fget, hset, fset, cellsOf, loadObj, ofCells, reduceCtorEq, partsOfA, afill, Int.reduceBEq, Int.reduceBNe, Int.reduceLT, Int.reduceNeg, partsOf, setRows, rowsOf, hmerge, hpop, bnd]
      all_goals (clear ta tb tsd mtk mtd wa wb ws w3 w4 ll ll2 hkd; subst cs ss)
      all_goals refine ⟨by omega, ?_⟩
      all_goals simp_all
    · have hk0' : (k : Int) > 0 := by omega
      have hkd : decide (0 < k) = true := by simp; omega
      rw [hkd, Bool.true_and] at ss
      clear tc td ts c0 s0 l1 l1' l2 l2' g1 g2 sa sb hpb hsb d ds e3 e4 es gs
      simp only [mach, dat2, wanted, putd, eset, eget, AX.ev, ains, params, Nat.reduceBEq, Nat.reduceAdd, reduceIte, Nat.reduceEqDiff, slots, dnext, clsOf, abin, aint, aun, agetl, foldMin, Nat.reduceLeDiff, List.isEmpty, Int.reduceEq, argsOf, St.add, hadd, hget, fget, hset, fset, cellsOf, loadObj, ofCells, reduceCtorEq, partsOfA, afill, Int.reduceBEq, Int.reduceBNe, Int.reduceLT, Int.reduceNeg, partsOf, setRows, rowsOf, hmerge, hpop, bnd, @cg31 w1 rfl, @dcg31 w1 rfl, h', decide_true, wa, wb, ws, ta, tb, tsd, mtk, mtd, i1, ll, ll2, hk0', decide_false, hp, Int.natCast_nonneg, Int.toNat_natCast]
      repeat' ((first | refine rw1_nsplit (fun h => ?_) (fun h => ?_) | refine rw1_split (fun h => ?_) (fun h => ?_) | refine dw1_nsplit (fun h => ?_) (fun h => ?_) | refine dw1_split (fun h => ?_) (fun h => ?_) | refine cg2_nsplit (fun h => ?_) (fun h => ?_) | refine cg2_split (fun h => ?_) (fun h => ?_)) <;> simp only [mach, dat2, wanted, putd, eset, eget, AX.ev, ains, params, Nat.reduceBEq, Nat.reduceAdd, reduceIte, Nat.reduceEqDiff, slots, dnext, clsOf, abin, aint, aun, agetl, foldMin, Nat.reduceLeDiff, List.isEmpty, Int.reduceEq, argsOf, St.add, hadd, hget, fget, hset, fset, cellsOf, loadObj, ofCells, reduceCtorEq, partsOfA, afill, Int.reduceBEq, Int.reduceBNe, Int.reduceLT, Int.reduceNeg, partsOf, setRows, rowsOf, hmerge, hpop, bnd, h, @cg31 w1 rfl, @dcg31 w1 rfl, decide_true, wa, wb, ws, ta, tb, tsd, mtk, mtd, i1, ll, ll2, hk0', decide_false, hp, Int.natCast_nonneg, Int.toNat_natCast])
      all_goals simp only [bodyRes, resOf, one, hpop, hmerge, ob_some, endr, ne_eq, not_false_eq_true, not_true_eq_false, false_or, or_false, dat2, wanted, putd, eset, eget, AX.ev, ains, params, Nat.reduceBEq, Nat.reduceAdd, reduceIte, Nat.reduceEqDiff, slots, dnext, clsOf, abin, aint, aun, agetl, foldMin, Nat.reduceLeDiff, List.isEmpty, Int.reduceEq, argsOf, St.add, hadd, hget, fget, hset, fset, cellsOf, loadObj, ofCells, reduceCtorEq, partsOfA, afill, Int.reduceBEq, Int.reduceBNe, Int.reduceLT, Int.reduceNeg, partsOf, setRows, rowsOf, hmerge, hpop, bnd]
      all_goals (clear ta tb tsd mtk mtd wa wb ws w3 w4 ll ll2 hkd; subst cs ss)
      all_goals refine ⟨by omega, ?_⟩
      all_goals simp_all
  · have h' : ¬ (k : Int) ≤ (l.length : Int) := by omega
    have hk1 : k = l.length + 1 := by omega
    subst hk1
    simp only [mach, dat2, wanted, putd, eset, eget, AX.ev, ains, params, Nat.reduceBEq, Nat.reduceAdd, reduceIte, Nat.reduceEqDiff, slots, dnext, clsOf, abin, aint, aun, agetl, foldMin, Nat.reduceLeDiff, List.isEmpty, Int.reduceEq, argsOf, St.add, hadd, hget, fget, hset, fset, cellsOf, loadObj, ofCells, reduceCtorEq, partsOfA, afill, Int.reduceBEq, Int.reduceBNe, Int.reduceLT, Int.reduceNeg, partsOf, setRows, rowsOf, hmerge, hpop, bnd, h', decide_false]
    refine .inr ⟨by simp, ?_⟩
    have tl0 := takes_leaf 0 l
    have tl1 := takes_leaf 1 l
    have d01 : decide ((0 : Int) = 1) = false := rfl
    have d11 : decide ((1 : Int) = 1) = true := rfl
    rw [d01, Bool.false_and] at tl0
    rw [d11, Bool.true_and] at tl1
    have he : ((l.length : Int) == 0) = decide (l.length = 0) := by rw [Bool.eq_iff_iff]; simp
    have wlf : ∀ k, WfT (leafT k) := fun k => ⟨by simp [leafT], fun n hn => by
      simp only [leafT, List.mem_singleton] at hn
      subst hn
      exact ⟨by unfold I64; simp only; split <;> omega, by unfold I64; simp only; omega, by unfold I64; simp only; omega, ⟨by simp, by simp⟩, by show (0 : Nat) ≤ 9223372036854775807; omega⟩⟩
    have ll : l.length ≤ 1000000 := by omega
    clear l1 l1' l2 l2' sa sb hpb hsb d ds e3 e4 es
    by_cases c1 : takesT a l = true
    · simp only [c1, Bool.true_or] at td
      simp only [mach, dat2, wanted, putd, eset, eget, AX.ev, ains, params, Nat.reduceBEq, Nat.reduceAdd, reduceIte, Nat.reduceEqDiff, slots, dnext, clsOf, abin, aint, aun, agetl, foldMin, Nat.reduceLeDiff, List.isEmpty, Int.reduceEq, argsOf, St.add, hadd, hget, fget, hset, fset, cellsOf, loadObj, ofCells, reduceCtorEq, partsOfA, afill, Int.reduceBEq, Int.reduceBNe, Int.reduceLT, Int.reduceNeg, partsOf, setRows, rowsOf, hmerge, hpop, bnd, @cg17 w1 rfl, @dcg17 w1 rfl, @cg31 w1 rfl, @dcg31 w1 rfl, @cg34 w1 rfl, @dcg34 w1 rfl, wa, wb, ws, w3, w4, tc, td, ts, tl0, tl1, he, wlf, ll, c1]
      simp only [bodyRes, resOf, one, hpop, hmerge, ob_some, endr, ne_eq, not_false_eq_true, not_true_eq_false, false_or, or_false, dat2, wanted, putd, eset, eget, AX.ev, ains, params, Nat.reduceBEq, Nat.reduceAdd, reduceIte, Nat.reduceEqDiff, slots, dnext, clsOf, abin, aint, aun, agetl, foldMin, Nat.reduceLeDiff, List.isEmpty, Int.reduceEq, argsOf, St.add, hadd, hget, fget, hset, fset, cellsOf, loadObj, ofCells, reduceCtorEq, partsOfA, afill, Int.reduceBEq, Int.reduceBNe, Int.reduceLT, Int.reduceNeg, partsOf, setRows, rowsOf, hmerge, hpop, bnd, fn5_res, fn5_keep]
    · have c1' : takesT a l = false := by simpa using c1
      simp only [c1', Bool.false_or] at td
      simp only [mach, dat2, wanted, putd, eset, eget, AX.ev, ains, params, Nat.reduceBEq, Nat.reduceAdd, reduceIte, Nat.reduceEqDiff, slots, dnext, clsOf, abin, aint, aun, agetl, foldMin, Nat.reduceLeDiff, List.isEmpty, Int.reduceEq, argsOf, St.add, hadd, hget, fget, hset, fset, cellsOf, loadObj, ofCells, reduceCtorEq, partsOfA, afill, Int.reduceBEq, Int.reduceBNe, Int.reduceLT, Int.reduceNeg, partsOf, setRows, rowsOf, hmerge, hpop, bnd, @cg17 w1 rfl, @dcg17 w1 rfl, @cg31 w1 rfl, @dcg31 w1 rfl, @cg34 w1 rfl, @dcg34 w1 rfl, wa, wb, ws, w3, w4, tc, td, ts, tl0, tl1, he, wlf, ll, c1']
      simp only [bodyRes, resOf, one, hpop, hmerge, ob_some, endr, ne_eq, not_false_eq_true, not_true_eq_false, false_or, or_false, dat2, wanted, putd, eset, eget, AX.ev, ains, params, Nat.reduceBEq, Nat.reduceAdd, reduceIte, Nat.reduceEqDiff, slots, dnext, clsOf, abin, aint, aun, agetl, foldMin, Nat.reduceLeDiff, List.isEmpty, Int.reduceEq, argsOf, St.add, hadd, hget, fget, hset, fset, cellsOf, loadObj, ofCells, reduceCtorEq, partsOfA, afill, Int.reduceBEq, Int.reduceBNe, Int.reduceLT, Int.reduceNeg, partsOf, setRows, rowsOf, hmerge, hpop, bnd, fn5_res, fn5_keep]
end Go.Proofs.Abs
