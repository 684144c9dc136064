/- A part of a proof: the text that states the row tells what is proved. No condition is laid on anything. -/
import Derived.Test.YtgcncpedpjjjeaaAbsY20
set_option linter.all false
set_option linter.constructorNameAsVariable false
set_option linter.defProp false
set_option linter.unusedVariables false
set_option linter.unusedSimpArgs false
set_option maxRecDepth 100000
set_option maxHeartbeats 16000000
namespace Go.Proofs.Abs
open Go
/-! 52: caesuraref03.Of. -/
theorem of_all {l : List R2} {i : Nat} (hi : i < l.length) (h : wholeS (l.getD i (0, 0)) = false) : l.all wholeS = false := by
  rw [Bool.eq_false_iff]
  intro k
  rw [List.all_eq_true] at k
  have := k _ (List.getElem_mem hi)
  rw [← getD_eq hi, h] at this
  cases this
theorem run52 (l : List R2) (hl : l.length ≤ 1000) : cwp s13 52 [] [(AV.list 2 (List.map (fun x => [AV.int .i64 x.1, AV.int .i64 x.2]) (l)))] [] (fun r H => r = .agg [(AV.list 2 (List.map (fun x => [AV.int .i64 x.1, AV.int .i64 x.2]) (ofV l))), .bool (ofB l)] ∧ H = []) := by
  refine run_fn (fn := fn52) rfl rfl ?_
  have hof := rOf_eq l
  have hob := all_whole (l := l)
  unfold rOfV mrkOf at hof
  simp only [fn52_body, c52, D0, ains, clsOf, abin, aint, aun, dnext, rowsOf, loadObj, cellsOf, ofCells, bnd, hmerge, Nat.reduceBEq, Nat.reduceAdd, reduceIte, Nat.reduceEqDiff, Nat.reduceLeDiff, Int.reduceEq, reduceCtorEq, Int.reduceBEq, Int.reduceBNe, Int.reduceLT, Int.reduceNeg]
  refine lg_rule (fun j e H => e = [(0, (AV.list 2 (List.map (fun x => [AV.int .i64 x.1, AV.int .i64 x.2]) (l)))), (2, .ref [0] 1 0 0), (3, .int .i64 j)] ∧ H = [[([0], .box [.list 2 [], .bool false])]] ∧ j ≤ l.length ∧ (l.take j).all wholeS = true) l.length ?_ ?_
  · exact ⟨rfl, rfl, by simp, rfl⟩
  rintro j e H ⟨rfl, rfl, hj, hall⟩
  simp only [D0, ains, clsOf, abin, aint, aun, dnext, rowsOf, loadObj, cellsOf, ofCells, bnd, hmerge, Nat.reduceBEq, Nat.reduceAdd, reduceIte, Nat.reduceEqDiff, Nat.reduceLeDiff, Int.reduceEq, reduceCtorEq, Int.reduceBEq, Int.reduceBNe, Int.reduceLT, Int.reduceNeg]
  by_cases h : j < l.length
  · have h' : (j : Int) < (l.length : Int) := by omega
    have hp := wrapp (j := j) (by omega)
    have hg := map_get (f := fun x : Int × Int => [AV.int .i64 x.1, AV.int .i64 x.2]) h (0, 0)
    have hbad := of_all h
    have htk : (l.take (j + 1)).all wholeS = (wholeS (l.getD j (0, 0))) := by rw [take_snoc h, List.all_append, hall]; simp
    generalize l.getD j (0, 0) = r at hg hbad htk
    obtain ⟨a, b⟩ := r
    have hw : wholeS (a, b) = (isS a && isS b && decide (a ≤ b)) := rfl
    have fin : wholeS (a, b) = false → ofV l = [] ∧ ofB l = false := fun k => by
      have := hbad k
      rw [this] at hof hob
      exact ⟨hof.symm, hob.symm⟩
    cases e1 : isS a with
    | false =>
      obtain ⟨f1, f2⟩ := fin (by rw [hw, e1]; simp)
      simp only [D0, ains, clsOf, abin, aint, aun, dnext, rowsOf, loadObj, cellsOf, ofCells, bnd, hmerge, Nat.reduceBEq, Nat.reduceAdd, reduceIte, Nat.reduceEqDiff, Nat.reduceLeDiff, Int.reduceEq, reduceCtorEq, Int.reduceBEq, Int.reduceBNe, Int.reduceLT, Int.reduceNeg, @use_all s13 66 k66.ora rfl, e66, h', hg, e1, decide_true, Int.natCast_nonneg, Int.toNat_natCast]
      simp only [F1, bodyRes, one, ains, clsOf, abin, aint, aun, dnext, rowsOf, loadObj, cellsOf, ofCells, bnd, hmerge, Nat.reduceBEq, Nat.reduceAdd, reduceIte, Nat.reduceEqDiff, Nat.reduceLeDiff, Int.reduceEq, reduceCtorEq, Int.reduceBEq, Int.reduceBNe, Int.reduceLT, Int.reduceNeg, fn52_res, fn52_keep, fz, fzd, fzd.fzcells, f1, f2, List.map_nil]
    | true => cases e2 : isS b with
      | false =>
        obtain ⟨f1, f2⟩ := fin (by rw [hw, e1, e2]; simp)
        simp only [D0, ains, clsOf, abin, aint, aun, dnext, rowsOf, loadObj, cellsOf, ofCells, bnd, hmerge, Nat.reduceBEq, Nat.reduceAdd, reduceIte, Nat.reduceEqDiff, Nat.reduceLeDiff, Int.reduceEq, reduceCtorEq, Int.reduceBEq, Int.reduceBNe, Int.reduceLT, Int.reduceNeg, @use_all s13 66 k66.ora rfl, e66, h', hg, e1, e2, decide_true, Int.natCast_nonneg, Int.toNat_natCast]
        simp only [F1, bodyRes, one, ains, clsOf, abin, aint, aun, dnext, rowsOf, loadObj, cellsOf, ofCells, bnd, hmerge, Nat.reduceBEq, Nat.reduceAdd, reduceIte, Nat.reduceEqDiff, Nat.reduceLeDiff, Int.reduceEq, reduceCtorEq, Int.reduceBEq, Int.reduceBNe, Int.reduceLT, Int.reduceNeg, fn52_res, fn52_keep, fz, fzd, fzd.fzcells, f1, f2, List.map_nil]
      | true =>
        by_cases e3 : b < a
        · obtain ⟨f1, f2⟩ := fin (by rw [hw, e1, e2]; simp; omega)
          simp only [D0, ains, clsOf, abin, aint, aun, dnext, rowsOf, loadObj, cellsOf, ofCells, bnd, hmerge, Nat.reduceBEq, Nat.reduceAdd, reduceIte, Nat.reduceEqDiff, Nat.reduceLeDiff, Int.reduceEq, reduceCtorEq, Int.reduceBEq, Int.reduceBNe, Int.reduceLT, Int.reduceNeg, @use_all s13 66 k66.ora rfl, e66, h', hg, e1, e2, e3, decide_true, Int.natCast_nonneg, Int.toNat_natCast]
          simp only [F1, bodyRes, one, ains, clsOf, abin, aint, aun, dnext, rowsOf, loadObj, cellsOf, ofCells, bnd, hmerge, Nat.reduceBEq, Nat.reduceAdd, reduceIte, Nat.reduceEqDiff, Nat.reduceLeDiff, Int.reduceEq, reduceCtorEq, Int.reduceBEq, Int.reduceBNe, Int.reduceLT, Int.reduceNeg, fn52_res, fn52_keep, fz, fzd, fzd.fzcells, f1, f2, List.map_nil]
        · have hwt : wholeS (a, b) = true := by rw [hw, e1, e2]; simp; omega
          rw [hwt] at htk
          simp only [D0, ains, clsOf, abin, aint, aun, dnext, rowsOf, loadObj, cellsOf, ofCells, bnd, hmerge, Nat.reduceBEq, Nat.reduceAdd, reduceIte, Nat.reduceEqDiff, Nat.reduceLeDiff, Int.reduceEq, reduceCtorEq, Int.reduceBEq, Int.reduceBNe, Int.reduceLT, Int.reduceNeg, @use_all s13 66 k66.ora rfl, e66, h', hg, hp, e1, e2, e3, decide_true, decide_false, Int.natCast_nonneg, Int.toNat_natCast]
          simp only [F1, bodyRes, one, ains, clsOf, abin, aint, aun, dnext, rowsOf, loadObj, cellsOf, ofCells, bnd, hmerge, Nat.reduceBEq, Nat.reduceAdd, reduceIte, Nat.reduceEqDiff, Nat.reduceLeDiff, Int.reduceEq, reduceCtorEq, Int.reduceBEq, Int.reduceBNe, Int.reduceLT, Int.reduceNeg]
          exact ⟨h, h, htk⟩
  · have h' : ¬ (j : Int) < (l.length : Int) := by omega
    have hjl : j = l.length := by omega
    subst hjl
    rw [List.take_length] at hall
    rw [hall] at hof hob
    rw [if_pos rfl] at hof
    simp only [D0, ains, clsOf, abin, aint, aun, dnext, rowsOf, loadObj, cellsOf, ofCells, bnd, hmerge, Nat.reduceBEq, Nat.reduceAdd, reduceIte, Nat.reduceEqDiff, Nat.reduceLeDiff, Int.reduceEq, reduceCtorEq, Int.reduceBEq, Int.reduceBNe, Int.reduceLT, Int.reduceNeg, h', decide_false]
    refine .inr ⟨by simp, ?_⟩
    have hn := startsL_length l
    simp only [D0, ains, clsOf, abin, aint, aun, dnext, rowsOf, loadObj, cellsOf, ofCells, bnd, hmerge, Nat.reduceBEq, Nat.reduceAdd, reduceIte, Nat.reduceEqDiff, Nat.reduceLeDiff, Int.reduceEq, reduceCtorEq, Int.reduceBEq, Int.reduceBNe, Int.reduceLT, Int.reduceNeg, @use_all s13 93 k93.ora rfl, e93, hl, fz, fzd]
    generalize startsL l = z at hof hn
    have hz : ((z.length : Nat) : Int) * ((1 : Nat) : Int) ≤ 140737488355328 := by omega
    have hm0 := rep_map z.length
    rw [← mrkN_zero (fun v => inS v l)] at hm0
    simp only [D0, ains, clsOf, abin, aint, aun, dnext, rowsOf, loadObj, cellsOf, ofCells, bnd, hmerge, Nat.reduceBEq, Nat.reduceAdd, reduceIte, Nat.reduceEqDiff, Nat.reduceLeDiff, Int.reduceEq, reduceCtorEq, Int.reduceBEq, Int.reduceBNe, Int.reduceLT, Int.reduceNeg, hz, hm0, Int.natCast_nonneg, Int.toNat_natCast]
    refine lg_rule (fun j e H => e = [(0, (AV.list 2 (List.map (fun x => [AV.int .i64 x.1, AV.int .i64 x.2]) (l)))), (2, .ref [0] 1 0 0), (3, .int .i64 l.length), (4, (AV.list 1 (List.map (fun x => [AV.int .i64 x]) (z)))), (5, .own [8] z.length), (6, .int .i64 j)] ∧
      H = [[([8], .row true true 4 1 (List.map (fun x => [AV.bool x]) (mrkN (fun v => inS v l) z j))), ([0], .box [.list 2 [], .bool false])]] ∧ j ≤ z.length) z.length ?_ ?_
    · exact ⟨rfl, rfl, by simp⟩
    rintro k e H ⟨rfl, rfl, hk⟩
    simp only [D0, ains, clsOf, abin, aint, aun, dnext, rowsOf, loadObj, cellsOf, ofCells, bnd, hmerge, Nat.reduceBEq, Nat.reduceAdd, reduceIte, Nat.reduceEqDiff, Nat.reduceLeDiff, Int.reduceEq, reduceCtorEq, Int.reduceBEq, Int.reduceBNe, Int.reduceLT, Int.reduceNeg]
    by_cases g : k < z.length
    · have g' : (k : Int) < (z.length : Int) := by omega
      have hgk := getI g
      have hkp := wrapp (j := k) (by omega)
      have hnx := mrkN_next (fun v => inS v l) g
      have hset := mrkN_set (fun v => inS v l) g
      have hml : ∀ b, ((mrkN (fun v => inS v l) z k).set k b).length = z.length := fun b => by rw [List.length_set]; exact mrkN_length _ z k (by omega)
      have hb : ∀ b, (List.map (fun x => [AV.bool x]) ((mrkN (fun v => inS v l) z k).set k b))[k]? = some [AV.bool b] := fun b => by
        rw [getB (by rw [hml]; exact g)]
        simp [hml b, List.getElem?_set, mrkN_length (fun v => inS v l) z k (by omega), g]
      have h00 : (mrkN (fun v => inS v l) z k).set k false = mrkN (fun v => inS v l) z k := by rw [mrkN_set _ g, mrkN_at _ g]
      rw [← h00]
      generalize hM : mrkN (fun v => inS v l) z k = M at hnx hml hb
      generalize z.getD k 0 = v at hgk hnx
      simp only [D0, ains, clsOf, abin, aint, aun, dnext, rowsOf, loadObj, cellsOf, ofCells, bnd, hmerge, Nat.reduceBEq, Nat.reduceAdd, reduceIte, Nat.reduceEqDiff, Nat.reduceLeDiff, Int.reduceEq, reduceCtorEq, Int.reduceBEq, Int.reduceBNe, Int.reduceLT, Int.reduceNeg, g', decide_true]
      refine lg_rule (fun j e H => e = [(0, (AV.list 2 (List.map (fun x => [AV.int .i64 x.1, AV.int .i64 x.2]) (l)))), (2, .ref [0] 1 0 0), (3, .int .i64 l.length), (4, (AV.list 1 (List.map (fun x => [AV.int .i64 x]) (z)))), (5, .own [8] z.length), (6, .int .i64 k), (7, .int .i64 j)] ∧
        H = [[], [([8], .row true true 4 1 (List.map (fun x => [AV.bool x]) (M.set k (inS v (l.take j))))), ([0], .box [.list 2 [], .bool false])]] ∧ j ≤ l.length) l.length ?_ ?_
      · exact ⟨rfl, rfl, by simp⟩
      rintro j e H ⟨rfl, rfl, hj⟩
      simp only [D0, ains, clsOf, abin, aint, aun, dnext, rowsOf, loadObj, cellsOf, ofCells, bnd, hmerge, Nat.reduceBEq, Nat.reduceAdd, reduceIte, Nat.reduceEqDiff, Nat.reduceLeDiff, Int.reduceEq, reduceCtorEq, Int.reduceBEq, Int.reduceBNe, Int.reduceLT, Int.reduceNeg]
      by_cases h : j < l.length
      · have h' : (j : Int) < (l.length : Int) := by omega
        have hp := wrapp (j := j) (by omega)
        have hg := map_get (f := fun x : Int × Int => [AV.int .i64 x.1, AV.int .i64 x.2]) h (0, 0)
        have hsn := inS_snoc v (l.take j) (l.getD j (0, 0))
        rw [← take_snoc h] at hsn
        generalize l.getD j (0, 0) = r at hg hsn
        obtain ⟨a, b⟩ := r
        have hbi := hb (inS v (l.take j))
        have hmi := hml (inS v (l.take j))
        have hss : ∀ y, (M.set k (inS v (l.take j))).set k y = M.set k y := fun y => by rw [List.set_set]
        generalize inS v (l.take j) = x at hsn hbi hmi hss ⊢
        have out : ∀ y : Bool, inS v (l.take (j + 1)) = y → (List.map (fun x => [AV.bool x]) (M.set k x)).set k [AV.bool y] = List.map (fun x => [AV.bool x]) (M.set k (inS v (l.take (j + 1)))) := fun y hy => by rw [set_map, hss, hy]
        have hke : ((k : Int) < (z.length : Int)) := g'
        cases x with
        | true =>
          rw [Bool.true_or] at hsn
          have ho := out true hsn
          simp only [D0, ains, clsOf, abin, aint, aun, dnext, rowsOf, loadObj, cellsOf, ofCells, bnd, hmerge, Nat.reduceBEq, Nat.reduceAdd, reduceIte, Nat.reduceEqDiff, Nat.reduceLeDiff, Int.reduceEq, reduceCtorEq, Int.reduceBEq, Int.reduceBNe, Int.reduceLT, Int.reduceNeg, h', hp, hbi, hmi, g', g, h, lrc_x, apx, apart, apart1, needs, decide_true, Int.natCast_nonneg, Int.toNat_natCast, List.length_map]
          simp only [F1, bodyRes, one, ains, clsOf, abin, aint, aun, dnext, rowsOf, loadObj, cellsOf, ofCells, bnd, hmerge, Nat.reduceBEq, Nat.reduceAdd, reduceIte, Nat.reduceEqDiff, Nat.reduceLeDiff, Int.reduceEq, reduceCtorEq, Int.reduceBEq, Int.reduceBNe, Int.reduceLT, Int.reduceNeg]
          rw [ho]
          exact ⟨rfl, h⟩
        | false =>
          rw [Bool.false_or] at hsn
          by_cases h1 : a ≤ v
          · by_cases h2 : v ≤ b
            · have ho := out true (by rw [hsn]; simp [inR, h1, h2])
              simp only [D0, ains, clsOf, abin, aint, aun, dnext, rowsOf, loadObj, cellsOf, ofCells, bnd, hmerge, Nat.reduceBEq, Nat.reduceAdd, reduceIte, Nat.reduceEqDiff, Nat.reduceLeDiff, Int.reduceEq, reduceCtorEq, Int.reduceBEq, Int.reduceBNe, Int.reduceLT, Int.reduceNeg, h', hp, hg, hgk, hbi, hmi, h1, h2, g', g, h, lrc_x, apx, apart, apart1, needs, decide_true, Int.natCast_nonneg, Int.toNat_natCast, List.length_map]
              simp only [F1, bodyRes, one, ains, clsOf, abin, aint, aun, dnext, rowsOf, loadObj, cellsOf, ofCells, bnd, hmerge, Nat.reduceBEq, Nat.reduceAdd, reduceIte, Nat.reduceEqDiff, Nat.reduceLeDiff, Int.reduceEq, reduceCtorEq, Int.reduceBEq, Int.reduceBNe, Int.reduceLT, Int.reduceNeg]
              rw [ho]
              exact ⟨rfl, h⟩
            · have ho := out false (by rw [hsn]; simp [inR, h2])
              simp only [D0, ains, clsOf, abin, aint, aun, dnext, rowsOf, loadObj, cellsOf, ofCells, bnd, hmerge, Nat.reduceBEq, Nat.reduceAdd, reduceIte, Nat.reduceEqDiff, Nat.reduceLeDiff, Int.reduceEq, reduceCtorEq, Int.reduceBEq, Int.reduceBNe, Int.reduceLT, Int.reduceNeg, h', hp, hg, hgk, hbi, hmi, h1, h2, g', g, h, lrc_x, apx, apart, apart1, needs, decide_true, decide_false, Int.natCast_nonneg, Int.toNat_natCast, List.length_map]
              simp only [F1, bodyRes, one, ains, clsOf, abin, aint, aun, dnext, rowsOf, loadObj, cellsOf, ofCells, bnd, hmerge, Nat.reduceBEq, Nat.reduceAdd, reduceIte, Nat.reduceEqDiff, Nat.reduceLeDiff, Int.reduceEq, reduceCtorEq, Int.reduceBEq, Int.reduceBNe, Int.reduceLT, Int.reduceNeg]
              rw [ho]
              exact ⟨rfl, h⟩
          · have ho := out false (by rw [hsn]; simp [inR, h1])
            simp only [D0, ains, clsOf, abin, aint, aun, dnext, rowsOf, loadObj, cellsOf, ofCells, bnd, hmerge, Nat.reduceBEq, Nat.reduceAdd, reduceIte, Nat.reduceEqDiff, Nat.reduceLeDiff, Int.reduceEq, reduceCtorEq, Int.reduceBEq, Int.reduceBNe, Int.reduceLT, Int.reduceNeg, h', hp, hg, hgk, hbi, hmi, h1, g', g, h, lrc_x, apx, apart, apart1, needs, decide_true, decide_false, Int.natCast_nonneg, Int.toNat_natCast, List.length_map]
            simp only [F1, bodyRes, one, ains, clsOf, abin, aint, aun, dnext, rowsOf, loadObj, cellsOf, ofCells, bnd, hmerge, Nat.reduceBEq, Nat.reduceAdd, reduceIte, Nat.reduceEqDiff, Nat.reduceLeDiff, Int.reduceEq, reduceCtorEq, Int.reduceBEq, Int.reduceBNe, Int.reduceLT, Int.reduceNeg]
            rw [ho]
            exact ⟨rfl, h⟩
      · have h' : ¬ (j : Int) < (l.length : Int) := by omega
        have hjl : j = l.length := by omega
        subst hjl
        simp only [D0, ains, clsOf, abin, aint, aun, dnext, rowsOf, loadObj, cellsOf, ofCells, bnd, hmerge, Nat.reduceBEq, Nat.reduceAdd, reduceIte, Nat.reduceEqDiff, Nat.reduceLeDiff, Int.reduceEq, reduceCtorEq, Int.reduceBEq, Int.reduceBNe, Int.reduceLT, Int.reduceNeg, h', decide_false]
        refine .inr ⟨by simp, ?_⟩
        simp only [D0, ains, clsOf, abin, aint, aun, dnext, rowsOf, loadObj, cellsOf, ofCells, bnd, hmerge, Nat.reduceBEq, Nat.reduceAdd, reduceIte, Nat.reduceEqDiff, Nat.reduceLeDiff, Int.reduceEq, reduceCtorEq, Int.reduceBEq, Int.reduceBNe, Int.reduceLT, Int.reduceNeg, hkp]
        simp only [F1, bodyRes, one, ains, clsOf, abin, aint, aun, dnext, rowsOf, loadObj, cellsOf, ofCells, bnd, hmerge, Nat.reduceBEq, Nat.reduceAdd, reduceIte, Nat.reduceEqDiff, Nat.reduceLeDiff, Int.reduceEq, reduceCtorEq, Int.reduceBEq, Int.reduceBNe, Int.reduceLT, Int.reduceNeg, List.take_length]
        rw [hnx]
        exact ⟨g, rfl, g⟩
    · have g' : ¬ (k : Int) < (z.length : Int) := by omega
      have hkl : k = z.length := by omega
      subst hkl
      have hall2 := mrkN_all (fun v => inS v l) z
      have hz6 : z.length ≤ 1000000 := by omega
      simp only [hall2, D0, ains, clsOf, abin, aint, aun, dnext, rowsOf, loadObj, cellsOf, ofCells, bnd, hmerge, Nat.reduceBEq, Nat.reduceAdd, reduceIte, Nat.reduceEqDiff, Nat.reduceLeDiff, Int.reduceEq, reduceCtorEq, Int.reduceBEq, Int.reduceBNe, Int.reduceLT, Int.reduceNeg, g', decide_false]
      refine .inr ⟨by simp, ?_⟩
      simp only [D0, ains, clsOf, abin, aint, aun, dnext, rowsOf, loadObj, cellsOf, ofCells, bnd, hmerge, Nat.reduceBEq, Nat.reduceAdd, reduceIte, Nat.reduceEqDiff, Nat.reduceLeDiff, Int.reduceEq, reduceCtorEq, Int.reduceBEq, Int.reduceBNe, Int.reduceLT, Int.reduceNeg, @use_all s13 94 k94.ora rfl, e94, hz6, hof, fz, fzd, List.length_map, Nat.le_refl]
      simp only [F1, bodyRes, one, ains, clsOf, abin, aint, aun, dnext, rowsOf, loadObj, cellsOf, ofCells, bnd, hmerge, Nat.reduceBEq, Nat.reduceAdd, reduceIte, Nat.reduceEqDiff, Nat.reduceLeDiff, Int.reduceEq, reduceCtorEq, Int.reduceBEq, Int.reduceBNe, Int.reduceLT, Int.reduceNeg, fn52_res, fn52_keep, fz, fzd, fzd.fzcells, ← hob]
noncomputable def k52 : Kon ((List (Int × Int))) := ⟨fun x => x.length ≤ 1000, fun x => [(AV.list 2 (List.map (fun x => [AV.int .i64 x.1, AV.int .i64 x.2]) (x)))], fun x => .agg [(AV.list 2 (List.map (fun x => [AV.int .i64 x.1, AV.int .i64 x.2]) (ofV x))), .bool (ofB x)]⟩
theorem e52 (l : List (Int × Int)) (hd : l.length ≤ 1000) (q0 : Id) (H0 : Heap) : k52.ora q0 ([(AV.list 2 (List.map (fun x => [AV.int .i64 x.1, AV.int .i64 x.2]) (l)))]) H0 = some (.agg [(AV.list 2 (List.map (fun x => [AV.int .i64 x.1, AV.int .i64 x.2]) (ofV l))), .bool (ofB l)], H0) := k52.eq (setInj) (l) hd q0 H0
theorem ook52 : OraOK Try.prog (52 % 100000) k52.ora := k52.ok orders s13_ok (fun x hd => by simp [k52, PU]) (fun x hd => by simp [k52, PU]) (fun x hd => run52 x hd)

noncomputable def s14 : FT := upd (upd (upd (s13) 52 k52.ora) 53 k53.ora) 54 k54.ora
theorem s14_ok : FTOK Try.prog s14 := upd_ok2 (f := 54) (upd_ok2 (f := 53) (upd_ok2 (f := 52) (s13_ok) ook52) ook53) ook54

end Go.Proofs.Abs
