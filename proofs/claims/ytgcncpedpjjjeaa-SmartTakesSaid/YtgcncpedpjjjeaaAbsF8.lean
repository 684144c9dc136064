/- A part of a proof: the text that states the row tells what is proved. No condition is laid on anything. -/
import Derived.Test.YtgcncpedpjjjeaaAbsF7
import Derived.Test.YtgcncpedpjjjeaaAbsG
set_option linter.all false
set_option linter.constructorNameAsVariable false
set_option linter.defProp false
set_option linter.unusedVariables false
set_option linter.unusedSimpArgs false
set_option maxRecDepth 100000
set_option maxHeartbeats 4000000
namespace Go.Proofs.Abs
open Go
theorem benT_zero (t : List Nd) (q : Nat) : benT t 0 q = t.take (q + 1) := by
  unfold benT
  rw [List.drop_zero]
  exact mov_zero _
theorem e70z (t : List Nd) (i : Nat) (hd : SmT t ∧ i < t.length) (q : Id) (H : Heap) : k70.ora q [(AV.list 5 (List.map eNd t)), .int .i64 0, .int .i64 (i : Int)] H = some (.own (q ++ [0]) (List.map eNd (t.take (i + 1))).length, hadd H (q ++ [0]) (.row true true 48 5 (List.map eNd (t.take (i + 1))))) := by
  have := e70 t 0 i ⟨hd.1, hd.2, by omega⟩ q H
  rw [benT_zero] at this
  exact this
/-! 26: caesuraref11.Star. -/
theorem run26 (a : List Nd) (ha : SmS a) (hla : a.length ≤ 1000000) : cwp y2 26 [] [(AV.list 5 (List.map eNd a))] [] (fun r H => r = .list 5 (List.map eNd (starTT a)) ∧ H = []) := by
  refine run_fn (fn := fn26) rfl rfl ?_
  have hwa := ha.wf
  by_cases g1 : goodT a = true
  · by_cases g3 : a.length + 1 ≤ 40000
    · have g3' : ¬ (a.length : Int) ≥ 40000 := by omega
      have hp : starB a = true := by simp [starB, g1, g3]
      have hp2 : starTT a = starT a := by simp [starTT, hp]
      have sa := good_sm ha g1
      have hga : 1 ≤ a.length := (goodT_iff.1 g1).1
      have hd : SmT a ∧ a.length - 1 < a.length := ⟨sa, by omega⟩
      have ht : a.take (a.length - 1 + 1) = a := by rw [Nat.sub_add_cancel hga, List.take_length]
      have cu := @use_all y2 70 k70.ora rfl
      have cg := e70z a (a.length - 1) hd
      rw [ht] at cg
      have c1 : (a.length + 1) * 64 ≤ 140737488355328 := by omega
      have w3 := wrapm (j := a.length) (by omega) (by omega)
      have w4 : ((a.length - 1 : Nat) : Int) = (a.length : Int) - 1 := by omega
      have hsn : List.map eNd a ++ [[AV.int .i64 5, .int .i64 ((a.length - 1 : Nat) : Int), .int .i64 0, .list 2 [], .str ⟨#[]⟩]] = List.map eNd (starT a) := by
        rw [w4, ← starT_rows, mov_zero]
      simp only [fn26_body, c26, D0, ains, clsOf, abin, aint, aun, dnext, rowsOf, loadObj, cellsOf, ofCells, bnd, hmerge, Nat.reduceBEq, Nat.reduceAdd, reduceIte, Nat.reduceEqDiff, Nat.reduceLeDiff, Int.reduceEq, reduceCtorEq, Int.reduceBEq, Int.reduceBNe, Int.reduceLT, Int.reduceNeg, @use_all y2 30 k30.ora rfl, e30, cg, cu, hwa, g1, g3', c1, w3, decide_false, decide_true]
      simp only [F1, bodyRes, one, ains, clsOf, abin, aint, aun, dnext, rowsOf, loadObj, cellsOf, ofCells, bnd, hmerge, Nat.reduceBEq, Nat.reduceAdd, reduceIte, Nat.reduceEqDiff, Nat.reduceLeDiff, Int.reduceEq, reduceCtorEq, Int.reduceBEq, Int.reduceBNe, Int.reduceLT, Int.reduceNeg, fn26_res, fn26_keep, fz, fzd, fzd.fzcells, List.length_append, hsn, starT_len, hp, hp2]
    · have g3' : (a.length : Int) ≥ 40000 := by omega
      have hp : starB a = false := by simp [starB, g1, g3]
      have hp2 : starTT a = [] := by simp [starTT, hp]
      simp only [fn26_body, c26, D0, ains, clsOf, abin, aint, aun, dnext, rowsOf, loadObj, cellsOf, ofCells, bnd, hmerge, Nat.reduceBEq, Nat.reduceAdd, reduceIte, Nat.reduceEqDiff, Nat.reduceLeDiff, Int.reduceEq, reduceCtorEq, Int.reduceBEq, Int.reduceBNe, Int.reduceLT, Int.reduceNeg, @use_all y2 30 k30.ora rfl, e30, hwa, g1, g3', decide_true]
      simp only [F1, bodyRes, one, ains, clsOf, abin, aint, aun, dnext, rowsOf, loadObj, cellsOf, ofCells, bnd, hmerge, Nat.reduceBEq, Nat.reduceAdd, reduceIte, Nat.reduceEqDiff, Nat.reduceLeDiff, Int.reduceEq, reduceCtorEq, Int.reduceBEq, Int.reduceBNe, Int.reduceLT, Int.reduceNeg, fn26_res, fn26_keep, fz, fzd, fzd.fzcells, hp2]
  · have g1' : goodT a = false := by simpa using g1
    have hp : starB a = false := by simp [starB, g1]
    have hp2 : starTT a = [] := by simp [starTT, hp]
    simp only [fn26_body, c26, D0, ains, clsOf, abin, aint, aun, dnext, rowsOf, loadObj, cellsOf, ofCells, bnd, hmerge, Nat.reduceBEq, Nat.reduceAdd, reduceIte, Nat.reduceEqDiff, Nat.reduceLeDiff, Int.reduceEq, reduceCtorEq, Int.reduceBEq, Int.reduceBNe, Int.reduceLT, Int.reduceNeg, @use_all y2 30 k30.ora rfl, e30, hwa, g1']
    simp only [F1, bodyRes, one, ains, clsOf, abin, aint, aun, dnext, rowsOf, loadObj, cellsOf, ofCells, bnd, hmerge, Nat.reduceBEq, Nat.reduceAdd, reduceIte, Nat.reduceEqDiff, Nat.reduceLeDiff, Int.reduceEq, reduceCtorEq, Int.reduceBEq, Int.reduceBNe, Int.reduceLT, Int.reduceNeg, fn26_res, fn26_keep, fz, fzd, fzd.fzcells, hp2]
def k26 : Kon (List Nd) := ⟨fun x => SmS x ∧ x.length ≤ 1000000, fun x => [(AV.list 5 (List.map eNd x))], fun x => .list 5 (List.map eNd (starTT x))⟩
theorem e26 (a : List Nd) (hd : SmS a ∧ a.length ≤ 1000000) (q0 : Id) (H0 : Heap) : k26.ora q0 ([(AV.list 5 (List.map eNd a))]) H0 = some (.list 5 (List.map eNd (starTT a)), H0) := k26.eq (treeInj) (a) hd q0 H0
theorem ook26 : OraOK Try.prog (26 % 100000) k26.ora := k26.ok orders y2_ok (fun x hd => by simp [k26, PU]) (fun x hd => by simp [k26, PU]) (fun x hd => run26 x hd.1 hd.2)

/-! 25: caesuraref11.Join. -/
theorem run25 (k : Int) (a b : List Nd) (ha : SmS a) (hb : SmS b) (hla : a.length ≤ 1000000) (hlb : b.length ≤ 1000000) : cwp y2 25 [] [.int .i64 k, (AV.list 5 (List.map eNd a)), (AV.list 5 (List.map eNd b))] [] (fun r H => r = .list 5 (List.map eNd (pairT k a b)) ∧ H = []) := by
  refine run_fn (fn := fn25) rfl rfl ?_
  have hwa := ha.wf
  have hwb := hb.wf
  by_cases g1 : goodT a = true
  case neg =>
    have g1' : goodT a = false := by simpa using g1
    have hp : pairB a b = false := by simp [pairB, g1]
    have hp2 : pairT k a b = [] := by simp [pairT, hp]
    simp only [fn25_body, c25, D0, ains, clsOf, abin, aint, aun, dnext, rowsOf, loadObj, cellsOf, ofCells, bnd, hmerge, Nat.reduceBEq, Nat.reduceAdd, reduceIte, Nat.reduceEqDiff, Nat.reduceLeDiff, Int.reduceEq, reduceCtorEq, Int.reduceBEq, Int.reduceBNe, Int.reduceLT, Int.reduceNeg, @use_all y2 30 k30.ora rfl, e30, hwa, hwb, g1']
    simp only [F1, bodyRes, one, ains, clsOf, abin, aint, aun, dnext, rowsOf, loadObj, cellsOf, ofCells, bnd, hmerge, Nat.reduceBEq, Nat.reduceAdd, reduceIte, Nat.reduceEqDiff, Nat.reduceLeDiff, Int.reduceEq, reduceCtorEq, Int.reduceBEq, Int.reduceBNe, Int.reduceLT, Int.reduceNeg, fn25_res, fn25_keep, fz, fzd, fzd.fzcells, hp2]
  by_cases g2 : goodT b = true
  case neg =>
    have g2' : goodT b = false := by simpa using g2
    have hp : pairB a b = false := by simp [pairB, g1, g2]
    have hp2 : pairT k a b = [] := by simp [pairT, hp]
    simp only [fn25_body, c25, D0, ains, clsOf, abin, aint, aun, dnext, rowsOf, loadObj, cellsOf, ofCells, bnd, hmerge, Nat.reduceBEq, Nat.reduceAdd, reduceIte, Nat.reduceEqDiff, Nat.reduceLeDiff, Int.reduceEq, reduceCtorEq, Int.reduceBEq, Int.reduceBNe, Int.reduceLT, Int.reduceNeg, @use_all y2 30 k30.ora rfl, e30, hwa, hwb, g1, g2']
    simp only [F1, bodyRes, one, ains, clsOf, abin, aint, aun, dnext, rowsOf, loadObj, cellsOf, ofCells, bnd, hmerge, Nat.reduceBEq, Nat.reduceAdd, reduceIte, Nat.reduceEqDiff, Nat.reduceLeDiff, Int.reduceEq, reduceCtorEq, Int.reduceBEq, Int.reduceBNe, Int.reduceLT, Int.reduceNeg, fn25_res, fn25_keep, fz, fzd, fzd.fzcells, hp2]
  have w1 : IntKind.i64.wrap ((a.length : Int) + (b.length : Int)) = (a.length : Int) + (b.length : Int) := wrap64 (by omega) (by omega)
  have w2 : IntKind.i64.wrap ((a.length : Int) + (b.length : Int) + 1) = (a.length : Int) + (b.length : Int) + 1 := wrap64 (by omega) (by omega)
  by_cases g3 : a.length + b.length + 1 ≤ 40000
  case neg =>
    have g3' : (a.length : Int) + (b.length : Int) + 1 > 40000 := by omega
    have hp : pairB a b = false := by simp [pairB, g1, g2, g3]
    have hp2 : pairT k a b = [] := by simp [pairT, hp]
    simp only [fn25_body, c25, D0, ains, clsOf, abin, aint, aun, dnext, rowsOf, loadObj, cellsOf, ofCells, bnd, hmerge, Nat.reduceBEq, Nat.reduceAdd, reduceIte, Nat.reduceEqDiff, Nat.reduceLeDiff, Int.reduceEq, reduceCtorEq, Int.reduceBEq, Int.reduceBNe, Int.reduceLT, Int.reduceNeg, @use_all y2 30 k30.ora rfl, e30, hwa, hwb, g1, g2, w1, w2, g3', decide_true]
    simp only [F1, bodyRes, one, ains, clsOf, abin, aint, aun, dnext, rowsOf, loadObj, cellsOf, ofCells, bnd, hmerge, Nat.reduceBEq, Nat.reduceAdd, reduceIte, Nat.reduceEqDiff, Nat.reduceLeDiff, Int.reduceEq, reduceCtorEq, Int.reduceBEq, Int.reduceBNe, Int.reduceLT, Int.reduceNeg, fn25_res, fn25_keep, fz, fzd, fzd.fzcells, hp2]
  have g3' : ¬ (a.length : Int) + (b.length : Int) + 1 > 40000 := by omega
  have hp : pairB a b = true := by simp [pairB, g1, g2, g3]
  have hp2 : pairT k a b = joinT k a b := by simp [pairT, hp]
  have sa := good_sm ha g1
  have sb := good_sm hb g2
  have hga : 1 ≤ a.length := (goodT_iff.1 g1).1
  have hd : SmT a ∧ a.length - 1 < a.length := ⟨sa, by omega⟩
  have ht : a.take (a.length - 1 + 1) = a := by rw [Nat.sub_add_cancel hga, List.take_length]
  have cu := @use_all y2 70 k70.ora rfl
  have cg := e70z a (a.length - 1) hd
  rw [ht] at cg
  have w3 := wrapm (j := a.length) (by omega) (by omega)
  have w4 : IntKind.i64.wrap ((a.length : Int) + (b.length : Int) - 1) = (a.length : Int) + (b.length : Int) - 1 := wrap64 (by omega) (by omega)
  simp only [fn25_body, c25, D0, ains, clsOf, abin, aint, aun, dnext, rowsOf, loadObj, cellsOf, ofCells, bnd, hmerge, Nat.reduceBEq, Nat.reduceAdd, reduceIte, Nat.reduceEqDiff, Nat.reduceLeDiff, Int.reduceEq, reduceCtorEq, Int.reduceBEq, Int.reduceBNe, Int.reduceLT, Int.reduceNeg, @use_all y2 30 k30.ora rfl, e30, cg, cu, hwa, hwb, g1, g2, w1, w2, w3, g3', decide_false]
  refine lg_rule (fun j e H => e = [(0, .int .i64 k), (1, (AV.list 5 (List.map eNd a))), (2, (AV.list 5 (List.map eNd b))), (6, .own [0] 0), (7, .own [22, 0] (a.length + j)), (8, .int .i64 j)] ∧ H = [[([22, 0], .row true true 48 5 (List.map eNd (a ++ mov (b.take j) a.length))), ([0], .row true true 48 5 [])]] ∧ j ≤ b.length) b.length ?_ ?_
  · exact ⟨rfl, by simp [mov], by omega⟩
  rintro j e H ⟨rfl, rfl, hj⟩
  simp only [D0, ains, clsOf, abin, aint, aun, dnext, rowsOf, loadObj, cellsOf, ofCells, bnd, hmerge, Nat.reduceBEq, Nat.reduceAdd, reduceIte, Nat.reduceEqDiff, Nat.reduceLeDiff, Int.reduceEq, reduceCtorEq, Int.reduceBEq, Int.reduceBNe, Int.reduceLT, Int.reduceNeg]
  by_cases h : j < b.length
  · have h' : (j : Int) < (b.length : Int) := by omega
    have hpp := wrapp (j := j) (by omega)
    have hg := map_get (f := eNd) h default
    have hs := sb.all _ (getD_mem h)
    have hsn : (a ++ mov (b.take j) a.length) ++ [movN (b.getD j default) a.length] = a ++ mov (b.take (j + 1)) a.length := by
      rw [← take_snoc h]
      simp [mov]
    have hlt : (a ++ mov (b.take j) a.length).length = a.length + j := by simp [mov]; omega
    have hc2 : (a.length + j + 1) * 64 ≤ 140737488355328 := by omega
    have hfin : j < b.length ∧ j + 1 ≤ b.length := by omega
    generalize b.getD j default = n at hg hs hsn
    obtain ⟨kk, x, y, c, z⟩ := n
    obtain ⟨s1, s2, s3⟩ := hs
    simp only at s1 s2 s3
    have hc1 : c.length * 16 ≤ 140737488355328 := by omega
    have hwx : IntKind.i64.wrap (x + (a.length : Int)) = x + (a.length : Int) := wrap64 (by omega) (by omega)
    have hwy : IntKind.i64.wrap (y + (a.length : Int)) = y + (a.length : Int) := wrap64 (by omega) (by omega)
    clear cg
    by_cases hf : isFork ⟨kk, x, y, c, z⟩ = true
    · have hk : kk = 3 ∨ kk = 4 := by simpa [isFork] using hf
      have hmv : movN ⟨kk, x, y, c, z⟩ (a.length : Int) = ⟨kk, x + (a.length : Int), y + (a.length : Int), c, z⟩ := by unfold movN; rw [if_pos hf]
      rw [hmv] at hsn
      rcases hk with rfl | rfl <;> simp only [D0, ains, clsOf, abin, aint, aun, dnext, rowsOf, loadObj, cellsOf, ofCells, bnd, hmerge, Nat.reduceBEq, Nat.reduceAdd, reduceIte, Nat.reduceEqDiff, Nat.reduceLeDiff, Int.reduceEq, reduceCtorEq, Int.reduceBEq, Int.reduceBNe, Int.reduceLT, Int.reduceNeg, h', hg, eNd, eSet, hc1, hc2, hlt, fz, fzd, fzd.fzcells, eNd_snoc, hsn, hpp, Nat.zero_add, decide_true, Int.natCast_nonneg, Int.toNat_natCast, hwx, hwy]
      all_goals simp only [F1, bodyRes, one, ains, clsOf, abin, aint, aun, dnext, rowsOf, loadObj, cellsOf, ofCells, bnd, hmerge, Nat.reduceBEq, Nat.reduceAdd, reduceIte, Nat.reduceEqDiff, Nat.reduceLeDiff, Int.reduceEq, reduceCtorEq, Int.reduceBEq, Int.reduceBNe, Int.reduceLT, Int.reduceNeg, eNd_snoc, hsn]
      all_goals exact ⟨h, rfl, h⟩
    · have hk3 : (kk == 3) = false := by simp [isFork] at hf; simp [hf]
      have hk4 : (kk == 4) = false := by simp [isFork] at hf; simp [hf]
      by_cases hk : kk = 5
      · have hmv : movN ⟨kk, x, y, c, z⟩ (a.length : Int) = ⟨kk, x + (a.length : Int), y, c, z⟩ := by unfold movN; rw [if_neg hf, if_pos hk]
        rw [hmv] at hsn
        subst hk
        simp only [D0, ains, clsOf, abin, aint, aun, dnext, rowsOf, loadObj, cellsOf, ofCells, bnd, hmerge, Nat.reduceBEq, Nat.reduceAdd, reduceIte, Nat.reduceEqDiff, Nat.reduceLeDiff, Int.reduceEq, reduceCtorEq, Int.reduceBEq, Int.reduceBNe, Int.reduceLT, Int.reduceNeg, h', hg, eNd, eSet, hc1, hc2, hlt, fz, fzd, fzd.fzcells, eNd_snoc, hsn, hpp, Nat.zero_add, decide_true, Int.natCast_nonneg, Int.toNat_natCast, hwx]
        simp only [F1, bodyRes, one, ains, clsOf, abin, aint, aun, dnext, rowsOf, loadObj, cellsOf, ofCells, bnd, hmerge, Nat.reduceBEq, Nat.reduceAdd, reduceIte, Nat.reduceEqDiff, Nat.reduceLeDiff, Int.reduceEq, reduceCtorEq, Int.reduceBEq, Int.reduceBNe, Int.reduceLT, Int.reduceNeg, eNd_snoc, hsn]
        exact ⟨h, rfl, h⟩
      · have hk5 : (kk == 5) = false := by simpa using hk
        rw [movN_leaf (by simpa using hf) hk] at hsn
        simp only [D0, ains, clsOf, abin, aint, aun, dnext, rowsOf, loadObj, cellsOf, ofCells, bnd, hmerge, Nat.reduceBEq, Nat.reduceAdd, reduceIte, Nat.reduceEqDiff, Nat.reduceLeDiff, Int.reduceEq, reduceCtorEq, Int.reduceBEq, Int.reduceBNe, Int.reduceLT, Int.reduceNeg, h', hg, eNd, eSet, hc1, hc2, hlt, fz, fzd, fzd.fzcells, eNd_snoc, hsn, hpp, Nat.zero_add, decide_true, Int.natCast_nonneg, Int.toNat_natCast, hk3, hk4, hk5]
        simp only [F1, bodyRes, one, ains, clsOf, abin, aint, aun, dnext, rowsOf, loadObj, cellsOf, ofCells, bnd, hmerge, Nat.reduceBEq, Nat.reduceAdd, reduceIte, Nat.reduceEqDiff, Nat.reduceLeDiff, Int.reduceEq, reduceCtorEq, Int.reduceBEq, Int.reduceBNe, Int.reduceLT, Int.reduceNeg, eNd_snoc, hsn]
        exact ⟨h, rfl, h⟩
  · have h' : ¬ (j : Int) < (b.length : Int) := by omega
    have hj2 : j = b.length := by omega
    subst hj2
    have hlt : (a ++ mov (b.take b.length) a.length).length = a.length + b.length := by simp [mov]
    have hc2 : (a.length + b.length + 1) * 64 ≤ 140737488355328 := by omega
    have w5 : ((a.length - 1 : Nat) : Int) = (a.length : Int) - 1 := by omega
    have hsn : List.map eNd (a ++ mov (b.take b.length) a.length) ++ [[AV.int .i64 k, .int .i64 ((a.length - 1 : Nat) : Int), .int .i64 ((a.length : Int) + b.length - 1), .list 2 [], .str ⟨#[]⟩]] = List.map eNd (joinT k a b) := by
      rw [w5, ← joinT_rows, mov_zero, List.take_length, List.map_append]
    clear cg
    simp only [D0, ains, clsOf, abin, aint, aun, dnext, rowsOf, loadObj, cellsOf, ofCells, bnd, hmerge, Nat.reduceBEq, Nat.reduceAdd, reduceIte, Nat.reduceEqDiff, Nat.reduceLeDiff, Int.reduceEq, reduceCtorEq, Int.reduceBEq, Int.reduceBNe, Int.reduceLT, Int.reduceNeg, h', decide_false]
    refine .inr ⟨by simp, ?_⟩
    simp only [D0, ains, clsOf, abin, aint, aun, dnext, rowsOf, loadObj, cellsOf, ofCells, bnd, hmerge, Nat.reduceBEq, Nat.reduceAdd, reduceIte, Nat.reduceEqDiff, Nat.reduceLeDiff, Int.reduceEq, reduceCtorEq, Int.reduceBEq, Int.reduceBNe, Int.reduceLT, Int.reduceNeg, w1, w3, w4, hlt, hc2, fz, fzd, fzd.fzcells]
    simp only [F1, bodyRes, one, ains, clsOf, abin, aint, aun, dnext, rowsOf, loadObj, cellsOf, ofCells, bnd, hmerge, Nat.reduceBEq, Nat.reduceAdd, reduceIte, Nat.reduceEqDiff, Nat.reduceLeDiff, Int.reduceEq, reduceCtorEq, Int.reduceBEq, Int.reduceBNe, Int.reduceLT, Int.reduceNeg, fn25_res, fn25_keep, fz, fzd, fzd.fzcells, hsn, hp2, joinT_len]
def k25 : Kon (Int × List Nd × List Nd) := ⟨fun x => (SmS x.2.1 ∧ SmS x.2.2) ∧ x.2.1.length ≤ 1000000 ∧ x.2.2.length ≤ 1000000, fun x => [.int .i64 x.1, (AV.list 5 (List.map eNd x.2.1)), (AV.list 5 (List.map eNd x.2.2))], fun x => .list 5 (List.map eNd (pairT x.1 x.2.1 x.2.2))⟩
theorem e25 (k : Int) (a : List Nd) (b : List Nd) (hd : (SmS a ∧ SmS b) ∧ a.length ≤ 1000000 ∧ b.length ≤ 1000000) (q0 : Id) (H0 : Heap) : k25.ora q0 ([.int .i64 k, (AV.list 5 (List.map eNd a)), (AV.list 5 (List.map eNd b))]) H0 = some (.list 5 (List.map eNd (pairT k a b)), H0) := k25.eq (by dsimp only [k25]; rintro ⟨k, a, b⟩ ⟨k', a', b'⟩ h; simp only [List.cons.injEq, AV.int.injEq, and_true, true_and] at h; rw [h.1, eTree_inj (a := a) (b := a') h.2.1, eTree_inj (a := b) (b := b') h.2.2]) (k, a, b) hd q0 H0
theorem ook25 : OraOK Try.prog (25 % 100000) k25.ora := k25.ok orders y2_ok (fun x hd => by simp [k25, PU]) (fun x hd => by simp [k25, PU]) (fun x hd => run25 x.1 x.2.1 x.2.2 hd.1.1 hd.1.2 hd.2.1 hd.2.2)

/-! 24: caesuraref11.Parts. -/
noncomputable def y3 : FT := upd (upd (y2) 26 k26.ora) 25 k25.ora
theorem y3_ok : FTOK Try.prog y3 := upd_ok2 (f := 25) (upd_ok2 (f := 26) (y2_ok) ook26) ook25

noncomputable def y4 : FT := updC (updC y3 24 fn24b) 100070 { fn70 with keep := 0 }
theorem y4_ok : FTOK Try.prog y4 := updC_ok (f := 100070) (updC_ok (f := 24) y3_ok ok24b) ok70b
theorem run100070 (t : List Nd) (p q : Nat) (ht : SmT t) (hq : q < t.length) (hp : p ≤ q + 1) : cwp y4 100070 [] [(AV.list 5 (List.map eNd t)), .int .i64 p, .int .i64 q] [] (fun v H => v = .list 5 (List.map eNd (benT t p q)) ∧ H = []) := by
  refine run_fn (fn := { fn70 with keep := 0 }) rfl rfl ?_
  refine body70 t p q ht hq hp rfl fun e k he => ?_
  simp only [F1, bodyRes, one, ains, clsOf, abin, aint, aun, dnext, rowsOf, loadObj, cellsOf, ofCells, bnd, hmerge, Nat.reduceBEq, Nat.reduceAdd, reduceIte, Nat.reduceEqDiff, Nat.reduceLeDiff, Int.reduceEq, reduceCtorEq, Int.reduceBEq, Int.reduceBNe, Int.reduceLT, Int.reduceNeg, fn70_res, he, fz, fzd]
def k100070 : Kon (List Nd × Nat × Nat) := ⟨fun x => SmT x.1 ∧ x.2.2 < x.1.length ∧ x.2.1 ≤ x.2.2 + 1, fun x => [(AV.list 5 (List.map eNd x.1)), .int .i64 (x.2.1 : Int), .int .i64 (x.2.2 : Int)], fun x => .list 5 (List.map eNd (benT x.1 x.2.1 x.2.2))⟩
theorem e100070 (t : List Nd) (p : Nat) (q : Nat) (hd : SmT t ∧ q < t.length ∧ p ≤ q + 1) (q0 : Id) (H0 : Heap) : k100070.ora q0 ([(AV.list 5 (List.map eNd t)), .int .i64 (p : Int), .int .i64 (q : Int)]) H0 = some (.list 5 (List.map eNd (benT t p q)), H0) := k100070.eq (by dsimp only [k100070]; rintro ⟨a, b, c⟩ ⟨a', b', c'⟩ h; simp only [List.cons.injEq, AV.int.injEq, and_true, true_and] at h; rw [eTree_inj (a := a) (b := a') h.1, show b = b' by omega, show c = c' by omega]) (t, p, q) hd q0 H0
theorem ook100070 : OraOK Try.prog (100070 % 100000) k100070.ora := k100070.ok orders y4_ok (fun x hd => by simp [k100070, PU]) (fun x hd => by simp [k100070, PU]) (fun x hd => run100070 x.1 x.2.1 x.2.2 hd.1 hd.2.1 hd.2.2)

noncomputable def y5 : FT := upd (y4) 100070 k100070.ora
theorem y5_ok : FTOK Try.prog y5 := upd_ok2 (f := 100070) (y4_ok) ook100070

theorem eKz (t : List Nd) (i : Nat) (hd : SmT t ∧ i < t.length) (q : Id) (H : Heap) : k100070.ora q [(AV.list 5 (List.map eNd t)), .int .i64 0, .int .i64 (i : Int)] H = some (.list 5 (List.map eNd (t.take (i + 1))), H) := by
  have := e100070 t 0 i ⟨hd.1, hd.2, by omega⟩ q H
  rw [benT_zero] at this
  exact this
theorem run24 (t : List Nd) (ht : SmS t) : cwp y5 24 [] [(AV.list 5 (List.map eNd t))] [] (fun r H => r = .agg [.list 5 (List.map eNd (partA t)), .list 5 (List.map eNd (partB t)), .bool (partOK t)] ∧ H = []) := by
  refine run_fn (fn := fn24b) rfl rfl ?_
  have hw := ht.wf
  by_cases g : goodT t = true
  · obtain ⟨l, hl, h1, h2, h3, hc⟩ := good_last g
    have hsm := good_sm ht g
    have hle := fun i hi => (begs_cut hl i hi).1
    have hm := wrapm (j := t.length) (by omega) (by omega)
    have hg := map_get (f := eNd) (l := t) (j := t.length - 1) (by omega) default
    have hA : partA t = if partOK t then mov (t.take ((lastN t).a.toNat + 1)) 0 else [] := rfl
    have hB : partB t = if goodT t && isFork (lastN t) then mov ((t.take ((lastN t).b.toNat + 1)).drop ((lastN t).a.toNat + 1)) (-(((lastN t).a.toNat + 1 : Nat) : Int)) else [] := rfl
    have hO : partOK t = (goodT t && (isFork (lastN t) || decide ((lastN t).kind = 5))) := rfl
    rw [g] at hB hO
    have hgl : t.getD (t.length - 1) default = lastN t := rfl
    rw [hgl] at hg
    generalize lastN t = n at hc hg hA hB hO
    obtain ⟨k, a, b, c, z⟩ := n
    cases hc with
    | fork hk c2 hb0 c1 ha hn hg0 =>
      simp only at ha hb0
      have := hle (t.length - 1 - 1) (by omega)
      obtain ⟨a', rfl⟩ : ∃ a' : Nat, a = (a' : Int) := ⟨l.getD (t.length - 1 - 1) 0 - 1, by omega⟩
      obtain ⟨b', rfl⟩ : ∃ b' : Nat, b = (b' : Int) := ⟨t.length - 1 - 1, by omega⟩
      have wa := wrapp (j := a') (by omega)
      have hd : SmT t ∧ a' < t.length := ⟨hsm, by omega⟩
      have hd2 : SmT t ∧ b' < t.length ∧ a' + 1 ≤ b' + 1 := ⟨hsm, by omega, by omega⟩
      have cg := eKz t a' hd
      have cg2 := e100070 t (a' + 1) b' hd2
      have cu := @use_all y5 100070 k100070.ora rfl
      have hlA : (t.take (a' + 1)).length = a' + 1 := by simp; omega
      have hlB : (benT t (a' + 1) b').length = b' + 1 - (a' + 1) := by unfold benT; rw [mov_len]; simp; omega
      have hk' : k = 3 ∨ k = 4 := by simpa [isFork] using hk
      simp only [hk, Bool.true_or, Bool.and_self, if_true, Int.toNat_natCast] at hA hB hO
      rw [hO] at hA
      simp only [if_true, mov_zero] at hA
      have hB' : benT t (a' + 1) b' = partB t := hB.symm
      rw [hB'] at cg2 hlB
      clear hg0 hn hk hB hB'
      rcases hk' with rfl | rfl <;> simp only [fn24b_body, c24b, D0, ains, clsOf, abin, aint, aun, dnext, rowsOf, loadObj, cellsOf, ofCells, bnd, hmerge, Nat.reduceBEq, Nat.reduceAdd, reduceIte, Nat.reduceEqDiff, Nat.reduceLeDiff, Int.reduceEq, reduceCtorEq, Int.reduceBEq, Int.reduceBNe, Int.reduceLT, Int.reduceNeg, @use_all y5 30 k30.ora rfl, e30, cu, cg, cg2, hw, g, hm, hg, eNd, eSet, wa, hlA, hlB, fz, fzd, fzd.fzcells, lrc_x, apx, apart, apart1, needs, Int.natCast_nonneg, Int.toNat_natCast, decide_true]
      all_goals simp only [F1, bodyRes, one, ains, clsOf, abin, aint, aun, dnext, rowsOf, loadObj, cellsOf, ofCells, bnd, hmerge, Nat.reduceBEq, Nat.reduceAdd, reduceIte, Nat.reduceEqDiff, Nat.reduceLeDiff, Int.reduceEq, reduceCtorEq, Int.reduceBEq, Int.reduceBNe, Int.reduceLT, Int.reduceNeg, fn24b_res, fn24b_keep, fz, fzd, fzd.fzcells, hA, hO]
    | star hf hk c1 ha hb0 hn hg0 =>
      simp only at ha hb0 hk
      obtain ⟨a', rfl⟩ : ∃ a' : Nat, a = (a' : Int) := ⟨t.length - 1 - 1, by omega⟩
      have hd : SmT t ∧ a' < t.length := ⟨hsm, by omega⟩
      have cg := eKz t a' hd
      have cu := @use_all y5 100070 k100070.ora rfl
      have hlA : (t.take (a' + 1)).length = a' + 1 := by simp; omega
      subst hk
      simp only [hf, Bool.false_or, Bool.and_false, Bool.and_self, Bool.false_eq_true, if_false, if_true, Int.toNat_natCast, decide_true] at hA hB hO
      rw [hO] at hA
      simp only [if_true, mov_zero] at hA
      clear hg0 hn hf
      simp only [fn24b_body, c24b, D0, ains, clsOf, abin, aint, aun, dnext, rowsOf, loadObj, cellsOf, ofCells, bnd, hmerge, Nat.reduceBEq, Nat.reduceAdd, reduceIte, Nat.reduceEqDiff, Nat.reduceLeDiff, Int.reduceEq, reduceCtorEq, Int.reduceBEq, Int.reduceBNe, Int.reduceLT, Int.reduceNeg, @use_all y5 30 k30.ora rfl, e30, cu, cg, hw, g, hm, hg, eNd, eSet, hlA, fz, fzd, fzd.fzcells, Int.natCast_nonneg, Int.toNat_natCast, decide_true]
      all_goals simp only [F1, bodyRes, one, ains, clsOf, abin, aint, aun, dnext, rowsOf, loadObj, cellsOf, ofCells, bnd, hmerge, Nat.reduceBEq, Nat.reduceAdd, reduceIte, Nat.reduceEqDiff, Nat.reduceLeDiff, Int.reduceEq, reduceCtorEq, Int.reduceBEq, Int.reduceBNe, Int.reduceLT, Int.reduceNeg, fn24b_res, fn24b_keep, fz, fzd, fzd.fzcells, hA, hB, hO]
    | leaf hf hk hn hg0 =>
      simp only at hk
      have hk3 : (k == 3) = false := by simp [isFork] at hf; simp [hf]
      have hk4 : (k == 4) = false := by simp [isFork] at hf; simp [hf]
      have hk5 : (k == 5) = false := by simpa using hk
      simp only [hf, Bool.false_or, Bool.and_false, Bool.false_eq_true, if_false, hk, decide_false] at hA hB hO
      rw [hO] at hA
      simp only [Bool.false_eq_true, if_false] at hA
      clear hg0 hn hf
      simp only [fn24b_body, c24b, D0, ains, clsOf, abin, aint, aun, dnext, rowsOf, loadObj, cellsOf, ofCells, bnd, hmerge, Nat.reduceBEq, Nat.reduceAdd, reduceIte, Nat.reduceEqDiff, Nat.reduceLeDiff, Int.reduceEq, reduceCtorEq, Int.reduceBEq, Int.reduceBNe, Int.reduceLT, Int.reduceNeg, @use_all y5 30 k30.ora rfl, e30, hw, g, hm, hg, eNd, eSet, hk3, hk4, hk5, fz, fzd, fzd.fzcells, Int.natCast_nonneg, Int.toNat_natCast, decide_true]
      all_goals simp only [F1, bodyRes, one, ains, clsOf, abin, aint, aun, dnext, rowsOf, loadObj, cellsOf, ofCells, bnd, hmerge, Nat.reduceBEq, Nat.reduceAdd, reduceIte, Nat.reduceEqDiff, Nat.reduceLeDiff, Int.reduceEq, reduceCtorEq, Int.reduceBEq, Int.reduceBNe, Int.reduceLT, Int.reduceNeg, fn24b_res, fn24b_keep, fz, fzd, fzd.fzcells, hA, hB, hO]
  · have g' : goodT t = false := by simpa using g
    have hO : partOK t = false := by simp [partOK, g']
    have hA : partA t = [] := by simp [partA, hO]
    have hB : partB t = [] := by simp [partB, g']
    simp only [fn24b_body, c24b, D0, ains, clsOf, abin, aint, aun, dnext, rowsOf, loadObj, cellsOf, ofCells, bnd, hmerge, Nat.reduceBEq, Nat.reduceAdd, reduceIte, Nat.reduceEqDiff, Nat.reduceLeDiff, Int.reduceEq, reduceCtorEq, Int.reduceBEq, Int.reduceBNe, Int.reduceLT, Int.reduceNeg, @use_all y5 30 k30.ora rfl, e30, hw, g', fz, fzd, fzd.fzcells]
    simp only [F1, bodyRes, one, ains, clsOf, abin, aint, aun, dnext, rowsOf, loadObj, cellsOf, ofCells, bnd, hmerge, Nat.reduceBEq, Nat.reduceAdd, reduceIte, Nat.reduceEqDiff, Nat.reduceLeDiff, Int.reduceEq, reduceCtorEq, Int.reduceBEq, Int.reduceBNe, Int.reduceLT, Int.reduceNeg, fn24b_res, fn24b_keep, fz, fzd, fzd.fzcells, hA, hB, hO]
def k24 : Kon (List Nd) := ⟨fun x => SmS x, fun x => [(AV.list 5 (List.map eNd x))], fun x => .agg [.list 5 (List.map eNd (partA x)), .list 5 (List.map eNd (partB x)), .bool (partOK x)]⟩
theorem e24 (t : List Nd) (hd : SmS t) (q0 : Id) (H0 : Heap) : k24.ora q0 ([(AV.list 5 (List.map eNd t))]) H0 = some (.agg [.list 5 (List.map eNd (partA t)), .list 5 (List.map eNd (partB t)), .bool (partOK t)], H0) := k24.eq (treeInj) (t) hd q0 H0
theorem ook24 : OraOK Try.prog (24 % 100000) k24.ora := k24.ok orders y5_ok (fun x hd => by simp [k24, PU]) (fun x hd => by simp [k24, PU]) (fun x hd => run24 x hd)

noncomputable def y6 : FT := upd (y5) 24 k24.ora
theorem y6_ok : FTOK Try.prog y6 := upd_ok2 (f := 24) (y5_ok) ook24

end Go.Proofs.Abs
