/- A part of a proof: the text that states the row tells what is proved. No condition is laid on anything. -/
import Derived.Test.YtgcncpedpjjjeaaAbsE6
import Derived.Test.YtgcncpedpjjjeaaAbsF1
set_option linter.all false
set_option linter.constructorNameAsVariable false
set_option linter.defProp false
set_option linter.unusedVariables false
set_option linter.unusedSimpArgs false
set_option maxRecDepth 100000
set_option maxHeartbeats 4000000
namespace Go.Proofs.Abs
open Go
noncomputable def v1 : FT := upd (upd (upd (upd (t7) 69 k69.ora) 77 k77.ora) 68 k68.ora) 100068 k100068.ora
theorem v1_ok : FTOK Try.prog v1 := upd_ok2 (f := 100068) (upd_ok2 (f := 68) (upd_ok2 (f := 77) (upd_ok2 (f := 69) (t7_ok) ook69) ook77) ook68) ook100068

/-- Trees of small sets. -/
structure SmS (t : List Nd) : Prop where
  wf : WfT t
  set : ∀ n ∈ t, n.set.length ≤ 600
theorem good_sm {t : List Nd} (hs : SmS t) (h : goodT t = true) : SmT t := by
  obtain ⟨h1, h2, l, hl, h3⟩ := goodT_iff.1 h
  refine ⟨h2, fun n hn => ?_⟩
  obtain ⟨i, hi, rfl⟩ := List.getElem_of_mem hn
  obtain ⟨h4, hc⟩ := begs_cut hl i hi
  have hset := hs.set _ hn
  cases hc with
  | fork hk c2 hb c1 ha hn hg =>
    have := (begs_cut hl (i - 1) (by omega)).1
    exact ⟨hset, by omega, by omega⟩
  | star hf hk c1 ha hb hn hg => exact ⟨hset, by omega, by omega⟩
  | leaf hf hk hn hg =>
    simp only [leafN, Bool.and_eq_true, decide_eq_true_eq] at hn
    exact ⟨hset, by omega, by omega⟩
def pairB (a b : List Nd) : Bool := goodT a && goodT b && decide (a.length + b.length + 1 ≤ 40000)
def pairT (k : Int) (a b : List Nd) : List Nd := if pairB a b then joinT k a b else []
def starB (a : List Nd) : Bool := goodT a && decide (a.length + 1 ≤ 40000)
def starTT (a : List Nd) : List Nd := if starB a then starT a else []
theorem joinT_len (k : Int) (a b : List Nd) : (joinT k a b).length = a.length + b.length + 1 := by simp [joinT, mov]; omega
theorem starT_len (a : List Nd) : (starT a).length = a.length + 1 := by simp [starT]
theorem joinT_rows (k : Int) (a b : List Nd) : List.map eNd (mov a 0) ++ List.map eNd (mov b a.length) ++ [[AV.int .i64 k, .int .i64 ((a.length : Int) - 1), .int .i64 ((a.length : Int) + b.length - 1), .list 2 [], .str ⟨#[]⟩]] = List.map eNd (joinT k a b) := by
  rw [mov_zero]
  simp only [joinT, List.map_append]
  rfl
theorem starT_rows (a : List Nd) : List.map eNd (mov a 0) ++ [[AV.int .i64 5, .int .i64 ((a.length : Int) - 1), .int .i64 0, .list 2 [], .str ⟨#[]⟩]] = List.map eNd (starT a) := by
  rw [mov_zero]
  simp only [starT, List.map_append]
  rfl
/-! 67: tree.pair. -/
theorem run67 (k : Int) (a b : List Nd) (ha : SmS a) (hb : SmS b) (hla : a.length ≤ 1000000) (hlb : b.length ≤ 1000000) : cwp v1 67 [] [.int .i64 k, (AV.list 5 (List.map eNd a)), (AV.list 5 (List.map eNd b))] [] (fun r H => r = .tuple [.list 5 (List.map eNd (pairT k a b)), .bool (pairB a b)] ∧ H = []) := by
  refine run_fn (fn := fn67) rfl rfl ?_
  have hwa := ha.wf
  have hwb := hb.wf
  by_cases g1 : goodT a = true
  · by_cases g2 : goodT b = true
    · have w1 : IntKind.i64.wrap ((a.length : Int) + (b.length : Int)) = (a.length : Int) + (b.length : Int) := wrap64 (by omega) (by omega)
      have w2 : IntKind.i64.wrap ((a.length : Int) + (b.length : Int) + 1) = (a.length : Int) + (b.length : Int) + 1 := wrap64 (by omega) (by omega)
      by_cases g3 : a.length + b.length + 1 ≤ 40000
      · have g3' : ¬ (a.length : Int) + (b.length : Int) + 1 > 40000 := by omega
        have hp : pairB a b = true := by simp [pairB, g1, g2, g3]
        have hp2 : pairT k a b = joinT k a b := by simp [pairT, hp]
        have sa := good_sm ha g1
        have sb := good_sm hb g2
        have d1 : SmT a ∧ -200000 ≤ (0 : Int) ∧ (0 : Int) ≤ 200000 := ⟨sa, by omega, by omega⟩
        have d2 : SmT b ∧ -200000 ≤ (a.length : Int) ∧ (a.length : Int) ≤ 200000 := ⟨sb, by omega, by omega⟩
        have c1 : (a.length + b.length) * 64 ≤ 140737488355328 := by omega
        have c2 : (a.length + b.length + 1) * 64 ≤ 140737488355328 := by omega
        have hga : 1 ≤ a.length := (goodT_iff.1 g1).1
        have w3 : IntKind.i64.wrap ((a.length : Int) - 1) = (a.length : Int) - 1 := wrap64 (by omega) (by omega)
        have w4 : IntKind.i64.wrap (((a.length + b.length : Nat) : Int) - 1) = (a.length : Int) + (b.length : Int) - 1 := by rw [wrap64 (by omega) (by omega)]; omega
        simp only [fn67_body, c67, D0, ains, clsOf, abin, aint, aun, dnext, rowsOf, loadObj, cellsOf, ofCells, bnd, hmerge, Nat.reduceBEq, Nat.reduceAdd, reduceIte, Nat.reduceEqDiff, Nat.reduceLeDiff, Int.reduceEq, reduceCtorEq, Int.reduceBEq, Int.reduceBNe, Int.reduceLT, Int.reduceNeg, @use_all v1 29 k29.ora rfl, e29, @use_all v1 68 k68.ora rfl, e68, hwa, hwb, g1, g2, w1, w2, g3', d1, d2, c1, c2, w3, w4, decide_false, decide_true, mov_len, List.length_append]
        simp only [F1, bodyRes, one, ains, clsOf, abin, aint, aun, dnext, rowsOf, loadObj, cellsOf, ofCells, bnd, hmerge, Nat.reduceBEq, Nat.reduceAdd, reduceIte, Nat.reduceEqDiff, Nat.reduceLeDiff, Int.reduceEq, reduceCtorEq, Int.reduceBEq, Int.reduceBNe, Int.reduceLT, Int.reduceNeg, fn67_res, fn67_keep, fz, fzd, fzd.fzcells, List.length_append, mov_len, joinT_rows, joinT_len, hp, hp2]
      · have g3' : (a.length : Int) + (b.length : Int) + 1 > 40000 := by omega
        have hp : pairB a b = false := by simp [pairB, g1, g2, g3]
        have hp2 : pairT k a b = [] := by simp [pairT, hp]
        simp only [fn67_body, c67, D0, ains, clsOf, abin, aint, aun, dnext, rowsOf, loadObj, cellsOf, ofCells, bnd, hmerge, Nat.reduceBEq, Nat.reduceAdd, reduceIte, Nat.reduceEqDiff, Nat.reduceLeDiff, Int.reduceEq, reduceCtorEq, Int.reduceBEq, Int.reduceBNe, Int.reduceLT, Int.reduceNeg, @use_all v1 29 k29.ora rfl, e29, @use_all v1 68 k68.ora rfl, e68, hwa, hwb, g1, g2, w1, w2, g3', decide_true]
        simp only [F1, bodyRes, one, ains, clsOf, abin, aint, aun, dnext, rowsOf, loadObj, cellsOf, ofCells, bnd, hmerge, Nat.reduceBEq, Nat.reduceAdd, reduceIte, Nat.reduceEqDiff, Nat.reduceLeDiff, Int.reduceEq, reduceCtorEq, Int.reduceBEq, Int.reduceBNe, Int.reduceLT, Int.reduceNeg, fn67_res, fn67_keep, fz, fzd, fzd.fzcells, hp, hp2]
    · have g2' : goodT b = false := by simpa using g2
      have hp : pairB a b = false := by simp [pairB, g1, g2]
      have hp2 : pairT k a b = [] := by simp [pairT, hp]
      simp only [fn67_body, c67, D0, ains, clsOf, abin, aint, aun, dnext, rowsOf, loadObj, cellsOf, ofCells, bnd, hmerge, Nat.reduceBEq, Nat.reduceAdd, reduceIte, Nat.reduceEqDiff, Nat.reduceLeDiff, Int.reduceEq, reduceCtorEq, Int.reduceBEq, Int.reduceBNe, Int.reduceLT, Int.reduceNeg, @use_all v1 29 k29.ora rfl, e29, @use_all v1 68 k68.ora rfl, e68, hwa, hwb, g1, g2']
      simp only [F1, bodyRes, one, ains, clsOf, abin, aint, aun, dnext, rowsOf, loadObj, cellsOf, ofCells, bnd, hmerge, Nat.reduceBEq, Nat.reduceAdd, reduceIte, Nat.reduceEqDiff, Nat.reduceLeDiff, Int.reduceEq, reduceCtorEq, Int.reduceBEq, Int.reduceBNe, Int.reduceLT, Int.reduceNeg, fn67_res, fn67_keep, fz, fzd, fzd.fzcells, hp, hp2]
  · have g1' : goodT a = false := by simpa using g1
    have hp : pairB a b = false := by simp [pairB, g1]
    have hp2 : pairT k a b = [] := by simp [pairT, hp]
    simp only [fn67_body, c67, D0, ains, clsOf, abin, aint, aun, dnext, rowsOf, loadObj, cellsOf, ofCells, bnd, hmerge, Nat.reduceBEq, Nat.reduceAdd, reduceIte, Nat.reduceEqDiff, Nat.reduceLeDiff, Int.reduceEq, reduceCtorEq, Int.reduceBEq, Int.reduceBNe, Int.reduceLT, Int.reduceNeg, @use_all v1 29 k29.ora rfl, e29, @use_all v1 68 k68.ora rfl, e68, hwa, hwb, g1']
    simp only [F1, bodyRes, one, ains, clsOf, abin, aint, aun, dnext, rowsOf, loadObj, cellsOf, ofCells, bnd, hmerge, Nat.reduceBEq, Nat.reduceAdd, reduceIte, Nat.reduceEqDiff, Nat.reduceLeDiff, Int.reduceEq, reduceCtorEq, Int.reduceBEq, Int.reduceBNe, Int.reduceLT, Int.reduceNeg, fn67_res, fn67_keep, fz, fzd, fzd.fzcells, hp, hp2]
/-! 19, 20: tree.Cat, tree.Alt. -/
theorem tree2Inj : ∀ x y : List Nd × List Nd, [(AV.list 5 (List.map eNd x.1)), (AV.list 5 (List.map eNd x.2))] = [(AV.list 5 (List.map eNd y.1)), (AV.list 5 (List.map eNd y.2))] → x = y := by
  rintro ⟨a, m⟩ ⟨b, n⟩ h
  simp only [List.cons.injEq, and_true] at h
  rw [eTree_inj (a := a) (b := b) h.1, eTree_inj (a := m) (b := n) h.2]
def k67 : Kon (Int × List Nd × List Nd) := ⟨fun x => (SmS x.2.1 ∧ SmS x.2.2) ∧ x.2.1.length ≤ 1000000 ∧ x.2.2.length ≤ 1000000, fun x => [.int .i64 x.1, (AV.list 5 (List.map eNd x.2.1)), (AV.list 5 (List.map eNd x.2.2))], fun x => .tuple [.list 5 (List.map eNd (pairT x.1 x.2.1 x.2.2)), .bool (pairB x.2.1 x.2.2)]⟩
theorem e67 (k : Int) (a : List Nd) (b : List Nd) (hd : (SmS a ∧ SmS b) ∧ a.length ≤ 1000000 ∧ b.length ≤ 1000000) (q0 : Id) (H0 : Heap) : k67.ora q0 ([.int .i64 k, (AV.list 5 (List.map eNd a)), (AV.list 5 (List.map eNd b))]) H0 = some (.tuple [.list 5 (List.map eNd (pairT k a b)), .bool (pairB a b)], H0) := k67.eq (by dsimp only [k67]; rintro ⟨k, a, b⟩ ⟨k', a', b'⟩ h; simp only [List.cons.injEq, AV.int.injEq, and_true, true_and] at h; rw [h.1, eTree_inj (a := a) (b := a') h.2.1, eTree_inj (a := b) (b := b') h.2.2]) (k, a, b) hd q0 H0
theorem ook67 : OraOK Try.prog (67 % 100000) k67.ora := k67.ok orders v1_ok (fun x hd => by simp [k67, PU]) (fun x hd => by simp [k67, PU]) (fun x hd => run67 x.1 x.2.1 x.2.2 hd.1.1 hd.1.2 hd.2.1 hd.2.2)

noncomputable def v2 : FT := upd (v1) 67 k67.ora
theorem v2_ok : FTOK Try.prog v2 := upd_ok2 (f := 67) (v1_ok) ook67

theorem run19 (a b : List Nd) (hd : (SmS a ∧ SmS b) ∧ a.length ≤ 1000000 ∧ b.length ≤ 1000000) : cwp v2 19 [] [(AV.list 5 (List.map eNd a)), (AV.list 5 (List.map eNd b))] [] (fun r H => r = .tuple [.list 5 (List.map eNd (pairT 3 a b)), .bool (pairB a b)] ∧ H = []) := by
  refine run_fn (fn := fn19) rfl rfl ?_
  simp only [fn19_body, c19, D0, ains, clsOf, abin, aint, aun, dnext, rowsOf, loadObj, cellsOf, ofCells, bnd, hmerge, Nat.reduceBEq, Nat.reduceAdd, reduceIte, Nat.reduceEqDiff, Nat.reduceLeDiff, Int.reduceEq, reduceCtorEq, Int.reduceBEq, Int.reduceBNe, Int.reduceLT, Int.reduceNeg, @use_all v2 67 k67.ora rfl, e67, hd]
  simp only [F1, bodyRes, one, ains, clsOf, abin, aint, aun, dnext, rowsOf, loadObj, cellsOf, ofCells, bnd, hmerge, Nat.reduceBEq, Nat.reduceAdd, reduceIte, Nat.reduceEqDiff, Nat.reduceLeDiff, Int.reduceEq, reduceCtorEq, Int.reduceBEq, Int.reduceBNe, Int.reduceLT, Int.reduceNeg, fn19_res, fn19_keep, fz, fzd, fzd.fzcells]
theorem run20 (a b : List Nd) (hd : (SmS a ∧ SmS b) ∧ a.length ≤ 1000000 ∧ b.length ≤ 1000000) : cwp v2 20 [] [(AV.list 5 (List.map eNd a)), (AV.list 5 (List.map eNd b))] [] (fun r H => r = .tuple [.list 5 (List.map eNd (pairT 4 a b)), .bool (pairB a b)] ∧ H = []) := by
  refine run_fn (fn := fn20) rfl rfl ?_
  simp only [fn20_body, c20, D0, ains, clsOf, abin, aint, aun, dnext, rowsOf, loadObj, cellsOf, ofCells, bnd, hmerge, Nat.reduceBEq, Nat.reduceAdd, reduceIte, Nat.reduceEqDiff, Nat.reduceLeDiff, Int.reduceEq, reduceCtorEq, Int.reduceBEq, Int.reduceBNe, Int.reduceLT, Int.reduceNeg, @use_all v2 67 k67.ora rfl, e67, hd]
  simp only [F1, bodyRes, one, ains, clsOf, abin, aint, aun, dnext, rowsOf, loadObj, cellsOf, ofCells, bnd, hmerge, Nat.reduceBEq, Nat.reduceAdd, reduceIte, Nat.reduceEqDiff, Nat.reduceLeDiff, Int.reduceEq, reduceCtorEq, Int.reduceBEq, Int.reduceBNe, Int.reduceLT, Int.reduceNeg, fn20_res, fn20_keep, fz, fzd, fzd.fzcells]
/-! 21: tree.Star. -/
theorem run21 (a : List Nd) (ha : SmS a) (hla : a.length ≤ 1000000) : cwp v2 21 [] [(AV.list 5 (List.map eNd a))] [] (fun r H => r = .tuple [.list 5 (List.map eNd (starTT a)), .bool (starB a)] ∧ H = []) := by
  refine run_fn (fn := fn21) rfl rfl ?_
  have hwa := ha.wf
  by_cases g1 : goodT a = true
  · have w1 : IntKind.i64.wrap ((a.length : Int) + 1) = (a.length : Int) + 1 := wrap64 (by omega) (by omega)
    by_cases g3 : a.length + 1 ≤ 40000
    · have g3' : ¬ (a.length : Int) + 1 > 40000 := by omega
      have hp : starB a = true := by simp [starB, g1, g3]
      have hp2 : starTT a = starT a := by simp [starTT, hp]
      have sa := good_sm ha g1
      have d1 : SmT a ∧ -200000 ≤ (0 : Int) ∧ (0 : Int) ≤ 200000 := ⟨sa, by omega, by omega⟩
      have c1 : (a.length + 1) * 64 ≤ 140737488355328 := by omega
      have hga : 1 ≤ a.length := (goodT_iff.1 g1).1
      have w3 : IntKind.i64.wrap ((a.length : Int) - 1) = (a.length : Int) - 1 := wrap64 (by omega) (by omega)
      simp only [fn21_body, c21, D0, ains, clsOf, abin, aint, aun, dnext, rowsOf, loadObj, cellsOf, ofCells, bnd, hmerge, Nat.reduceBEq, Nat.reduceAdd, reduceIte, Nat.reduceEqDiff, Nat.reduceLeDiff, Int.reduceEq, reduceCtorEq, Int.reduceBEq, Int.reduceBNe, Int.reduceLT, Int.reduceNeg, @use_all v2 29 k29.ora rfl, e29, @use_all v2 68 k68.ora rfl, e68, hwa, g1, w1, g3', d1, c1, w3, decide_false, decide_true, mov_len]
      simp only [F1, bodyRes, one, ains, clsOf, abin, aint, aun, dnext, rowsOf, loadObj, cellsOf, ofCells, bnd, hmerge, Nat.reduceBEq, Nat.reduceAdd, reduceIte, Nat.reduceEqDiff, Nat.reduceLeDiff, Int.reduceEq, reduceCtorEq, Int.reduceBEq, Int.reduceBNe, Int.reduceLT, Int.reduceNeg, fn21_res, fn21_keep, fz, fzd, fzd.fzcells, List.length_append, mov_len, starT_rows, starT_len, hp, hp2]
    · have g3' : (a.length : Int) + 1 > 40000 := by omega
      have hp : starB a = false := by simp [starB, g1, g3]
      have hp2 : starTT a = [] := by simp [starTT, hp]
      simp only [fn21_body, c21, D0, ains, clsOf, abin, aint, aun, dnext, rowsOf, loadObj, cellsOf, ofCells, bnd, hmerge, Nat.reduceBEq, Nat.reduceAdd, reduceIte, Nat.reduceEqDiff, Nat.reduceLeDiff, Int.reduceEq, reduceCtorEq, Int.reduceBEq, Int.reduceBNe, Int.reduceLT, Int.reduceNeg, @use_all v2 29 k29.ora rfl, e29, @use_all v2 68 k68.ora rfl, e68, hwa, g1, w1, g3', decide_true]
      simp only [F1, bodyRes, one, ains, clsOf, abin, aint, aun, dnext, rowsOf, loadObj, cellsOf, ofCells, bnd, hmerge, Nat.reduceBEq, Nat.reduceAdd, reduceIte, Nat.reduceEqDiff, Nat.reduceLeDiff, Int.reduceEq, reduceCtorEq, Int.reduceBEq, Int.reduceBNe, Int.reduceLT, Int.reduceNeg, fn21_res, fn21_keep, fz, fzd, fzd.fzcells, hp, hp2]
  · have g1' : goodT a = false := by simpa using g1
    have hp : starB a = false := by simp [starB, g1]
    have hp2 : starTT a = [] := by simp [starTT, hp]
    simp only [fn21_body, c21, D0, ains, clsOf, abin, aint, aun, dnext, rowsOf, loadObj, cellsOf, ofCells, bnd, hmerge, Nat.reduceBEq, Nat.reduceAdd, reduceIte, Nat.reduceEqDiff, Nat.reduceLeDiff, Int.reduceEq, reduceCtorEq, Int.reduceBEq, Int.reduceBNe, Int.reduceLT, Int.reduceNeg, @use_all v2 29 k29.ora rfl, e29, @use_all v2 68 k68.ora rfl, e68, hwa, g1']
    simp only [F1, bodyRes, one, ains, clsOf, abin, aint, aun, dnext, rowsOf, loadObj, cellsOf, ofCells, bnd, hmerge, Nat.reduceBEq, Nat.reduceAdd, reduceIte, Nat.reduceEqDiff, Nat.reduceLeDiff, Int.reduceEq, reduceCtorEq, Int.reduceBEq, Int.reduceBNe, Int.reduceLT, Int.reduceNeg, fn21_res, fn21_keep, fz, fzd, fzd.fzcells, hp, hp2]
def k19 : Kon (List Nd × List Nd) := ⟨fun x => (SmS x.1 ∧ SmS x.2) ∧ x.1.length ≤ 1000000 ∧ x.2.length ≤ 1000000, fun x => [(AV.list 5 (List.map eNd x.1)), (AV.list 5 (List.map eNd x.2))], fun x => .tuple [.list 5 (List.map eNd (pairT 3 x.1 x.2)), .bool (pairB x.1 x.2)]⟩
theorem e19 (a : List Nd) (b : List Nd) (hd : (SmS a ∧ SmS b) ∧ a.length ≤ 1000000 ∧ b.length ≤ 1000000) (q0 : Id) (H0 : Heap) : k19.ora q0 ([(AV.list 5 (List.map eNd a)), (AV.list 5 (List.map eNd b))]) H0 = some (.tuple [.list 5 (List.map eNd (pairT 3 a b)), .bool (pairB a b)], H0) := k19.eq (tree2Inj) (a, b) hd q0 H0
theorem ook19 : OraOK Try.prog (19 % 100000) k19.ora := k19.ok orders v2_ok (fun x hd => by simp [k19, PU]) (fun x hd => by simp [k19, PU]) (fun x hd => run19 x.1 x.2 hd)

def k20 : Kon (List Nd × List Nd) := ⟨fun x => (SmS x.1 ∧ SmS x.2) ∧ x.1.length ≤ 1000000 ∧ x.2.length ≤ 1000000, fun x => [(AV.list 5 (List.map eNd x.1)), (AV.list 5 (List.map eNd x.2))], fun x => .tuple [.list 5 (List.map eNd (pairT 4 x.1 x.2)), .bool (pairB x.1 x.2)]⟩
theorem e20 (a : List Nd) (b : List Nd) (hd : (SmS a ∧ SmS b) ∧ a.length ≤ 1000000 ∧ b.length ≤ 1000000) (q0 : Id) (H0 : Heap) : k20.ora q0 ([(AV.list 5 (List.map eNd a)), (AV.list 5 (List.map eNd b))]) H0 = some (.tuple [.list 5 (List.map eNd (pairT 4 a b)), .bool (pairB a b)], H0) := k20.eq (tree2Inj) (a, b) hd q0 H0
theorem ook20 : OraOK Try.prog (20 % 100000) k20.ora := k20.ok orders v2_ok (fun x hd => by simp [k20, PU]) (fun x hd => by simp [k20, PU]) (fun x hd => run20 x.1 x.2 hd)

def k21 : Kon (List Nd) := ⟨fun x => SmS x ∧ x.length ≤ 1000000, fun x => [(AV.list 5 (List.map eNd x))], fun x => .tuple [.list 5 (List.map eNd (starTT x)), .bool (starB x)]⟩
theorem e21 (a : List Nd) (hd : SmS a ∧ a.length ≤ 1000000) (q0 : Id) (H0 : Heap) : k21.ora q0 ([(AV.list 5 (List.map eNd a))]) H0 = some (.tuple [.list 5 (List.map eNd (starTT a)), .bool (starB a)], H0) := k21.eq (treeInj) (a) hd q0 H0
theorem ook21 : OraOK Try.prog (21 % 100000) k21.ora := k21.ok orders v2_ok (fun x hd => by simp [k21, PU]) (fun x hd => by simp [k21, PU]) (fun x hd => run21 x hd.1 hd.2)

noncomputable def v3 : FT := upd (upd (upd (v2) 19 k19.ora) 20 k20.ora) 21 k21.ora
theorem v3_ok : FTOK Try.prog v3 := upd_ok2 (f := 21) (upd_ok2 (f := 20) (upd_ok2 (f := 19) (v2_ok) ook19) ook20) ook21

end Go.Proofs.Abs
