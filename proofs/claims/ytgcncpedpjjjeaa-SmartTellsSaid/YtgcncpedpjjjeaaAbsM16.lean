/- A part of a proof: the text that states the row tells what is proved. No condition is laid on anything. -/
import Derived.Test.YtgcncpedpjjjeaaAbsM15
set_option linter.all false
set_option linter.constructorNameAsVariable false
set_option linter.defProp false
set_option linter.unusedVariables false
set_option linter.unusedSimpArgs false
set_option maxRecDepth 100000
set_option maxHeartbeats 4000000
namespace Go.Proofs.Abs
open Go
/-! 43: caesuraref12.Alt. -/
theorem run43 (a b : List Nd) (sa : SmS a) (sb : SmS b) (la : a.length ≤ 1000000) (lb : b.length ≤ 1000000) : cwp q5 43 [] [(AV.list 5 (List.map eNd a)), (AV.list 5 (List.map eNd b))] [] (fun r H => r = (AV.list 5 (List.map eNd (encO (altT a b)))) ∧ H = []) := by
  refine run_fn (fn := fn43) rfl rfl ?_
  have wa := sa.wf
  have wb := sb.wf
  by_cases g1 : goodT a = true
  case neg =>
    have g1' : goodT a = false := by simpa using g1
    have hr : altT a b = none := altT_no (.inl g1')
    simp only [fn43_body, c43, D0, ains, clsOf, abin, aint, aun, dnext, rowsOf, loadObj, cellsOf, ofCells, bnd, hmerge, Nat.reduceBEq, Nat.reduceAdd, reduceIte, Nat.reduceEqDiff, Nat.reduceLeDiff, Int.reduceEq, reduceCtorEq, Int.reduceBEq, Int.reduceBNe, Int.reduceLT, Int.reduceNeg, @use_all q5 30 k30.ora rfl, e30, wa, g1']
    simp only [F1, bodyRes, one, ains, clsOf, abin, aint, aun, dnext, rowsOf, loadObj, cellsOf, ofCells, bnd, hmerge, Nat.reduceBEq, Nat.reduceAdd, reduceIte, Nat.reduceEqDiff, Nat.reduceLeDiff, Int.reduceEq, reduceCtorEq, Int.reduceBEq, Int.reduceBNe, Int.reduceLT, Int.reduceNeg, fn43_res, fn43_keep, fz, fzd, fzd.fzcells, hr, encO]
  by_cases g2 : goodT b = true
  case neg =>
    have g2' : goodT b = false := by simpa using g2
    have hr : altT a b = none := altT_no (.inr g2')
    simp only [fn43_body, c43, D0, ains, clsOf, abin, aint, aun, dnext, rowsOf, loadObj, cellsOf, ofCells, bnd, hmerge, Nat.reduceBEq, Nat.reduceAdd, reduceIte, Nat.reduceEqDiff, Nat.reduceLeDiff, Int.reduceEq, reduceCtorEq, Int.reduceBEq, Int.reduceBNe, Int.reduceLT, Int.reduceNeg, @use_all q5 30 k30.ora rfl, e30, wa, wb, g1, g2']
    simp only [F1, bodyRes, one, ains, clsOf, abin, aint, aun, dnext, rowsOf, loadObj, cellsOf, ofCells, bnd, hmerge, Nat.reduceBEq, Nat.reduceAdd, reduceIte, Nat.reduceEqDiff, Nat.reduceLeDiff, Int.reduceEq, reduceCtorEq, Int.reduceBEq, Int.reduceBNe, Int.reduceLT, Int.reduceNeg, fn43_res, fn43_keep, fz, fzd, fzd.fzcells, hr, encO]
  obtain ⟨x, hx, rfl⟩ := okS_of ⟨sa, g1⟩
  obtain ⟨y, hy, rfl⟩ := okS_of ⟨sb, g2⟩
  rw [altT_enc hx hy]
  have nx := hx.ne
  have ny := hy.ne
  have kx := lastN_enc x
  have ky := lastN_enc y
  by_cases n1 : rk x = 0
  case pos =>
    have hr : altO x y = some y := by simp [altO, n1]
    simp only [fn43_body, c43, D0, ains, clsOf, abin, aint, aun, dnext, rowsOf, loadObj, cellsOf, ofCells, bnd, hmerge, Nat.reduceBEq, Nat.reduceAdd, reduceIte, Nat.reduceEqDiff, Nat.reduceLeDiff, Int.reduceEq, reduceCtorEq, Int.reduceBEq, Int.reduceBNe, Int.reduceLT, Int.reduceNeg, @use_all q5 30 k30.ora rfl, e30, @use_all q5 81 k81.ora rfl, e81, wa, wb, g1, g2, nx, ny, kx, ky, n1]
    simp only [F1, bodyRes, one, ains, clsOf, abin, aint, aun, dnext, rowsOf, loadObj, cellsOf, ofCells, bnd, hmerge, Nat.reduceBEq, Nat.reduceAdd, reduceIte, Nat.reduceEqDiff, Nat.reduceLeDiff, Int.reduceEq, reduceCtorEq, Int.reduceBEq, Int.reduceBNe, Int.reduceLT, Int.reduceNeg, fn43_res, fn43_keep, fz, fzd, fzd.fzcells, hr, encO]
  have m1 := beq_no n1
  by_cases n2 : rk y = 0
  case pos =>
    have hr : altO x y = some x := by simp [altO, n1, n2]
    simp only [fn43_body, c43, D0, ains, clsOf, abin, aint, aun, dnext, rowsOf, loadObj, cellsOf, ofCells, bnd, hmerge, Nat.reduceBEq, Nat.reduceAdd, reduceIte, Nat.reduceEqDiff, Nat.reduceLeDiff, Int.reduceEq, reduceCtorEq, Int.reduceBEq, Int.reduceBNe, Int.reduceLT, Int.reduceNeg, @use_all q5 30 k30.ora rfl, e30, @use_all q5 81 k81.ora rfl, e81, wa, wb, g1, g2, nx, ny, kx, ky, m1, n2]
    simp only [F1, bodyRes, one, ains, clsOf, abin, aint, aun, dnext, rowsOf, loadObj, cellsOf, ofCells, bnd, hmerge, Nat.reduceBEq, Nat.reduceAdd, reduceIte, Nat.reduceEqDiff, Nat.reduceLeDiff, Int.reduceEq, reduceCtorEq, Int.reduceBEq, Int.reduceBNe, Int.reduceLT, Int.reduceNeg, fn43_res, fn43_keep, fz, fzd, fzd.fzcells, hr, encO]
  have m2 := beq_no n2
  have hr : altO x y = altLO (onceT (mems x ++ mems y)) := by simp [altO, n1, n2]
  have dx : SmS (enc x) ∧ goodT (enc x) = true := ⟨sa, g1⟩
  have dy : SmS (enc y) ∧ goodT (enc y) = true := ⟨sb, g2⟩
  have ex := hx.dec
  have ey := hy.dec
  have s1 := mems_len x
  have s2 := mems_len y
  have z1 := hx.2
  have z2 := hy.2
  have hne : mems x ++ mems y ≠ [] := by simp [mems_ne]
  have dl : (∀ t ∈ mems x ++ mems y, OkS t) ∧ (mems x ++ mems y).length ≤ 100000 ∧ mems x ++ mems y ≠ [] := ⟨fun t ht => by
    rcases List.mem_append.1 ht with h | h
    · exact hx.mems t h
    · exact hy.mems t h, by simp only [List.length_append]; omega, hne⟩
  have e82' := e82 (mems x ++ mems y) dl
  have hc : ((mems x).length + (mems y).length) * 24 ≤ 140737488355328 := by omega
  simp only [fn43_body, c43, D0, ains, clsOf, abin, aint, aun, dnext, rowsOf, loadObj, cellsOf, ofCells, bnd, hmerge, Nat.reduceBEq, Nat.reduceAdd, reduceIte, Nat.reduceEqDiff, Nat.reduceLeDiff, Int.reduceEq, reduceCtorEq, Int.reduceBEq, Int.reduceBNe, Int.reduceLT, Int.reduceNeg, @use_all q5 30 k30.ora rfl, e30, @use_all q5 81 k81.ora rfl, e81, @use_all q5 83 k200083.ora rfl, e200083, @use_all q5 82 k82.ora rfl, e82', dx, dy, ex, ey, hc, fz, fzd, eTr1_app, wa, wb, g1, g2, nx, ny, kx, ky, m1, m2, List.length_append]
  simp only [F1, bodyRes, one, ains, clsOf, abin, aint, aun, dnext, rowsOf, loadObj, cellsOf, ofCells, bnd, hmerge, Nat.reduceBEq, Nat.reduceAdd, reduceIte, Nat.reduceEqDiff, Nat.reduceLeDiff, Int.reduceEq, reduceCtorEq, Int.reduceBEq, Int.reduceBNe, Int.reduceLT, Int.reduceNeg, fn43_res, fn43_keep, fz, fzd, fzd.fzcells, hr]
noncomputable def k43 : Kon (List Nd × List Nd) := ⟨fun x => (SmS x.1 ∧ SmS x.2) ∧ x.1.length ≤ 1000000 ∧ x.2.length ≤ 1000000, fun x => [(AV.list 5 (List.map eNd x.1)), (AV.list 5 (List.map eNd x.2))], fun x => (AV.list 5 (List.map eNd (encO (altT x.1 x.2))))⟩
theorem e43 (a : List Nd) (b : List Nd) (hd : (SmS a ∧ SmS b) ∧ a.length ≤ 1000000 ∧ b.length ≤ 1000000) (q0 : Id) (H0 : Heap) : k43.ora q0 ([(AV.list 5 (List.map eNd a)), (AV.list 5 (List.map eNd b))]) H0 = some ((AV.list 5 (List.map eNd (encO (altT a b)))), H0) := k43.eq (tree2Inj) (a, b) hd q0 H0
theorem ook43 : OraOK Try.prog (43 % 100000) k43.ora := k43.ok orders q5_ok (fun x hd => by simp [k43, PU]) (fun x hd => by simp [k43, PU]) (fun x hd => run43 x.1 x.2 hd.1.1 hd.1.2 hd.2.1 hd.2.2)

noncomputable def q6 : FT := upd (q5) 43 k43.ora
theorem q6_ok : FTOK Try.prog q6 := upd_ok2 (f := 43) (q5_ok) ook43

end Go.Proofs.Abs
