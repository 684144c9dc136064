/- A part of a proof: the text that states the row tells what is proved. No condition is laid on anything. -/
import Derived.Test.YtgcncpedpjjjeaaAbsM15
set_option linter.all false
set_option linter.constructorNameAsVariable false
set_option linter.defProp false
set_option linter.unusedVariables false
set_option linter.unusedSimpArgs false
set_option maxRecDepth 100000
set_option maxHeartbeats 4000000
namespace Go.Proofs.Abs
open Go
/-! 43: caesuraref12.Alt. -/
theorem run43 (a b : List Nd) (sa : SmS a) (sb : SmS b) (la : a.length ≤ 1000000) (lb : b.length ≤ 1000000) : cwp q5 43 [] [(AV.list 5 (List.map eNd a)), (AV.list 5 (List.map eNd b))] [] (fun r H => r = (AV.list 5 (List.map eNd (encO (altT a b)))) ∧ H = []) := by
  refine run_fn (fn := fn43) rfl rfl ?_
  have wa := sa.wf
  have wb := sb.wf
  by_cases g1 : goodT a = true
  case neg =>
    have g1' : goodT a = false := by simpa using g1
    have hr : altT a b = none := altT_no (.inl g1')
    simp only [fn43_body, c43, D0, ains, clsOf, abin, aint, aun, dnext, rowsOf, loadObj, cellsOf, ofCells, bnd, hmerge, Nat.reduceBEq, Nat.reduceAdd, reduceIte, Nat.reduceEqDiff, Nat.reduceLeDiff, Int.reduceEq, reduceCtorEq, Int.reduceBEq, Int.reduceBNe, Int.reduceLT, Int.reduceNeg, @use_all q5 30 k30.ora rfl, e30, wa, g1']
    simp only [F1, bodyRes, one, ains, clsOf, abin, aint, aun, dnext, rowsOf, loadObj, cellsOf, ofCells, bnd, hmerge, Nat.reduceBEq, Nat.reduceAdd, reduceIte, Nat.reduceEqDiff, Nat.reduceLeDiff, Int.reduceEq, reduceCtorEq, Int.reduceBEq, Int.reduceBNe, Int.reduceLT, Int.reduceNeg, fn43_res, fn43_keep, fz, fzd, fzd.fzcells, hr, encO]
  by_cases g2 : goodT b = true
  case neg =>
    have g2' : goodT b = false := by simpa using g2
    have hr : altT a b = none := altT_no (.inr g2')
    simp only [fn43_body, c43, D0, ains, clsOf, abin, aint, aun, dnext, rowsOf, loadObj, cellsOf, ofCells, bnd, hmerge, Nat.reduceBEq, Nat.reduceAdd, reduceIte, Nat.reduceEqDiff, Nat.reduceLeDiff, Int.reduceEq, reduceCtorEq, Int.reduceBEq, Int.reduceBNe, Int.reduceLT, Int.reduceNeg, @use_all q5 30 k30.ora rfl, e30, wa, wb, g1, g2']
    simp only [F1, bodyRes, one, ains, clsOf, abin, aint, aun, dnext, rowsOf, loadObj, cellsOf, ofCells, bnd, hmerge, Nat.reduceBEq, Nat.reduceAdd, reduceIte, Nat.reduceEqDiff, Nat.reduceLeDiff, Int.reduceEq, reduceCtorEq, Int.reduceBEq, Int.reduceBNe, Int.reduceLT, Int.reduceNeg, fn43_res, fn43_keep, fz, fzd, fzd.fzcells, hr, encO]
  obtain ⟨x, hx, rfl⟩ := okS_of ⟨sa, g1⟩
  obtain ⟨y, hy, rfl⟩ := okS_of ⟨sb, g2⟩
  rw [altT_enc hx hy]
  have nx := hx.ne
  have ny := hy.ne
  have kx := lastN_enc x
  have ky := lastN_enc y
  by_cases n1 : rk x = 0
  case pos =>
    have hr : altO x y = some y := by simp [altO, n1]
    simp only [fn43_body, c43, D0, ains, clsOf, abin, aint, aun, dnext, rowsOf, loadObj, cellsOf, ofCells, bnd, hmerge, Nat.reduceBEq, Nat.reduceAdd, reduceIte, Nat.reduceEqDiff, Nat.reduceLeDiff, Int.reduceEq, reduceCtorEq, Int.reduceBEq, Int.reduceBNe, Int.reduceLT, Int.reduceNeg, @use_all q5 30 k30.ora rfl, e30, @use_all q5 81 k81.ora rfl, e81, wa, wb, g1, g2, nx, ny, kx, ky, n1]
    simp only [F1, bodyRes, one, ains, clsOf, abin, aint, aun, dnext, rowsOf, loadObj, cellsOf, ofCells, bnd, hmerge, Nat.reduceBEq, Nat.reduceAdd, reduceIte, Nat.reduceEqDiff, Nat.reduceLeDiff, Int.reduceEq, reduceCtorEq, Int.reduceBEq, Int.reduceBNe, Int.reduceLT, Int.reduceNeg, fn43_res, fn43_keep, fz, fzd, fzd.fzcells, hr, encO]
  have m1 := beq_no n1
  by_cases n2 : rk y = 0
  case pos =>
    have hr : altO x y = some x := by simp [altO, n1, n2]
    simp only [fn43_body, c43, D0, ains, clsOf, abin, aint, aun, dnext, rowsOf, loadObj, cellsOf, ofCells, bnd, hmerge, Nat.reduceBEq, Nat.reduceAdd, reduceIte, Nat.reduceEqDiff, Nat.reduceLeDiff, Int.reduceEq, reduceCtorEq, Int.reduceBEq, Int.reduceBNe, Int.reduceLT, Int.reduceNeg, @use_all q5 30 k30.ora rfl, e30, @use_all q5 81 k81.ora rfl, e81, wa, wb, g1, g2, nx, ny, kx, ky, m1, n2]
    simp only [F1, bodyRes, one, ains, clsOf, abin, aint, aun, dnext, rowsOf, loadObj, cellsOf, ofCells, bnd, hmerge, Nat.reduceBEq, Nat.reduceAdd, reduceIte, Nat.reduceEqDiff, Nat.reduceLeDiff, Int.reduceEq, reduceCtorEq, Int.reduceBEq, Int.reduceBNe, Int.reduceLT, Int.reduceNeg, fn43_res, fn43_keep, fz, fzd, fzd.fzcells, hr, encO]
  have m2 := beq_no n2
  have hr : altO x y = altLO (onceT (mems x ++ mems y)) := by simp [altO, n1, n2]
  have dx : SmS (enc x) ∧ goodT (enc x) = true := ⟨sa, g1⟩
  have dy : SmS (enc y) ∧ goodT (enc y) = true := ⟨sb, g2⟩
  have ex := hx.dec
  have ey := hy.dec
  have s1 := mems_len x
  have s2 := mems_len y
  have z1 := hx.2
  have z2 := hy.2
  have hne : mems x ++ mems y ≠ [] := by simp [mems_ne]
  have dl : (∀ t ∈ mems x ++ mems y, OkS t) ∧ (mems x ++ mems y).length ≤ 100000 ∧ mems x ++ mems y ≠ [] := ⟨fun t ht => by
    rcases List.mem_append.1 ht with h | h
    · exact hx.mems t h
    · exact hy.mems t h, by simp only [List.length_append]; omega, hne⟩
  have e82' := e82 (mems x ++ mems y) dl
  have hc : ((mems x).length + (mems y).length) * 24 ≤ 140737488355328 := by omega
  simp only [fn43_body, c43, D0, ains, clsOf, abin, aint, aun, dnext, rowsOf, loadObj, cellsOf, ofCells, bnd, hmerge, Nat.reduceBEq, Nat.reduceAdd, reduceIte, Nat.reduceEqDiff, Nat.reduceLeDiff, Int.reduceEq, reduceCtorEq, Int.reduceBEq, Int.reduceBNe, Int.reduceLT, Int.reduceNeg, @use_all q5 30 k30.ora rfl, e30, @use_all q5 81 k81.ora rfl, e81, @use_all q5 83 k200083.ora rfl, e200083, @use_all q5 82 k82.ora rfl, e82', dx, dy, ex, ey, hc, fz, fzd, eTr1_app, wa, wb, g1, g2, nx, ny, kx, ky, m1, m2, List.length_append]
  simp only [F1, bodyRes, one, ains, clsOf, abin, aint, aun, dnext, rowsOf, loadObj, cellsOf, ofCells, bnd, hmerge, Nat.reduceBEq, Nat.reduceAdd, reduceIte, Nat.reduceEqDiff, Nat.reduceLeDiff, Int.reduceEq, reduceCtorEq, Int.reduceBEq, Int.reduceBNe, Int.reduceLT, Int.reduceNeg, fn43_res, fn43_keep, fz, fzd, fzd.fzcells, hr]
noncomputable def k43 : Kon (List Nd × List Nd) := ⟨fun x => (SmS x.1 ∧ SmS x.2) ∧ x.1.length ≤ 1000000 ∧ x.2.length ≤ 1000000, fun x => [(AV.list 5 (List.map eNd x.1)), (AV.list 5 (List.map eNd x.2))], fun x => (AV.list 5 (List.map eNd (encO (altT x.1 x.2))))⟩
theorem e43 (a : List Nd) (b : List Nd) (hd : (SmS a ∧ SmS b) ∧ a.length ≤ 1000000 ∧ b.length ≤ 1000000) (q0 : Id) (H0 : Heap) : k43.ora q0 ([(AV.list 5 (List.map eNd a)), (AV.list 5 (List.map eNd b))]) H0 = some ((AV.list 5 (List.map eNd (encO (altT a b)))), H0) := k43.eq (tree2Inj) (a, b) hd q0 H0
theorem ook43 : OraOK Try.prog (43 % 100000) k43.ora := k43.ok orders q5_ok (fun x hd => by simp [k43, PU]) (fun x hd => by simp [k43, PU]) (fun x hd => run43 x.1 x.2 hd.1.1 hd.1.2 hd.2.1 hd.2.2)

noncomputable def q6 : FT := upd (q5) 43 k43.ora
theorem q6_ok : FTOK Try.prog q6 := upd_ok2 (f := 43) (q5_ok) ook43

end Go.Proofs.Abs

set_option linter.all false
set_option linter.constructorNameAsVariable false
set_option linter.defProp false
set_option linter.unusedVariables false
set_option linter.unusedSimpArgs false
set_option maxRecDepth 100000
set_option maxHeartbeats 4000000
namespace Go.Proofs.Abs
open Go
/-! 44: caesuraref12.Star. -/
theorem noK_snoc (l : List Tr) (t : Tr) : noK 1 (l ++ [t]) = if rk t = 1 then noK 1 l else noK 1 l ++ [t] := by
  rw [noK_app]
  by_cases h : rk t = 1 <;> simp [noK, h]
theorem run44 (a : List Nd) (sa : SmS a) (la : a.length ≤ 1000000) : cwp q6 44 [] [(AV.list 5 (List.map eNd a))] [] (fun r H => r = (AV.list 5 (List.map eNd (encO (starS a)))) ∧ H = []) := by
  refine run_fn (fn := fn44) rfl rfl ?_
  have wa := sa.wf
  by_cases g1 : goodT a = true
  case neg =>
    have g1' : goodT a = false := by simpa using g1
    have hr : starS a = none := by simp [starS, g1']
    simp only [fn44_body, c44, D0, ains, clsOf, abin, aint, aun, dnext, rowsOf, loadObj, cellsOf, ofCells, bnd, hmerge, Nat.reduceBEq, Nat.reduceAdd, reduceIte, Nat.reduceEqDiff, Nat.reduceLeDiff, Int.reduceEq, reduceCtorEq, Int.reduceBEq, Int.reduceBNe, Int.reduceLT, Int.reduceNeg, @use_all q6 30 k30.ora rfl, e30, wa, g1']
    simp only [F1, bodyRes, one, ains, clsOf, abin, aint, aun, dnext, rowsOf, loadObj, cellsOf, ofCells, bnd, hmerge, Nat.reduceBEq, Nat.reduceAdd, reduceIte, Nat.reduceEqDiff, Nat.reduceLeDiff, Int.reduceEq, reduceCtorEq, Int.reduceBEq, Int.reduceBNe, Int.reduceLT, Int.reduceNeg, fn44_res, fn44_keep, fz, fzd, fzd.fzcells, hr, encO]
  obtain ⟨x, hx, rfl⟩ := okS_of ⟨sa, g1⟩
  rw [starS_enc hx]
  have nx := hx.ne
  have kx := lastN_enc x
  by_cases n0 : rk x = 0
  case pos =>
    have hr : starO x = some empty := by simp [starO, star1O, n0]
    simp only [fn44_body, c44, D0, ains, clsOf, abin, aint, aun, dnext, rowsOf, loadObj, cellsOf, ofCells, bnd, hmerge, Nat.reduceBEq, Nat.reduceAdd, reduceIte, Nat.reduceEqDiff, Nat.reduceLeDiff, Int.reduceEq, reduceCtorEq, Int.reduceBEq, Int.reduceBNe, Int.reduceLT, Int.reduceNeg, @use_all q6 30 k30.ora rfl, e30, @use_all q6 81 k81.ora rfl, e81, @use_all q6 35 k35.ora rfl, e35, wa, g1, nx, kx, n0, leafT1]
    simp only [F1, bodyRes, one, ains, clsOf, abin, aint, aun, dnext, rowsOf, loadObj, cellsOf, ofCells, bnd, hmerge, Nat.reduceBEq, Nat.reduceAdd, reduceIte, Nat.reduceEqDiff, Nat.reduceLeDiff, Int.reduceEq, reduceCtorEq, Int.reduceBEq, Int.reduceBNe, Int.reduceLT, Int.reduceNeg, fn44_res, fn44_keep, fz, fzd, fzd.fzcells, hr, encO]
  have m0 := beq_no n0
  by_cases n1 : rk x = 1
  case pos =>
    have hr : starO x = some empty := by simp [starO, star1O, n1]
    simp only [fn44_body, c44, D0, ains, clsOf, abin, aint, aun, dnext, rowsOf, loadObj, cellsOf, ofCells, bnd, hmerge, Nat.reduceBEq, Nat.reduceAdd, reduceIte, Nat.reduceEqDiff, Nat.reduceLeDiff, Int.reduceEq, reduceCtorEq, Int.reduceBEq, Int.reduceBNe, Int.reduceLT, Int.reduceNeg, @use_all q6 30 k30.ora rfl, e30, @use_all q6 81 k81.ora rfl, e81, @use_all q6 35 k35.ora rfl, e35, wa, g1, nx, kx, m0, n1, leafT1]
    simp only [F1, bodyRes, one, ains, clsOf, abin, aint, aun, dnext, rowsOf, loadObj, cellsOf, ofCells, bnd, hmerge, Nat.reduceBEq, Nat.reduceAdd, reduceIte, Nat.reduceEqDiff, Nat.reduceLeDiff, Int.reduceEq, reduceCtorEq, Int.reduceBEq, Int.reduceBNe, Int.reduceLT, Int.reduceNeg, fn44_res, fn44_keep, fz, fzd, fzd.fzcells, hr, encO]
  have m1 := beq_no n1
  by_cases n5 : rk x = 5
  case pos =>
    have hr : starO x = some x := by simp [starO, star1O, n5]
    simp only [fn44_body, c44, D0, ains, clsOf, abin, aint, aun, dnext, rowsOf, loadObj, cellsOf, ofCells, bnd, hmerge, Nat.reduceBEq, Nat.reduceAdd, reduceIte, Nat.reduceEqDiff, Nat.reduceLeDiff, Int.reduceEq, reduceCtorEq, Int.reduceBEq, Int.reduceBNe, Int.reduceLT, Int.reduceNeg, @use_all q6 30 k30.ora rfl, e30, @use_all q6 81 k81.ora rfl, e81, wa, g1, nx, kx, m0, m1, n5]
    simp only [F1, bodyRes, one, ains, clsOf, abin, aint, aun, dnext, rowsOf, loadObj, cellsOf, ofCells, bnd, hmerge, Nat.reduceBEq, Nat.reduceAdd, reduceIte, Nat.reduceEqDiff, Nat.reduceLeDiff, Int.reduceEq, reduceCtorEq, Int.reduceBEq, Int.reduceBNe, Int.reduceLT, Int.reduceNeg, fn44_res, fn44_keep, fz, fzd, fzd.fzcells, hr, encO]
  have m5 := beq_no n5
  by_cases n4 : rk x = 4
  case neg =>
    have m4 := beq_no n4
    have hr : starO x = starJ x := by simp [starO, star1O, n0, n1, n4, n5]
    have hd : SmS (enc x) ∧ (enc x).length ≤ 1000000 := ⟨sa, la⟩
    obtain ⟨j1, j2⟩ := encO_star hx
    simp only [fn44_body, c44, D0, ains, clsOf, abin, aint, aun, dnext, rowsOf, loadObj, cellsOf, ofCells, bnd, hmerge, Nat.reduceBEq, Nat.reduceAdd, reduceIte, Nat.reduceEqDiff, Nat.reduceLeDiff, Int.reduceEq, reduceCtorEq, Int.reduceBEq, Int.reduceBNe, Int.reduceLT, Int.reduceNeg, @use_all q6 30 k30.ora rfl, e30, @use_all q6 81 k81.ora rfl, e81, @use_all q6 26 k26.ora rfl, e26, wa, g1, nx, kx, m0, m1, m4, m5, hd, j1]
    simp only [F1, bodyRes, one, ains, clsOf, abin, aint, aun, dnext, rowsOf, loadObj, cellsOf, ofCells, bnd, hmerge, Nat.reduceBEq, Nat.reduceAdd, reduceIte, Nat.reduceEqDiff, Nat.reduceLeDiff, Int.reduceEq, reduceCtorEq, Int.reduceBEq, Int.reduceBNe, Int.reduceLT, Int.reduceNeg, fn44_res, fn44_keep, fz, fzd, fzd.fzcells, hr]
  have dx : SmS (enc x) ∧ goodT (enc x) = true := ⟨sa, g1⟩
  have ex := hx.dec
  have hr : starO x = if rk (fullT x) = 4 then starJ (fullT x) else star1O (fullT x) := by simp [starO, n4]
  have hf : fullT x = match noK 1 (mems x) with | [] => empty | x :: r => r.foldl sAlt x := rfl
  have hml := mems_len x
  have hzx := hx.2
  have hmo := hx.mems
  have hsz : sumS (noK 1 (mems x)) ≤ sz x + 1 := by rw [← sumS_mems]; exact sumS_sub List.filter_sublist
  simp (maxSteps := 2000000) only [fn44_body, c44, D0, ains, clsOf, abin, aint, aun, dnext, rowsOf, loadObj, cellsOf, ofCells, bnd, hmerge, Nat.reduceBEq, Nat.reduceAdd, reduceIte, Nat.reduceEqDiff, Nat.reduceLeDiff, Int.reduceEq, reduceCtorEq, Int.reduceBEq, Int.reduceBNe, Int.reduceLT, Int.reduceNeg, @use_all q6 30 k30.ora rfl, e30, @use_all q6 81 k81.ora rfl, e81, @use_all q6 83 k200083.ora rfl, e200083, dx, ex, wa, g1, nx, kx, m0, m1, m5, n4]
  generalize mems x = M at hf hml hmo hsz
  have hlM : M.length ≤ 40000 := by omega
  refine lg_rule (fun j e H => ∃ K, K = noK 1 (M.take j) ∧ e = [(0, (AV.list 5 (List.map eNd (enc x)))), (2, .own [0] 0), (12, .int .i64 4), (13, .bool false), (3, .own [14] K.length), (4, .own [16, 0] M.length), (5, .int .i64 j)] ∧ H = [[([16, 0], .row true true 23 1 (List.map eTr1 M)), ([14], .row true true 23 1 (List.map eTr1 K)), ([0], .row true true 48 5 [])]] ∧ j ≤ M.length) M.length ?_ ?_
  · exact ⟨[], rfl, rfl, rfl, by simp⟩
  rintro j e H ⟨K, hK, rfl, rfl, hj⟩
  have hKl : K.length ≤ 40000 := by
    have : (noK 1 (M.take j)).length ≤ (M.take j).length := List.filter_sublist.length_le
    rw [← hK] at this
    simp at this
    omega
  simp (maxSteps := 2000000) only [D0, ains, clsOf, abin, aint, aun, dnext, rowsOf, loadObj, cellsOf, ofCells, bnd, hmerge, Nat.reduceBEq, Nat.reduceAdd, reduceIte, Nat.reduceEqDiff, Nat.reduceLeDiff, Int.reduceEq, reduceCtorEq, Int.reduceBEq, Int.reduceBNe, Int.reduceLT, Int.reduceNeg]
  by_cases h : j < M.length
  case pos =>
    have h' : (j : Int) < (M.length : Int) := by omega
    have hp := wrapp (j := j) (by omega)
    have hg := map_get (f := eTr1) h default
    have hok := hmo _ (getD_memT h)
    have hsn := noK_snoc (M.take j) (M.getD j default)
    rw [← take_snocT h, ← hK] at hsn
    generalize M.getD j default = y at hg hok hsn
    simp only [eTr1] at hg
    have ny := hok.ne
    have ky := lastN_enc y
    have hcap : (K.length + 1) * 24 ≤ 140737488355328 := by omega
    have he : List.map eTr1 K ++ [[AV.list 5 (List.map eNd (enc y))]] = List.map eTr1 (K ++ [y]) := by simp [eTr1]
    have e1 : (rk y != 1) = !decide (rk y = 1) := by rw [Bool.eq_iff_iff]; simp
    by_cases h1 : rk y = 1
    · rw [if_pos h1] at hsn
      simp (maxSteps := 2000000) only [D0, ains, clsOf, abin, aint, aun, dnext, rowsOf, loadObj, cellsOf, ofCells, bnd, hmerge, Nat.reduceBEq, Nat.reduceAdd, reduceIte, Nat.reduceEqDiff, Nat.reduceLeDiff, Int.reduceEq, reduceCtorEq, Int.reduceBEq, Int.reduceBNe, Int.reduceLT, Int.reduceNeg, @use_all q6 81 k81.ora rfl, e81, ny, ky, e1, h1, hp, hg, h', Int.natCast_nonneg, Int.toNat_natCast]
      simp only [F1, bodyRes, one, ains, clsOf, abin, aint, aun, dnext, rowsOf, loadObj, cellsOf, ofCells, bnd, hmerge, Nat.reduceBEq, Nat.reduceAdd, reduceIte, Nat.reduceEqDiff, Nat.reduceLeDiff, Int.reduceEq, reduceCtorEq, Int.reduceBEq, Int.reduceBNe, Int.reduceLT, Int.reduceNeg]
      exact ⟨h, K, hsn.symm, rfl, rfl, by omega⟩
    · rw [if_neg h1] at hsn
      simp (maxSteps := 2000000) only [D0, ains, clsOf, abin, aint, aun, dnext, rowsOf, loadObj, cellsOf, ofCells, bnd, hmerge, Nat.reduceBEq, Nat.reduceAdd, reduceIte, Nat.reduceEqDiff, Nat.reduceLeDiff, Int.reduceEq, reduceCtorEq, Int.reduceBEq, Int.reduceBNe, Int.reduceLT, Int.reduceNeg, @use_all q6 81 k81.ora rfl, e81, ny, ky, e1, h1, hp, hg, h', hcap, he, fz, fzd, Int.natCast_nonneg, Int.toNat_natCast]
      simp only [F1, bodyRes, one, ains, clsOf, abin, aint, aun, dnext, rowsOf, loadObj, cellsOf, ofCells, bnd, hmerge, Nat.reduceBEq, Nat.reduceAdd, reduceIte, Nat.reduceEqDiff, Nat.reduceLeDiff, Int.reduceEq, reduceCtorEq, Int.reduceBEq, Int.reduceBNe, Int.reduceLT, Int.reduceNeg]
      exact ⟨h, K ++ [y], hsn.symm, by simp, rfl, by omega⟩
  have h' : ¬ (j : Int) < (M.length : Int) := by omega
  have hj2 : j = M.length := by omega
  subst hj2
  rw [List.take_length] at hK
  rw [← hK] at hf hsz
  have hKo : ∀ t ∈ K, OkS t := fun t ht => hmo t (mem_noK.1 (hK ▸ ht)).1
  clear hK
  simp (maxSteps := 2000000) only [D0, ains, clsOf, abin, aint, aun, dnext, rowsOf, loadObj, cellsOf, ofCells, bnd, hmerge, Nat.reduceBEq, Nat.reduceAdd, reduceIte, Nat.reduceEqDiff, Nat.reduceLeDiff, Int.reduceEq, reduceCtorEq, Int.reduceBEq, Int.reduceBNe, Int.reduceLT, Int.reduceNeg, h', decide_false]
  refine .inr ⟨by simp, ?_⟩
  have hff := hx.full
  cases K with
  | nil =>
    simp only at hf
    have hz0 : (((0 : Nat) : Int) == 0) = true := rfl
    have hre : starO x = some empty := by rw [hr, hf]; simp [rk, nodeK, star1O]
    simp only [D0, ains, clsOf, abin, aint, aun, dnext, rowsOf, loadObj, cellsOf, ofCells, bnd, hmerge, Nat.reduceBEq, Nat.reduceAdd, reduceIte, Nat.reduceEqDiff, Nat.reduceLeDiff, Int.reduceEq, reduceCtorEq, Int.reduceBEq, Int.reduceBNe, Int.reduceLT, Int.reduceNeg, @use_all q6 35 k35.ora rfl, e35, leafT1, hz0]
    simp only [F1, bodyRes, one, ains, clsOf, abin, aint, aun, dnext, rowsOf, loadObj, cellsOf, ofCells, bnd, hmerge, Nat.reduceBEq, Nat.reduceAdd, reduceIte, Nat.reduceEqDiff, Nat.reduceLeDiff, Int.reduceEq, reduceCtorEq, Int.reduceBEq, Int.reduceBNe, Int.reduceLT, Int.reduceNeg, fn44_res, fn44_keep, fz, fzd, fzd.fzcells, hre, encO]
  | cons x0 r =>
    simp only at hf
    have h0 := hKo x0 (by simp)
    have hrr : ∀ t ∈ r, OkS t := fun t ht => hKo t (by simp [ht])
    have hne : (((r.length + 1 : Nat) : Int) == 0) = false := by simp only [beq_eq_false_iff_ne]; omega
    have hp0 : (0 : Int) < ((r.length + 1 : Nat) : Int) := by omega
    have hs0 : sz x0 + 1 + sumS r ≤ sz x + 1 := by simpa only [sumS, List.map_cons, List.sum_cons] using hsz
    have hlr : r.length + 1 ≤ 40000 := by simpa using hKl
    simp (maxSteps := 2000000) only [D0, ains, clsOf, abin, aint, aun, dnext, rowsOf, loadObj, cellsOf, ofCells, bnd, hmerge, Nat.reduceBEq, Nat.reduceAdd, reduceIte, Nat.reduceEqDiff, Nat.reduceLeDiff, Int.reduceEq, reduceCtorEq, Int.reduceBEq, Int.reduceBNe, Int.reduceLT, Int.reduceNeg, hne, hp0, eTr1, Int.le_refl, Int.reduceToNat]
    refine lg_rule (fun j e H => ∃ c, e = [(0, (AV.list 5 (List.map eNd (enc x)))), (2, .own [0] 0), (12, .int .i64 4), (13, .bool false), (3, .own [14] (r.length + 1)), (4, .own [16, 0] M.length), (5, .int .i64 M.length), (6, (AV.list 5 (List.map eNd (enc c)))), (7, .int .i64 (j + 1 : Nat))] ∧ H = [[([16, 0], .row true true 23 1 (List.map eTr1 M)), ([14], .row true true 23 1 ([(AV.list 5 (List.map eNd (enc x0)))] :: List.map eTr1 r)), ([0], .row true true 48 5 [])]] ∧ j ≤ r.length ∧ OkS c ∧ sz c + sumS (r.drop j) ≤ sz x ∧ r.foldl sAlt x0 = (r.drop j).foldl sAlt c) r.length ?_ ?_
    · exact ⟨x0, rfl, rfl, by simp, h0, by rw [List.drop_zero]; omega, rfl⟩
    rintro j e H ⟨c, rfl, rfl, hj, hcc, hss, hO⟩
    simp (maxSteps := 2000000) only [D0, ains, clsOf, abin, aint, aun, dnext, rowsOf, loadObj, cellsOf, ofCells, bnd, hmerge, Nat.reduceBEq, Nat.reduceAdd, reduceIte, Nat.reduceEqDiff, Nat.reduceLeDiff, Int.reduceEq, reduceCtorEq, Int.reduceBEq, Int.reduceBNe, Int.reduceLT, Int.reduceNeg]
    by_cases h : j < r.length
    · have h' : ((j + 1 : Nat) : Int) < ((r.length + 1 : Nat) : Int) := by omega
      have hp := wrapp (j := j + 1) (by omega)
      have hg := map_get (f := eTr1) h default
      have hy := hrr _ (getD_memT h)
      have hst := sfold_step (c := c) h rfl
      have hdr : sumS (r.drop j) = sz (r.getD j default) + 1 + sumS (r.drop (j + 1)) := by
        rw [List.drop_eq_getElem_cons h]
        have : r[j] = r.getD j default := by rw [List.getD_eq_getElem?_getD, List.getElem?_eq_getElem h]; rfl
        rw [this]; simp only [sumS, List.map_cons, List.sum_cons]
      generalize r.getD j default = y' at hg hy hst hdr
      simp only [eTr1] at hg
      have hsm : sz c + sz y' + 1 ≤ 40000 := by omega
      have ea := altO_some hsm
      have eb := altT_enc hcc hy
      rw [ea] at eb
      have hsa := sz_sAlt c y'
      have hdo := ok_altO hcc hy ea
      have hne2 : (((enc (sAlt c y')).length : Int) == 0) = false := beq_no (by have := hdo.ne; omega)
      have hd : (SmS (enc c) ∧ SmS (enc y')) ∧ (enc c).length ≤ 1000000 ∧ (enc y').length ≤ 1000000 := ⟨⟨hcc.sm, hy.sm⟩, by have := hcc.len; omega, by have := hy.len; omega⟩
      simp (maxSteps := 2000000) only [D0, ains, clsOf, abin, aint, aun, dnext, rowsOf, loadObj, cellsOf, ofCells, bnd, hmerge, Nat.reduceBEq, Nat.reduceAdd, reduceIte, Nat.reduceEqDiff, Nat.reduceLeDiff, Int.reduceEq, reduceCtorEq, Int.reduceBEq, Int.reduceBNe, Int.reduceLT, Int.reduceNeg, @use_all q6 43 k43.ora rfl, e43, h', hg, hd, eb, encO, hp, hne2, Int.natCast_nonneg, Int.toNat_natCast]
      simp only [F1, bodyRes, one, ains, clsOf, abin, aint, aun, dnext, rowsOf, loadObj, cellsOf, ofCells, bnd, hmerge, Nat.reduceBEq, Nat.reduceAdd, reduceIte, Nat.reduceEqDiff, Nat.reduceLeDiff, Int.reduceEq, reduceCtorEq, Int.reduceBEq, Int.reduceBNe, Int.reduceLT, Int.reduceNeg]
      exact ⟨h, _, rfl, h, hdo, by omega, by rw [hO, hst]⟩
    · have h' : ¬ ((j + 1 : Nat) : Int) < ((r.length + 1 : Nat) : Int) := by omega
      have hj2 : j = r.length := by omega
      subst hj2
      rw [List.drop_length] at hO
      have hn : fullT x = c := by rw [hf, hO]; rfl
      rw [hn] at hr
      have nc := hcc.ne
      have kc := lastN_enc c
      have hd : SmS (enc c) ∧ (enc c).length ≤ 1000000 := ⟨hcc.sm, by have := hcc.len; omega⟩
      obtain ⟨j1, j2⟩ := encO_star hcc
      simp (maxSteps := 2000000) only [D0, ains, clsOf, abin, aint, aun, dnext, rowsOf, loadObj, cellsOf, ofCells, bnd, hmerge, Nat.reduceBEq, Nat.reduceAdd, reduceIte, Nat.reduceEqDiff, Nat.reduceLeDiff, Int.reduceEq, reduceCtorEq, Int.reduceBEq, Int.reduceBNe, Int.reduceLT, Int.reduceNeg, h', decide_false]
      refine .inr ⟨by simp, ?_⟩
      by_cases n4c : rk c = 4
      · rw [if_pos n4c] at hr
        simp only [D0, ains, clsOf, abin, aint, aun, dnext, rowsOf, loadObj, cellsOf, ofCells, bnd, hmerge, Nat.reduceBEq, Nat.reduceAdd, reduceIte, Nat.reduceEqDiff, Nat.reduceLeDiff, Int.reduceEq, reduceCtorEq, Int.reduceBEq, Int.reduceBNe, Int.reduceLT, Int.reduceNeg, @use_all q6 81 k81.ora rfl, e81, @use_all q6 26 k26.ora rfl, e26, nc, kc, n4c, hd, j1]
        simp only [F1, bodyRes, one, ains, clsOf, abin, aint, aun, dnext, rowsOf, loadObj, cellsOf, ofCells, bnd, hmerge, Nat.reduceBEq, Nat.reduceAdd, reduceIte, Nat.reduceEqDiff, Nat.reduceLeDiff, Int.reduceEq, reduceCtorEq, Int.reduceBEq, Int.reduceBNe, Int.reduceLT, Int.reduceNeg, fn44_res, fn44_keep, fz, fzd, fzd.fzcells, hr]
      · rw [if_neg n4c] at hr
        have n4d := bne_yes n4c
        simp only [D0, ains, clsOf, abin, aint, aun, dnext, rowsOf, loadObj, cellsOf, ofCells, bnd, hmerge, Nat.reduceBEq, Nat.reduceAdd, reduceIte, Nat.reduceEqDiff, Nat.reduceLeDiff, Int.reduceEq, reduceCtorEq, Int.reduceBEq, Int.reduceBNe, Int.reduceLT, Int.reduceNeg, @use_all q6 81 k81.ora rfl, e81, @use_all q6 84 k84.ora rfl, e84, nc, kc, n4d, hcc]
        simp only [F1, bodyRes, one, ains, clsOf, abin, aint, aun, dnext, rowsOf, loadObj, cellsOf, ofCells, bnd, hmerge, Nat.reduceBEq, Nat.reduceAdd, reduceIte, Nat.reduceEqDiff, Nat.reduceLeDiff, Int.reduceEq, reduceCtorEq, Int.reduceBEq, Int.reduceBNe, Int.reduceLT, Int.reduceNeg, fn44_res, fn44_keep, fz, fzd, fzd.fzcells, hr]
noncomputable def k44 : Kon (List Nd) := ⟨fun x => SmS x ∧ x.length ≤ 1000000, fun x => [(AV.list 5 (List.map eNd x))], fun x => (AV.list 5 (List.map eNd (encO (starS x))))⟩
theorem e44 (a : List Nd) (hd : SmS a ∧ a.length ≤ 1000000) (q0 : Id) (H0 : Heap) : k44.ora q0 ([(AV.list 5 (List.map eNd a))]) H0 = some ((AV.list 5 (List.map eNd (encO (starS a)))), H0) := k44.eq (treeInj) (a) hd q0 H0
theorem ook44 : OraOK Try.prog (44 % 100000) k44.ora := k44.ok orders q6_ok (fun x hd => by simp [k44, PU]) (fun x hd => by simp [k44, PU]) (fun x hd => run44 x hd.1 hd.2)

noncomputable def q7 : FT := upd (q6) 44 k44.ora
theorem q7_ok : FTOK Try.prog q7 := upd_ok2 (f := 44) (q6_ok) ook44

end Go.Proofs.Abs

set_option linter.all false
set_option linter.constructorNameAsVariable false
set_option linter.defProp false
set_option linter.unusedVariables false
set_option linter.unusedSimpArgs false
set_option maxRecDepth 100000
set_option maxHeartbeats 4000000
namespace Go.Proofs.Abs
open Go
/-! 45: caesuraref12.Clean. -/
theorem run45 (t : List Nd) (st : SmS t) (lt : t.length ≤ 1000000) : cwp q7 45 [] [(AV.list 5 (List.map eNd t))] [] (fun r H => r = (AV.list 5 (List.map eNd (encO (cleanS t)))) ∧ H = []) := by
  refine run_fn (fn := fn45) rfl rfl ?_
  have wt := st.wf
  by_cases g1 : goodT t = true
  case neg =>
    have g1' : goodT t = false := by simpa using g1
    have hr : cleanS t = none := by simp [cleanS, g1']
    simp only [fn45_body, c45, D0, ains, clsOf, abin, aint, aun, dnext, rowsOf, loadObj, cellsOf, ofCells, bnd, hmerge, Nat.reduceBEq, Nat.reduceAdd, reduceIte, Nat.reduceEqDiff, Nat.reduceLeDiff, Int.reduceEq, reduceCtorEq, Int.reduceBEq, Int.reduceBNe, Int.reduceLT, Int.reduceNeg, @use_all q7 30 k30.ora rfl, e30, wt, g1']
    simp only [F1, bodyRes, one, ains, clsOf, abin, aint, aun, dnext, rowsOf, loadObj, cellsOf, ofCells, bnd, hmerge, Nat.reduceBEq, Nat.reduceAdd, reduceIte, Nat.reduceEqDiff, Nat.reduceLeDiff, Int.reduceEq, reduceCtorEq, Int.reduceBEq, Int.reduceBNe, Int.reduceLT, Int.reduceNeg, fn45_res, fn45_keep, fz, fzd, fzd.fzcells, hr, encO]
  obtain ⟨x, hx, rfl⟩ := okS_of ⟨st, g1⟩
  rw [cleanS_enc hx]
  have lx := enc_len x
  have px := sz_pos x
  have zx := hx.2
  have hwf : ∀ y ∈ subs x, OkS (sClean y) ∧ sz (sClean y) ≤ sz y ∧ sz y ≤ 40000 := fun y hy => wf_subs hx hy
  have hM : ((subs x).map sClean).length = sz x := by rw [List.length_map, subs_len]
  have hMg : ∀ i, i < sz x → ((subs x).map sClean).getD i default = sClean ((subs x).getD i default) := fun i hi => by
    rw [List.getD_eq_getElem?_getD, List.getElem?_map, List.getD_eq_getElem?_getD, List.getElem?_eq_getElem (by rw [subs_len]; exact hi)]; rfl
  have hlast := hMg (sz x - 1) (by omega)
  rw [subs_last] at hlast
  have hsub : ∀ i, i < sz x → (subs x).getD i default ∈ subs x := fun i hi => getD_memT (by rw [subs_len]; exact hi)
  have hnd := nodes x hx.1
  have hsl := subs_len x
  have hsmt := good_sm st g1
  generalize hS : subs x = S at *
  generalize hMM : S.map sClean = M at *
  have hget : ∀ j, j ≤ sz x → ∀ i, i < j → (List.map eTr1 (M.take j))[i]? = some (eTr1 (M.getD i default)) := fun j hj i hi => by
    rw [List.getElem?_map, List.getElem?_take_of_lt hi, List.getD_eq_getElem?_getD, List.getElem?_eq_getElem (by omega)]; rfl
  have hlen : ∀ j, j ≤ sz x → (M.take j).length = j := fun j hj => by simp; omega
  simp (maxSteps := 2000000) only [fn45_body, c45, D0, ains, clsOf, abin, aint, aun, dnext, rowsOf, loadObj, cellsOf, ofCells, bnd, hmerge, Nat.reduceBEq, Nat.reduceAdd, reduceIte, Nat.reduceEqDiff, Nat.reduceLeDiff, Int.reduceEq, reduceCtorEq, Int.reduceBEq, Int.reduceBNe, Int.reduceLT, Int.reduceNeg, @use_all q7 30 k30.ora rfl, e30, wt, g1]
  refine lg_rule (fun j e H => e = [(0, (AV.list 5 (List.map eNd (enc x)))), (2, .own [0] 0), (3, .own [4] j), (4, .int .i64 j)] ∧ H = [[([4], .row true true 23 1 (List.map eTr1 (M.take j))), ([0], .row true true 48 5 [])]] ∧ j ≤ sz x) (sz x) ?_ ?_
  · exact ⟨rfl, rfl, by simp⟩
  rintro j e H ⟨rfl, rfl, hj⟩
  have hlj := hlen j hj
  simp (maxSteps := 2000000) only [D0, ains, clsOf, abin, aint, aun, dnext, rowsOf, loadObj, cellsOf, ofCells, bnd, hmerge, Nat.reduceBEq, Nat.reduceAdd, reduceIte, Nat.reduceEqDiff, Nat.reduceLeDiff, Int.reduceEq, reduceCtorEq, Int.reduceBEq, Int.reduceBNe, Int.reduceLT, Int.reduceNeg, lx]
  by_cases h : j < sz x
  · have h' : (j : Int) < (sz x : Int) := by omega
    have hp := wrapp (j := j) (by omega)
    have hg := map_get (f := eNd) (l := enc x) (j := j) (by omega) default
    have hget := hget j hj
    have hsn : List.map eTr1 (M.take j) ++ [eTr1 (M.getD j default)] = List.map eTr1 (M.take (j + 1)) := by rw [take_snocT (by omega)]; simp
    have hn := hnd j h
    have hMj := hMg j h
    have hcap : (j + 1) * 24 ≤ 140737488355328 := by omega
    generalize hsj : S.getD j default = y at hn hMj
    have hy := hsub j h
    rw [hsj] at hy
    have hwy := hwf y hy
    have hbn : benT (enc x) j j = mov [(enc x).getD j default] (-(j : Int)) := by
      unfold benT
      rw [List.drop_take, Nat.add_sub_cancel_left, List.drop_eq_getElem_cons (by omega)]
      have : (enc x)[j] = (enc x).getD j default := by rw [List.getD_eq_getElem?_getD, List.getElem?_eq_getElem (by omega)]; rfl
      rw [this]; rfl
    have hd70 : SmT (enc x) ∧ j < (enc x).length ∧ j ≤ j + 1 := ⟨hsmt, by omega, by omega⟩
    have e70' := e70 (enc x) j j hd70
    rw [hbn] at e70'
    generalize (enc x).getD j default = nd at hg hn e70'
    rw [hMj] at hsn
    clear hsj hMj hnd hbn
    cases hn with
    | leaf _ hleaf =>
      have hmv : mov [nd] (-(j : Int)) = [nd] := by simp [mov, movN_leafN hleaf]
      rw [hmv] at e70'
      obtain ⟨kk, a, b, c, z⟩ := nd
      obtain ⟨f1, f2⟩ := leaf_fork hleaf
      have hk3 : (kk == 3) = false := by simp [isFork] at f1; simp [f1]
      have hk4 : (kk == 4) = false := by simp [isFork] at f1; simp [f1]
      have hk5 : (kk == 5) = false := by simpa using f2
      have hz1 : (((0 + 1 : Nat) : Int) == 0) = false := rfl
      simp only [sClean, eTr1, enc, List.map_cons, List.map_nil, eNd, eSet, List.length_cons, List.length_nil] at hsn e70'
      simp (maxSteps := 2000000) only [D0, ains, clsOf, abin, aint, aun, dnext, rowsOf, loadObj, cellsOf, ofCells, bnd, hmerge, Nat.reduceBEq, Nat.reduceAdd, reduceIte, Nat.reduceEqDiff, Nat.reduceLeDiff, Int.reduceEq, reduceCtorEq, Int.reduceBEq, Int.reduceBNe, Int.reduceLT, Int.reduceNeg, @use_all q7 70 k70.ora rfl, e70', hg, eNd, eSet, h', lx, hlj, hk3, hk4, hk5, hp, hz1, hcap, fz, fzd, hsn, Int.natCast_nonneg, Int.toNat_natCast, decide_true]
      simp only [F1, bodyRes, one, ains, clsOf, abin, aint, aun, dnext, rowsOf, loadObj, cellsOf, ofCells, bnd, hmerge, Nat.reduceBEq, Nat.reduceAdd, reduceIte, Nat.reduceEqDiff, Nat.reduceLeDiff, Int.reduceEq, reduceCtorEq, Int.reduceBEq, Int.reduceBNe, Int.reduceLT, Int.reduceNeg]
      exact ⟨h, by omega⟩
    | cat i k hik =>
      have hu := hMg i (by omega)
      have hv := hMg k (by omega)
      obtain ⟨ou, zu, _⟩ := hwf _ (hsub i (by omega))
      obtain ⟨ov, zv, _⟩ := hwf _ (hsub k (by omega))
      have gi := hget i hik.1
      have gk := hget k hik.2
      rw [hu] at gi
      rw [hv] at gk
      have hi' : (i : Int) < (j : Int) := by omega
      have hk' : (k : Int) < (j : Int) := by omega
      simp only [sClean, eTr1, sz] at hsn hwy gi gk
      generalize S.getD i default = p at *
      generalize S.getD k default = q at *
      have et := catT_enc ou ov
      rw [catO_some _ _ (by omega)] at et
      have hne : (((enc (sCat (sClean p) (sClean q))).length : Int) == 0) = false := beq_no (by have := hwy.1.ne; omega)
      have hd : (SmS (enc (sClean p)) ∧ SmS (enc (sClean q))) ∧ (enc (sClean p)).length ≤ 1000000 ∧ (enc (sClean q)).length ≤ 1000000 := ⟨⟨ou.sm, ov.sm⟩, by have := ou.len; omega, by have := ov.len; omega⟩
      simp (maxSteps := 2000000) only [D0, ains, clsOf, abin, aint, aun, dnext, rowsOf, loadObj, cellsOf, ofCells, bnd, hmerge, Nat.reduceBEq, Nat.reduceAdd, reduceIte, Nat.reduceEqDiff, Nat.reduceLeDiff, Int.reduceEq, reduceCtorEq, Int.reduceBEq, Int.reduceBNe, Int.reduceLT, Int.reduceNeg, @use_all q7 42 k42.ora rfl, e42, hd, et, encO, hg, eNd, eSet, h', hi', hk', gi, gk, lx, hlj, hp, hne, hcap, fz, fzd, hsn, lrc_x, apx, apart, apart1, needs, Int.natCast_nonneg, Int.toNat_natCast, decide_true]
      simp only [F1, bodyRes, one, ains, clsOf, abin, aint, aun, dnext, rowsOf, loadObj, cellsOf, ofCells, bnd, hmerge, Nat.reduceBEq, Nat.reduceAdd, reduceIte, Nat.reduceEqDiff, Nat.reduceLeDiff, Int.reduceEq, reduceCtorEq, Int.reduceBEq, Int.reduceBNe, Int.reduceLT, Int.reduceNeg]
      exact ⟨h, by omega⟩
    | alt i k hik =>
      have hu := hMg i (by omega)
      have hv := hMg k (by omega)
      obtain ⟨ou, zu, _⟩ := hwf _ (hsub i (by omega))
      obtain ⟨ov, zv, _⟩ := hwf _ (hsub k (by omega))
      have gi := hget i hik.1
      have gk := hget k hik.2
      rw [hu] at gi
      rw [hv] at gk
      have hi' : (i : Int) < (j : Int) := by omega
      have hk' : (k : Int) < (j : Int) := by omega
      simp only [sClean, eTr1, sz] at hsn hwy gi gk
      generalize S.getD i default = p at *
      generalize S.getD k default = q at *
      have et := altT_enc ou ov
      rw [altO_some (by omega)] at et
      have hne : (((enc (sAlt (sClean p) (sClean q))).length : Int) == 0) = false := beq_no (by have := hwy.1.ne; omega)
      have hd : (SmS (enc (sClean p)) ∧ SmS (enc (sClean q))) ∧ (enc (sClean p)).length ≤ 1000000 ∧ (enc (sClean q)).length ≤ 1000000 := ⟨⟨ou.sm, ov.sm⟩, by have := ou.len; omega, by have := ov.len; omega⟩
      simp (maxSteps := 2000000) only [D0, ains, clsOf, abin, aint, aun, dnext, rowsOf, loadObj, cellsOf, ofCells, bnd, hmerge, Nat.reduceBEq, Nat.reduceAdd, reduceIte, Nat.reduceEqDiff, Nat.reduceLeDiff, Int.reduceEq, reduceCtorEq, Int.reduceBEq, Int.reduceBNe, Int.reduceLT, Int.reduceNeg, @use_all q7 43 k43.ora rfl, e43, hd, et, encO, hg, eNd, eSet, h', hi', hk', gi, gk, lx, hlj, hp, hne, hcap, fz, fzd, hsn, lrc_x, apx, apart, apart1, needs, Int.natCast_nonneg, Int.toNat_natCast, decide_true]
      simp only [F1, bodyRes, one, ains, clsOf, abin, aint, aun, dnext, rowsOf, loadObj, cellsOf, ofCells, bnd, hmerge, Nat.reduceBEq, Nat.reduceAdd, reduceIte, Nat.reduceEqDiff, Nat.reduceLeDiff, Int.reduceEq, reduceCtorEq, Int.reduceBEq, Int.reduceBNe, Int.reduceLT, Int.reduceNeg]
      exact ⟨h, by omega⟩
    | star i hi =>
      have hu := hMg i (by omega)
      obtain ⟨ou, zu, _⟩ := hwf _ (hsub i (by omega))
      have gi := hget i hi
      rw [hu] at gi
      have hi' : (i : Int) < (j : Int) := by omega
      simp only [sClean, eTr1, sz] at hsn hwy gi
      generalize S.getD i default = p at *
      have et := starS_enc ou
      rw [starO_some (by omega)] at et
      have hne : (((enc (sStar (sClean p))).length : Int) == 0) = false := beq_no (by have := hwy.1.ne; omega)
      have hd : SmS (enc (sClean p)) ∧ (enc (sClean p)).length ≤ 1000000 := ⟨ou.sm, by have := ou.len; omega⟩
      simp (maxSteps := 2000000) only [D0, ains, clsOf, abin, aint, aun, dnext, rowsOf, loadObj, cellsOf, ofCells, bnd, hmerge, Nat.reduceBEq, Nat.reduceAdd, reduceIte, Nat.reduceEqDiff, Nat.reduceLeDiff, Int.reduceEq, reduceCtorEq, Int.reduceBEq, Int.reduceBNe, Int.reduceLT, Int.reduceNeg, @use_all q7 44 k44.ora rfl, e44, hd, et, encO, hg, eNd, eSet, h', hi', gi, lx, hlj, hp, hne, hcap, fz, fzd, hsn, Int.natCast_nonneg, Int.toNat_natCast, decide_true]
      simp only [F1, bodyRes, one, ains, clsOf, abin, aint, aun, dnext, rowsOf, loadObj, cellsOf, ofCells, bnd, hmerge, Nat.reduceBEq, Nat.reduceAdd, reduceIte, Nat.reduceEqDiff, Nat.reduceLeDiff, Int.reduceEq, reduceCtorEq, Int.reduceBEq, Int.reduceBNe, Int.reduceLT, Int.reduceNeg]
      exact ⟨h, by omega⟩
  · have h' : ¬ (j : Int) < (sz x : Int) := by omega
    have hj2 : j = sz x := by omega
    subst hj2
    have wm := wrapm (j := sz x) (by omega) (by omega)
    have gl := hget (sz x) (by omega) (sz x - 1) (by omega)
    rw [hlast] at gl
    have hl2 : ((sz x - 1 : Nat) : Int) < (sz x : Int) := by omega
    simp only [eTr1] at gl
    simp (maxSteps := 2000000) only [D0, ains, clsOf, abin, aint, aun, dnext, rowsOf, loadObj, cellsOf, ofCells, bnd, hmerge, Nat.reduceBEq, Nat.reduceAdd, reduceIte, Nat.reduceEqDiff, Nat.reduceLeDiff, Int.reduceEq, reduceCtorEq, Int.reduceBEq, Int.reduceBNe, Int.reduceLT, Int.reduceNeg, h', decide_false]
    refine .inr ⟨by simp, ?_⟩
    simp only [D0, ains, clsOf, abin, aint, aun, dnext, rowsOf, loadObj, cellsOf, ofCells, bnd, hmerge, Nat.reduceBEq, Nat.reduceAdd, reduceIte, Nat.reduceEqDiff, Nat.reduceLeDiff, Int.reduceEq, reduceCtorEq, Int.reduceBEq, Int.reduceBNe, Int.reduceLT, Int.reduceNeg, lx, wm, hlj, gl, hl2, Int.natCast_nonneg, Int.toNat_natCast]
    simp only [F1, bodyRes, one, ains, clsOf, abin, aint, aun, dnext, rowsOf, loadObj, cellsOf, ofCells, bnd, hmerge, Nat.reduceBEq, Nat.reduceAdd, reduceIte, Nat.reduceEqDiff, Nat.reduceLeDiff, Int.reduceEq, reduceCtorEq, Int.reduceBEq, Int.reduceBNe, Int.reduceLT, Int.reduceNeg, fn45_res, fn45_keep, fz, fzd, fzd.fzcells, encO]
noncomputable def k45 : Kon (List Nd) := ⟨fun x => SmS x ∧ x.length ≤ 1000000, fun x => [(AV.list 5 (List.map eNd x))], fun x => (AV.list 5 (List.map eNd (encO (cleanS x))))⟩
theorem e45 (t : List Nd) (hd : SmS t ∧ t.length ≤ 1000000) (q0 : Id) (H0 : Heap) : k45.ora q0 ([(AV.list 5 (List.map eNd t))]) H0 = some ((AV.list 5 (List.map eNd (encO (cleanS t)))), H0) := k45.eq (treeInj) (t) hd q0 H0
theorem ook45 : OraOK Try.prog (45 % 100000) k45.ora := k45.ok orders q7_ok (fun x hd => by simp [k45, PU]) (fun x hd => by simp [k45, PU]) (fun x hd => run45 x hd.1 hd.2)

noncomputable def q8 : FT := upd (q7) 45 k45.ora
theorem q8_ok : FTOK Try.prog q8 := upd_ok2 (f := 45) (q7_ok) ook45

end Go.Proofs.Abs
