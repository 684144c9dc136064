/- A part of a proof: the text that states the row tells what is proved. No condition is laid on anything. -/
import Derived.Test.YtgcncpedpjjjeaaAbsM16
set_option linter.all false
set_option linter.constructorNameAsVariable false
set_option linter.defProp false
set_option linter.unusedVariables false
set_option linter.unusedSimpArgs false
set_option maxRecDepth 100000
set_option maxHeartbeats 4000000
namespace Go.Proofs.Abs
open Go
/-! 44: caesuraref12.Star. -/
theorem noK_snoc (l : List Tr) (t : Tr) : noK 1 (l ++ [t]) = if rk t = 1 then noK 1 l else noK 1 l ++ [t] := by
  rw [noK_app]
  by_cases h : rk t = 1 <;> simp [noK, h]
theorem run44 (a : List Nd) (sa : SmS a) (la : a.length ≤ 1000000) : cwp q6 44 [] [(AV.list 5 (List.map eNd a))] [] (fun r H => r = (AV.list 5 (List.map eNd (encO (starS a)))) ∧ H = []) := by
  refine run_fn (fn := fn44) rfl rfl ?_
  have wa := sa.wf
  by_cases g1 : goodT a = true
  case neg =>
    have g1' : goodT a = false := by simpa using g1
    have hr : starS a = none := by simp [starS, g1']
    simp only [fn44_body, c44, D0, ains, clsOf, abin, aint, aun, dnext, rowsOf, loadObj, cellsOf, ofCells, bnd, hmerge, Nat.reduceBEq, Nat.reduceAdd, reduceIte, Nat.reduceEqDiff, Nat.reduceLeDiff, Int.reduceEq, reduceCtorEq, Int.reduceBEq, Int.reduceBNe, Int.reduceLT, Int.reduceNeg, @use_all q6 30 k30.ora rfl, e30, wa, g1']
    simp only [F1, bodyRes, one, ains, clsOf, abin, aint, aun, dnext, rowsOf, loadObj, cellsOf, ofCells, bnd, hmerge, Nat.reduceBEq, Nat.reduceAdd, reduceIte, Nat.reduceEqDiff, Nat.reduceLeDiff, Int.reduceEq, reduceCtorEq, Int.reduceBEq, Int.reduceBNe, Int.reduceLT, Int.reduceNeg, fn44_res, fn44_keep, fz, fzd, fzd.fzcells, hr, encO]
  obtain ⟨x, hx, rfl⟩ := okS_of ⟨sa, g1⟩
  rw [starS_enc hx]
  have nx := hx.ne
  have kx := lastN_enc x
  by_cases n0 : rk x = 0
  case pos =>
    have hr : starO x = some empty := by simp [starO, star1O, n0]
    simp only [fn44_body, c44, D0, ains, clsOf, abin, aint, aun, dnext, rowsOf, loadObj, cellsOf, ofCells, bnd, hmerge, Nat.reduceBEq, Nat.reduceAdd, reduceIte, Nat.reduceEqDiff, Nat.reduceLeDiff, Int.reduceEq, reduceCtorEq, Int.reduceBEq, Int.reduceBNe, Int.reduceLT, Int.reduceNeg, @use_all q6 30 k30.ora rfl, e30, @use_all q6 81 k81.ora rfl, e81, @use_all q6 35 k35.ora rfl, e35, wa, g1, nx, kx, n0, leafT1]
    simp only [F1, bodyRes, one, ains, clsOf, abin, aint, aun, dnext, rowsOf, loadObj, cellsOf, ofCells, bnd, hmerge, Nat.reduceBEq, Nat.reduceAdd, reduceIte, Nat.reduceEqDiff, Nat.reduceLeDiff, Int.reduceEq, reduceCtorEq, Int.reduceBEq, Int.reduceBNe, Int.reduceLT, Int.reduceNeg, fn44_res, fn44_keep, fz, fzd, fzd.fzcells, hr, encO]
  have m0 := beq_no n0
  by_cases n1 : rk x = 1
  case pos =>
    have hr : starO x = some empty := by simp [starO, star1O, n1]
    simp only [fn44_body, c44, D0, ains, clsOf, abin, aint, aun, dnext, rowsOf, loadObj, cellsOf, ofCells, bnd, hmerge, Nat.reduceBEq, Nat.reduceAdd, reduceIte, Nat.reduceEqDiff, Nat.reduceLeDiff, Int.reduceEq, reduceCtorEq, Int.reduceBEq, Int.reduceBNe, Int.reduceLT, Int.reduceNeg, @use_all q6 30 k30.ora rfl, e30, @use_all q6 81 k81.ora rfl, e81, @use_all q6 35 k35.ora rfl, e35, wa, g1, nx, kx, m0, n1, leafT1]
    simp only [F1, bodyRes, one, ains, clsOf, abin, aint, aun, dnext, rowsOf, loadObj, cellsOf, ofCells, bnd, hmerge, Nat.reduceBEq, Nat.reduceAdd, reduceIte, Nat.reduceEqDiff, Nat.reduceLeDiff, Int.reduceEq, reduceCtorEq, Int.reduceBEq, Int.reduceBNe, Int.reduceLT, Int.reduceNeg, fn44_res, fn44_keep, fz, fzd, fzd.fzcells, hr, encO]
  have m1 := beq_no n1
  by_cases n5 : rk x = 5
  case pos =>
    have hr : starO x = some x := by simp [starO, star1O, n5]
    simp only [fn44_body, c44, D0, ains, clsOf, abin, aint, aun, dnext, rowsOf, loadObj, cellsOf, ofCells, bnd, hmerge, Nat.reduceBEq, Nat.reduceAdd, reduceIte, Nat.reduceEqDiff, Nat.reduceLeDiff, Int.reduceEq, reduceCtorEq, Int.reduceBEq, Int.reduceBNe, Int.reduceLT, Int.reduceNeg, @use_all q6 30 k30.ora rfl, e30, @use_all q6 81 k81.ora rfl, e81, wa, g1, nx, kx, m0, m1, n5]
    simp only [F1, bodyRes, one, ains, clsOf, abin, aint, aun, dnext, rowsOf, loadObj, cellsOf, ofCells, bnd, hmerge, Nat.reduceBEq, Nat.reduceAdd, reduceIte, Nat.reduceEqDiff, Nat.reduceLeDiff, Int.reduceEq, reduceCtorEq, Int.reduceBEq, Int.reduceBNe, Int.reduceLT, Int.reduceNeg, fn44_res, fn44_keep, fz, fzd, fzd.fzcells, hr, encO]
  have m5 := beq_no n5
  by_cases n4 : rk x = 4
  case neg =>
    have m4 := beq_no n4
    have hr : starO x = starJ x := by simp [starO, star1O, n0, n1, n4, n5]
    have hd : SmS (enc x) ∧ (enc x).length ≤ 1000000 := ⟨sa, la⟩
    obtain ⟨j1, j2⟩ := encO_star hx
    simp only [fn44_body, c44, D0, ains, clsOf, abin, aint, aun, dnext, rowsOf, loadObj, cellsOf, ofCells, bnd, hmerge, Nat.reduceBEq, Nat.reduceAdd, reduceIte, Nat.reduceEqDiff, Nat.reduceLeDiff, Int.reduceEq, reduceCtorEq, Int.reduceBEq, Int.reduceBNe, Int.reduceLT, Int.reduceNeg, @use_all q6 30 k30.ora rfl, e30, @use_all q6 81 k81.ora rfl, e81, @use_all q6 26 k26.ora rfl, e26, wa, g1, nx, kx, m0, m1, m4, m5, hd, j1]
    simp only [F1, bodyRes, one, ains, clsOf, abin, aint, aun, dnext, rowsOf, loadObj, cellsOf, ofCells, bnd, hmerge, Nat.reduceBEq, Nat.reduceAdd, reduceIte, Nat.reduceEqDiff, Nat.reduceLeDiff, Int.reduceEq, reduceCtorEq, Int.reduceBEq, Int.reduceBNe, Int.reduceLT, Int.reduceNeg, fn44_res, fn44_keep, fz, fzd, fzd.fzcells, hr]
  have dx : SmS (enc x) ∧ goodT (enc x) = true := ⟨sa, g1⟩
  have ex := hx.dec
  have hr : starO x = if rk (fullT x) = 4 then starJ (fullT x) else star1O (fullT x) := by simp [starO, n4]
  have hf : fullT x = match noK 1 (mems x) with | [] => empty | x :: r => r.foldl sAlt x := rfl
  have hml := mems_len x
  have hzx := hx.2
  have hmo := hx.mems
  have hsz : sumS (noK 1 (mems x)) ≤ sz x + 1 := by rw [← sumS_mems]; exact sumS_sub List.filter_sublist
  simp (maxSteps := 2000000) only [fn44_body, c44, D0, ains, clsOf, abin, aint, aun, dnext, rowsOf, loadObj, cellsOf, ofCells, bnd, hmerge, Nat.reduceBEq, Nat.reduceAdd, reduceIte, Nat.reduceEqDiff, Nat.reduceLeDiff, Int.reduceEq, reduceCtorEq, Int.reduceBEq, Int.reduceBNe, Int.reduceLT, Int.reduceNeg, @use_all q6 30 k30.ora rfl, e30, @use_all q6 81 k81.ora rfl, e81, @use_all q6 83 k200083.ora rfl, e200083, dx, ex, wa, g1, nx, kx, m0, m1, m5, n4]
  generalize mems x = M at hf hml hmo hsz
  have hlM : M.length ≤ 40000 := by omega
  refine lg_rule (fun j e H => ∃ K, K = noK 1 (M.take j) ∧ e = [(0, (AV.list 5 (List.map eNd (enc x)))), (2, .own [0] 0), (12, .int .i64 4), (13, .bool false), (3, .own [14] K.length), (4, .own [16, 0] M.length), (5, .int .i64 j)] ∧ H = [[([16, 0], .row true true 23 1 (List.map eTr1 M)), ([14], .row true true 23 1 (List.map eTr1 K)), ([0], .row true true 48 5 [])]] ∧ j ≤ M.length) M.length ?_ ?_
  · exact ⟨[], rfl, rfl, rfl, by simp⟩
  rintro j e H ⟨K, hK, rfl, rfl, hj⟩
  have hKl : K.length ≤ 40000 := by
    have : (noK 1 (M.take j)).length ≤ (M.take j).length := List.filter_sublist.length_le
    rw [← hK] at this
    simp at this
    omega
  simp (maxSteps := 2000000) only [D0, ains, clsOf, abin, aint, aun, dnext, rowsOf, loadObj, cellsOf, ofCells, bnd, hmerge, Nat.reduceBEq, Nat.reduceAdd, reduceIte, Nat.reduceEqDiff, Nat.reduceLeDiff, Int.reduceEq, reduceCtorEq, Int.reduceBEq, Int.reduceBNe, Int.reduceLT, Int.reduceNeg]
  by_cases h : j < M.length
  case pos =>
    have h' : (j : Int) < (M.length : Int) := by omega
    have hp := wrapp (j := j) (by omega)
    have hg := map_get (f := eTr1) h default
    have hok := hmo _ (getD_memT h)
    have hsn := noK_snoc (M.take j) (M.getD j default)
    rw [← take_snocT h, ← hK] at hsn
    generalize M.getD j default = y at hg hok hsn
    simp only [eTr1] at hg
    have ny := hok.ne
    have ky := lastN_enc y
    have hcap : (K.length + 1) * 24 ≤ 140737488355328 := by omega
    have he : List.map eTr1 K ++ [[AV.list 5 (List.map eNd (enc y))]] = List.map eTr1 (K ++ [y]) := by simp [eTr1]
    have e1 : (rk y != 1) = !decide (rk y = 1) := by rw [Bool.eq_iff_iff]; simp
    by_cases h1 : rk y = 1
    · rw [if_pos h1] at hsn
      simp (maxSteps := 2000000) only [D0, ains, clsOf, abin, aint, aun, dnext, rowsOf, loadObj, cellsOf, ofCells, bnd, hmerge, Nat.reduceBEq, Nat.reduceAdd, reduceIte, Nat.reduceEqDiff, Nat.reduceLeDiff, Int.reduceEq, reduceCtorEq, Int.reduceBEq, Int.reduceBNe, Int.reduceLT, Int.reduceNeg, @use_all q6 81 k81.ora rfl, e81, ny, ky, e1, h1, hp, hg, h', Int.natCast_nonneg, Int.toNat_natCast]
      simp only [F1, bodyRes, one, ains, clsOf, abin, aint, aun, dnext, rowsOf, loadObj, cellsOf, ofCells, bnd, hmerge, Nat.reduceBEq, Nat.reduceAdd, reduceIte, Nat.reduceEqDiff, Nat.reduceLeDiff, Int.reduceEq, reduceCtorEq, Int.reduceBEq, Int.reduceBNe, Int.reduceLT, Int.reduceNeg]
      exact ⟨h, K, hsn.symm, rfl, rfl, by omega⟩
    · rw [if_neg h1] at hsn
      simp (maxSteps := 2000000) only [D0, ains, clsOf, abin, aint, aun, dnext, rowsOf, loadObj, cellsOf, ofCells, bnd, hmerge, Nat.reduceBEq, Nat.reduceAdd, reduceIte, Nat.reduceEqDiff, Nat.reduceLeDiff, Int.reduceEq, reduceCtorEq, Int.reduceBEq, Int.reduceBNe, Int.reduceLT, Int.reduceNeg, @use_all q6 81 k81.ora rfl, e81, ny, ky, e1, h1, hp, hg, h', hcap, he, fz, fzd, Int.natCast_nonneg, Int.toNat_natCast]
      simp only [F1, bodyRes, one, ains, clsOf, abin, aint, aun, dnext, rowsOf, loadObj, cellsOf, ofCells, bnd, hmerge, Nat.reduceBEq, Nat.reduceAdd, reduceIte, Nat.reduceEqDiff, Nat.reduceLeDiff, Int.reduceEq, reduceCtorEq, Int.reduceBEq, Int.reduceBNe, Int.reduceLT, Int.reduceNeg]
      exact ⟨h, K ++ [y], hsn.symm, by simp, rfl, by omega⟩
  have h' : ¬ (j : Int) < (M.length : Int) := by omega
  have hj2 : j = M.length := by omega
  subst hj2
  rw [List.take_length] at hK
  rw [← hK] at hf hsz
  have hKo : ∀ t ∈ K, OkS t := fun t ht => hmo t (mem_noK.1 (hK ▸ ht)).1
  clear hK
  simp (maxSteps := 2000000) only [D0, ains, clsOf, abin, aint, aun, dnext, rowsOf, loadObj, cellsOf, ofCells, bnd, hmerge, Nat.reduceBEq, Nat.reduceAdd, reduceIte, Nat.reduceEqDiff, Nat.reduceLeDiff, Int.reduceEq, reduceCtorEq, Int.reduceBEq, Int.reduceBNe, Int.reduceLT, Int.reduceNeg, h', decide_false]
  refine .inr ⟨by simp, ?_⟩
  have hff := hx.full
  cases K with
  | nil =>
    simp only at hf
    have hz0 : (((0 : Nat) : Int) == 0) = true := rfl
    have hre : starO x = some empty := by rw [hr, hf]; simp [rk, nodeK, star1O]
    simp only [D0, ains, clsOf, abin, aint, aun, dnext, rowsOf, loadObj, cellsOf, ofCells, bnd, hmerge, Nat.reduceBEq, Nat.reduceAdd, reduceIte, Nat.reduceEqDiff, Nat.reduceLeDiff, Int.reduceEq, reduceCtorEq, Int.reduceBEq, Int.reduceBNe, Int.reduceLT, Int.reduceNeg, @use_all q6 35 k35.ora rfl, e35, leafT1, hz0]
    simp only [F1, bodyRes, one, ains, clsOf, abin, aint, aun, dnext, rowsOf, loadObj, cellsOf, ofCells, bnd, hmerge, Nat.reduceBEq, Nat.reduceAdd, reduceIte, Nat.reduceEqDiff, Nat.reduceLeDiff, Int.reduceEq, reduceCtorEq, Int.reduceBEq, Int.reduceBNe, Int.reduceLT, Int.reduceNeg, fn44_res, fn44_keep, fz, fzd, fzd.fzcells, hre, encO]
  | cons x0 r =>
    simp only at hf
    have h0 := hKo x0 (by simp)
    have hrr : ∀ t ∈ r, OkS t := fun t ht => hKo t (by simp [ht])
    have hne : (((r.length + 1 : Nat) : Int) == 0) = false := by simp only [beq_eq_false_iff_ne]; omega
    have hp0 : (0 : Int) < ((r.length + 1 : Nat) : Int) := by omega
    have hs0 : sz x0 + 1 + sumS r ≤ sz x + 1 := by simpa only [sumS, List.map_cons, List.sum_cons] using hsz
    have hlr : r.length + 1 ≤ 40000 := by simpa using hKl
    simp (maxSteps := 2000000) only [D0, ains, clsOf, abin, aint, aun, dnext, rowsOf, loadObj, cellsOf, ofCells, bnd, hmerge, Nat.reduceBEq, Nat.reduceAdd, reduceIte, Nat.reduceEqDiff, Nat.reduceLeDiff, Int.reduceEq, reduceCtorEq, Int.reduceBEq, Int.reduceBNe, Int.reduceLT, Int.reduceNeg, hne, hp0, eTr1, Int.le_refl, Int.reduceToNat]
    refine lg_rule (fun j e H => ∃ c, e = [(0, (AV.list 5 (List.map eNd (enc x)))), (2, .own [0] 0), (12, .int .i64 4), (13, .bool false), (3, .own [14] (r.length + 1)), (4, .own [16, 0] M.length), (5, .int .i64 M.length), (6, (AV.list 5 (List.map eNd (enc c)))), (7, .int .i64 (j + 1 : Nat))] ∧ H = [[([16, 0], .row true true 23 1 (List.map eTr1 M)), ([14], .row true true 23 1 ([(AV.list 5 (List.map eNd (enc x0)))] :: List.map eTr1 r)), ([0], .row true true 48 5 [])]] ∧ j ≤ r.length ∧ OkS c ∧ sz c + sumS (r.drop j) ≤ sz x ∧ r.foldl sAlt x0 = (r.drop j).foldl sAlt c) r.length ?_ ?_
    · exact ⟨x0, rfl, rfl, by simp, h0, by rw [List.drop_zero]; omega, rfl⟩
    rintro j e H ⟨c, rfl, rfl, hj, hcc, hss, hO⟩
    simp (maxSteps := 2000000) only [D0, ains, clsOf, abin, aint, aun, dnext, rowsOf, loadObj, cellsOf, ofCells, bnd, hmerge, Nat.reduceBEq, Nat.reduceAdd, reduceIte, Nat.reduceEqDiff, Nat.reduceLeDiff, Int.reduceEq, reduceCtorEq, Int.reduceBEq, Int.reduceBNe, Int.reduceLT, Int.reduceNeg]
    by_cases h : j < r.length
    · have h' : ((j + 1 : Nat) : Int) < ((r.length + 1 : Nat) : Int) := by omega
      have hp := wrapp (j := j + 1) (by omega)
      have hg := map_get (f := eTr1) h default
      have hy := hrr _ (getD_memT h)
      have hst := sfold_step (c := c) h rfl
      have hdr : sumS (r.drop j) = sz (r.getD j default) + 1 + sumS (r.drop (j + 1)) := by
        rw [List.drop_eq_getElem_cons h]
        have : r[j] = r.getD j default := by rw [List.getD_eq_getElem?_getD, List.getElem?_eq_getElem h]; rfl
        rw [this]; simp only [sumS, List.map_cons, List.sum_cons]
      generalize r.getD j default = y' at hg hy hst hdr
      simp only [eTr1] at hg
      have hsm : sz c + sz y' + 1 ≤ 40000 := by omega
      have ea := altO_some hsm
      have eb := altT_enc hcc hy
      rw [ea] at eb
      have hsa := sz_sAlt c y'
      have hdo := ok_altO hcc hy ea
      have hne2 : (((enc (sAlt c y')).length : Int) == 0) = false := beq_no (by have := hdo.ne; omega)
      have hd : (SmS (enc c) ∧ SmS (enc y')) ∧ (enc c).length ≤ 1000000 ∧ (enc y').length ≤ 1000000 := ⟨⟨hcc.sm, hy.sm⟩, by have := hcc.len; omega, by have := hy.len; omega⟩
      simp (maxSteps := 2000000) only [D0, ains, clsOf, abin, aint, aun, dnext, rowsOf, loadObj, cellsOf, ofCells, bnd, hmerge, Nat.reduceBEq, Nat.reduceAdd, reduceIte, Nat.reduceEqDiff, Nat.reduceLeDiff, Int.reduceEq, reduceCtorEq, Int.reduceBEq, Int.reduceBNe, Int.reduceLT, Int.reduceNeg, @use_all q6 43 k43.ora rfl, e43, h', hg, hd, eb, encO, hp, hne2, Int.natCast_nonneg, Int.toNat_natCast]
      simp only [F1, bodyRes, one, ains, clsOf, abin, aint, aun, dnext, rowsOf, loadObj, cellsOf, ofCells, bnd, hmerge, Nat.reduceBEq, Nat.reduceAdd, reduceIte, Nat.reduceEqDiff, Nat.reduceLeDiff, Int.reduceEq, reduceCtorEq, Int.reduceBEq, Int.reduceBNe, Int.reduceLT, Int.reduceNeg]
      exact ⟨h, _, rfl, h, hdo, by omega, by rw [hO, hst]⟩
    · have h' : ¬ ((j + 1 : Nat) : Int) < ((r.length + 1 : Nat) : Int) := by omega
      have hj2 : j = r.length := by omega
      subst hj2
      rw [List.drop_length] at hO
      have hn : fullT x = c := by rw [hf, hO]; rfl
      rw [hn] at hr
      have nc := hcc.ne
      have kc := lastN_enc c
      have hd : SmS (enc c) ∧ (enc c).length ≤ 1000000 := ⟨hcc.sm, by have := hcc.len; omega⟩
      obtain ⟨j1, j2⟩ := encO_star hcc
      simp (maxSteps := 2000000) only [D0, ains, clsOf, abin, aint, aun, dnext, rowsOf, loadObj, cellsOf, ofCells, bnd, hmerge, Nat.reduceBEq, Nat.reduceAdd, reduceIte, Nat.reduceEqDiff, Nat.reduceLeDiff, Int.reduceEq, reduceCtorEq, Int.reduceBEq, Int.reduceBNe, Int.reduceLT, Int.reduceNeg, h', decide_false]
      refine .inr ⟨by simp, ?_⟩
      by_cases n4c : rk c = 4
      · rw [if_pos n4c] at hr
        simp only [D0, ains, clsOf, abin, aint, aun, dnext, rowsOf, loadObj, cellsOf, ofCells, bnd, hmerge, Nat.reduceBEq, Nat.reduceAdd, reduceIte, Nat.reduceEqDiff, Nat.reduceLeDiff, Int.reduceEq, reduceCtorEq, Int.reduceBEq, Int.reduceBNe, Int.reduceLT, Int.reduceNeg, @use_all q6 81 k81.ora rfl, e81, @use_all q6 26 k26.ora rfl, e26, nc, kc, n4c, hd, j1]
        simp only [F1, bodyRes, one, ains, clsOf, abin, aint, aun, dnext, rowsOf, loadObj, cellsOf, ofCells, bnd, hmerge, Nat.reduceBEq, Nat.reduceAdd, reduceIte, Nat.reduceEqDiff, Nat.reduceLeDiff, Int.reduceEq, reduceCtorEq, Int.reduceBEq, Int.reduceBNe, Int.reduceLT, Int.reduceNeg, fn44_res, fn44_keep, fz, fzd, fzd.fzcells, hr]
      · rw [if_neg n4c] at hr
        have n4d := bne_yes n4c
        simp only [D0, ains, clsOf, abin, aint, aun, dnext, rowsOf, loadObj, cellsOf, ofCells, bnd, hmerge, Nat.reduceBEq, Nat.reduceAdd, reduceIte, Nat.reduceEqDiff, Nat.reduceLeDiff, Int.reduceEq, reduceCtorEq, Int.reduceBEq, Int.reduceBNe, Int.reduceLT, Int.reduceNeg, @use_all q6 81 k81.ora rfl, e81, @use_all q6 84 k84.ora rfl, e84, nc, kc, n4d, hcc]
        simp only [F1, bodyRes, one, ains, clsOf, abin, aint, aun, dnext, rowsOf, loadObj, cellsOf, ofCells, bnd, hmerge, Nat.reduceBEq, Nat.reduceAdd, reduceIte, Nat.reduceEqDiff, Nat.reduceLeDiff, Int.reduceEq, reduceCtorEq, Int.reduceBEq, Int.reduceBNe, Int.reduceLT, Int.reduceNeg, fn44_res, fn44_keep, fz, fzd, fzd.fzcells, hr]
noncomputable def k44 : Kon (List Nd) := ⟨fun x => SmS x ∧ x.length ≤ 1000000, fun x => [(AV.list 5 (List.map eNd x))], fun x => (AV.list 5 (List.map eNd (encO (starS x))))⟩
theorem e44 (a : List Nd) (hd : SmS a ∧ a.length ≤ 1000000) (q0 : Id) (H0 : Heap) : k44.ora q0 ([(AV.list 5 (List.map eNd a))]) H0 = some ((AV.list 5 (List.map eNd (encO (starS a)))), H0) := k44.eq (treeInj) (a) hd q0 H0
theorem ook44 : OraOK Try.prog (44 % 100000) k44.ora := k44.ok orders q6_ok (fun x hd => by simp [k44, PU]) (fun x hd => by simp [k44, PU]) (fun x hd => run44 x hd.1 hd.2)

noncomputable def q7 : FT := upd (q6) 44 k44.ora
theorem q7_ok : FTOK Try.prog q7 := upd_ok2 (f := 44) (q6_ok) ook44

end Go.Proofs.Abs
