/- A part of a proof: the text that states the row tells what is proved. No condition is laid on anything. -/
import Derived.Test.YtgcncpedpjjjeaaAbsM17
set_option linter.all false
set_option linter.constructorNameAsVariable false
set_option linter.defProp false
set_option linter.unusedVariables false
set_option linter.unusedSimpArgs false
set_option maxRecDepth 100000
set_option maxHeartbeats 4000000
namespace Go.Proofs.Abs
open Go
/-! 45: caesuraref12.Clean. -/
theorem run45 (t : List Nd) (st : SmS t) (lt : t.length ≤ 1000000) : cwp q7 45 [] [(AV.list 5 (List.map eNd t))] [] (fun r H => r = (AV.list 5 (List.map eNd (encO (cleanS t)))) ∧ H = []) := by
  refine run_fn (fn := fn45) rfl rfl ?_
  have wt := st.wf
  by_cases g1 : goodT t = true
  case neg =>
    have g1' : goodT t = false := by simpa using g1
    have hr : cleanS t = none := by simp [cleanS, g1']
    simp only [fn45_body, c45, D0, ains, clsOf, abin, aint, aun, dnext, rowsOf, loadObj, cellsOf, ofCells, bnd, hmerge, Nat.reduceBEq, Nat.reduceAdd, reduceIte, Nat.reduceEqDiff, Nat.reduceLeDiff, Int.reduceEq, reduceCtorEq, Int.reduceBEq, Int.reduceBNe, Int.reduceLT, Int.reduceNeg, @use_all q7 30 k30.ora rfl, e30, wt, g1']
    simp only [F1, bodyRes, one, ains, clsOf, abin, aint, aun, dnext, rowsOf, loadObj, cellsOf, ofCells, bnd, hmerge, Nat.reduceBEq, Nat.reduceAdd, reduceIte, Nat.reduceEqDiff, Nat.reduceLeDiff, Int.reduceEq, reduceCtorEq, Int.reduceBEq, Int.reduceBNe, Int.reduceLT, Int.reduceNeg, fn45_res, fn45_keep, fz, fzd, fzd.fzcells, hr, encO]
  obtain ⟨x, hx, rfl⟩ := okS_of ⟨st, g1⟩
  rw [cleanS_enc hx]
  have lx := enc_len x
  have px := sz_pos x
  have zx := hx.2
  have hwf : ∀ y ∈ subs x, OkS (sClean y) ∧ sz (sClean y) ≤ sz y ∧ sz y ≤ 40000 := fun y hy => wf_subs hx hy
  have hM : ((subs x).map sClean).length = sz x := by rw [List.length_map, subs_len]
  have hMg : ∀ i, i < sz x → ((subs x).map sClean).getD i default = sClean ((subs x).getD i default) := fun i hi => by
    rw [List.getD_eq_getElem?_getD, List.getElem?_map, List.getD_eq_getElem?_getD, List.getElem?_eq_getElem (by rw [subs_len]; exact hi)]; rfl
  have hlast := hMg (sz x - 1) (by omega)
  rw [subs_last] at hlast
  have hsub : ∀ i, i < sz x → (subs x).getD i default ∈ subs x := fun i hi => getD_memT (by rw [subs_len]; exact hi)
  have hnd := nodes x hx.1
  have hsl := subs_len x
  have hsmt := good_sm st g1
  generalize hS : subs x = S at *
  generalize hMM : S.map sClean = M at *
  have hget : ∀ j, j ≤ sz x → ∀ i, i < j → (List.map eTr1 (M.take j))[i]? = some (eTr1 (M.getD i default)) := fun j hj i hi => by
    rw [List.getElem?_map, List.getElem?_take_of_lt hi, List.getD_eq_getElem?_getD, List.getElem?_eq_getElem (by omega)]; rfl
  have hlen : ∀ j, j ≤ sz x → (M.take j).length = j := fun j hj => by simp; omega
  simp (maxSteps := 2000000) only [fn45_body, c45, D0, ains, clsOf, abin, aint, aun, dnext, rowsOf, loadObj, cellsOf, ofCells, bnd, hmerge, Nat.reduceBEq, Nat.reduceAdd, reduceIte, Nat.reduceEqDiff, Nat.reduceLeDiff, Int.reduceEq, reduceCtorEq, Int.reduceBEq, Int.reduceBNe, Int.reduceLT, Int.reduceNeg, @use_all q7 30 k30.ora rfl, e30, wt, g1]
  refine lg_rule (fun j e H => e = [(0, (AV.list 5 (List.map eNd (enc x)))), (2, .own [0] 0), (3, .own [4] j), (4, .int .i64 j)] ∧ H = [[([4], .row true true 23 1 (List.map eTr1 (M.take j))), ([0], .row true true 48 5 [])]] ∧ j ≤ sz x) (sz x) ?_ ?_
  · trace_state
    exact ⟨rfl, rfl, by simp⟩
  rintro j e H ⟨rfl, rfl, hj⟩
  have hlj := hlen j hj
  simp (maxSteps := 2000000) only [D0, ains, clsOf, abin, aint, aun, dnext, rowsOf, loadObj, cellsOf, ofCells, bnd, hmerge, Nat.reduceBEq, Nat.reduceAdd, reduceIte, Nat.reduceEqDiff, Nat.reduceLeDiff, Int.reduceEq, reduceCtorEq, Int.reduceBEq, Int.reduceBNe, Int.reduceLT, Int.reduceNeg, lx]
  by_cases h : j < sz x
  · have h' : (j : Int) < (sz x : Int) := by omega
    have hp := wrapp (j := j) (by omega)
    have hg := map_get (f := eNd) (l := enc x) (j := j) (by omega) default
    have hget := hget j hj
    have hsn : List.map eTr1 (M.take j) ++ [eTr1 (M.getD j default)] = List.map eTr1 (M.take (j + 1)) := by rw [take_snocT (by omega)]; simp
    have hn := hnd j h
    have hMj := hMg j h
    have hcap : (j + 1) * 24 ≤ 140737488355328 := by omega
    generalize hsj : S.getD j default = y at hn hMj
    have hy := hsub j h
    rw [hsj] at hy
    have hwy := hwf y hy
    have hbn : benT (enc x) j j = mov [(enc x).getD j default] (-(j : Int)) := by
      unfold benT
      rw [List.drop_take, Nat.add_sub_cancel_left, List.drop_eq_getElem_cons (by omega)]
      have : (enc x)[j] = (enc x).getD j default := by rw [List.getD_eq_getElem?_getD, List.getElem?_eq_getElem (by omega)]; rfl
      rw [this]; rfl
    have hd70 : SmT (enc x) ∧ j < (enc x).length ∧ j ≤ j + 1 := ⟨hsmt, by omega, by omega⟩
    have e70' := e70 (enc x) j j hd70
    rw [hbn] at e70'
    generalize (enc x).getD j default = nd at hg hn e70'
    rw [hMj] at hsn
    clear hsj hMj hnd hbn
    cases hn with
    | leaf _ hleaf =>
      have hmv : mov [nd] (-(j : Int)) = [nd] := by simp [mov, movN_leafN hleaf]
      rw [hmv] at e70'
      obtain ⟨kk, a, b, c, z⟩ := nd
      obtain ⟨f1, f2⟩ := leaf_fork hleaf
      have hk3 : (kk == 3) = false := by simp [isFork] at f1; simp [f1]
      have hk4 : (kk == 4) = false := by simp [isFork] at f1; simp [f1]
      have hk5 : (kk == 5) = false := by simpa using f2
      have hz1 : (((0 + 1 : Nat) : Int) == 0) = false := rfl
      simp only [sClean, eTr1, enc, List.map_cons, List.map_nil, eNd, eSet, List.length_cons, List.length_nil] at hsn e70'
      simp (maxSteps := 2000000) only [D0, ains, clsOf, abin, aint, aun, dnext, rowsOf, loadObj, cellsOf, ofCells, bnd, hmerge, Nat.reduceBEq, Nat.reduceAdd, reduceIte, Nat.reduceEqDiff, Nat.reduceLeDiff, Int.reduceEq, reduceCtorEq, Int.reduceBEq, Int.reduceBNe, Int.reduceLT, Int.reduceNeg, @use_all q7 70 k70.ora rfl, e70', hg, eNd, eSet, h', lx, hlj, hk3, hk4, hk5, hp, hz1, hcap, fz, fzd, hsn, Int.natCast_nonneg, Int.toNat_natCast, decide_true]
      trace_state
      simp only [F1, bodyRes, one, ains, clsOf, abin, aint, aun, dnext, rowsOf, loadObj, cellsOf, ofCells, bnd, hmerge, Nat.reduceBEq, Nat.reduceAdd, reduceIte, Nat.reduceEqDiff, Nat.reduceLeDiff, Int.reduceEq, reduceCtorEq, Int.reduceBEq, Int.reduceBNe, Int.reduceLT, Int.reduceNeg]
      exact ⟨h, by omega⟩
    | cat i k hik =>
      have hu := hMg i (by omega)
      have hv := hMg k (by omega)
      obtain ⟨ou, zu, _⟩ := hwf _ (hsub i (by omega))
      obtain ⟨ov, zv, _⟩ := hwf _ (hsub k (by omega))
      have gi := hget i hik.1
      have gk := hget k hik.2
      rw [hu] at gi
      rw [hv] at gk
      have hi' : (i : Int) < (j : Int) := by omega
      have hk' : (k : Int) < (j : Int) := by omega
      simp only [sClean, eTr1, sz] at hsn hwy gi gk
      generalize S.getD i default = p at *
      generalize S.getD k default = q at *
      have et := catT_enc ou ov
      rw [catO_some _ _ (by omega)] at et
      have hne : (((enc (sCat (sClean p) (sClean q))).length : Int) == 0) = false := beq_no (by have := hwy.1.ne; omega)
      have hd : (SmS (enc (sClean p)) ∧ SmS (enc (sClean q))) ∧ (enc (sClean p)).length ≤ 1000000 ∧ (enc (sClean q)).length ≤ 1000000 := ⟨⟨ou.sm, ov.sm⟩, by have := ou.len; omega, by have := ov.len; omega⟩
      simp (maxSteps := 2000000) only [D0, ains, clsOf, abin, aint, aun, dnext, rowsOf, loadObj, cellsOf, ofCells, bnd, hmerge, Nat.reduceBEq, Nat.reduceAdd, reduceIte, Nat.reduceEqDiff, Nat.reduceLeDiff, Int.reduceEq, reduceCtorEq, Int.reduceBEq, Int.reduceBNe, Int.reduceLT, Int.reduceNeg, @use_all q7 42 k42.ora rfl, e42, hd, et, encO, hg, eNd, eSet, h', hi', hk', gi, gk, lx, hlj, hp, hne, hcap, fz, fzd, hsn, lrc_x, apx, apart, apart1, needs, Int.natCast_nonneg, Int.toNat_natCast, decide_true]
      simp only [F1, bodyRes, one, ains, clsOf, abin, aint, aun, dnext, rowsOf, loadObj, cellsOf, ofCells, bnd, hmerge, Nat.reduceBEq, Nat.reduceAdd, reduceIte, Nat.reduceEqDiff, Nat.reduceLeDiff, Int.reduceEq, reduceCtorEq, Int.reduceBEq, Int.reduceBNe, Int.reduceLT, Int.reduceNeg]
      exact ⟨h, by omega⟩
    | alt i k hik =>
      have hu := hMg i (by omega)
      have hv := hMg k (by omega)
      obtain ⟨ou, zu, _⟩ := hwf _ (hsub i (by omega))
      obtain ⟨ov, zv, _⟩ := hwf _ (hsub k (by omega))
      have gi := hget i hik.1
      have gk := hget k hik.2
      rw [hu] at gi
      rw [hv] at gk
      have hi' : (i : Int) < (j : Int) := by omega
      have hk' : (k : Int) < (j : Int) := by omega
      simp only [sClean, eTr1, sz] at hsn hwy gi gk
      generalize S.getD i default = p at *
      generalize S.getD k default = q at *
      have et := altT_enc ou ov
      rw [altO_some (by omega)] at et
      have hne : (((enc (sAlt (sClean p) (sClean q))).length : Int) == 0) = false := beq_no (by have := hwy.1.ne; omega)
      have hd : (SmS (enc (sClean p)) ∧ SmS (enc (sClean q))) ∧ (enc (sClean p)).length ≤ 1000000 ∧ (enc (sClean q)).length ≤ 1000000 := ⟨⟨ou.sm, ov.sm⟩, by have := ou.len; omega, by have := ov.len; omega⟩
      simp (maxSteps := 2000000) only [D0, ains, clsOf, abin, aint, aun, dnext, rowsOf, loadObj, cellsOf, ofCells, bnd, hmerge, Nat.reduceBEq, Nat.reduceAdd, reduceIte, Nat.reduceEqDiff, Nat.reduceLeDiff, Int.reduceEq, reduceCtorEq, Int.reduceBEq, Int.reduceBNe, Int.reduceLT, Int.reduceNeg, @use_all q7 43 k43.ora rfl, e43, hd, et, encO, hg, eNd, eSet, h', hi', hk', gi, gk, lx, hlj, hp, hne, hcap, fz, fzd, hsn, lrc_x, apx, apart, apart1, needs, Int.natCast_nonneg, Int.toNat_natCast, decide_true]
      simp only [F1, bodyRes, one, ains, clsOf, abin, aint, aun, dnext, rowsOf, loadObj, cellsOf, ofCells, bnd, hmerge, Nat.reduceBEq, Nat.reduceAdd, reduceIte, Nat.reduceEqDiff, Nat.reduceLeDiff, Int.reduceEq, reduceCtorEq, Int.reduceBEq, Int.reduceBNe, Int.reduceLT, Int.reduceNeg]
      exact ⟨h, by omega⟩
    | star i hi =>
      have hu := hMg i (by omega)
      obtain ⟨ou, zu, _⟩ := hwf _ (hsub i (by omega))
      have gi := hget i hi
      rw [hu] at gi
      have hi' : (i : Int) < (j : Int) := by omega
      simp only [sClean, eTr1, sz] at hsn hwy gi
      generalize S.getD i default = p at *
      have et := starS_enc ou
      rw [starO_some (by omega)] at et
      have hne : (((enc (sStar (sClean p))).length : Int) == 0) = false := beq_no (by have := hwy.1.ne; omega)
      have hd : SmS (enc (sClean p)) ∧ (enc (sClean p)).length ≤ 1000000 := ⟨ou.sm, by have := ou.len; omega⟩
      simp (maxSteps := 2000000) only [D0, ains, clsOf, abin, aint, aun, dnext, rowsOf, loadObj, cellsOf, ofCells, bnd, hmerge, Nat.reduceBEq, Nat.reduceAdd, reduceIte, Nat.reduceEqDiff, Nat.reduceLeDiff, Int.reduceEq, reduceCtorEq, Int.reduceBEq, Int.reduceBNe, Int.reduceLT, Int.reduceNeg, @use_all q7 44 k44.ora rfl, e44, hd, et, encO, hg, eNd, eSet, h', hi', gi, lx, hlj, hp, hne, hcap, fz, fzd, hsn, Int.natCast_nonneg, Int.toNat_natCast, decide_true]
      simp only [F1, bodyRes, one, ains, clsOf, abin, aint, aun, dnext, rowsOf, loadObj, cellsOf, ofCells, bnd, hmerge, Nat.reduceBEq, Nat.reduceAdd, reduceIte, Nat.reduceEqDiff, Nat.reduceLeDiff, Int.reduceEq, reduceCtorEq, Int.reduceBEq, Int.reduceBNe, Int.reduceLT, Int.reduceNeg]
      exact ⟨h, by omega⟩
  · have h' : ¬ (j : Int) < (sz x : Int) := by omega
    have hj2 : j = sz x := by omega
    subst hj2
    have wm := wrapm (j := sz x) (by omega) (by omega)
    have gl := hget (sz x) (by omega) (sz x - 1) (by omega)
    rw [hlast] at gl
    have hl2 : ((sz x - 1 : Nat) : Int) < (sz x : Int) := by omega
    simp only [eTr1] at gl
    simp (maxSteps := 2000000) only [D0, ains, clsOf, abin, aint, aun, dnext, rowsOf, loadObj, cellsOf, ofCells, bnd, hmerge, Nat.reduceBEq, Nat.reduceAdd, reduceIte, Nat.reduceEqDiff, Nat.reduceLeDiff, Int.reduceEq, reduceCtorEq, Int.reduceBEq, Int.reduceBNe, Int.reduceLT, Int.reduceNeg, h', decide_false]
    refine .inr ⟨by simp, ?_⟩
    simp only [D0, ains, clsOf, abin, aint, aun, dnext, rowsOf, loadObj, cellsOf, ofCells, bnd, hmerge, Nat.reduceBEq, Nat.reduceAdd, reduceIte, Nat.reduceEqDiff, Nat.reduceLeDiff, Int.reduceEq, reduceCtorEq, Int.reduceBEq, Int.reduceBNe, Int.reduceLT, Int.reduceNeg, lx, wm, hlj, gl, hl2, Int.natCast_nonneg, Int.toNat_natCast]
    simp only [F1, bodyRes, one, ains, clsOf, abin, aint, aun, dnext, rowsOf, loadObj, cellsOf, ofCells, bnd, hmerge, Nat.reduceBEq, Nat.reduceAdd, reduceIte, Nat.reduceEqDiff, Nat.reduceLeDiff, Int.reduceEq, reduceCtorEq, Int.reduceBEq, Int.reduceBNe, Int.reduceLT, Int.reduceNeg, fn45_res, fn45_keep, fz, fzd, fzd.fzcells, encO]
noncomputable def k45 : Kon (List Nd) := ⟨fun x => SmS x ∧ x.length ≤ 1000000, fun x => [(AV.list 5 (List.map eNd x))], fun x => (AV.list 5 (List.map eNd (encO (cleanS x))))⟩
theorem e45 (t : List Nd) (hd : SmS t ∧ t.length ≤ 1000000) (q0 : Id) (H0 : Heap) : k45.ora q0 ([(AV.list 5 (List.map eNd t))]) H0 = some ((AV.list 5 (List.map eNd (encO (cleanS t)))), H0) := k45.eq (treeInj) (t) hd q0 H0
theorem ook45 : OraOK Try.prog (45 % 100000) k45.ora := k45.ok orders q7_ok (fun x hd => by simp [k45, PU]) (fun x hd => by simp [k45, PU]) (fun x hd => run45 x hd.1 hd.2)

noncomputable def q8 : FT := upd (q7) 45 k45.ora
theorem q8_ok : FTOK Try.prog q8 := upd_ok2 (f := 45) (q7_ok) ook45

end Go.Proofs.Abs
