/- A part of a proof: the text that states the row tells what is proved. No condition is laid on anything. -/
import Derived.Test.YtgcncpedpjjjeaaAbsM10
import Derived.Test.YtgcncpedpjjjeaaAbsX3
set_option linter.all false
set_option linter.constructorNameAsVariable false
set_option linter.defProp false
set_option linter.unusedVariables false
set_option linter.unusedSimpArgs false
set_option maxRecDepth 100000
set_option maxHeartbeats 4000000
namespace Go.Proofs.Abs
open Go
/-! 41: smart.Clean. -/
def rowsM (M : List Tr) (n j : Nat) : List (List AV) := List.map eTr1 (M.take j) ++ List.replicate (n - j) [AV.list 5 []]
theorem rowsM_get {M : List Tr} {n j i : Nat} (hi : i < j) (hM : j ≤ M.length) : (rowsM M n j)[i]? = some (eTr1 (M.getD i default)) := by
  unfold rowsM
  rw [List.getElem?_append_left (by simp; omega), List.getElem?_map, List.getElem?_take_of_lt hi, List.getD_eq_getElem?_getD, List.getElem?_eq_getElem (by omega)]
  rfl
theorem rowsM_len {M : List Tr} {n j : Nat} (hj : j ≤ n) (hM : M.length = n) : (rowsM M n j).length = n := by
  unfold rowsM
  simp only [List.length_append, List.length_map, List.length_take, List.length_replicate]
  omega
theorem rowsM_old {M : List Tr} {n j : Nat} (hj : j < n) (hM : M.length = n) : (rowsM M n j)[j]? = some [AV.list 5 []] := by
  unfold rowsM
  have l : (List.map eTr1 (M.take j)).length = j := by simp; omega
  rw [List.getElem?_append_right (by omega), l, Nat.sub_self, List.getElem?_replicate, if_pos (by omega)]
theorem rowsM_set {M : List Tr} {n j : Nat} (hj : j < n) (hM : M.length = n) : (rowsM M n j).set j (eTr1 (M.getD j default)) = rowsM M n (j + 1) := by
  have e : n - j = (n - (j + 1)) + 1 := by omega
  have l : (List.map eTr1 (M.take j)).length = j := by simp; omega
  unfold rowsM
  rw [List.set_append, if_neg (by omega), l, Nat.sub_self, e, List.replicate_succ, List.set_cons_zero, take_snocT (by omega)]
  simp
theorem wf_subs {x : Tr} (hx : OkS x) {y : Tr} (h : y ∈ subs x) : OkS (sClean y) ∧ sz (sClean y) ≤ sz y ∧ sz y ≤ 40000 := by
  have h1 := subs_sz x y h
  have h2 := hx.2
  have h3 := sz_sClean y
  exact ⟨⟨ok_sClean y (subs_ok x hx.1 y h), by omega⟩, h3, by omega⟩
theorem run41 (t : List Nd) (st : SmS t) (lt : t.length ≤ 1000000) : cwp s8 41 [] [(AV.list 5 (List.map eNd t))] [] (fun r H => r = resO (cleanS t) ∧ H = []) := by
  refine run_fn (fn := fn41) rfl rfl ?_
  have wt := st.wf
  by_cases g1 : goodT t = true
  case neg =>
    have g1' : goodT t = false := by simpa using g1
    have hr : cleanS t = none := by simp [cleanS, g1']
    simp only [fn41_body, c41, D0, ains, clsOf, abin, aint, aun, dnext, rowsOf, loadObj, cellsOf, ofCells, bnd, hmerge, Nat.reduceBEq, Nat.reduceAdd, reduceIte, Nat.reduceEqDiff, Nat.reduceLeDiff, Int.reduceEq, reduceCtorEq, Int.reduceBEq, Int.reduceBNe, Int.reduceLT, Int.reduceNeg, @use_all s8 29 k29.ora rfl, e29, wt, g1']
    simp only [F1, bodyRes, one, ains, clsOf, abin, aint, aun, dnext, rowsOf, loadObj, cellsOf, ofCells, bnd, hmerge, Nat.reduceBEq, Nat.reduceAdd, reduceIte, Nat.reduceEqDiff, Nat.reduceLeDiff, Int.reduceEq, reduceCtorEq, Int.reduceBEq, Int.reduceBNe, Int.reduceLT, Int.reduceNeg, fn41_res, fn41_keep, fz, fzd, fzd.fzcells, hr, resO, encO, Option.isSome_none]
  obtain ⟨x, hx, rfl⟩ := okS_of ⟨st, g1⟩
  rw [cleanS_enc hx]
  have lx := enc_len x
  have px := sz_pos x
  have zx := hx.2
  have hc : (sz x : Int) * ((24 : Nat) : Int) ≤ 140737488355328 := by omega
  have hwf : ∀ y ∈ subs x, OkS (sClean y) ∧ sz (sClean y) ≤ sz y ∧ sz y ≤ 40000 := fun y hy => wf_subs hx hy
  have hrep : List.replicate (sz x) [AV.list 5 []] = rowsM ((subs x).map sClean) (sz x) 0 := by simp [rowsM]
  have hM : ((subs x).map sClean).length = sz x := by rw [List.length_map, subs_len]
  have hMg : ∀ i, i < sz x → ((subs x).map sClean).getD i default = sClean ((subs x).getD i default) := fun i hi => by
    rw [List.getD_eq_getElem?_getD, List.getElem?_map, List.getD_eq_getElem?_getD, List.getElem?_eq_getElem (by rw [subs_len]; exact hi)]; rfl
  have hlast := hMg (sz x - 1) (by omega)
  rw [subs_last] at hlast
  have hsub : ∀ i, i < sz x → (subs x).getD i default ∈ subs x := fun i hi => getD_memT (by rw [subs_len]; exact hi)
  have hnd := nodes x hx.1
  have hsl := subs_len x
  generalize hS : subs x = S at *
  generalize hMM : S.map sClean = M at *
  simp only [fn41_body, c41, D0, ains, clsOf, abin, aint, aun, dnext, rowsOf, loadObj, cellsOf, ofCells, bnd, hmerge, Nat.reduceBEq, Nat.reduceAdd, reduceIte, Nat.reduceEqDiff, Nat.reduceLeDiff, Int.reduceEq, reduceCtorEq, Int.reduceBEq, Int.reduceBNe, Int.reduceLT, Int.reduceNeg, @use_all s8 29 k29.ora rfl, e29, wt, g1, lx, hc, hrep, Int.natCast_nonneg, Int.toNat_natCast]
  refine lg_rule (fun j e H => e = [(0, (AV.list 5 (List.map eNd (enc x)))), (2, .own [0] 0), (3, .bool false), (4, .own [7] (sz x)), (14, (AV.list 5 (List.map eNd (enc x)))), (15, .int .i64 (sz x)), (16, .int .i64 j)] ∧ H = [[([7], .row true true 23 1 (rowsM M (sz x) j)), ([0], .row true true 48 5 [])]] ∧ j ≤ sz x) (sz x) ?_ ?_
  · exact ⟨rfl, rfl, by simp⟩
  rintro j e H ⟨rfl, rfl, hj⟩
  simp only [D0, ains, clsOf, abin, aint, aun, dnext, rowsOf, loadObj, cellsOf, ofCells, bnd, hmerge, Nat.reduceBEq, Nat.reduceAdd, reduceIte, Nat.reduceEqDiff, Nat.reduceLeDiff, Int.reduceEq, reduceCtorEq, Int.reduceBEq, Int.reduceBNe, Int.reduceLT, Int.reduceNeg]
  by_cases h : j < sz x
  · have h' : (j : Int) < (sz x : Int) := by omega
    have hp := wrapp (j := j) (by omega)
    have hg := map_get (f := eNd) (l := enc x) (j := j) (by omega) default
    have hml := rowsM_len (M := M) (n := sz x) (j := j) (by omega) hM
    have hold := rowsM_old (M := M) h hM
    have hset := rowsM_set (M := M) h hM
    have hget := fun i (hi : i < j) => rowsM_get (M := M) (n := sz x) (j := j) hi (by omega)
    have hn := hnd j h
    have hMj := hMg j h
    have hjj : (j : Int) < (sz x : Int) := h'
    generalize hsj : S.getD j default = y at hn hMj
    have hy := hsub j h
    rw [hsj] at hy
    have hwy := hwf y hy
    generalize (enc x).getD j default = nd at hg hn
    rw [hMj] at hset
    clear hsj hMj hnd
    cases hn with
    | leaf _ hleaf =>
      obtain ⟨kk, a, b, c, z⟩ := nd
      obtain ⟨f1, f2⟩ := leaf_fork hleaf
      have hk3 : (kk == 3) = false := by simp [isFork] at f1; simp [f1]
      have hk4 : (kk == 4) = false := by simp [isFork] at f1; simp [f1]
      have hk5 : (kk == 5) = false := by simpa using f2
      have hs1 : j ≤ j + 1 ∧ j + 1 ≤ sz x ∧ sz x ≤ sz x := by omega
      have htd : ((List.map eNd (enc x)).take (j + 1)).drop j = [eNd ⟨kk, a, b, c, z⟩] := by
        rw [List.drop_take, Nat.add_sub_cancel_left]
        have hl : j < (List.map eNd (enc x)).length := by simp; omega
        rw [List.getElem?_eq_getElem hl] at hg
        injection hg with hg
        rw [List.drop_eq_getElem_cons hl, hg]
        rfl
      have e77' := e77 [⟨kk, a, b, c, z⟩] (by simp)
      simp only [sClean, eTr1, enc, List.map_cons, List.map_nil, eNd, eSet] at hset e77' htd
      simp only [D0, ains, clsOf, abin, aint, aun, dnext, rowsOf, loadObj, cellsOf, ofCells, bnd, hmerge, Nat.reduceBEq, Nat.reduceAdd, reduceIte, Nat.reduceEqDiff, Nat.reduceLeDiff, Int.reduceEq, reduceCtorEq, Int.reduceBEq, Int.reduceBNe, Int.reduceLT, Int.reduceNeg, @use_all s8 77 k77.ora rfl, e77', hg, eNd, eSet, h', lx, hml, hold, hk3, hk4, hk5, hp, hs1, htd, fz, fzd, hset, Int.natCast_nonneg, Int.toNat_natCast, decide_true]
      simp only [F1, bodyRes, one, ains, clsOf, abin, aint, aun, dnext, rowsOf, loadObj, cellsOf, ofCells, bnd, hmerge, Nat.reduceBEq, Nat.reduceAdd, reduceIte, Nat.reduceEqDiff, Nat.reduceLeDiff, Int.reduceEq, reduceCtorEq, Int.reduceBEq, Int.reduceBNe, Int.reduceLT, Int.reduceNeg]
      exact h
    | cat i k hik =>
      have hu := hMg i (by omega)
      have hv := hMg k (by omega)
      obtain ⟨ou, zu, _⟩ := hwf _ (hsub i (by omega))
      obtain ⟨ov, zv, _⟩ := hwf _ (hsub k (by omega))
      have gi := hget i hik.1
      have gk := hget k hik.2
      rw [hu] at gi
      rw [hv] at gk
      have hi' : (i : Int) < (sz x : Int) := by omega
      have hk' : (k : Int) < (sz x : Int) := by omega
      simp only [sClean, eTr1, sz] at hset hwy gi gk
      generalize S.getD i default = p at *
      generalize S.getD k default = q at *
      have et := catT_enc ou ov
      rw [catO_some _ _ (by omega)] at et
      have hd : (SmS (enc (sClean p)) ∧ SmS (enc (sClean q))) ∧ (enc (sClean p)).length ≤ 1000000 ∧ (enc (sClean q)).length ≤ 1000000 := ⟨⟨ou.sm, ov.sm⟩, by have := ou.len; omega, by have := ov.len; omega⟩
      simp only [D0, ains, clsOf, abin, aint, aun, dnext, rowsOf, loadObj, cellsOf, ofCells, bnd, hmerge, Nat.reduceBEq, Nat.reduceAdd, reduceIte, Nat.reduceEqDiff, Nat.reduceLeDiff, Int.reduceEq, reduceCtorEq, Int.reduceBEq, Int.reduceBNe, Int.reduceLT, Int.reduceNeg, @use_all s8 38 k38.ora rfl, e38, hd, et, resO, encO, Option.isSome_some, hg, eNd, eSet, h', hi', hk', gi, gk, lx, hml, hold, hp, fz, fzd, hset, lrc_x, apx, apart, apart1, needs, Int.natCast_nonneg, Int.toNat_natCast, decide_true]
      simp only [F1, bodyRes, one, ains, clsOf, abin, aint, aun, dnext, rowsOf, loadObj, cellsOf, ofCells, bnd, hmerge, Nat.reduceBEq, Nat.reduceAdd, reduceIte, Nat.reduceEqDiff, Nat.reduceLeDiff, Int.reduceEq, reduceCtorEq, Int.reduceBEq, Int.reduceBNe, Int.reduceLT, Int.reduceNeg]
      exact ⟨h, h⟩
    | alt i k hik =>
      have hu := hMg i (by omega)
      have hv := hMg k (by omega)
      obtain ⟨ou, zu, _⟩ := hwf _ (hsub i (by omega))
      obtain ⟨ov, zv, _⟩ := hwf _ (hsub k (by omega))
      have gi := hget i hik.1
      have gk := hget k hik.2
      rw [hu] at gi
      rw [hv] at gk
      have hi' : (i : Int) < (sz x : Int) := by omega
      have hk' : (k : Int) < (sz x : Int) := by omega
      simp only [sClean, eTr1, sz] at hset hwy gi gk
      generalize S.getD i default = p at *
      generalize S.getD k default = q at *
      have et := altT_enc ou ov
      rw [altO_some (by omega)] at et
      have hd : (SmS (enc (sClean p)) ∧ SmS (enc (sClean q))) ∧ (enc (sClean p)).length ≤ 1000000 ∧ (enc (sClean q)).length ≤ 1000000 := ⟨⟨ou.sm, ov.sm⟩, by have := ou.len; omega, by have := ov.len; omega⟩
      simp only [D0, ains, clsOf, abin, aint, aun, dnext, rowsOf, loadObj, cellsOf, ofCells, bnd, hmerge, Nat.reduceBEq, Nat.reduceAdd, reduceIte, Nat.reduceEqDiff, Nat.reduceLeDiff, Int.reduceEq, reduceCtorEq, Int.reduceBEq, Int.reduceBNe, Int.reduceLT, Int.reduceNeg, @use_all s8 39 k39.ora rfl, e39, hd, et, resO, encO, Option.isSome_some, hg, eNd, eSet, h', hi', hk', gi, gk, lx, hml, hold, hp, fz, fzd, hset, lrc_x, apx, apart, apart1, needs, Int.natCast_nonneg, Int.toNat_natCast, decide_true]
      simp only [F1, bodyRes, one, ains, clsOf, abin, aint, aun, dnext, rowsOf, loadObj, cellsOf, ofCells, bnd, hmerge, Nat.reduceBEq, Nat.reduceAdd, reduceIte, Nat.reduceEqDiff, Nat.reduceLeDiff, Int.reduceEq, reduceCtorEq, Int.reduceBEq, Int.reduceBNe, Int.reduceLT, Int.reduceNeg]
      exact ⟨h, h⟩
    | star i hi =>
      have hu := hMg i (by omega)
      obtain ⟨ou, zu, _⟩ := hwf _ (hsub i (by omega))
      have gi := hget i hi
      rw [hu] at gi
      have hi' : (i : Int) < (sz x : Int) := by omega
      simp only [sClean, eTr1, sz] at hset hwy gi
      generalize S.getD i default = p at *
      have et := starS_enc ou
      rw [starO_some (by omega)] at et
      have hd : SmS (enc (sClean p)) ∧ (enc (sClean p)).length ≤ 1000000 := ⟨ou.sm, by have := ou.len; omega⟩
      simp only [D0, ains, clsOf, abin, aint, aun, dnext, rowsOf, loadObj, cellsOf, ofCells, bnd, hmerge, Nat.reduceBEq, Nat.reduceAdd, reduceIte, Nat.reduceEqDiff, Nat.reduceLeDiff, Int.reduceEq, reduceCtorEq, Int.reduceBEq, Int.reduceBNe, Int.reduceLT, Int.reduceNeg, @use_all s8 40 k40.ora rfl, e40, hd, et, resO, encO, Option.isSome_some, hg, eNd, eSet, h', hi', gi, lx, hml, hold, hp, fz, fzd, hset, Int.natCast_nonneg, Int.toNat_natCast, decide_true]
      simp only [F1, bodyRes, one, ains, clsOf, abin, aint, aun, dnext, rowsOf, loadObj, cellsOf, ofCells, bnd, hmerge, Nat.reduceBEq, Nat.reduceAdd, reduceIte, Nat.reduceEqDiff, Nat.reduceLeDiff, Int.reduceEq, reduceCtorEq, Int.reduceBEq, Int.reduceBNe, Int.reduceLT, Int.reduceNeg]
      exact ⟨h, h⟩
  · have h' : ¬ (j : Int) < (sz x : Int) := by omega
    have hj2 : j = sz x := by omega
    subst hj2
    have wm := wrapm (j := sz x) (by omega) (by omega)
    have hml := rowsM_len (M := M) (n := sz x) (j := sz x) (by omega) hM
    have gl := rowsM_get (M := M) (n := sz x) (j := sz x) (i := sz x - 1) (by omega) (by omega)
    rw [hlast] at gl
    have hl2 : ((sz x - 1 : Nat) : Int) < (sz x : Int) := by omega
    simp only [eTr1] at gl
    simp only [D0, ains, clsOf, abin, aint, aun, dnext, rowsOf, loadObj, cellsOf, ofCells, bnd, hmerge, Nat.reduceBEq, Nat.reduceAdd, reduceIte, Nat.reduceEqDiff, Nat.reduceLeDiff, Int.reduceEq, reduceCtorEq, Int.reduceBEq, Int.reduceBNe, Int.reduceLT, Int.reduceNeg, h', decide_false]
    refine .inr ⟨by simp, ?_⟩
    simp only [D0, ains, clsOf, abin, aint, aun, dnext, rowsOf, loadObj, cellsOf, ofCells, bnd, hmerge, Nat.reduceBEq, Nat.reduceAdd, reduceIte, Nat.reduceEqDiff, Nat.reduceLeDiff, Int.reduceEq, reduceCtorEq, Int.reduceBEq, Int.reduceBNe, Int.reduceLT, Int.reduceNeg, lx, wm, hml, gl, hl2, Int.natCast_nonneg, Int.toNat_natCast]
    simp only [F1, bodyRes, one, ains, clsOf, abin, aint, aun, dnext, rowsOf, loadObj, cellsOf, ofCells, bnd, hmerge, Nat.reduceBEq, Nat.reduceAdd, reduceIte, Nat.reduceEqDiff, Nat.reduceLeDiff, Int.reduceEq, reduceCtorEq, Int.reduceBEq, Int.reduceBNe, Int.reduceLT, Int.reduceNeg, fn41_res, fn41_keep, fz, fzd, fzd.fzcells, resO, encO, Option.isSome_some]
noncomputable def k41 : Kon (List Nd) := ⟨fun x => SmS x ∧ x.length ≤ 1000000, fun x => [(AV.list 5 (List.map eNd x))], fun x => resO (cleanS x)⟩
theorem e41 (t : List Nd) (hd : SmS t ∧ t.length ≤ 1000000) (q0 : Id) (H0 : Heap) : k41.ora q0 ([(AV.list 5 (List.map eNd t))]) H0 = some (resO (cleanS t), H0) := k41.eq (treeInj) (t) hd q0 H0
theorem ook41 : OraOK Try.prog (41 % 100000) k41.ora := k41.ok orders s8_ok (fun x hd => by simp [k41, PU]) (fun x hd => by simp [k41, PU, pure_resO]) (fun x hd => run41 x hd.1 hd.2)

noncomputable def s9 : FT := upd (s8) 41 k41.ora
theorem s9_ok : FTOK Try.prog s9 := upd_ok2 (f := 41) (s8_ok) ook41

end Go.Proofs.Abs
