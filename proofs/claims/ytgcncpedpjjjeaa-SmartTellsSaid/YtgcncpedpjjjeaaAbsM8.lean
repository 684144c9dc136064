/- A part of a proof: the text that states the row tells what is proved. No condition is laid on anything. -/
import Derived.Test.YtgcncpedpjjjeaaAbsM7
set_option linter.all false
set_option linter.constructorNameAsVariable false
set_option linter.defProp false
set_option linter.unusedVariables false
set_option linter.unusedSimpArgs false
set_option maxRecDepth 100000
set_option maxHeartbeats 4000000
namespace Go.Proofs.Abs
open Go
/-! 39: smart.Alt. -/
theorem once_ok {x y : Tr} (hx : OkS x) (hy : OkS y) : ∀ t ∈ onceT (mems x ++ mems y), OkS t := fun t ht => by
  rcases List.mem_append.1 ((onceT_sub _).subset ht) with h | h
  · exact hx.mems t h
  · exact hy.mems t h
theorem altsO_step {c y : Tr} {r : List Tr} {j : Nat} (h : j < r.length) (hy : r.getD j default = y) : altsO c (r.drop j) = (joinO 4 c y).bind fun d => altsO d (r.drop (j + 1)) := by
  rw [List.drop_eq_getElem_cons h]
  have : r[j] = y := by rw [← hy, List.getD_eq_getElem?_getD, List.getElem?_eq_getElem h]; rfl
  rw [this]; rfl
theorem run39 (a b : List Nd) (sa : SmS a) (sb : SmS b) (la : a.length ≤ 1000000) (lb : b.length ≤ 1000000) : cwp s5 39 [] [(AV.list 5 (List.map eNd a)), (AV.list 5 (List.map eNd b))] [] (fun r H => r = resO (altT a b) ∧ H = []) := by
  refine run_fn (fn := fn39) rfl rfl ?_
  have wa := sa.wf
  have wb := sb.wf
  by_cases g1 : goodT a = true
  case neg =>
    have g1' : goodT a = false := by simpa using g1
    have hr : altT a b = none := altT_no (.inl g1')
    simp only [fn39_body, c39, D0, ains, clsOf, abin, aint, aun, dnext, rowsOf, loadObj, cellsOf, ofCells, bnd, hmerge, Nat.reduceBEq, Nat.reduceAdd, reduceIte, Nat.reduceEqDiff, Nat.reduceLeDiff, Int.reduceEq, reduceCtorEq, Int.reduceBEq, Int.reduceBNe, Int.reduceLT, Int.reduceNeg, @use_all s5 29 k29.ora rfl, e29, wa, g1']
    simp only [F1, bodyRes, one, ains, clsOf, abin, aint, aun, dnext, rowsOf, loadObj, cellsOf, ofCells, bnd, hmerge, Nat.reduceBEq, Nat.reduceAdd, reduceIte, Nat.reduceEqDiff, Nat.reduceLeDiff, Int.reduceEq, reduceCtorEq, Int.reduceBEq, Int.reduceBNe, Int.reduceLT, Int.reduceNeg, fn39_res, fn39_keep, fz, fzd, fzd.fzcells, hr, resO, encO, Option.isSome_none]
  by_cases g2 : goodT b = true
  case neg =>
    have g2' : goodT b = false := by simpa using g2
    have hr : altT a b = none := altT_no (.inr g2')
    simp only [fn39_body, c39, D0, ains, clsOf, abin, aint, aun, dnext, rowsOf, loadObj, cellsOf, ofCells, bnd, hmerge, Nat.reduceBEq, Nat.reduceAdd, reduceIte, Nat.reduceEqDiff, Nat.reduceLeDiff, Int.reduceEq, reduceCtorEq, Int.reduceBEq, Int.reduceBNe, Int.reduceLT, Int.reduceNeg, @use_all s5 29 k29.ora rfl, e29, wa, wb, g1, g2']
    simp only [F1, bodyRes, one, ains, clsOf, abin, aint, aun, dnext, rowsOf, loadObj, cellsOf, ofCells, bnd, hmerge, Nat.reduceBEq, Nat.reduceAdd, reduceIte, Nat.reduceEqDiff, Nat.reduceLeDiff, Int.reduceEq, reduceCtorEq, Int.reduceBEq, Int.reduceBNe, Int.reduceLT, Int.reduceNeg, fn39_res, fn39_keep, fz, fzd, fzd.fzcells, hr, resO, encO, Option.isSome_none]
  obtain ⟨x, hx, rfl⟩ := okS_of ⟨sa, g1⟩
  obtain ⟨y, hy, rfl⟩ := okS_of ⟨sb, g2⟩
  rw [altT_enc hx hy]
  have nx := hx.ne
  have ny := hy.ne
  have lx := hx.len
  have ly := hy.len
  have kx := lastN_enc x
  have ky := lastN_enc y
  by_cases n1 : rk x = 0
  case pos =>
    have hr : altO x y = some y := by simp [altO, n1]
    simp only [fn39_body, c39, D0, ains, clsOf, abin, aint, aun, dnext, rowsOf, loadObj, cellsOf, ofCells, bnd, hmerge, Nat.reduceBEq, Nat.reduceAdd, reduceIte, Nat.reduceEqDiff, Nat.reduceLeDiff, Int.reduceEq, reduceCtorEq, Int.reduceBEq, Int.reduceBNe, Int.reduceLT, Int.reduceNeg, @use_all s5 29 k29.ora rfl, e29, @use_all s5 76 k76.ora rfl, e76, @use_all s5 77 k77.ora rfl, e77, wa, wb, g1, g2, nx, ny, kx, ky, n1, ly]
    simp only [F1, bodyRes, one, ains, clsOf, abin, aint, aun, dnext, rowsOf, loadObj, cellsOf, ofCells, bnd, hmerge, Nat.reduceBEq, Nat.reduceAdd, reduceIte, Nat.reduceEqDiff, Nat.reduceLeDiff, Int.reduceEq, reduceCtorEq, Int.reduceBEq, Int.reduceBNe, Int.reduceLT, Int.reduceNeg, fn39_res, fn39_keep, fz, fzd, fzd.fzcells, hr, resO, encO, Option.isSome_some]
  by_cases n2 : rk y = 0
  case pos =>
    have hr : altO x y = some x := by simp [altO, n1, n2]
    simp only [fn39_body, c39, D0, ains, clsOf, abin, aint, aun, dnext, rowsOf, loadObj, cellsOf, ofCells, bnd, hmerge, Nat.reduceBEq, Nat.reduceAdd, reduceIte, Nat.reduceEqDiff, Nat.reduceLeDiff, Int.reduceEq, reduceCtorEq, Int.reduceBEq, Int.reduceBNe, Int.reduceLT, Int.reduceNeg, @use_all s5 29 k29.ora rfl, e29, @use_all s5 76 k76.ora rfl, e76, @use_all s5 77 k77.ora rfl, e77, wa, wb, g1, g2, nx, ny, kx, ky, n1, n2, lx]
    simp only [F1, bodyRes, one, ains, clsOf, abin, aint, aun, dnext, rowsOf, loadObj, cellsOf, ofCells, bnd, hmerge, Nat.reduceBEq, Nat.reduceAdd, reduceIte, Nat.reduceEqDiff, Nat.reduceLeDiff, Int.reduceEq, reduceCtorEq, Int.reduceBEq, Int.reduceBNe, Int.reduceLT, Int.reduceNeg, fn39_res, fn39_keep, fz, fzd, fzd.fzcells, hr, resO, encO, Option.isSome_some]
  have hr : altO x y = altLO (onceT (mems x ++ mems y)) := by simp [altO, n1, n2]
  have hok := once_ok hx hy
  have hne := onceT_ne (l := mems x ++ mems y) (by simp [mems_ne])
  have dx : SmS (enc x) ∧ goodT (enc x) = true := ⟨sa, g1⟩
  have dy : SmS (enc y) ∧ goodT (enc y) = true := ⟨sb, g2⟩
  have ex := hx.dec
  have ey := hy.dec
  have m1 := mems_len x
  have m2 := mems_len y
  have z1 := hx.2
  have z2 := hy.2
  have hc : ((mems x).length + (mems y).length) * 24 ≤ 140737488355328 := by omega
  have dl : (∀ t ∈ mems x ++ mems y, OkS t) ∧ (mems x ++ mems y).length ≤ 100000 := ⟨fun t ht => by
    rcases List.mem_append.1 ht with h | h
    · exact hx.mems t h
    · exact hy.mems t h, by simp only [List.length_append]; omega⟩
  have hlen : (onceT (mems x ++ mems y)).length ≤ 80000 := by
    have := (onceT_sub (mems x ++ mems y)).length_le
    simp only [List.length_append] at this
    omega
  rw [hr]
  have e78' := e78 (mems x ++ mems y) dl
  clear hr dl
  generalize onceT (mems x ++ mems y) = L at hok hne hlen e78'
  cases L with
  | nil => exact absurd rfl hne
  | cons x0 r =>
    have h0 := hok x0 (by simp)
    have hrr : ∀ t ∈ r, OkS t := fun t ht => hok t (by simp [ht])
    have hz : (0 : Int) ≤ 1 := by decide
    have htk : List.take r.length (List.map eTr1 r) = List.map eTr1 r := List.take_of_length_le (by simp)
    have hl : r.length ≤ 80000 := by simp at hlen; omega
    simp only [fn39_body, c39, D0, ains, clsOf, abin, aint, aun, dnext, rowsOf, loadObj, cellsOf, ofCells, bnd, hmerge, Nat.reduceBEq, Nat.reduceAdd, reduceIte, Nat.reduceEqDiff, Nat.reduceLeDiff, Int.reduceEq, reduceCtorEq, Int.reduceBEq, Int.reduceBNe, Int.reduceLT, Int.reduceNeg, @use_all s5 29 k29.ora rfl, e29, @use_all s5 76 k76.ora rfl, e76, @use_all s5 79 k79.ora rfl, e79, @use_all s5 78 k78.ora rfl, e78', wa, wb, g1, g2, nx, ny, kx, ky, n1, n2, dx, dy, ex, ey, hc, fz, fzd, eTr1_app, eTr1, Int.le_refl, Int.reduceToNat, hz, htk, Nat.le_add_left, Nat.le_refl, List.length_append]
    refine lg_rule (fun j e H => ∃ c, e = [(0, (AV.list 5 (List.map eNd (enc x)))), (1, (AV.list 5 (List.map eNd (enc y)))), (4, .own [0] 0), (5, .bool false), (6, .list 1 ([(AV.list 5 (List.map eNd (enc x0)))] :: List.map eTr1 r)), (7, (AV.list 5 (List.map eNd (enc c)))), (8, .bool true), (40, (AV.list 1 (List.map eTr1 r))), (41, .int .i64 r.length), (42, .int .i64 j)] ∧ (∃ o1 o2 o3, H = [[([20, 0], o1), ([18, 0], o2), ([0], o3)]]) ∧ j ≤ r.length ∧ OkS c ∧ altsO x0 r = altsO c (r.drop j)) r.length ?_ ?_
    · exact ⟨x0, rfl, ⟨_, _, _, rfl⟩, by simp, h0, rfl⟩
    rintro j e H ⟨c, rfl, ⟨o1, o2, o3, rfl⟩, hj, hcc, hO⟩
    simp only [D0, ains, clsOf, abin, aint, aun, dnext, rowsOf, loadObj, cellsOf, ofCells, bnd, hmerge, Nat.reduceBEq, Nat.reduceAdd, reduceIte, Nat.reduceEqDiff, Nat.reduceLeDiff, Int.reduceEq, reduceCtorEq, Int.reduceBEq, Int.reduceBNe, Int.reduceLT, Int.reduceNeg]
    by_cases h : j < r.length
    · have h' : (j : Int) < (r.length : Int) := by omega
      have hp := wrapp (j := j) (by omega)
      have hg := map_get (f := eTr1) h default
      have hy := hrr _ (getD_memT h)
      have hst := altsO_step (c := c) h rfl
      generalize r.getD j default = y' at hg hy hst
      simp only [eTr1] at hg
      obtain ⟨j1, j2⟩ := encO_join (k := 4) (.inr rfl) hcc hy
      have hd : (SmS (enc c) ∧ SmS (enc y')) ∧ (enc c).length ≤ 1000000 ∧ (enc y').length ≤ 1000000 := ⟨⟨hcc.sm, hy.sm⟩, by have := hcc.len; omega, by have := hy.len; omega⟩
      cases ej : joinO 4 c y' with
      | none =>
        have hn : altLO (x0 :: r) = none := by rw [altLO, hO, hst, ej]; rfl
        simp only [D0, ains, clsOf, abin, aint, aun, dnext, rowsOf, loadObj, cellsOf, ofCells, bnd, hmerge, Nat.reduceBEq, Nat.reduceAdd, reduceIte, Nat.reduceEqDiff, Nat.reduceLeDiff, Int.reduceEq, reduceCtorEq, Int.reduceBEq, Int.reduceBNe, Int.reduceLT, Int.reduceNeg, @use_all s5 20 k20.ora rfl, e20, h', hg, hd, j1, j2, ej, encO, Option.isSome_none, Int.natCast_nonneg, Int.toNat_natCast]
        simp only [F1, bodyRes, one, ains, clsOf, abin, aint, aun, dnext, rowsOf, loadObj, cellsOf, ofCells, bnd, hmerge, Nat.reduceBEq, Nat.reduceAdd, reduceIte, Nat.reduceEqDiff, Nat.reduceLeDiff, Int.reduceEq, reduceCtorEq, Int.reduceBEq, Int.reduceBNe, Int.reduceLT, Int.reduceNeg, fn39_res, fn39_keep, fz, fzd, fzd.fzcells, hn, resO, encO, Option.isSome_none]
      | some d =>
        have hdo := ok_joinO hcc hy ej
        rw [ej] at hst
        simp only [D0, ains, clsOf, abin, aint, aun, dnext, rowsOf, loadObj, cellsOf, ofCells, bnd, hmerge, Nat.reduceBEq, Nat.reduceAdd, reduceIte, Nat.reduceEqDiff, Nat.reduceLeDiff, Int.reduceEq, reduceCtorEq, Int.reduceBEq, Int.reduceBNe, Int.reduceLT, Int.reduceNeg, @use_all s5 20 k20.ora rfl, e20, h', hg, hd, j1, j2, ej, encO, Option.isSome_some, hp, Int.natCast_nonneg, Int.toNat_natCast]
        simp only [F1, bodyRes, one, ains, clsOf, abin, aint, aun, dnext, rowsOf, loadObj, cellsOf, ofCells, bnd, hmerge, Nat.reduceBEq, Nat.reduceAdd, reduceIte, Nat.reduceEqDiff, Nat.reduceLeDiff, Int.reduceEq, reduceCtorEq, Int.reduceBEq, Int.reduceBNe, Int.reduceLT, Int.reduceNeg]
        exact ⟨h, d, rfl, ⟨_, _, _, rfl, rfl, rfl⟩, by omega, hdo, by rw [hO, hst]; rfl⟩
    · have h' : ¬ (j : Int) < (r.length : Int) := by omega
      have hj2 : j = r.length := by omega
      subst hj2
      rw [List.drop_length] at hO
      have hn : altLO (x0 :: r) = some c := hO
      simp only [D0, ains, clsOf, abin, aint, aun, dnext, rowsOf, loadObj, cellsOf, ofCells, bnd, hmerge, Nat.reduceBEq, Nat.reduceAdd, reduceIte, Nat.reduceEqDiff, Nat.reduceLeDiff, Int.reduceEq, reduceCtorEq, Int.reduceBEq, Int.reduceBNe, Int.reduceLT, Int.reduceNeg, h', decide_false]
      refine .inr ⟨by simp, ?_⟩
      simp only [F1, bodyRes, one, ains, clsOf, abin, aint, aun, dnext, rowsOf, loadObj, cellsOf, ofCells, bnd, hmerge, Nat.reduceBEq, Nat.reduceAdd, reduceIte, Nat.reduceEqDiff, Nat.reduceLeDiff, Int.reduceEq, reduceCtorEq, Int.reduceBEq, Int.reduceBNe, Int.reduceLT, Int.reduceNeg, fn39_res, fn39_keep, fz, fzd, fzd.fzcells, hn, resO, encO, Option.isSome_some]
noncomputable def k39 : Kon (List Nd × List Nd) := ⟨fun x => (SmS x.1 ∧ SmS x.2) ∧ x.1.length ≤ 1000000 ∧ x.2.length ≤ 1000000, fun x => [(AV.list 5 (List.map eNd x.1)), (AV.list 5 (List.map eNd x.2))], fun x => resO (altT x.1 x.2)⟩
theorem e39 (a : List Nd) (b : List Nd) (hd : (SmS a ∧ SmS b) ∧ a.length ≤ 1000000 ∧ b.length ≤ 1000000) (q0 : Id) (H0 : Heap) : k39.ora q0 ([(AV.list 5 (List.map eNd a)), (AV.list 5 (List.map eNd b))]) H0 = some (resO (altT a b), H0) := k39.eq (tree2Inj) (a, b) hd q0 H0
theorem ook39 : OraOK Try.prog (39 % 100000) k39.ora := k39.ok orders s5_ok (fun x hd => by simp [k39, PU]) (fun x hd => by simp [k39, PU, pure_resO]) (fun x hd => run39 x.1 x.2 hd.1.1 hd.1.2 hd.2.1 hd.2.2)

noncomputable def s6 : FT := upd (s5) 39 k39.ora
theorem s6_ok : FTOK Try.prog s6 := upd_ok2 (f := 39) (s5_ok) ook39

end Go.Proofs.Abs
