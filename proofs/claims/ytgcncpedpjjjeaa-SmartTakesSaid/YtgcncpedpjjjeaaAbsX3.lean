/- A part of a proof: the text that states the row tells what is proved. No condition is laid on anything. -/
import Derived.Test.YtgcncpedpjjjeaaAbsX2
set_option linter.all false
set_option linter.constructorNameAsVariable false
set_option linter.defProp false
set_option linter.unusedVariables false
set_option linter.unusedSimpArgs false
set_option maxRecDepth 100000
set_option maxHeartbeats 4000000
namespace Go.Proofs.Abs
open Go
/-! 78: smart.once. -/
theorem take_snocT {l : List Tr} {j : Nat} (h : j < l.length) : l.take (j + 1) = l.take j ++ [l.getD j default] := by
  rw [List.take_succ, List.getD_eq_getElem?_getD, List.getElem?_eq_getElem h]; rfl
theorem dedup_snoc (l : List Tr) (x : Tr) : dedup (l ++ [x]) = if x ∈ dedup l then dedup l else dedup l ++ [x] := by
  have e : dedup (l ++ [x]) = (fun out t => if t ∈ out then out else out ++ [t]) (dedup l) x := by unfold dedup; rw [List.foldl_append]; rfl
  rw [e]
theorem dedup_len (l : List Tr) : (dedup l).length ≤ l.length := (dedup_sub l).length_le
theorem any_eq (l : List Tr) (x : Tr) : l.any (fun t => decide (t = x)) = decide (x ∈ l) := by
  rw [Bool.eq_iff_iff, List.any_eq_true, decide_eq_true_eq]
  constructor
  · rintro ⟨t, ht, h⟩
    rw [decide_eq_true_eq] at h
    rw [← h]; exact ht
  · intro h; exact ⟨x, h, by simp⟩
theorem run78 (l : List Tr) (ho : ∀ x ∈ l, OkS x) (hl : l.length ≤ 100000) : cwp s4 78 [] [(AV.list 1 (List.map eTr1 l))] [] (fun r H => r = (AV.list 1 (List.map eTr1 (onceT l))) ∧ H = []) := by
  refine run_fn (fn := fn78) rfl rfl ?_
  simp only [fn78_body, c78, D0, ains, clsOf, abin, aint, aun, dnext, rowsOf, loadObj, cellsOf, ofCells, bnd, hmerge, Nat.reduceBEq, Nat.reduceAdd, reduceIte, Nat.reduceEqDiff, Nat.reduceLeDiff, Int.reduceEq, reduceCtorEq, Int.reduceBEq, Int.reduceBNe, Int.reduceLT, Int.reduceNeg]
  refine lg_rule (fun j e H => e = [(0, (AV.list 1 (List.map eTr1 l))), (2, .own [0] 0), (3, .own [1] (dedup (l.take j)).length), (6, (AV.list 1 (List.map eTr1 l))), (7, .int .i64 l.length), (8, .int .i64 j)] ∧ H = [[([1], .row true true 23 1 (List.map eTr1 (dedup (l.take j)))), ([0], .row true true 23 1 [])]] ∧ j ≤ l.length) l.length ?_ ?_
  · exact ⟨rfl, rfl, by simp⟩
  rintro j e H ⟨rfl, rfl, hj⟩
  simp only [D0, ains, clsOf, abin, aint, aun, dnext, rowsOf, loadObj, cellsOf, ofCells, bnd, hmerge, Nat.reduceBEq, Nat.reduceAdd, reduceIte, Nat.reduceEqDiff, Nat.reduceLeDiff, Int.reduceEq, reduceCtorEq, Int.reduceBEq, Int.reduceBNe, Int.reduceLT, Int.reduceNeg]
  by_cases h : j < l.length
  · have h' : (j : Int) < (l.length : Int) := by omega
    have hp := wrapp (j := j) (by omega)
    have hg := map_get (f := eTr1) h default
    have hok := ho _ (getD_memT h)
    have hsn := dedup_snoc (l.take j) (l.getD j default)
    rw [← take_snocT h] at hsn
    have hs : ∀ t ∈ dedup (l.take j), OkS t := fun t ht => ho t (List.mem_of_mem_take ((dedup_sub _).subset ht))
    have hlen : (dedup (l.take j)).length ≤ 100000 := by have := dedup_len (l.take j); simp at this; omega
    generalize l.getD j default = x at hg hok hsn
    generalize dedup (l.take j) = D at hsn hs hlen
    simp only [eTr1] at hg
    simp only [D0, ains, clsOf, abin, aint, aun, dnext, rowsOf, loadObj, cellsOf, ofCells, bnd, hmerge, Nat.reduceBEq, Nat.reduceAdd, reduceIte, Nat.reduceEqDiff, Nat.reduceLeDiff, Int.reduceEq, reduceCtorEq, Int.reduceBEq, Int.reduceBNe, Int.reduceLT, Int.reduceNeg, h', hg, Int.natCast_nonneg, Int.toNat_natCast]
    refine cg_use (run107 (p := fun t => decide (t = x)) (c := 108) (ts := D) (wr := true) (fl := true) (el := 23) rfl rfl rfl (by omega) (by decide) (fun t ht q => run108 rfl rfl (hs t ht) hok (by simp [hget, fget]) q) _) ?_
    rintro v H2 ⟨rfl, rfl⟩
    rw [any_eq]
    by_cases hm : x ∈ D
    · rw [if_pos hm] at hsn
      simp only [D0, ains, clsOf, abin, aint, aun, dnext, rowsOf, loadObj, cellsOf, ofCells, bnd, hmerge, Nat.reduceBEq, Nat.reduceAdd, reduceIte, Nat.reduceEqDiff, Nat.reduceLeDiff, Int.reduceEq, reduceCtorEq, Int.reduceBEq, Int.reduceBNe, Int.reduceLT, Int.reduceNeg, hm, hp]
      simp only [F1, bodyRes, one, ains, clsOf, abin, aint, aun, dnext, rowsOf, loadObj, cellsOf, ofCells, bnd, hmerge, Nat.reduceBEq, Nat.reduceAdd, reduceIte, Nat.reduceEqDiff, Nat.reduceLeDiff, Int.reduceEq, reduceCtorEq, Int.reduceBEq, Int.reduceBNe, Int.reduceLT, Int.reduceNeg, hsn]
      exact ⟨h, by omega⟩
    · rw [if_neg hm] at hsn
      have hc : (D.length + 1) * 24 ≤ 140737488355328 := by omega
      have he : List.map eTr1 D ++ [[AV.list 5 (List.map eNd (enc x))]] = List.map eTr1 (D ++ [x]) := by simp [eTr1]
      simp only [D0, ains, clsOf, abin, aint, aun, dnext, rowsOf, loadObj, cellsOf, ofCells, bnd, hmerge, Nat.reduceBEq, Nat.reduceAdd, reduceIte, Nat.reduceEqDiff, Nat.reduceLeDiff, Int.reduceEq, reduceCtorEq, Int.reduceBEq, Int.reduceBNe, Int.reduceLT, Int.reduceNeg, hm, hp, hc, fz, fzd, he]
      simp only [F1, bodyRes, one, ains, clsOf, abin, aint, aun, dnext, rowsOf, loadObj, cellsOf, ofCells, bnd, hmerge, Nat.reduceBEq, Nat.reduceAdd, reduceIte, Nat.reduceEqDiff, Nat.reduceLeDiff, Int.reduceEq, reduceCtorEq, Int.reduceBEq, Int.reduceBNe, Int.reduceLT, Int.reduceNeg, hsn, List.length_append]
      exact ⟨h, by omega⟩
  · have h' : ¬ (j : Int) < (l.length : Int) := by omega
    have hj2 : j = l.length := by omega
    subst hj2
    simp only [D0, ains, clsOf, abin, aint, aun, dnext, rowsOf, loadObj, cellsOf, ofCells, bnd, hmerge, Nat.reduceBEq, Nat.reduceAdd, reduceIte, Nat.reduceEqDiff, Nat.reduceLeDiff, Int.reduceEq, reduceCtorEq, Int.reduceBEq, Int.reduceBNe, Int.reduceLT, Int.reduceNeg, h', decide_false, List.take_length]
    refine .inr ⟨by simp, ?_⟩
    have hs : ∀ t ∈ dedup l, OkS t := fun t ht => ho t ((dedup_sub _).subset ht)
    have hlen : (dedup l).length ≤ 100000 := by have := dedup_len l; omega
    have ho : onceT l = if (dedup l).any (fun t => decide (rk t = 5)) then noK 1 (dedup l) else dedup l := rfl
    generalize dedup l = D at hs hlen ho
    refine cg_use (run107 (p := fun t => decide (rk t = 5)) (c := 110) (ts := D) (wr := true) (fl := true) (el := 23) rfl rfl rfl (by omega) (by decide) (fun t ht q => run110 rfl rfl (hs t ht) _ q) _) ?_
    rintro v H2 ⟨rfl, rfl⟩
    by_cases ha : D.any (fun t => decide (rk t = 5)) = true
    · rw [if_pos ha] at ho
      simp only [D0, ains, clsOf, abin, aint, aun, dnext, rowsOf, loadObj, cellsOf, ofCells, bnd, hmerge, Nat.reduceBEq, Nat.reduceAdd, reduceIte, Nat.reduceEqDiff, Nat.reduceLeDiff, Int.reduceEq, reduceCtorEq, Int.reduceBEq, Int.reduceBNe, Int.reduceLT, Int.reduceNeg, ha]
      refine cg_use (run111 (ts := D) (id := [1]) rfl rfl rfl rfl rfl rfl (by omega) hs 1 ?_) ?_
      · intro l e; simp at e
      rintro v H2 ⟨rfl, o, rfl⟩
      simp only [D0, ains, clsOf, abin, aint, aun, dnext, rowsOf, loadObj, cellsOf, ofCells, bnd, hmerge, Nat.reduceBEq, Nat.reduceAdd, reduceIte, Nat.reduceEqDiff, Nat.reduceLeDiff, Int.reduceEq, reduceCtorEq, Int.reduceBEq, Int.reduceBNe, Int.reduceLT, Int.reduceNeg]
      simp only [F1, bodyRes, one, ains, clsOf, abin, aint, aun, dnext, rowsOf, loadObj, cellsOf, ofCells, bnd, hmerge, Nat.reduceBEq, Nat.reduceAdd, reduceIte, Nat.reduceEqDiff, Nat.reduceLeDiff, Int.reduceEq, reduceCtorEq, Int.reduceBEq, Int.reduceBNe, Int.reduceLT, Int.reduceNeg, fn78_res, fn78_keep, ho]
    · have ha' : D.any (fun t => decide (rk t = 5)) = false := by simpa using ha
      rw [if_neg ha] at ho
      simp only [D0, ains, clsOf, abin, aint, aun, dnext, rowsOf, loadObj, cellsOf, ofCells, bnd, hmerge, Nat.reduceBEq, Nat.reduceAdd, reduceIte, Nat.reduceEqDiff, Nat.reduceLeDiff, Int.reduceEq, reduceCtorEq, Int.reduceBEq, Int.reduceBNe, Int.reduceLT, Int.reduceNeg, ha']
      simp only [F1, bodyRes, one, ains, clsOf, abin, aint, aun, dnext, rowsOf, loadObj, cellsOf, ofCells, bnd, hmerge, Nat.reduceBEq, Nat.reduceAdd, reduceIte, Nat.reduceEqDiff, Nat.reduceLeDiff, Int.reduceEq, reduceCtorEq, Int.reduceBEq, Int.reduceBNe, Int.reduceLT, Int.reduceNeg, fn78_res, fn78_keep, ho, fz, fzd, List.length_map]
noncomputable def k78 : Kon (List Tr) := ⟨fun x => (∀ t ∈ x, OkS t) ∧ x.length ≤ 100000, fun x => [(AV.list 1 (List.map eTr1 x))], fun x => (AV.list 1 (List.map eTr1 (onceT x)))⟩
theorem e78 (l : List Tr) (hd : (∀ t ∈ l, OkS t) ∧ l.length ≤ 100000) (q0 : Id) (H0 : Heap) : k78.ora q0 ([(AV.list 1 (List.map eTr1 l))]) H0 = some ((AV.list 1 (List.map eTr1 (onceT l))), H0) := k78.eqD (by dsimp only [k78]; intro l m hl hm h; simp only [List.cons.injEq, AV.list.injEq, and_true, true_and] at h; exact eTr1_inj hl.1 hm.1 h) (l) hd q0 H0
theorem ook78 : OraOK Try.prog (78 % 100000) k78.ora := k78.ok orders s4_ok (fun x hd => by simp [k78, PU, pure_eTr1]) (fun x hd => by simp [k78, PU, pure_eTr1]) (fun x hd => run78 x hd.1 hd.2)

noncomputable def s5 : FT := upd (s4) 78 k78.ora
theorem s5_ok : FTOK Try.prog s5 := upd_ok2 (f := 78) (s4_ok) ook78

end Go.Proofs.Abs

set_option linter.all false
set_option linter.constructorNameAsVariable false
set_option linter.defProp false
set_option linter.unusedVariables false
set_option linter.unusedSimpArgs false
set_option maxRecDepth 100000
set_option maxHeartbeats 4000000
namespace Go.Proofs.Abs
open Go
/-! 39: smart.Alt. -/
theorem once_ok {x y : Tr} (hx : OkS x) (hy : OkS y) : ∀ t ∈ onceT (mems x ++ mems y), OkS t := fun t ht => by
  rcases List.mem_append.1 ((onceT_sub _).subset ht) with h | h
  · exact hx.mems t h
  · exact hy.mems t h
theorem altsO_step {c y : Tr} {r : List Tr} {j : Nat} (h : j < r.length) (hy : r.getD j default = y) : altsO c (r.drop j) = (joinO 4 c y).bind fun d => altsO d (r.drop (j + 1)) := by
  rw [List.drop_eq_getElem_cons h]
  have : r[j] = y := by rw [← hy, List.getD_eq_getElem?_getD, List.getElem?_eq_getElem h]; rfl
  rw [this]; rfl
theorem run39 (a b : List Nd) (sa : SmS a) (sb : SmS b) (la : a.length ≤ 1000000) (lb : b.length ≤ 1000000) : cwp s5 39 [] [(AV.list 5 (List.map eNd a)), (AV.list 5 (List.map eNd b))] [] (fun r H => r = resO (altT a b) ∧ H = []) := by
  refine run_fn (fn := fn39) rfl rfl ?_
  have wa := sa.wf
  have wb := sb.wf
  by_cases g1 : goodT a = true
  case neg =>
    have g1' : goodT a = false := by simpa using g1
    have hr : altT a b = none := altT_no (.inl g1')
    simp only [fn39_body, c39, D0, ains, clsOf, abin, aint, aun, dnext, rowsOf, loadObj, cellsOf, ofCells, bnd, hmerge, Nat.reduceBEq, Nat.reduceAdd, reduceIte, Nat.reduceEqDiff, Nat.reduceLeDiff, Int.reduceEq, reduceCtorEq, Int.reduceBEq, Int.reduceBNe, Int.reduceLT, Int.reduceNeg, @use_all s5 29 k29.ora rfl, e29, wa, g1']
    simp only [F1, bodyRes, one, ains, clsOf, abin, aint, aun, dnext, rowsOf, loadObj, cellsOf, ofCells, bnd, hmerge, Nat.reduceBEq, Nat.reduceAdd, reduceIte, Nat.reduceEqDiff, Nat.reduceLeDiff, Int.reduceEq, reduceCtorEq, Int.reduceBEq, Int.reduceBNe, Int.reduceLT, Int.reduceNeg, fn39_res, fn39_keep, fz, fzd, fzd.fzcells, hr, resO, encO, Option.isSome_none]
  by_cases g2 : goodT b = true
  case neg =>
    have g2' : goodT b = false := by simpa using g2
    have hr : altT a b = none := altT_no (.inr g2')
    simp only [fn39_body, c39, D0, ains, clsOf, abin, aint, aun, dnext, rowsOf, loadObj, cellsOf, ofCells, bnd, hmerge, Nat.reduceBEq, Nat.reduceAdd, reduceIte, Nat.reduceEqDiff, Nat.reduceLeDiff, Int.reduceEq, reduceCtorEq, Int.reduceBEq, Int.reduceBNe, Int.reduceLT, Int.reduceNeg, @use_all s5 29 k29.ora rfl, e29, wa, wb, g1, g2']
    simp only [F1, bodyRes, one, ains, clsOf, abin, aint, aun, dnext, rowsOf, loadObj, cellsOf, ofCells, bnd, hmerge, Nat.reduceBEq, Nat.reduceAdd, reduceIte, Nat.reduceEqDiff, Nat.reduceLeDiff, Int.reduceEq, reduceCtorEq, Int.reduceBEq, Int.reduceBNe, Int.reduceLT, Int.reduceNeg, fn39_res, fn39_keep, fz, fzd, fzd.fzcells, hr, resO, encO, Option.isSome_none]
  obtain ⟨x, hx, rfl⟩ := okS_of ⟨sa, g1⟩
  obtain ⟨y, hy, rfl⟩ := okS_of ⟨sb, g2⟩
  rw [altT_enc hx hy]
  have nx := hx.ne
  have ny := hy.ne
  have lx := hx.len
  have ly := hy.len
  have kx := lastN_enc x
  have ky := lastN_enc y
  by_cases n1 : rk x = 0
  case pos =>
    have hr : altO x y = some y := by simp [altO, n1]
    simp only [fn39_body, c39, D0, ains, clsOf, abin, aint, aun, dnext, rowsOf, loadObj, cellsOf, ofCells, bnd, hmerge, Nat.reduceBEq, Nat.reduceAdd, reduceIte, Nat.reduceEqDiff, Nat.reduceLeDiff, Int.reduceEq, reduceCtorEq, Int.reduceBEq, Int.reduceBNe, Int.reduceLT, Int.reduceNeg, @use_all s5 29 k29.ora rfl, e29, @use_all s5 76 k76.ora rfl, e76, @use_all s5 77 k77.ora rfl, e77, wa, wb, g1, g2, nx, ny, kx, ky, n1, ly]
    simp only [F1, bodyRes, one, ains, clsOf, abin, aint, aun, dnext, rowsOf, loadObj, cellsOf, ofCells, bnd, hmerge, Nat.reduceBEq, Nat.reduceAdd, reduceIte, Nat.reduceEqDiff, Nat.reduceLeDiff, Int.reduceEq, reduceCtorEq, Int.reduceBEq, Int.reduceBNe, Int.reduceLT, Int.reduceNeg, fn39_res, fn39_keep, fz, fzd, fzd.fzcells, hr, resO, encO, Option.isSome_some]
  by_cases n2 : rk y = 0
  case pos =>
    have hr : altO x y = some x := by simp [altO, n1, n2]
    simp only [fn39_body, c39, D0, ains, clsOf, abin, aint, aun, dnext, rowsOf, loadObj, cellsOf, ofCells, bnd, hmerge, Nat.reduceBEq, Nat.reduceAdd, reduceIte, Nat.reduceEqDiff, Nat.reduceLeDiff, Int.reduceEq, reduceCtorEq, Int.reduceBEq, Int.reduceBNe, Int.reduceLT, Int.reduceNeg, @use_all s5 29 k29.ora rfl, e29, @use_all s5 76 k76.ora rfl, e76, @use_all s5 77 k77.ora rfl, e77, wa, wb, g1, g2, nx, ny, kx, ky, n1, n2, lx]
    simp only [F1, bodyRes, one, ains, clsOf, abin, aint, aun, dnext, rowsOf, loadObj, cellsOf, ofCells, bnd, hmerge, Nat.reduceBEq, Nat.reduceAdd, reduceIte, Nat.reduceEqDiff, Nat.reduceLeDiff, Int.reduceEq, reduceCtorEq, Int.reduceBEq, Int.reduceBNe, Int.reduceLT, Int.reduceNeg, fn39_res, fn39_keep, fz, fzd, fzd.fzcells, hr, resO, encO, Option.isSome_some]
  have hr : altO x y = altLO (onceT (mems x ++ mems y)) := by simp [altO, n1, n2]
  have hok := once_ok hx hy
  have hne := onceT_ne (l := mems x ++ mems y) (by simp [mems_ne])
  have dx : SmS (enc x) ∧ goodT (enc x) = true := ⟨sa, g1⟩
  have dy : SmS (enc y) ∧ goodT (enc y) = true := ⟨sb, g2⟩
  have ex := hx.dec
  have ey := hy.dec
  have m1 := mems_len x
  have m2 := mems_len y
  have z1 := hx.2
  have z2 := hy.2
  have hc : ((mems x).length + (mems y).length) * 24 ≤ 140737488355328 := by omega
  have dl : (∀ t ∈ mems x ++ mems y, OkS t) ∧ (mems x ++ mems y).length ≤ 100000 := ⟨fun t ht => by
    rcases List.mem_append.1 ht with h | h
    · exact hx.mems t h
    · exact hy.mems t h, by simp only [List.length_append]; omega⟩
  have hlen : (onceT (mems x ++ mems y)).length ≤ 80000 := by
    have := (onceT_sub (mems x ++ mems y)).length_le
    simp only [List.length_append] at this
    omega
  rw [hr]
  have e78' := e78 (mems x ++ mems y) dl
  clear hr dl
  generalize onceT (mems x ++ mems y) = L at hok hne hlen e78'
  cases L with
  | nil => exact absurd rfl hne
  | cons x0 r =>
    have h0 := hok x0 (by simp)
    have hrr : ∀ t ∈ r, OkS t := fun t ht => hok t (by simp [ht])
    have hz : (0 : Int) ≤ 1 := by decide
    have htk : List.take r.length (List.map eTr1 r) = List.map eTr1 r := List.take_of_length_le (by simp)
    have hl : r.length ≤ 80000 := by simp at hlen; omega
    simp only [fn39_body, c39, D0, ains, clsOf, abin, aint, aun, dnext, rowsOf, loadObj, cellsOf, ofCells, bnd, hmerge, Nat.reduceBEq, Nat.reduceAdd, reduceIte, Nat.reduceEqDiff, Nat.reduceLeDiff, Int.reduceEq, reduceCtorEq, Int.reduceBEq, Int.reduceBNe, Int.reduceLT, Int.reduceNeg, @use_all s5 29 k29.ora rfl, e29, @use_all s5 76 k76.ora rfl, e76, @use_all s5 79 k79.ora rfl, e79, @use_all s5 78 k78.ora rfl, e78', wa, wb, g1, g2, nx, ny, kx, ky, n1, n2, dx, dy, ex, ey, hc, fz, fzd, eTr1_app, eTr1, Int.le_refl, Int.reduceToNat, hz, htk, Nat.le_add_left, Nat.le_refl, List.length_append]
    refine lg_rule (fun j e H => ∃ c, e = [(0, (AV.list 5 (List.map eNd (enc x)))), (1, (AV.list 5 (List.map eNd (enc y)))), (4, .own [0] 0), (5, .bool false), (6, .list 1 ([(AV.list 5 (List.map eNd (enc x0)))] :: List.map eTr1 r)), (7, (AV.list 5 (List.map eNd (enc c)))), (8, .bool true), (40, (AV.list 1 (List.map eTr1 r))), (41, .int .i64 r.length), (42, .int .i64 j)] ∧ (∃ o1 o2 o3, H = [[([20, 0], o1), ([18, 0], o2), ([0], o3)]]) ∧ j ≤ r.length ∧ OkS c ∧ altsO x0 r = altsO c (r.drop j)) r.length ?_ ?_
    · exact ⟨x0, rfl, ⟨_, _, _, rfl⟩, by simp, h0, rfl⟩
    rintro j e H ⟨c, rfl, ⟨o1, o2, o3, rfl⟩, hj, hcc, hO⟩
    simp only [D0, ains, clsOf, abin, aint, aun, dnext, rowsOf, loadObj, cellsOf, ofCells, bnd, hmerge, Nat.reduceBEq, Nat.reduceAdd, reduceIte, Nat.reduceEqDiff, Nat.reduceLeDiff, Int.reduceEq, reduceCtorEq, Int.reduceBEq, Int.reduceBNe, Int.reduceLT, Int.reduceNeg]
    by_cases h : j < r.length
    · have h' : (j : Int) < (r.length : Int) := by omega
      have hp := wrapp (j := j) (by omega)
      have hg := map_get (f := eTr1) h default
      have hy := hrr _ (getD_memT h)
      have hst := altsO_step (c := c) h rfl
      generalize r.getD j default = y' at hg hy hst
      simp only [eTr1] at hg
      obtain ⟨j1, j2⟩ := encO_join (k := 4) (.inr rfl) hcc hy
      have hd : (SmS (enc c) ∧ SmS (enc y')) ∧ (enc c).length ≤ 1000000 ∧ (enc y').length ≤ 1000000 := ⟨⟨hcc.sm, hy.sm⟩, by have := hcc.len; omega, by have := hy.len; omega⟩
      cases ej : joinO 4 c y' with
      | none =>
        have hn : altLO (x0 :: r) = none := by rw [altLO, hO, hst, ej]; rfl
        simp only [D0, ains, clsOf, abin, aint, aun, dnext, rowsOf, loadObj, cellsOf, ofCells, bnd, hmerge, Nat.reduceBEq, Nat.reduceAdd, reduceIte, Nat.reduceEqDiff, Nat.reduceLeDiff, Int.reduceEq, reduceCtorEq, Int.reduceBEq, Int.reduceBNe, Int.reduceLT, Int.reduceNeg, @use_all s5 20 k20.ora rfl, e20, h', hg, hd, j1, j2, ej, encO, Option.isSome_none, Int.natCast_nonneg, Int.toNat_natCast]
        simp only [F1, bodyRes, one, ains, clsOf, abin, aint, aun, dnext, rowsOf, loadObj, cellsOf, ofCells, bnd, hmerge, Nat.reduceBEq, Nat.reduceAdd, reduceIte, Nat.reduceEqDiff, Nat.reduceLeDiff, Int.reduceEq, reduceCtorEq, Int.reduceBEq, Int.reduceBNe, Int.reduceLT, Int.reduceNeg, fn39_res, fn39_keep, fz, fzd, fzd.fzcells, hn, resO, encO, Option.isSome_none]
      | some d =>
        have hdo := ok_joinO hcc hy ej
        rw [ej] at hst
        simp only [D0, ains, clsOf, abin, aint, aun, dnext, rowsOf, loadObj, cellsOf, ofCells, bnd, hmerge, Nat.reduceBEq, Nat.reduceAdd, reduceIte, Nat.reduceEqDiff, Nat.reduceLeDiff, Int.reduceEq, reduceCtorEq, Int.reduceBEq, Int.reduceBNe, Int.reduceLT, Int.reduceNeg, @use_all s5 20 k20.ora rfl, e20, h', hg, hd, j1, j2, ej, encO, Option.isSome_some, hp, Int.natCast_nonneg, Int.toNat_natCast]
        simp only [F1, bodyRes, one, ains, clsOf, abin, aint, aun, dnext, rowsOf, loadObj, cellsOf, ofCells, bnd, hmerge, Nat.reduceBEq, Nat.reduceAdd, reduceIte, Nat.reduceEqDiff, Nat.reduceLeDiff, Int.reduceEq, reduceCtorEq, Int.reduceBEq, Int.reduceBNe, Int.reduceLT, Int.reduceNeg]
        exact ⟨h, d, rfl, ⟨_, _, _, rfl, rfl, rfl⟩, by omega, hdo, by rw [hO, hst]; rfl⟩
    · have h' : ¬ (j : Int) < (r.length : Int) := by omega
      have hj2 : j = r.length := by omega
      subst hj2
      rw [List.drop_length] at hO
      have hn : altLO (x0 :: r) = some c := hO
      simp only [D0, ains, clsOf, abin, aint, aun, dnext, rowsOf, loadObj, cellsOf, ofCells, bnd, hmerge, Nat.reduceBEq, Nat.reduceAdd, reduceIte, Nat.reduceEqDiff, Nat.reduceLeDiff, Int.reduceEq, reduceCtorEq, Int.reduceBEq, Int.reduceBNe, Int.reduceLT, Int.reduceNeg, h', decide_false]
      refine .inr ⟨by simp, ?_⟩
      simp only [F1, bodyRes, one, ains, clsOf, abin, aint, aun, dnext, rowsOf, loadObj, cellsOf, ofCells, bnd, hmerge, Nat.reduceBEq, Nat.reduceAdd, reduceIte, Nat.reduceEqDiff, Nat.reduceLeDiff, Int.reduceEq, reduceCtorEq, Int.reduceBEq, Int.reduceBNe, Int.reduceLT, Int.reduceNeg, fn39_res, fn39_keep, fz, fzd, fzd.fzcells, hn, resO, encO, Option.isSome_some]
noncomputable def k39 : Kon (List Nd × List Nd) := ⟨fun x => (SmS x.1 ∧ SmS x.2) ∧ x.1.length ≤ 1000000 ∧ x.2.length ≤ 1000000, fun x => [(AV.list 5 (List.map eNd x.1)), (AV.list 5 (List.map eNd x.2))], fun x => resO (altT x.1 x.2)⟩
theorem e39 (a : List Nd) (b : List Nd) (hd : (SmS a ∧ SmS b) ∧ a.length ≤ 1000000 ∧ b.length ≤ 1000000) (q0 : Id) (H0 : Heap) : k39.ora q0 ([(AV.list 5 (List.map eNd a)), (AV.list 5 (List.map eNd b))]) H0 = some (resO (altT a b), H0) := k39.eq (tree2Inj) (a, b) hd q0 H0
theorem ook39 : OraOK Try.prog (39 % 100000) k39.ora := k39.ok orders s5_ok (fun x hd => by simp [k39, PU]) (fun x hd => by simp [k39, PU, pure_resO]) (fun x hd => run39 x.1 x.2 hd.1.1 hd.1.2 hd.2.1 hd.2.2)

noncomputable def s6 : FT := upd (s5) 39 k39.ora
theorem s6_ok : FTOK Try.prog s6 := upd_ok2 (f := 39) (s5_ok) ook39

end Go.Proofs.Abs

set_option linter.all false
set_option linter.constructorNameAsVariable false
set_option linter.defProp false
set_option linter.unusedVariables false
set_option linter.unusedSimpArgs false
set_option maxRecDepth 100000
set_option maxHeartbeats 4000000
namespace Go.Proofs.Abs
open Go
/-! 80: smart.full. -/
theorem sfold_step {c y : Tr} {r : List Tr} {j : Nat} (h : j < r.length) (hy : r.getD j default = y) : (r.drop j).foldl sAlt c = (r.drop (j + 1)).foldl sAlt (sAlt c y) := by
  rw [List.drop_eq_getElem_cons h]
  have : r[j] = y := by rw [← hy, List.getD_eq_getElem?_getD, List.getElem?_eq_getElem h]; rfl
  rw [this]; rfl
theorem run80 (t : List Nd) (hd : SmS t ∧ goodT t = true) : cwp s6 80 [] [(AV.list 5 (List.map eNd t))] [] (fun r H => r = .tuple [(AV.list 5 (List.map eNd (enc (fullT (dec t))))), .bool true] ∧ H = []) := by
  refine run_fn (fn := fn80) rfl rfl ?_
  have hd' := hd
  obtain ⟨x, hx, rfl⟩ := okS_of hd
  have ex := hx.dec
  rw [ex]
  have hmo := hx.mems
  have hl : (mems x).length ≤ 40000 := by have := mems_len x; have := hx.2; omega
  have hsz : sumS (noK 1 (mems x)) ≤ sz x + 1 := by rw [← sumS_mems]; exact sumS_sub List.filter_sublist
  have hf : fullT x = match noK 1 (mems x) with | [] => empty | x :: r => r.foldl sAlt x := rfl
  have hk : ∀ t ∈ noK 1 (mems x), OkS t := fun t ht => hmo t (List.mem_filter.1 ht).1
  have h2 := hx.2
  have hln : (noK 1 (mems x)).length ≤ (mems x).length := List.filter_sublist.length_le
  simp only [fn80_body, c80, D0, ains, clsOf, abin, aint, aun, dnext, rowsOf, loadObj, cellsOf, ofCells, bnd, hmerge, Nat.reduceBEq, Nat.reduceAdd, reduceIte, Nat.reduceEqDiff, Nat.reduceLeDiff, Int.reduceEq, reduceCtorEq, Int.reduceBEq, Int.reduceBNe, Int.reduceLT, Int.reduceNeg, @use_all s6 79 k79.ora rfl, e79, hd', ex]
  generalize mems x = M at hmo hl hsz hf hk hln
  refine cg_use (run111 (ts := M) (id := [3, 0]) rfl rfl rfl rfl rfl ?_ (by omega) hmo 1 ?_) ?_
  · rfl
  · intro l e; simp at e
  rintro v H2 ⟨rfl, o, rfl⟩
  generalize noK 1 M = L at hsz hf hk hln
  cases L with
  | nil =>
    simp only at hf
    have hz0 : (((0 : Nat) : Int) == 0) = true := rfl
    simp only [D0, ains, clsOf, abin, aint, aun, dnext, rowsOf, loadObj, cellsOf, ofCells, bnd, hmerge, Nat.reduceBEq, Nat.reduceAdd, reduceIte, Nat.reduceEqDiff, Nat.reduceLeDiff, Int.reduceEq, reduceCtorEq, Int.reduceBEq, Int.reduceBNe, Int.reduceLT, Int.reduceNeg, @use_all s6 34 k34.ora rfl, e34, leafT1, hz0]
    simp only [F1, bodyRes, one, ains, clsOf, abin, aint, aun, dnext, rowsOf, loadObj, cellsOf, ofCells, bnd, hmerge, Nat.reduceBEq, Nat.reduceAdd, reduceIte, Nat.reduceEqDiff, Nat.reduceLeDiff, Int.reduceEq, reduceCtorEq, Int.reduceBEq, Int.reduceBNe, Int.reduceLT, Int.reduceNeg, fn80_res, fn80_keep, fz, fzd, fzd.fzcells, hf]
  | cons x0 r =>
    simp only at hf
    have h0 := hk x0 (by simp)
    have hrr : ∀ t ∈ r, OkS t := fun t ht => hk t (by simp [ht])
    have hlr : r.length + 1 ≤ 40000 := by simp at hln; omega
    have hz : (0 : Int) ≤ 1 := by decide
    have htk : List.take r.length (List.map eTr1 r) = List.map eTr1 r := List.take_of_length_le (by simp)
    have hne : (((r.length + 1 : Nat) : Int) == 0) = false := by simp only [beq_eq_false_iff_ne]; omega
    have hs0 : sz x0 + 1 + sumS r ≤ sz x + 1 := by simpa only [sumS, List.map_cons, List.sum_cons] using hsz
    simp only [D0, ains, clsOf, abin, aint, aun, dnext, rowsOf, loadObj, cellsOf, ofCells, bnd, hmerge, Nat.reduceBEq, Nat.reduceAdd, reduceIte, Nat.reduceEqDiff, Nat.reduceLeDiff, Int.reduceEq, reduceCtorEq, Int.reduceBEq, Int.reduceBNe, Int.reduceLT, Int.reduceNeg, hne, hz, htk, eTr1, Int.le_refl, Int.reduceToNat, Nat.le_add_left, Nat.le_refl]
    refine lg_rule (fun j e H => ∃ c, e = [(0, (AV.list 5 (List.map eNd (enc x)))), (2, .own [0] 0), (3, .bool false), (4, .list 1 ([(AV.list 5 (List.map eNd (enc x0)))] :: List.map eTr1 r)), (5, (AV.list 5 (List.map eNd (enc c)))), (6, .bool true), (20, (AV.list 1 (List.map eTr1 r))), (21, .int .i64 r.length), (22, .int .i64 j)] ∧ (∃ o1 o2, H = [[([3, 0], o1), ([0], o2)]]) ∧ j ≤ r.length ∧ OkS c ∧ sz c + sumS (r.drop j) ≤ sz x ∧ r.foldl sAlt x0 = (r.drop j).foldl sAlt c) r.length ?_ ?_
    · exact ⟨x0, rfl, ⟨_, _, rfl⟩, by simp, h0, by rw [List.drop_zero]; omega, rfl⟩
    rintro j e H ⟨c, rfl, ⟨o1, o2, rfl⟩, hj, hcc, hss, hO⟩
    simp only [D0, ains, clsOf, abin, aint, aun, dnext, rowsOf, loadObj, cellsOf, ofCells, bnd, hmerge, Nat.reduceBEq, Nat.reduceAdd, reduceIte, Nat.reduceEqDiff, Nat.reduceLeDiff, Int.reduceEq, reduceCtorEq, Int.reduceBEq, Int.reduceBNe, Int.reduceLT, Int.reduceNeg]
    by_cases h : j < r.length
    · have h' : (j : Int) < (r.length : Int) := by omega
      have hp := wrapp (j := j) (by omega)
      have hg := map_get (f := eTr1) h default
      have hy := hrr _ (getD_memT h)
      have hst := sfold_step (c := c) h rfl
      have hdr : sumS (r.drop j) = sz (r.getD j default) + 1 + sumS (r.drop (j + 1)) := by
        rw [List.drop_eq_getElem_cons h]
        have : r[j] = r.getD j default := by rw [List.getD_eq_getElem?_getD, List.getElem?_eq_getElem h]; rfl
        rw [this]; simp only [sumS, List.map_cons, List.sum_cons]
      generalize r.getD j default = y' at hg hy hst hdr
      simp only [eTr1] at hg
      have hsm : sz c + sz y' + 1 ≤ 40000 := by omega
      have ea := altO_some hsm
      have eb := altT_enc hcc hy
      rw [ea] at eb
      have hsa := sz_sAlt c y'
      have hdo := ok_altO hcc hy ea
      have hd : (SmS (enc c) ∧ SmS (enc y')) ∧ (enc c).length ≤ 1000000 ∧ (enc y').length ≤ 1000000 := ⟨⟨hcc.sm, hy.sm⟩, by have := hcc.len; omega, by have := hy.len; omega⟩
      simp only [D0, ains, clsOf, abin, aint, aun, dnext, rowsOf, loadObj, cellsOf, ofCells, bnd, hmerge, Nat.reduceBEq, Nat.reduceAdd, reduceIte, Nat.reduceEqDiff, Nat.reduceLeDiff, Int.reduceEq, reduceCtorEq, Int.reduceBEq, Int.reduceBNe, Int.reduceLT, Int.reduceNeg, @use_all s6 39 k39.ora rfl, e39, h', hg, hd, eb, resO, encO, Option.isSome_some, hp, Int.natCast_nonneg, Int.toNat_natCast]
      simp only [F1, bodyRes, one, ains, clsOf, abin, aint, aun, dnext, rowsOf, loadObj, cellsOf, ofCells, bnd, hmerge, Nat.reduceBEq, Nat.reduceAdd, reduceIte, Nat.reduceEqDiff, Nat.reduceLeDiff, Int.reduceEq, reduceCtorEq, Int.reduceBEq, Int.reduceBNe, Int.reduceLT, Int.reduceNeg]
      exact ⟨h, _, rfl, ⟨_, _, rfl, rfl⟩, by omega, hdo, by omega, by rw [hO, hst]⟩
    · have h' : ¬ (j : Int) < (r.length : Int) := by omega
      have hj2 : j = r.length := by omega
      subst hj2
      rw [List.drop_length] at hO
      have hn : fullT x = c := by rw [hf, hO]; rfl
      simp only [D0, ains, clsOf, abin, aint, aun, dnext, rowsOf, loadObj, cellsOf, ofCells, bnd, hmerge, Nat.reduceBEq, Nat.reduceAdd, reduceIte, Nat.reduceEqDiff, Nat.reduceLeDiff, Int.reduceEq, reduceCtorEq, Int.reduceBEq, Int.reduceBNe, Int.reduceLT, Int.reduceNeg, h', decide_false]
      refine .inr ⟨by simp, ?_⟩
      simp only [F1, bodyRes, one, ains, clsOf, abin, aint, aun, dnext, rowsOf, loadObj, cellsOf, ofCells, bnd, hmerge, Nat.reduceBEq, Nat.reduceAdd, reduceIte, Nat.reduceEqDiff, Nat.reduceLeDiff, Int.reduceEq, reduceCtorEq, Int.reduceBEq, Int.reduceBNe, Int.reduceLT, Int.reduceNeg, fn80_res, fn80_keep, fz, fzd, fzd.fzcells, hn]
noncomputable def k80 : Kon (List Nd) := ⟨fun x => SmS x ∧ goodT x = true, fun x => [(AV.list 5 (List.map eNd x))], fun x => .tuple [(AV.list 5 (List.map eNd (enc (fullT (dec x))))), .bool true]⟩
theorem e80 (t : List Nd) (hd : SmS t ∧ goodT t = true) (q0 : Id) (H0 : Heap) : k80.ora q0 ([(AV.list 5 (List.map eNd t))]) H0 = some (.tuple [(AV.list 5 (List.map eNd (enc (fullT (dec t))))), .bool true], H0) := k80.eq (treeInj) (t) hd q0 H0
theorem ook80 : OraOK Try.prog (80 % 100000) k80.ora := k80.ok orders s6_ok (fun x hd => by simp [k80, PU]) (fun x hd => by simp [k80, PU]) (fun x hd => run80 x hd)

noncomputable def s7 : FT := upd (s6) 80 k80.ora
theorem s7_ok : FTOK Try.prog s7 := upd_ok2 (f := 80) (s6_ok) ook80

/-! 40: smart.Star. -/
noncomputable def k40 : Kon (List Nd) := ⟨fun x => SmS x ∧ x.length ≤ 1000000, fun x => [(AV.list 5 (List.map eNd x))], fun x => resO (starS x)⟩
theorem i40 : ∀ a b, k40.enc a = k40.enc b → a = b := treeInj
theorem e40 (a : List Nd) (hd : SmS a ∧ a.length ≤ 1000000) (q0 : Id) (H0 : Heap) : k40.ora q0 ([(AV.list 5 (List.map eNd a))]) H0 = some (resO (starS a), H0) := k40.eq i40 (a) hd q0 H0
noncomputable def r40 (n : Nat) : Kon (List Nd) := ⟨fun x => k40.dom x ∧ (fun x => if rk (dec x) = 4 then 1 else 0) x < n, k40.enc, k40.out⟩
theorem er40 {n : Nat} (a : List Nd) (hd : (SmS a ∧ a.length ≤ 1000000) ∧ (if rk (dec a) = 4 then 1 else 0) < n) (q0 : Id) (H0 : Heap) : (r40 n).ora q0 ([(AV.list 5 (List.map eNd a))]) H0 = some (resO (starS a), H0) := (r40 n).eq i40 (a) hd q0 H0
noncomputable def z40 (n : Nat) : FT := updC (upd s7 40 (r40 n).ora) 200040 fn40

theorem run40 (n : Nat) (a : List Nd) (hd : (SmS a ∧ a.length ≤ 1000000) ∧ (if rk (dec a) = 4 then 1 else 0) < n + 1) : cwp (z40 n) 200040 [] [(AV.list 5 (List.map eNd a))] [] (fun r H => r = resO (starS a) ∧ H = []) := by
  refine run_fn (fn := fn40) rfl rfl ?_
  obtain ⟨⟨sa, la⟩, hn⟩ := hd
  have wa := sa.wf
  by_cases g1 : goodT a = true
  case neg =>
    have g1' : goodT a = false := by simpa using g1
    have hr : starS a = none := by simp [starS, g1']
    simp only [fn40_body, c40, D0, ains, clsOf, abin, aint, aun, dnext, rowsOf, loadObj, cellsOf, ofCells, bnd, hmerge, Nat.reduceBEq, Nat.reduceAdd, reduceIte, Nat.reduceEqDiff, Nat.reduceLeDiff, Int.reduceEq, reduceCtorEq, Int.reduceBEq, Int.reduceBNe, Int.reduceLT, Int.reduceNeg, @use_all (z40 n) 29 k29.ora rfl, e29, wa, g1']
    simp only [F1, bodyRes, one, ains, clsOf, abin, aint, aun, dnext, rowsOf, loadObj, cellsOf, ofCells, bnd, hmerge, Nat.reduceBEq, Nat.reduceAdd, reduceIte, Nat.reduceEqDiff, Nat.reduceLeDiff, Int.reduceEq, reduceCtorEq, Int.reduceBEq, Int.reduceBNe, Int.reduceLT, Int.reduceNeg, fn40_res, fn40_keep, fz, fzd, fzd.fzcells, hr, resO, encO, Option.isSome_none]
  obtain ⟨x, hx, rfl⟩ := okS_of ⟨sa, g1⟩
  rw [starS_enc hx]
  rw [hx.dec] at hn
  have nx := hx.ne
  have lx := hx.len
  have kx := lastN_enc x
  by_cases n0 : rk x = 0
  case pos =>
    have hr : starO x = some empty := by simp [starO, star1O, n0]
    simp only [fn40_body, c40, D0, ains, clsOf, abin, aint, aun, dnext, rowsOf, loadObj, cellsOf, ofCells, bnd, hmerge, Nat.reduceBEq, Nat.reduceAdd, reduceIte, Nat.reduceEqDiff, Nat.reduceLeDiff, Int.reduceEq, reduceCtorEq, Int.reduceBEq, Int.reduceBNe, Int.reduceLT, Int.reduceNeg, @use_all (z40 n) 29 k29.ora rfl, e29, @use_all (z40 n) 76 k76.ora rfl, e76, @use_all (z40 n) 34 k34.ora rfl, e34, wa, g1, nx, kx, n0, leafT1]
    simp only [F1, bodyRes, one, ains, clsOf, abin, aint, aun, dnext, rowsOf, loadObj, cellsOf, ofCells, bnd, hmerge, Nat.reduceBEq, Nat.reduceAdd, reduceIte, Nat.reduceEqDiff, Nat.reduceLeDiff, Int.reduceEq, reduceCtorEq, Int.reduceBEq, Int.reduceBNe, Int.reduceLT, Int.reduceNeg, fn40_res, fn40_keep, fz, fzd, fzd.fzcells, hr, resO, encO, Option.isSome_some]
  by_cases n1 : rk x = 1
  case pos =>
    have hr : starO x = some empty := by simp [starO, star1O, n1]
    simp only [fn40_body, c40, D0, ains, clsOf, abin, aint, aun, dnext, rowsOf, loadObj, cellsOf, ofCells, bnd, hmerge, Nat.reduceBEq, Nat.reduceAdd, reduceIte, Nat.reduceEqDiff, Nat.reduceLeDiff, Int.reduceEq, reduceCtorEq, Int.reduceBEq, Int.reduceBNe, Int.reduceLT, Int.reduceNeg, @use_all (z40 n) 29 k29.ora rfl, e29, @use_all (z40 n) 76 k76.ora rfl, e76, @use_all (z40 n) 34 k34.ora rfl, e34, wa, g1, nx, kx, n0, n1, leafT1]
    simp only [F1, bodyRes, one, ains, clsOf, abin, aint, aun, dnext, rowsOf, loadObj, cellsOf, ofCells, bnd, hmerge, Nat.reduceBEq, Nat.reduceAdd, reduceIte, Nat.reduceEqDiff, Nat.reduceLeDiff, Int.reduceEq, reduceCtorEq, Int.reduceBEq, Int.reduceBNe, Int.reduceLT, Int.reduceNeg, fn40_res, fn40_keep, fz, fzd, fzd.fzcells, hr, resO, encO, Option.isSome_some]
  by_cases n5 : rk x = 5
  case pos =>
    have hr : starO x = some x := by simp [starO, star1O, n5]
    simp only [fn40_body, c40, D0, ains, clsOf, abin, aint, aun, dnext, rowsOf, loadObj, cellsOf, ofCells, bnd, hmerge, Nat.reduceBEq, Nat.reduceAdd, reduceIte, Nat.reduceEqDiff, Nat.reduceLeDiff, Int.reduceEq, reduceCtorEq, Int.reduceBEq, Int.reduceBNe, Int.reduceLT, Int.reduceNeg, @use_all (z40 n) 29 k29.ora rfl, e29, @use_all (z40 n) 76 k76.ora rfl, e76, @use_all (z40 n) 77 k77.ora rfl, e77, wa, g1, nx, lx, kx, n0, n1, n5]
    simp only [F1, bodyRes, one, ains, clsOf, abin, aint, aun, dnext, rowsOf, loadObj, cellsOf, ofCells, bnd, hmerge, Nat.reduceBEq, Nat.reduceAdd, reduceIte, Nat.reduceEqDiff, Nat.reduceLeDiff, Int.reduceEq, reduceCtorEq, Int.reduceBEq, Int.reduceBNe, Int.reduceLT, Int.reduceNeg, fn40_res, fn40_keep, fz, fzd, fzd.fzcells, hr, resO, encO, Option.isSome_some]
  by_cases n4 : rk x = 4
  case neg =>
    have hr : starO x = starJ x := by simp [starO, star1O, n0, n1, n4, n5]
    have hd : SmS (enc x) ∧ (enc x).length ≤ 1000000 := ⟨sa, la⟩
    obtain ⟨j1, j2⟩ := encO_star hx
    simp only [fn40_body, c40, D0, ains, clsOf, abin, aint, aun, dnext, rowsOf, loadObj, cellsOf, ofCells, bnd, hmerge, Nat.reduceBEq, Nat.reduceAdd, reduceIte, Nat.reduceEqDiff, Nat.reduceLeDiff, Int.reduceEq, reduceCtorEq, Int.reduceBEq, Int.reduceBNe, Int.reduceLT, Int.reduceNeg, @use_all (z40 n) 29 k29.ora rfl, e29, @use_all (z40 n) 76 k76.ora rfl, e76, @use_all (z40 n) 21 k21.ora rfl, e21, wa, g1, nx, kx, n0, n1, n4, n5, hd, j1, j2]
    simp only [F1, bodyRes, one, ains, clsOf, abin, aint, aun, dnext, rowsOf, loadObj, cellsOf, ofCells, bnd, hmerge, Nat.reduceBEq, Nat.reduceAdd, reduceIte, Nat.reduceEqDiff, Nat.reduceLeDiff, Int.reduceEq, reduceCtorEq, Int.reduceBEq, Int.reduceBNe, Int.reduceLT, Int.reduceNeg, fn40_res, fn40_keep, fz, fzd, fzd.fzcells, hr, resO]
  have dx : SmS (enc x) ∧ goodT (enc x) = true := ⟨sa, g1⟩
  have ex := hx.dec
  have hf := hx.full
  have hr : starO x = if rk (fullT x) = 4 then starJ (fullT x) else star1O (fullT x) := by simp [starO, n4]
  have e80' := e80 (enc x) dx
  rw [ex] at e80'
  generalize fullT x = y at hf hr e80'
  rw [if_pos n4] at hn
  have ny := hf.ne
  have ky := lastN_enc y
  have hd : SmS (enc y) ∧ (enc y).length ≤ 1000000 := ⟨hf.sm, by have := hf.len; omega⟩
  by_cases m4 : rk y = 4
  · rw [if_pos m4] at hr
    obtain ⟨j1, j2⟩ := encO_star hf
    simp only [fn40_body, c40, D0, ains, clsOf, abin, aint, aun, dnext, rowsOf, loadObj, cellsOf, ofCells, bnd, hmerge, Nat.reduceBEq, Nat.reduceAdd, reduceIte, Nat.reduceEqDiff, Nat.reduceLeDiff, Int.reduceEq, reduceCtorEq, Int.reduceBEq, Int.reduceBNe, Int.reduceLT, Int.reduceNeg, @use_all (z40 n) 29 k29.ora rfl, e29, @use_all (z40 n) 76 k76.ora rfl, e76, @use_all (z40 n) 21 k21.ora rfl, e21, @use_all (z40 n) 80 k80.ora rfl, e80', wa, g1, nx, ny, kx, ky, n0, n1, n4, n5, m4, hd, j1, j2]
    simp only [F1, bodyRes, one, ains, clsOf, abin, aint, aun, dnext, rowsOf, loadObj, cellsOf, ofCells, bnd, hmerge, Nat.reduceBEq, Nat.reduceAdd, reduceIte, Nat.reduceEqDiff, Nat.reduceLeDiff, Int.reduceEq, reduceCtorEq, Int.reduceBEq, Int.reduceBNe, Int.reduceLT, Int.reduceNeg, fn40_res, fn40_keep, fz, fzd, fzd.fzcells, hr, resO]
  · rw [if_neg m4] at hr
    have hdr : (SmS (enc y) ∧ (enc y).length ≤ 1000000) ∧ (if rk (dec (enc y)) = 4 then 1 else 0) < n := ⟨hd, by rw [hf.dec, if_neg m4]; omega⟩
    have er := er40 (enc y) hdr
    have hs : starS (enc y) = star1O y := by rw [starS_enc hf]; simp [starO, m4]
    rw [hs] at er
    simp only [fn40_body, c40, D0, ains, clsOf, abin, aint, aun, dnext, rowsOf, loadObj, cellsOf, ofCells, bnd, hmerge, Nat.reduceBEq, Nat.reduceAdd, reduceIte, Nat.reduceEqDiff, Nat.reduceLeDiff, Int.reduceEq, reduceCtorEq, Int.reduceBEq, Int.reduceBNe, Int.reduceLT, Int.reduceNeg, @use_all (z40 n) 29 k29.ora rfl, e29, @use_all (z40 n) 76 k76.ora rfl, e76, @use_all (z40 n) 40 (r40 n).ora rfl, er, @use_all (z40 n) 80 k80.ora rfl, e80', wa, g1, nx, ny, kx, ky, n0, n1, n4, n5, m4, resO]
    simp only [F1, bodyRes, one, ains, clsOf, abin, aint, aun, dnext, rowsOf, loadObj, cellsOf, ofCells, bnd, hmerge, Nat.reduceBEq, Nat.reduceAdd, reduceIte, Nat.reduceEqDiff, Nat.reduceLeDiff, Int.reduceEq, reduceCtorEq, Int.reduceBEq, Int.reduceBNe, Int.reduceLT, Int.reduceNeg, fn40_res, fn40_keep, fz, fzd, fzd.fzcells, hr, resO]
theorem ook40 : OraOK Try.prog (40 % 100000) k40.ora := ora_rec (fun x => if rk (dec x) = 4 then 1 else 0) (fun a b _ _ h => i40 a b h) fun n h => (r40 (n + 1)).ok (f := 200040) orders (updC_ok (upd_ok2 (f := 40) s7_ok h) ok40) (fun x hd => by simp [r40, k40, PU]) (fun x hd => by simp [r40, k40, PU, pure_resO]) (fun x hd => run40 n x hd)

noncomputable def s8 : FT := upd (s7) 40 k40.ora
theorem s8_ok : FTOK Try.prog s8 := upd_ok2 (f := 40) (s7_ok) ook40

end Go.Proofs.Abs
