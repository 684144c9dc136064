/- A part of a proof: the text that states the row tells what is proved. No condition is laid on anything. -/
import Derived.Test.YtgcncpedpjjjeaaAbsM6
set_option linter.all false
set_option linter.constructorNameAsVariable false
set_option linter.defProp false
set_option linter.unusedVariables false
set_option linter.unusedSimpArgs false
set_option maxRecDepth 100000
set_option maxHeartbeats 4000000
namespace Go.Proofs.Abs
open Go
/-! 78: smart.once. -/
theorem take_snocT {l : List Tr} {j : Nat} (h : j < l.length) : l.take (j + 1) = l.take j ++ [l.getD j default] := by
  rw [List.take_succ, List.getD_eq_getElem?_getD, List.getElem?_eq_getElem h]; rfl
theorem dedup_snoc (l : List Tr) (x : Tr) : dedup (l ++ [x]) = if x ∈ dedup l then dedup l else dedup l ++ [x] := by
  have e : dedup (l ++ [x]) = (fun out t => if t ∈ out then out else out ++ [t]) (dedup l) x := by unfold dedup; rw [List.foldl_append]; rfl
  rw [e]
theorem dedup_len (l : List Tr) : (dedup l).length ≤ l.length := (dedup_sub l).length_le
theorem any_eq (l : List Tr) (x : Tr) : l.any (fun t => decide (t = x)) = decide (x ∈ l) := by
  rw [Bool.eq_iff_iff, List.any_eq_true, decide_eq_true_eq]
  constructor
  · rintro ⟨t, ht, h⟩
    rw [decide_eq_true_eq] at h
    rw [← h]; exact ht
  · intro h; exact ⟨x, h, by simp⟩
theorem run78 (l : List Tr) (ho : ∀ x ∈ l, OkS x) (hl : l.length ≤ 100000) : cwp s4 78 [] [(AV.list 1 (List.map eTr1 l))] [] (fun r H => r = (AV.list 1 (List.map eTr1 (onceT l))) ∧ H = []) := by
  refine run_fn (fn := fn78) rfl rfl ?_
  simp only [fn78_body, c78, D0, ains, clsOf, abin, aint, aun, dnext, rowsOf, loadObj, cellsOf, ofCells, bnd, hmerge, Nat.reduceBEq, Nat.reduceAdd, reduceIte, Nat.reduceEqDiff, Nat.reduceLeDiff, Int.reduceEq, reduceCtorEq, Int.reduceBEq, Int.reduceBNe, Int.reduceLT, Int.reduceNeg]
  refine lg_rule (fun j e H => e = [(0, (AV.list 1 (List.map eTr1 l))), (2, .own [0] 0), (3, .own [1] (dedup (l.take j)).length), (6, (AV.list 1 (List.map eTr1 l))), (7, .int .i64 l.length), (8, .int .i64 j)] ∧ H = [[([1], .row true true 23 1 (List.map eTr1 (dedup (l.take j)))), ([0], .row true true 23 1 [])]] ∧ j ≤ l.length) l.length ?_ ?_
  · exact ⟨rfl, rfl, by simp⟩
  rintro j e H ⟨rfl, rfl, hj⟩
  simp only [D0, ains, clsOf, abin, aint, aun, dnext, rowsOf, loadObj, cellsOf, ofCells, bnd, hmerge, Nat.reduceBEq, Nat.reduceAdd, reduceIte, Nat.reduceEqDiff, Nat.reduceLeDiff, Int.reduceEq, reduceCtorEq, Int.reduceBEq, Int.reduceBNe, Int.reduceLT, Int.reduceNeg]
  by_cases h : j < l.length
  · have h' : (j : Int) < (l.length : Int) := by omega
    have hp := wrapp (j := j) (by omega)
    have hg := map_get (f := eTr1) h default
    have hok := ho _ (getD_memT h)
    have hsn := dedup_snoc (l.take j) (l.getD j default)
    rw [← take_snocT h] at hsn
    have hs : ∀ t ∈ dedup (l.take j), OkS t := fun t ht => ho t (List.mem_of_mem_take ((dedup_sub _).subset ht))
    have hlen : (dedup (l.take j)).length ≤ 100000 := by have := dedup_len (l.take j); simp at this; omega
    generalize l.getD j default = x at hg hok hsn
    generalize dedup (l.take j) = D at hsn hs hlen
    simp only [eTr1] at hg
    simp only [D0, ains, clsOf, abin, aint, aun, dnext, rowsOf, loadObj, cellsOf, ofCells, bnd, hmerge, Nat.reduceBEq, Nat.reduceAdd, reduceIte, Nat.reduceEqDiff, Nat.reduceLeDiff, Int.reduceEq, reduceCtorEq, Int.reduceBEq, Int.reduceBNe, Int.reduceLT, Int.reduceNeg, h', hg, Int.natCast_nonneg, Int.toNat_natCast]
    refine cg_use (run107 (p := fun t => decide (t = x)) (c := 108) (ts := D) (wr := true) (fl := true) (el := 23) rfl rfl rfl (by omega) (by decide) (fun t ht q => run108 rfl rfl (hs t ht) hok (by simp [hget, fget]) q) _) ?_
    rintro v H2 ⟨rfl, rfl⟩
    rw [any_eq]
    by_cases hm : x ∈ D
    · rw [if_pos hm] at hsn
      simp only [D0, ains, clsOf, abin, aint, aun, dnext, rowsOf, loadObj, cellsOf, ofCells, bnd, hmerge, Nat.reduceBEq, Nat.reduceAdd, reduceIte, Nat.reduceEqDiff, Nat.reduceLeDiff, Int.reduceEq, reduceCtorEq, Int.reduceBEq, Int.reduceBNe, Int.reduceLT, Int.reduceNeg, hm, hp]
      simp only [F1, bodyRes, one, ains, clsOf, abin, aint, aun, dnext, rowsOf, loadObj, cellsOf, ofCells, bnd, hmerge, Nat.reduceBEq, Nat.reduceAdd, reduceIte, Nat.reduceEqDiff, Nat.reduceLeDiff, Int.reduceEq, reduceCtorEq, Int.reduceBEq, Int.reduceBNe, Int.reduceLT, Int.reduceNeg, hsn]
      exact ⟨h, by omega⟩
    · rw [if_neg hm] at hsn
      have hc : (D.length + 1) * 24 ≤ 140737488355328 := by omega
      have he : List.map eTr1 D ++ [[AV.list 5 (List.map eNd (enc x))]] = List.map eTr1 (D ++ [x]) := by simp [eTr1]
      simp only [D0, ains, clsOf, abin, aint, aun, dnext, rowsOf, loadObj, cellsOf, ofCells, bnd, hmerge, Nat.reduceBEq, Nat.reduceAdd, reduceIte, Nat.reduceEqDiff, Nat.reduceLeDiff, Int.reduceEq, reduceCtorEq, Int.reduceBEq, Int.reduceBNe, Int.reduceLT, Int.reduceNeg, hm, hp, hc, fz, fzd, he]
      simp only [F1, bodyRes, one, ains, clsOf, abin, aint, aun, dnext, rowsOf, loadObj, cellsOf, ofCells, bnd, hmerge, Nat.reduceBEq, Nat.reduceAdd, reduceIte, Nat.reduceEqDiff, Nat.reduceLeDiff, Int.reduceEq, reduceCtorEq, Int.reduceBEq, Int.reduceBNe, Int.reduceLT, Int.reduceNeg, hsn, List.length_append]
      exact ⟨h, by omega⟩
  · have h' : ¬ (j : Int) < (l.length : Int) := by omega
    have hj2 : j = l.length := by omega
    subst hj2
    simp only [D0, ains, clsOf, abin, aint, aun, dnext, rowsOf, loadObj, cellsOf, ofCells, bnd, hmerge, Nat.reduceBEq, Nat.reduceAdd, reduceIte, Nat.reduceEqDiff, Nat.reduceLeDiff, Int.reduceEq, reduceCtorEq, Int.reduceBEq, Int.reduceBNe, Int.reduceLT, Int.reduceNeg, h', decide_false, List.take_length]
    refine .inr ⟨by simp, ?_⟩
    have hs : ∀ t ∈ dedup l, OkS t := fun t ht => ho t ((dedup_sub _).subset ht)
    have hlen : (dedup l).length ≤ 100000 := by have := dedup_len l; omega
    have ho : onceT l = if (dedup l).any (fun t => decide (rk t = 5)) then noK 1 (dedup l) else dedup l := rfl
    generalize dedup l = D at hs hlen ho
    refine cg_use (run107 (p := fun t => decide (rk t = 5)) (c := 110) (ts := D) (wr := true) (fl := true) (el := 23) rfl rfl rfl (by omega) (by decide) (fun t ht q => run110 rfl rfl (hs t ht) _ q) _) ?_
    rintro v H2 ⟨rfl, rfl⟩
    by_cases ha : D.any (fun t => decide (rk t = 5)) = true
    · rw [if_pos ha] at ho
      simp only [D0, ains, clsOf, abin, aint, aun, dnext, rowsOf, loadObj, cellsOf, ofCells, bnd, hmerge, Nat.reduceBEq, Nat.reduceAdd, reduceIte, Nat.reduceEqDiff, Nat.reduceLeDiff, Int.reduceEq, reduceCtorEq, Int.reduceBEq, Int.reduceBNe, Int.reduceLT, Int.reduceNeg, ha]
      refine cg_use (run111 (ts := D) (id := [1]) rfl rfl rfl rfl rfl rfl (by omega) hs 1 ?_) ?_
      · intro l e; simp at e
      rintro v H2 ⟨rfl, o, rfl⟩
      simp only [D0, ains, clsOf, abin, aint, aun, dnext, rowsOf, loadObj, cellsOf, ofCells, bnd, hmerge, Nat.reduceBEq, Nat.reduceAdd, reduceIte, Nat.reduceEqDiff, Nat.reduceLeDiff, Int.reduceEq, reduceCtorEq, Int.reduceBEq, Int.reduceBNe, Int.reduceLT, Int.reduceNeg]
      simp only [F1, bodyRes, one, ains, clsOf, abin, aint, aun, dnext, rowsOf, loadObj, cellsOf, ofCells, bnd, hmerge, Nat.reduceBEq, Nat.reduceAdd, reduceIte, Nat.reduceEqDiff, Nat.reduceLeDiff, Int.reduceEq, reduceCtorEq, Int.reduceBEq, Int.reduceBNe, Int.reduceLT, Int.reduceNeg, fn78_res, fn78_keep, ho]
    · have ha' : D.any (fun t => decide (rk t = 5)) = false := by simpa using ha
      rw [if_neg ha] at ho
      simp only [D0, ains, clsOf, abin, aint, aun, dnext, rowsOf, loadObj, cellsOf, ofCells, bnd, hmerge, Nat.reduceBEq, Nat.reduceAdd, reduceIte, Nat.reduceEqDiff, Nat.reduceLeDiff, Int.reduceEq, reduceCtorEq, Int.reduceBEq, Int.reduceBNe, Int.reduceLT, Int.reduceNeg, ha']
      simp only [F1, bodyRes, one, ains, clsOf, abin, aint, aun, dnext, rowsOf, loadObj, cellsOf, ofCells, bnd, hmerge, Nat.reduceBEq, Nat.reduceAdd, reduceIte, Nat.reduceEqDiff, Nat.reduceLeDiff, Int.reduceEq, reduceCtorEq, Int.reduceBEq, Int.reduceBNe, Int.reduceLT, Int.reduceNeg, fn78_res, fn78_keep, ho, fz, fzd, List.length_map]
noncomputable def k78 : Kon (List Tr) := ⟨fun x => (∀ t ∈ x, OkS t) ∧ x.length ≤ 100000, fun x => [(AV.list 1 (List.map eTr1 x))], fun x => (AV.list 1 (List.map eTr1 (onceT x)))⟩
theorem e78 (l : List Tr) (hd : (∀ t ∈ l, OkS t) ∧ l.length ≤ 100000) (q0 : Id) (H0 : Heap) : k78.ora q0 ([(AV.list 1 (List.map eTr1 l))]) H0 = some ((AV.list 1 (List.map eTr1 (onceT l))), H0) := k78.eqD (by dsimp only [k78]; intro l m hl hm h; simp only [List.cons.injEq, AV.list.injEq, and_true, true_and] at h; exact eTr1_inj hl.1 hm.1 h) (l) hd q0 H0
theorem ook78 : OraOK Try.prog (78 % 100000) k78.ora := k78.ok orders s4_ok (fun x hd => by simp [k78, PU, pure_eTr1]) (fun x hd => by simp [k78, PU, pure_eTr1]) (fun x hd => run78 x hd.1 hd.2)

noncomputable def s5 : FT := upd (s4) 78 k78.ora
theorem s5_ok : FTOK Try.prog s5 := upd_ok2 (f := 78) (s4_ok) ook78

end Go.Proofs.Abs
