/- A part of a proof: the text that states the row tells what is proved. No condition is laid on anything. -/
import Derived.Test.YtligpalonlliaaaGreatAbsY14
set_option linter.all false
set_option linter.constructorNameAsVariable false
set_option linter.defProp false
set_option linter.unusedVariables false
set_option linter.unusedSimpArgs false
set_option maxRecDepth 100000
set_option maxHeartbeats 16000000
namespace Go.Proofs.Abs
open Go
/-! 119: caesuraref03.put. -/
def putL : List Int → Int → List Int
  | [], v => [v]
  | x :: l, v => if x < v then x :: putL l v else if x = v then x :: l else v :: x :: l
theorem dropI {l : List Int} {j : Nat} (h : j < l.length) : l.drop j = l.getD j 0 :: l.drop (j + 1) := by
  rw [List.drop_eq_getElem_cons h]
  simp [List.getElem?_eq_getElem h]
theorem takeI {l : List Int} {j : Nat} (h : j < l.length) : l.take (j + 1) = l.take j ++ [l.getD j 0] := by
  rw [List.take_succ_eq_append_getElem h]
  simp [List.getElem?_eq_getElem h]
theorem run119 (l : List Int) (v : Int) (hl : l.length ≤ 1000000) : cwp s9 62 [] [(AV.list 1 (List.map (fun x => [AV.int .i64 x]) (l))), .int .i64 v] [] (fun r H => r = (AV.list 1 (List.map (fun x => [AV.int .i64 x]) (putL l v))) ∧ H = []) := by
  refine run_fn (fn := fn119) rfl rfl ?_
  simp only [fn119_body, c119, D0, ains, appG, clsOf, abin, aint, aun, dnext, rowsOf, loadObj, cellsOf, ofCells, bnd, hmerge, Nat.reduceBEq, Nat.reduceAdd, reduceIte, Nat.reduceEqDiff, Nat.reduceLeDiff, Int.reduceEq, reduceCtorEq, Int.reduceBEq, Int.reduceBNe, Int.reduceLT, Int.reduceNeg]
  refine lg_rule (fun j e H => e = [(0, (AV.list 1 (List.map (fun x => [AV.int .i64 x]) (l)))), (1, .int .i64 v), (4, .own [0] 0), (5, .int .i64 j)] ∧ H = [[([0], .row true true 3 1 [])]] ∧ j ≤ l.length ∧ putL l v = l.take j ++ putL (l.drop j) v) l.length ?_ ?_
  · exact ⟨rfl, rfl, by simp, rfl⟩
  rintro j e H ⟨rfl, rfl, hj, hpl⟩
  simp only [D0, ains, appG, clsOf, abin, aint, aun, dnext, rowsOf, loadObj, cellsOf, ofCells, bnd, hmerge, Nat.reduceBEq, Nat.reduceAdd, reduceIte, Nat.reduceEqDiff, Nat.reduceLeDiff, Int.reduceEq, reduceCtorEq, Int.reduceBEq, Int.reduceBNe, Int.reduceLT, Int.reduceNeg]
  by_cases h : j < l.length
  · have h' : (j : Int) < (l.length : Int) := by omega
    have hp := wrapp (j := j) (by omega)
    have hg := getI h
    have htk := takeI h
    have hdr := dropI h
    rw [hdr] at hpl
    simp only [putL] at hpl
    generalize l.getD j 0 = x at hg hpl htk hdr
    by_cases hlt : x < v
    · rw [if_pos hlt] at hpl
      simp only [D0, ains, appG, clsOf, abin, aint, aun, dnext, rowsOf, loadObj, cellsOf, ofCells, bnd, hmerge, Nat.reduceBEq, Nat.reduceAdd, reduceIte, Nat.reduceEqDiff, Nat.reduceLeDiff, Int.reduceEq, reduceCtorEq, Int.reduceBEq, Int.reduceBNe, Int.reduceLT, Int.reduceNeg, h', hg, hp, hlt, decide_true, Int.natCast_nonneg, Int.toNat_natCast]
      simp only [F1, bodyRes, one, ains, appG, clsOf, abin, aint, aun, dnext, rowsOf, loadObj, cellsOf, ofCells, bnd, hmerge, Nat.reduceBEq, Nat.reduceAdd, reduceIte, Nat.reduceEqDiff, Nat.reduceLeDiff, Int.reduceEq, reduceCtorEq, Int.reduceBEq, Int.reduceBNe, Int.reduceLT, Int.reduceNeg]
      exact ⟨h, h, by rw [hpl, htk]; simp⟩
    · rw [if_neg hlt] at hpl
      simp only [D0, ains, appG, clsOf, abin, aint, aun, dnext, rowsOf, loadObj, cellsOf, ofCells, bnd, hmerge, Nat.reduceBEq, Nat.reduceAdd, reduceIte, Nat.reduceEqDiff, Nat.reduceLeDiff, Int.reduceEq, reduceCtorEq, Int.reduceBEq, Int.reduceBNe, Int.reduceLT, Int.reduceNeg, h', hg, hp, hlt, decide_true, decide_false, Int.natCast_nonneg, Int.toNat_natCast]
      refine .inr ⟨by simp, ?_⟩
      by_cases he : x = v
      · rw [if_pos he] at hpl
        have hpv : putL l v = l := by
          rw [hpl, ← hdr, List.take_append_drop]
        subst he
        simp only [D0, ains, appG, clsOf, abin, aint, aun, dnext, rowsOf, loadObj, cellsOf, ofCells, bnd, hmerge, Nat.reduceBEq, Nat.reduceAdd, reduceIte, Nat.reduceEqDiff, Nat.reduceLeDiff, Int.reduceEq, reduceCtorEq, Int.reduceBEq, Int.reduceBNe, Int.reduceLT, Int.reduceNeg, h', hg, beq_self_eq_true, decide_true, Int.natCast_nonneg, Int.toNat_natCast]
        simp only [F1, bodyRes, one, ains, appG, clsOf, abin, aint, aun, dnext, rowsOf, loadObj, cellsOf, ofCells, bnd, hmerge, Nat.reduceBEq, Nat.reduceAdd, reduceIte, Nat.reduceEqDiff, Nat.reduceLeDiff, Int.reduceEq, reduceCtorEq, Int.reduceBEq, Int.reduceBNe, Int.reduceLT, Int.reduceNeg, fn119_res, fn119_keep, fz, fzd, fzd.fzcells, hpv]
      · rw [if_neg he] at hpl
        have he' : (x == v) = false := by simpa using he
        rw [← hdr] at hpl
        have hz : (0 : Int) ≤ 0 := Int.le_refl 0
        have hc1 : j * 8 ≤ 140737488355328 := by omega
        have hc2 : (j + 1) * 8 ≤ 140737488355328 := by omega
        have hc3 : (j + 1 + (l.length - j)) * 8 ≤ 140737488355328 := by omega
        have htl : (List.take j (List.map (fun x : Int => [AV.int .i64 x]) l)).length = j := by simp; omega
        have hdl : (List.drop j (List.map (fun x : Int => [AV.int .i64 x]) l)).length = l.length - j := by simp
        have htv : (List.take j (List.map (fun x : Int => [AV.int .i64 x]) l) ++ [[AV.int .i64 v]]).length = j + 1 := by rw [List.length_append, htl]; rfl
        have hta : List.take l.length (List.map (fun x : Int => [AV.int .i64 x]) l) = List.map (fun x : Int => [AV.int .i64 x]) l := List.take_of_length_le (by simp)
        have hfull : List.take j (List.map (fun x : Int => [AV.int .i64 x]) l) ++ [[AV.int .i64 v]] ++ List.drop j (List.map (fun x : Int => [AV.int .i64 x]) l) = List.map (fun x : Int => [AV.int .i64 x]) (putL l v) := by rw [hpl, List.map_append, List.map_cons, List.map_take, List.map_drop]; simp
        have hpn : (List.map (fun x : Int => [AV.int .i64 x]) (putL l v)).length = j + 1 + (l.length - j) := by rw [← hfull, List.length_append, htv, hdl]
        simp only [D0, ains, appG, clsOf, abin, aint, aun, dnext, rowsOf, loadObj, cellsOf, ofCells, bnd, hmerge, Nat.reduceBEq, Nat.reduceAdd, reduceIte, Nat.reduceEqDiff, Nat.reduceLeDiff, Int.reduceEq, reduceCtorEq, Int.reduceBEq, Int.reduceBNe, Int.reduceLT, Int.reduceNeg, h', hg, he', hz, hj, hc1, hc2, hc3, htl, hdl, hta, htv, Nat.zero_le, Nat.le_refl, and_self, List.drop_zero, List.nil_append, Nat.zero_add, hins, fins, idk, lrc_x, apx, apart, apart1, needs, decide_true, decide_false, Int.natCast_nonneg, Int.toNat_natCast, List.length_map]
        rw [hfull]
        simp only [F1, bodyRes, one, ains, appG, clsOf, abin, aint, aun, dnext, rowsOf, loadObj, cellsOf, ofCells, bnd, hmerge, Nat.reduceBEq, Nat.reduceAdd, reduceIte, Nat.reduceEqDiff, Nat.reduceLeDiff, Int.reduceEq, reduceCtorEq, Int.reduceBEq, Int.reduceBNe, Int.reduceLT, Int.reduceNeg, fn119_res, fn119_keep, fz, fzd, fzd.fzcells, hpn]
  · have h' : ¬ (j : Int) < (l.length : Int) := by omega
    have hjl : j = l.length := by omega
    have hpl : putL l v = l.take j ++ v :: l.drop j := by
      rw [hpl, List.drop_eq_nil_of_le (show l.length ≤ j by omega)]
      rfl
    simp only [D0, ains, appG, clsOf, abin, aint, aun, dnext, rowsOf, loadObj, cellsOf, ofCells, bnd, hmerge, Nat.reduceBEq, Nat.reduceAdd, reduceIte, Nat.reduceEqDiff, Nat.reduceLeDiff, Int.reduceEq, reduceCtorEq, Int.reduceBEq, Int.reduceBNe, Int.reduceLT, Int.reduceNeg, h', decide_false]
    refine .inr ⟨by simp, ?_⟩
    have hz : (0 : Int) ≤ 0 := Int.le_refl 0
    have hc1 : j * 8 ≤ 140737488355328 := by omega
    have hc2 : (j + 1) * 8 ≤ 140737488355328 := by omega
    have hc3 : (j + 1 + (l.length - j)) * 8 ≤ 140737488355328 := by omega
    have htl : (List.take j (List.map (fun x : Int => [AV.int .i64 x]) l)).length = j := by simp; omega
    have hdl : (List.drop j (List.map (fun x : Int => [AV.int .i64 x]) l)).length = l.length - j := by simp
    have htv : (List.take j (List.map (fun x : Int => [AV.int .i64 x]) l) ++ [[AV.int .i64 v]]).length = j + 1 := by rw [List.length_append, htl]; rfl
    have hta : List.take l.length (List.map (fun x : Int => [AV.int .i64 x]) l) = List.map (fun x : Int => [AV.int .i64 x]) l := List.take_of_length_le (by simp)
    have hfull : List.take j (List.map (fun x : Int => [AV.int .i64 x]) l) ++ [[AV.int .i64 v]] ++ List.drop j (List.map (fun x : Int => [AV.int .i64 x]) l) = List.map (fun x : Int => [AV.int .i64 x]) (putL l v) := by rw [hpl, List.map_append, List.map_cons, List.map_take, List.map_drop]; simp
    have hpn : (List.map (fun x : Int => [AV.int .i64 x]) (putL l v)).length = j + 1 + (l.length - j) := by rw [← hfull, List.length_append, htv, hdl]
    simp only [D0, ains, appG, clsOf, abin, aint, aun, dnext, rowsOf, loadObj, cellsOf, ofCells, bnd, hmerge, Nat.reduceBEq, Nat.reduceAdd, reduceIte, Nat.reduceEqDiff, Nat.reduceLeDiff, Int.reduceEq, reduceCtorEq, Int.reduceBEq, Int.reduceBNe, Int.reduceLT, Int.reduceNeg, h', hz, hj, hc1, hc2, hc3, htl, hdl, hta, htv, Nat.zero_le, Nat.le_refl, and_self, List.drop_zero, List.nil_append, Nat.zero_add, hins, fins, idk, lrc_x, apx, apart, apart1, needs, decide_true, decide_false, Int.natCast_nonneg, Int.toNat_natCast, List.length_map]
    rw [hfull]
    simp only [F1, bodyRes, one, ains, appG, clsOf, abin, aint, aun, dnext, rowsOf, loadObj, cellsOf, ofCells, bnd, hmerge, Nat.reduceBEq, Nat.reduceAdd, reduceIte, Nat.reduceEqDiff, Nat.reduceLeDiff, Int.reduceEq, reduceCtorEq, Int.reduceBEq, Int.reduceBNe, Int.reduceLT, Int.reduceNeg, fn119_res, fn119_keep, fz, fzd, fzd.fzcells, hpn]
theorem rowIntInj : ∀ x y : List Int × Int, [(AV.list 1 (List.map (fun x => [AV.int .i64 x]) (x.1))), AV.int .i64 x.2] = [(AV.list 1 (List.map (fun x => [AV.int .i64 x]) (y.1))), AV.int .i64 y.2] → x = y := by
  rintro ⟨a, m⟩ ⟨b, n⟩ h
  simp only [List.cons.injEq, AV.int.injEq, and_true, true_and] at h
  rw [eRow_inj (a := a) (b := b) h.1, h.2]
noncomputable def k119 : Kon (List Int × Int) := ⟨fun x => x.1.length ≤ 1000000, fun x => [(AV.list 1 (List.map (fun x => [AV.int .i64 x]) (x.1))), .int .i64 x.2], fun x => (AV.list 1 (List.map (fun x => [AV.int .i64 x]) (putL x.1 x.2)))⟩
theorem e119 (l : List Int) (v : Int) (hd : l.length ≤ 1000000) (q0 : Id) (H0 : Heap) : k119.ora q0 ([(AV.list 1 (List.map (fun x => [AV.int .i64 x]) (l))), .int .i64 v]) H0 = some ((AV.list 1 (List.map (fun x => [AV.int .i64 x]) (putL l v))), H0) := k119.eq (rowIntInj) (l, v) hd q0 H0
theorem ook119 : OraOK Tryz.prog (62 % 100000) k119.ora := k119.ok orders s9_ok (fun x hd => by simp [k119, PU]) (fun x hd => by simp [k119, PU]) (fun x hd => run119 x.1 x.2 hd)

end Go.Proofs.Abs
