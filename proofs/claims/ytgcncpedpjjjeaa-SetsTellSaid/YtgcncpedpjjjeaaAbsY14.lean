/- A part of a proof: the text that states the row tells what is proved. No condition is laid on anything. -/
import Derived.Test.YtgcncpedpjjjeaaAbsY13
set_option linter.all false
set_option linter.constructorNameAsVariable false
set_option linter.defProp false
set_option linter.unusedVariables false
set_option linter.unusedSimpArgs false
set_option maxRecDepth 100000
set_option maxHeartbeats 16000000
namespace Go.Proofs.Abs
open Go
noncomputable def s9 : FT := upd (s8) 61 k61.ora
theorem s9_ok : FTOK Try.prog s9 := upd_ok2 (f := 61) (s8_ok) ook61

/-! 65: caesuraref03.Less. -/
theorem run65 (a b : List R2) (la : a.length ≤ 9223372036854775807) (lb : b.length ≤ 9223372036854775807) : cwp s9 65 [] [(AV.list 2 (List.map (fun x => [AV.int .i64 x.1, AV.int .i64 x.2]) (a))), (AV.list 2 (List.map (fun x => [AV.int .i64 x.1, AV.int .i64 x.2]) (b)))] [] (fun r H => r = .bool (lessS a b) ∧ H = []) := by
  refine run_fn (fn := fn65) rfl rfl ?_
  simp only [fn65_body, c65, D0, ains, clsOf, abin, aint, aun, dnext, rowsOf, loadObj, cellsOf, ofCells, bnd, hmerge, Nat.reduceBEq, Nat.reduceAdd, reduceIte, Nat.reduceEqDiff, Nat.reduceLeDiff, Int.reduceEq, reduceCtorEq, Int.reduceBEq, Int.reduceBNe, Int.reduceLT, Int.reduceNeg]
  refine lg_rule (fun j e H => e = [(0, (AV.list 2 (List.map (fun x => [AV.int .i64 x.1, AV.int .i64 x.2]) (a)))), (1, (AV.list 2 (List.map (fun x => [AV.int .i64 x.1, AV.int .i64 x.2]) (b)))), (4, .bool false), (5, .int .i64 j)] ∧ H = [[]] ∧ j ≤ a.length ∧ j ≤ b.length ∧ lessS a b = lessS (a.drop j) (b.drop j)) a.length ?_ ?_
  · exact ⟨rfl, rfl, by simp, by simp, rfl⟩
  rintro j e H ⟨rfl, rfl, hj, hjb, hl⟩
  simp only [D0, ains, clsOf, abin, aint, aun, dnext, rowsOf, loadObj, cellsOf, ofCells, bnd, hmerge, Nat.reduceBEq, Nat.reduceAdd, reduceIte, Nat.reduceEqDiff, Nat.reduceLeDiff, Int.reduceEq, reduceCtorEq, Int.reduceBEq, Int.reduceBNe, Int.reduceLT, Int.reduceNeg]
  have fin : lessS (a.drop j) (b.drop j) = decide ((a.length : Int) < (b.length : Int)) → (j = a.length ∨ j = b.length) → lessS a b = decide ((a.length : Int) < (b.length : Int)) := fun h _ => hl.trans h
  by_cases h : j < a.length
  · have h' : (j : Int) < (a.length : Int) := by omega
    by_cases k : j < b.length
    · have k' : (j : Int) < (b.length : Int) := by omega
      have hp := wrapp (j := j) (by omega)
      have hga := map_get (f := fun x : Int × Int => [AV.int .i64 x.1, AV.int .i64 x.2]) h (0, 0)
      have hgb := map_get (f := fun x : Int × Int => [AV.int .i64 x.1, AV.int .i64 x.2]) k (0, 0)
      rw [drop_get h, drop_get k] at hl
      generalize a.getD j (0, 0) = x at hga hl
      generalize b.getD j (0, 0) = y at hgb hl
      obtain ⟨x1, x2⟩ := x
      obtain ⟨y1, y2⟩ := y
      have hlc := lessS_cons (x := (x1, x2)) (y := (y1, y2)) (a := a.drop (j + 1)) (b := b.drop (j + 1))
      rw [← hl] at hlc
      by_cases e1 : x1 = y1
      · by_cases e2 : x2 = y2
        · subst e1 e2
          have hl2 : lessS a b = lessS (a.drop (j + 1)) (b.drop (j + 1)) := by
            rw [Bool.eq_iff_iff, hlc]
            simp
          simp only [D0, ains, clsOf, abin, aint, aun, dnext, rowsOf, loadObj, cellsOf, ofCells, bnd, hmerge, Nat.reduceBEq, Nat.reduceAdd, reduceIte, Nat.reduceEqDiff, Nat.reduceLeDiff, Int.reduceEq, reduceCtorEq, Int.reduceBEq, Int.reduceBNe, Int.reduceLT, Int.reduceNeg, h', k', hga, hgb, hp, abins, acells, lrc_x, apx, apart, apart1, needs, beq_self_eq_true, Bool.and_self, Bool.not_true, decide_true, Int.natCast_nonneg, Int.toNat_natCast]
          simp only [F1, bodyRes, one, ains, clsOf, abin, aint, aun, dnext, rowsOf, loadObj, cellsOf, ofCells, bnd, hmerge, Nat.reduceBEq, Nat.reduceAdd, reduceIte, Nat.reduceEqDiff, Nat.reduceLeDiff, Int.reduceEq, reduceCtorEq, Int.reduceBEq, Int.reduceBNe, Int.reduceLT, Int.reduceNeg]
          exact ⟨h, h, k, hl2⟩
        · have e2' : (x2 == y2) = false := by simpa using e2
          subst e1
          have hv : lessS a b = decide (x2 < y2) := by
            rw [Bool.eq_iff_iff, hlc]
            simp [e2]
          have hlt : ¬ x1 < x1 := by omega
          simp only [D0, ains, clsOf, abin, aint, aun, dnext, rowsOf, loadObj, cellsOf, ofCells, bnd, hmerge, Nat.reduceBEq, Nat.reduceAdd, reduceIte, Nat.reduceEqDiff, Nat.reduceLeDiff, Int.reduceEq, reduceCtorEq, Int.reduceBEq, Int.reduceBNe, Int.reduceLT, Int.reduceNeg, h', k', hga, hgb, hp, e2', hlt, abins, acells, lrc_x, apx, apart, apart1, needs, beq_self_eq_true, Bool.and_false, Bool.not_false, decide_true, decide_false, Int.natCast_nonneg, Int.toNat_natCast]
          simp only [F1, bodyRes, one, ains, clsOf, abin, aint, aun, dnext, rowsOf, loadObj, cellsOf, ofCells, bnd, hmerge, Nat.reduceBEq, Nat.reduceAdd, reduceIte, Nat.reduceEqDiff, Nat.reduceLeDiff, Int.reduceEq, reduceCtorEq, Int.reduceBEq, Int.reduceBNe, Int.reduceLT, Int.reduceNeg, fn65_res, fn65_keep, hv]
      · have e1' : (x1 == y1) = false := by simpa using e1
        have hv : lessS a b = decide (x1 < y1) := by
          rw [Bool.eq_iff_iff, hlc]
          simp [e1]
        by_cases hlt : x1 < y1
        · simp only [D0, ains, clsOf, abin, aint, aun, dnext, rowsOf, loadObj, cellsOf, ofCells, bnd, hmerge, Nat.reduceBEq, Nat.reduceAdd, reduceIte, Nat.reduceEqDiff, Nat.reduceLeDiff, Int.reduceEq, reduceCtorEq, Int.reduceBEq, Int.reduceBNe, Int.reduceLT, Int.reduceNeg, h', k', hga, hgb, hp, e1', hlt, abins, acells, lrc_x, apx, apart, apart1, needs, Bool.false_and, Bool.not_false, decide_true, decide_false, Int.natCast_nonneg, Int.toNat_natCast]
          simp only [F1, bodyRes, one, ains, clsOf, abin, aint, aun, dnext, rowsOf, loadObj, cellsOf, ofCells, bnd, hmerge, Nat.reduceBEq, Nat.reduceAdd, reduceIte, Nat.reduceEqDiff, Nat.reduceLeDiff, Int.reduceEq, reduceCtorEq, Int.reduceBEq, Int.reduceBNe, Int.reduceLT, Int.reduceNeg, fn65_res, fn65_keep, hv, hlt, decide_true]
        · simp only [D0, ains, clsOf, abin, aint, aun, dnext, rowsOf, loadObj, cellsOf, ofCells, bnd, hmerge, Nat.reduceBEq, Nat.reduceAdd, reduceIte, Nat.reduceEqDiff, Nat.reduceLeDiff, Int.reduceEq, reduceCtorEq, Int.reduceBEq, Int.reduceBNe, Int.reduceLT, Int.reduceNeg, h', k', hga, hgb, hp, e1', hlt, abins, acells, lrc_x, apx, apart, apart1, needs, Bool.false_and, Bool.not_false, decide_true, decide_false, Int.natCast_nonneg, Int.toNat_natCast]
          simp only [F1, bodyRes, one, ains, clsOf, abin, aint, aun, dnext, rowsOf, loadObj, cellsOf, ofCells, bnd, hmerge, Nat.reduceBEq, Nat.reduceAdd, reduceIte, Nat.reduceEqDiff, Nat.reduceLeDiff, Int.reduceEq, reduceCtorEq, Int.reduceBEq, Int.reduceBNe, Int.reduceLT, Int.reduceNeg, fn65_res, fn65_keep, hv, hlt, decide_false]
    · have k' : ¬ (j : Int) < (b.length : Int) := by omega
      have hlb : ¬ (a.length : Int) < (b.length : Int) := by omega
      have hv : lessS a b = false := by rw [hl, List.drop_eq_nil_of_le (show b.length ≤ j by omega), lessS_nil2]
      simp only [D0, ains, clsOf, abin, aint, aun, dnext, rowsOf, loadObj, cellsOf, ofCells, bnd, hmerge, Nat.reduceBEq, Nat.reduceAdd, reduceIte, Nat.reduceEqDiff, Nat.reduceLeDiff, Int.reduceEq, reduceCtorEq, Int.reduceBEq, Int.reduceBNe, Int.reduceLT, Int.reduceNeg, h', k', hlb, decide_true, decide_false]
      refine .inr ⟨by simp, ?_⟩
      simp only [F1, bodyRes, one, ains, clsOf, abin, aint, aun, dnext, rowsOf, loadObj, cellsOf, ofCells, bnd, hmerge, Nat.reduceBEq, Nat.reduceAdd, reduceIte, Nat.reduceEqDiff, Nat.reduceLeDiff, Int.reduceEq, reduceCtorEq, Int.reduceBEq, Int.reduceBNe, Int.reduceLT, Int.reduceNeg, fn65_res, fn65_keep, hv, hlb, decide_false]
  · have h' : ¬ (j : Int) < (a.length : Int) := by omega
    have hja : j = a.length := by omega
    subst hja
    rw [List.drop_length] at hl
    simp only [D0, ains, clsOf, abin, aint, aun, dnext, rowsOf, loadObj, cellsOf, ofCells, bnd, hmerge, Nat.reduceBEq, Nat.reduceAdd, reduceIte, Nat.reduceEqDiff, Nat.reduceLeDiff, Int.reduceEq, reduceCtorEq, Int.reduceBEq, Int.reduceBNe, Int.reduceLT, Int.reduceNeg, h', decide_false]
    refine .inr ⟨by simp, ?_⟩
    have hv : lessS a b = decide ((a.length : Int) < (b.length : Int)) := by
      rw [hl, Bool.eq_iff_iff, lessS_nil, decide_eq_true_eq]
      constructor
      · intro hn
        have : 0 < (b.drop a.length).length := List.length_pos_iff.2 hn
        simp at this
        omega
      · intro hlt hn
        have : (b.drop a.length).length = 0 := by rw [hn]; rfl
        simp at this
        omega
    simp only [F1, bodyRes, one, ains, clsOf, abin, aint, aun, dnext, rowsOf, loadObj, cellsOf, ofCells, bnd, hmerge, Nat.reduceBEq, Nat.reduceAdd, reduceIte, Nat.reduceEqDiff, Nat.reduceLeDiff, Int.reduceEq, reduceCtorEq, Int.reduceBEq, Int.reduceBNe, Int.reduceLT, Int.reduceNeg, fn65_res, fn65_keep, hv]
noncomputable def k65 : Kon ((List (Int × Int)) × (List (Int × Int))) := ⟨fun x => x.1.length ≤ 9223372036854775807 ∧ x.2.length ≤ 9223372036854775807, fun x => [(AV.list 2 (List.map (fun x => [AV.int .i64 x.1, AV.int .i64 x.2]) (x.1))), (AV.list 2 (List.map (fun x => [AV.int .i64 x.1, AV.int .i64 x.2]) (x.2)))], fun x => .bool (lessS x.1 x.2)⟩
theorem e65 (a : List (Int × Int)) (b : List (Int × Int)) (hd : a.length ≤ 9223372036854775807 ∧ b.length ≤ 9223372036854775807) (q0 : Id) (H0 : Heap) : k65.ora q0 ([(AV.list 2 (List.map (fun x => [AV.int .i64 x.1, AV.int .i64 x.2]) (a))), (AV.list 2 (List.map (fun x => [AV.int .i64 x.1, AV.int .i64 x.2]) (b)))]) H0 = some (.bool (lessS a b), H0) := k65.eq (set2Inj) (a, b) hd q0 H0
theorem ook65 : OraOK Try.prog (65 % 100000) k65.ora := k65.ok orders s9_ok (fun x hd => by simp [k65, PU]) (fun x hd => by simp [k65, PU]) (fun x hd => run65 x.1 x.2 hd.1 hd.2)

end Go.Proofs.Abs
