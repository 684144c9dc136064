/- A part of a proof: the text that states the row tells what is proved. No condition is laid on anything. -/
import Derived.Test.YtgcncpedpjjjeaaAbsY1
import Derived.Test.YtgcncpedpjjjeaaAbsY3
import Derived.Test.YtgcncpedpjjjeaaAbsY4
import Derived.Test.YtgcncpedpjjjeaaAbsW47
set_option linter.all false
set_option linter.constructorNameAsVariable false
set_option linter.defProp false
set_option linter.unusedVariables false
set_option linter.unusedSimpArgs false
set_option maxRecDepth 100000
set_option maxHeartbeats 16000000
namespace Go.Proofs.Abs
open Go
noncomputable def s0 : FT := upd t4 47 kW.ora
theorem s0_ok : FTOK Try.prog s0 := upd_ok2 (f := 47) t4_ok ook47
noncomputable def s1 : FT := upd (upd (upd (upd (upd (s0) 48 k48.ora) 58 k58.ora) 62 k62.ora) 63 k63.ora) 64 k64.ora
theorem s1_ok : FTOK Try.prog s1 := upd_ok2 (f := 64) (upd_ok2 (f := 63) (upd_ok2 (f := 62) (upd_ok2 (f := 58) (upd_ok2 (f := 48) (s0_ok) ook48) ook58) ook62) ook63) ook64

/-! 15: caesuralaw03.SetsOf. -/
def badS (l : List R2) : Bool := l.any fun r => !wholeS r
def inS (v : Int) (l : List R2) : Bool := l.any (inR v)
theorem inS_iff {v : Int} {l : List R2} : inS v l = true ↔ memS l v := by simp [inS, memS, inR]
theorem badS_iff {l : List R2} : badS l = false ↔ ∀ r ∈ l, wholeS r = true := by simp [badS]
theorem badS_snoc (l : List R2) (r : R2) : badS (l ++ [r]) = (badS l || !wholeS r) := by simp [badS]
theorem inS_snoc (v : Int) (l : List R2) (r : R2) : inS v (l ++ [r]) = (inS v l || inR v r) := by simp [inS]
theorem hasS_iff {s : List R2} {v : Int} : hasS s v = (goodS s && isS v && inS v s) := by
  unfold hasS
  congr 1
  rw [Bool.eq_iff_iff, inS_iff, List.any_eq_true]
  constructor
  · rintro ⟨i, hi, h⟩
    have hi := List.mem_range.1 hi
    rw [getD_eq hi] at h
    exact ⟨_, List.getElem_mem hi, by simpa [inR] using h⟩
  · rintro ⟨r, hr, h⟩
    obtain ⟨i, hi, rfl⟩ := List.getElem_of_mem hr
    exact ⟨i, List.mem_range.2 hi, by rw [getD_eq hi]; simpa [inR] using h⟩
theorem run15 (l : List R2) (v : Int) (hw : WfS l) (hv : I64 v) : cwp s1 15 [] [(AV.list 2 (List.map (fun x => [AV.int .i64 x.1, AV.int .i64 x.2]) (l))), .int .i64 v] [] (fun r H => r = .bool true ∧ H = []) := by
  refine run_fn (fn := fn15) rfl rfl ?_
  by_cases hl : l.length > 60
  · have hl' : (l.length : Int) > 60 := by omega
    simp only [fn15_body, c15, D0, ains, clsOf, abin, aint, aun, dnext, rowsOf, loadObj, cellsOf, ofCells, bnd, hmerge, Nat.reduceBEq, Nat.reduceAdd, reduceIte, Nat.reduceEqDiff, Nat.reduceLeDiff, Int.reduceEq, reduceCtorEq, Int.reduceBEq, Int.reduceBNe, Int.reduceLT, Int.reduceNeg, @use_all s1 47 kW.ora rfl, eW, hl', decide_true]
    simp only [F1, bodyRes, one, ains, clsOf, abin, aint, aun, dnext, rowsOf, loadObj, cellsOf, ofCells, bnd, hmerge, Nat.reduceBEq, Nat.reduceAdd, reduceIte, Nat.reduceEqDiff, Nat.reduceLeDiff, Int.reduceEq, reduceCtorEq, Int.reduceBEq, Int.reduceBNe, Int.reduceLT, Int.reduceNeg, fn15_res, fn15_keep]
  have hl' : ¬ (l.length : Int) > 60 := by omega
  have hlm : l.length ≤ 1000000 := by omega
  simp only [fn15_body, c15, D0, ains, clsOf, abin, aint, aun, dnext, rowsOf, loadObj, cellsOf, ofCells, bnd, hmerge, Nat.reduceBEq, Nat.reduceAdd, reduceIte, Nat.reduceEqDiff, Nat.reduceLeDiff, Int.reduceEq, reduceCtorEq, Int.reduceBEq, Int.reduceBNe, Int.reduceLT, Int.reduceNeg, @use_all s1 48 k48.ora rfl, e48, hl', hlm, decide_false]
  refine lg_rule (fun j e H => e = [(0, (AV.list 2 (List.map (fun x => [AV.int .i64 x.1, AV.int .i64 x.2]) (l)))), (1, .int .i64 v), (4, .bool false), (5, (AV.list 2 (List.map (fun x => [AV.int .i64 x.1, AV.int .i64 x.2]) (ofV l)))), (6, .bool (ofB l)), (7, .bool (badS (l.take j))), (8, .bool (inS v (l.take j))), (9, .int .i64 j)] ∧ H = [[]] ∧ j ≤ l.length) l.length ?_ ?_
  · exact ⟨rfl, rfl, by simp⟩
  rintro j e H ⟨rfl, rfl, hj⟩
  simp only [D0, ains, clsOf, abin, aint, aun, dnext, rowsOf, loadObj, cellsOf, ofCells, bnd, hmerge, Nat.reduceBEq, Nat.reduceAdd, reduceIte, Nat.reduceEqDiff, Nat.reduceLeDiff, Int.reduceEq, reduceCtorEq, Int.reduceBEq, Int.reduceBNe, Int.reduceLT, Int.reduceNeg]
  by_cases h : j < l.length
  · have h' : (j : Int) < (l.length : Int) := by omega
    have hg := map_get (f := fun x : Int × Int => [AV.int .i64 x.1, AV.int .i64 x.2]) h (0, 0)
    have hp := wrapp (j := j) (by omega)
    have hb := badS_snoc (l.take j) (l.getD j (0, 0))
    have hi := inS_snoc v (l.take j) (l.getD j (0, 0))
    rw [← take_snoc h] at hb hi
    generalize l.getD j (0, 0) = r at hg hb hi
    generalize badS (l.take (j + 1)) = b1 at hb ⊢
    generalize inS v (l.take (j + 1)) = i1 at hi ⊢
    generalize badS (l.take j) = b0 at hb ⊢
    generalize inS v (l.take j) = i0 at hi ⊢
    obtain ⟨a, b⟩ := r
    simp only [D0, ains, clsOf, abin, aint, aun, dnext, rowsOf, loadObj, cellsOf, ofCells, bnd, hmerge, Nat.reduceBEq, Nat.reduceAdd, reduceIte, Nat.reduceEqDiff, Nat.reduceLeDiff, Int.reduceEq, reduceCtorEq, Int.reduceBEq, Int.reduceBNe, Int.reduceLT, Int.reduceNeg, @use_all s1 66 k66.ora rfl, e66, h', hg, hp, lrc_x, apx, apart, apart1, needs, decide_true, Int.natCast_nonneg, Int.toNat_natCast]
    repeat' ((first | refine rw1_nsplit (fun h => ?_) (fun h => ?_) | refine rw1_split (fun h => ?_) (fun h => ?_) | refine dw1_nsplit (fun h => ?_) (fun h => ?_) | refine dw1_split (fun h => ?_) (fun h => ?_) | refine cg2_nsplit (fun h => ?_) (fun h => ?_) | refine cg2_split (fun h => ?_) (fun h => ?_)) <;> simp only [D0, ains, clsOf, abin, aint, aun, dnext, rowsOf, loadObj, cellsOf, ofCells, bnd, hmerge, Nat.reduceBEq, Nat.reduceAdd, reduceIte, Nat.reduceEqDiff, Nat.reduceLeDiff, Int.reduceEq, reduceCtorEq, Int.reduceBEq, Int.reduceBNe, Int.reduceLT, Int.reduceNeg, h, @use_all s1 66 k66.ora rfl, e66, h', hg, hp, lrc_x, apx, apart, apart1, needs, decide_true, Int.natCast_nonneg, Int.toNat_natCast])
    all_goals simp only [F1, bodyRes, one, ains, clsOf, abin, aint, aun, dnext, rowsOf, loadObj, cellsOf, ofCells, bnd, hmerge, Nat.reduceBEq, Nat.reduceAdd, reduceIte, Nat.reduceEqDiff, Nat.reduceLeDiff, Int.reduceEq, reduceCtorEq, Int.reduceBEq, Int.reduceBNe, Int.reduceLT, Int.reduceNeg]
    all_goals clear hg hp
    all_goals refine ⟨by omega, ⟨?_, ?_⟩, by omega⟩
    all_goals first
      | (rw [hi]; clear hi hb; simp_all [inR]; try (intros; omega); done)
      | (rw [hb]; clear hi hb; simp_all [wholeS]; done)
      | (rw [hb]; clear hi hb; simp_all [wholeS]; rw [Bool.eq_iff_iff]; simp; done)
  · have h' : ¬ (j : Int) < (l.length : Int) := by omega
    have hjl : j = l.length := by omega
    subst hjl
    simp only [List.take_length, D0, ains, clsOf, abin, aint, aun, dnext, rowsOf, loadObj, cellsOf, ofCells, bnd, hmerge, Nat.reduceBEq, Nat.reduceAdd, reduceIte, Nat.reduceEqDiff, Nat.reduceLeDiff, Int.reduceEq, reduceCtorEq, Int.reduceBEq, Int.reduceBNe, Int.reduceLT, Int.reduceNeg, h', decide_false]
    refine .inr ⟨by simp, ?_⟩
    by_cases hbad : badS l = true
    · have hex : ∃ r ∈ l, wholeS r = false := by simpa [badS] using hbad
      obtain ⟨r, hr, hrw⟩ := hex
      obtain ⟨e1, e2⟩ := of_bad hr hrw
      have hz : (((0 : Nat) : Int) == 0) = true := rfl
      simp only [D0, ains, clsOf, abin, aint, aun, dnext, rowsOf, loadObj, cellsOf, ofCells, bnd, hmerge, Nat.reduceBEq, Nat.reduceAdd, reduceIte, Nat.reduceEqDiff, Nat.reduceLeDiff, Int.reduceEq, reduceCtorEq, Int.reduceBEq, Int.reduceBNe, Int.reduceLT, Int.reduceNeg, e1, e2, hbad, hz, List.map_nil, List.length_nil, @use_all s1 47 kW.ora rfl, eW, beq_self_eq_true, Bool.false_beq, Bool.not_true, Bool.not_false]
      simp only [F1, bodyRes, one, ains, clsOf, abin, aint, aun, dnext, rowsOf, loadObj, cellsOf, ofCells, bnd, hmerge, Nat.reduceBEq, Nat.reduceAdd, reduceIte, Nat.reduceEqDiff, Nat.reduceLeDiff, Int.reduceEq, reduceCtorEq, Int.reduceBEq, Int.reduceBNe, Int.reduceLT, Int.reduceNeg, fn15_res, fn15_keep]
    · have hbad' : badS l = false := by simpa using hbad
      obtain ⟨e1, e2, e3, e4⟩ := of_good (badS_iff.1 hbad')
      have g := (gdL_iff _).2 e2
      have hh : hasS (ofV l) v = (inS v l && isS v) := by
        rw [hasS_iff, g, Bool.true_and]
        cases iv : isS v with
        | false => simp
        | true =>
          rw [Bool.true_and, Bool.and_true, Bool.eq_iff_iff, inS_iff, inS_iff]
          exact e3 v iv
      have d1 : (ofV l).length ≤ 9223372036854775807 := by omega
      have d2 : ((ofV l).length : Int) ≤ (l.length : Int) := by omega
      cases hin : inS v l
      all_goals simp only [D0, ains, clsOf, abin, aint, aun, dnext, rowsOf, loadObj, cellsOf, ofCells, bnd, hmerge, Nat.reduceBEq, Nat.reduceAdd, reduceIte, Nat.reduceEqDiff, Nat.reduceLeDiff, Int.reduceEq, reduceCtorEq, Int.reduceBEq, Int.reduceBNe, Int.reduceLT, Int.reduceNeg, e1, hbad', @use_all s1 56 k56.ora rfl, e56, @use_all s1 57 k57.ora rfl, e57, @use_all s1 58 k58.ora rfl, e58, @use_all s1 66 k66.ora rfl, e66, d1, d2, g, hh, hin, @use_all s1 47 kW.ora rfl, eW, decide_true, beq_self_eq_true, Bool.true_beq, Bool.not_true, Bool.not_false, Bool.false_and, Bool.true_and]
      all_goals simp only [F1, bodyRes, one, ains, clsOf, abin, aint, aun, dnext, rowsOf, loadObj, cellsOf, ofCells, bnd, hmerge, Nat.reduceBEq, Nat.reduceAdd, reduceIte, Nat.reduceEqDiff, Nat.reduceLeDiff, Int.reduceEq, reduceCtorEq, Int.reduceBEq, Int.reduceBNe, Int.reduceLT, Int.reduceNeg, fn15_res, fn15_keep]
end Go.Proofs.Abs
