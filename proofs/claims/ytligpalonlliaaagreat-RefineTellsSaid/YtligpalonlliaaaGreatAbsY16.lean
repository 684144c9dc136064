/- A part of a proof: the text that states the row tells what is proved. No condition is laid on anything. -/
import Derived.Test.YtligpalonlliaaaGreatAbsY15
set_option linter.all false
set_option linter.constructorNameAsVariable false
set_option linter.defProp false
set_option linter.unusedVariables false
set_option linter.unusedSimpArgs false
set_option maxRecDepth 100000
set_option maxHeartbeats 16000000
namespace Go.Proofs.Abs
open Go
/-! 93: caesuraref03.starts. -/
noncomputable def s10 : FT := upd (s9) 62 k119.ora
theorem s10_ok : FTOK Tryz.prog s10 := upd_ok2 (f := 62) (s9_ok) ook119

def stA (out : List Int) (r : R2) : List Int := if nextB r.2 then putL (putL out r.1) (nextV r.2) else putL out r.1
def startsL (l : List R2) : List Int := l.foldl stA [0]
theorem putL_length : ∀ (l : List Int) (v : Int), (putL l v).length ≤ l.length + 1
  | [], v => by simp [putL]
  | x :: l, v => by
    have := putL_length l v
    simp only [putL]
    repeat' split
    all_goals simp only [List.length_cons]; omega
theorem stA_length (out : List Int) (r : R2) : (stA out r).length ≤ out.length + 2 := by
  have h1 := putL_length out r.1
  have h2 := putL_length (putL out r.1) (nextV r.2)
  unfold stA
  split <;> omega
theorem startsL_snoc (l : List R2) (r : R2) : startsL (l ++ [r]) = stA (startsL l) r := by simp [startsL]
theorem startsL_length (l : List R2) : (startsL l).length ≤ 1 + 2 * l.length := by
  suffices h : ∀ (l : List R2) (o : List Int), (l.foldl stA o).length ≤ o.length + 2 * l.length by
    have := h l [0]
    simpa [startsL] using this
  intro l
  induction l with
  | nil => intro o; simp
  | cons r l ih =>
    intro o
    have h1 := ih (stA o r)
    have h2 := stA_length o r
    simp only [List.foldl_cons, List.length_cons]
    omega
theorem e119z (v : Int) (q0 : Id) (H0 : Heap) : k119.ora q0 [.list 1 [[.int .i64 0]], .int .i64 v] H0 = some ((AV.list 1 (List.map (fun x => [AV.int .i64 x]) (putL [0] v))), H0) := e119 [0] v (by simp) q0 H0
theorem run93 (l : List R2) (hl : l.length ≤ 1000) : cwp s10 44 [] [(AV.list 2 (List.map (fun x => [AV.int .i64 x.1, AV.int .i64 x.2]) (l)))] [] (fun r H => r = (AV.list 1 (List.map (fun x => [AV.int .i64 x]) (startsL l))) ∧ H = []) := by
  refine run_fn (fn := fn93) rfl rfl ?_
  simp only [fn93_body, c93, D0, ains, appG, clsOf, abin, aint, aun, dnext, rowsOf, loadObj, cellsOf, ofCells, bnd, hmerge, Nat.reduceBEq, Nat.reduceAdd, reduceIte, Nat.reduceEqDiff, Nat.reduceLeDiff, Int.reduceEq, reduceCtorEq, Int.reduceBEq, Int.reduceBNe, Int.reduceLT, Int.reduceNeg]
  refine lg_rule (fun j e H => j ≤ l.length ∧ ∃ o3, e = [(0, (AV.list 2 (List.map (fun x => [AV.int .i64 x.1, AV.int .i64 x.2]) (l)))), (2, .own [0] 0), (3, o3), (4, .int .i64 j)] ∧ ((j = 0 ∧ o3 = .own [1] 1 ∧ H = [[([1], .row true true 3 1 [[.int .i64 0]]), ([0], .row true true 3 1 [])]]) ∨ (0 < j ∧ o3 = (AV.list 1 (List.map (fun x => [AV.int .i64 x]) (startsL (l.take j)))) ∧ H = [[([1], .row false true 3 1 [[.int .i64 0]]), ([0], .row true true 3 1 [])]]))) l.length ?_ ?_
  · exact ⟨by simp, _, rfl, .inl ⟨rfl, rfl, rfl⟩⟩
  rintro j e H ⟨hj, o3, rfl, hcase⟩
  by_cases h : j < l.length
  · have h' : (j : Int) < (l.length : Int) := by omega
    have hp := wrapp (j := j) (by omega)
    have hg := map_get (f := fun x : Int × Int => [AV.int .i64 x.1, AV.int .i64 x.2]) h (0, 0)
    have hst := startsL_snoc (l.take j) (l.getD j (0, 0))
    rw [← take_snoc h] at hst
    generalize l.getD j (0, 0) = r at hg hst
    obtain ⟨a, b⟩ := r
    have hl0 := startsL_length (l.take j)
    have hl00 : (l.take j).length ≤ 1000 := by simp; omega
    have hl1 : (startsL (l.take j)).length ≤ 1000000 := by omega
    have hl2 : (putL (startsL (l.take j)) a).length ≤ 1000000 := by have := putL_length (startsL (l.take j)) a; omega
    rcases hcase with ⟨rfl, rfl, rfl⟩ | ⟨h0, rfl, rfl⟩
    · have hs0 : startsL (l.take 0) = [0] := rfl
      rw [hs0] at hl1 hl2
      cases hb : nextB b with
      | true =>
        have hst2 : stA (startsL (l.take 0)) (a, b) = putL (putL (startsL (l.take 0)) a) (nextV b) := by simp [stA, hb]
        rw [hst2] at hst
        simp only [D0, ains, appG, clsOf, abin, aint, aun, dnext, rowsOf, loadObj, cellsOf, ofCells, bnd, hmerge, Nat.reduceBEq, Nat.reduceAdd, reduceIte, Nat.reduceEqDiff, Nat.reduceLeDiff, Int.reduceEq, reduceCtorEq, Int.reduceBEq, Int.reduceBNe, Int.reduceLT, Int.reduceNeg, @use_all s10 62 k119.ora rfl, e119, @use_all s10 42 k96.ora rfl, e96, e119z, h', hg, hp, hb, hl1, hl2, fz, fzd, decide_true, Int.natCast_nonneg, Int.toNat_natCast]
        simp only [F1, bodyRes, one, ains, appG, clsOf, abin, aint, aun, dnext, rowsOf, loadObj, cellsOf, ofCells, bnd, hmerge, Nat.reduceBEq, Nat.reduceAdd, reduceIte, Nat.reduceEqDiff, Nat.reduceLeDiff, Int.reduceEq, reduceCtorEq, Int.reduceBEq, Int.reduceBNe, Int.reduceLT, Int.reduceNeg]
        exact ⟨h, h, _, rfl, by omega, by first | (rw [hst, hs0]; done) | (rw [hst]; done) | (rw [show (1 : Nat) = 0 + 1 from rfl, hst]; rfl)⟩
      | false =>
        have hst2 : stA (startsL (l.take 0)) (a, b) = putL (startsL (l.take 0)) a := by simp [stA, hb]
        rw [hst2] at hst
        simp only [D0, ains, appG, clsOf, abin, aint, aun, dnext, rowsOf, loadObj, cellsOf, ofCells, bnd, hmerge, Nat.reduceBEq, Nat.reduceAdd, reduceIte, Nat.reduceEqDiff, Nat.reduceLeDiff, Int.reduceEq, reduceCtorEq, Int.reduceBEq, Int.reduceBNe, Int.reduceLT, Int.reduceNeg, @use_all s10 62 k119.ora rfl, e119, @use_all s10 42 k96.ora rfl, e96, e119z, h', hg, hp, hb, hl1, hl2, fz, fzd, decide_true, Int.natCast_nonneg, Int.toNat_natCast]
        simp only [F1, bodyRes, one, ains, appG, clsOf, abin, aint, aun, dnext, rowsOf, loadObj, cellsOf, ofCells, bnd, hmerge, Nat.reduceBEq, Nat.reduceAdd, reduceIte, Nat.reduceEqDiff, Nat.reduceLeDiff, Int.reduceEq, reduceCtorEq, Int.reduceBEq, Int.reduceBNe, Int.reduceLT, Int.reduceNeg]
        exact ⟨h, h, _, rfl, by omega, by first | (rw [hst, hs0]; done) | (rw [hst]; done) | (rw [show (1 : Nat) = 0 + 1 from rfl, hst]; rfl)⟩
    · cases hb : nextB b with
      | true =>
        have hst2 : stA (startsL (l.take j)) (a, b) = putL (putL (startsL (l.take j)) a) (nextV b) := by simp [stA, hb]
        rw [hst2] at hst
        simp only [D0, ains, appG, clsOf, abin, aint, aun, dnext, rowsOf, loadObj, cellsOf, ofCells, bnd, hmerge, Nat.reduceBEq, Nat.reduceAdd, reduceIte, Nat.reduceEqDiff, Nat.reduceLeDiff, Int.reduceEq, reduceCtorEq, Int.reduceBEq, Int.reduceBNe, Int.reduceLT, Int.reduceNeg, @use_all s10 62 k119.ora rfl, e119, @use_all s10 42 k96.ora rfl, e96, e119z, h', hg, hp, hb, hl1, hl2, fz, fzd, decide_true, Int.natCast_nonneg, Int.toNat_natCast]
        simp only [F1, bodyRes, one, ains, appG, clsOf, abin, aint, aun, dnext, rowsOf, loadObj, cellsOf, ofCells, bnd, hmerge, Nat.reduceBEq, Nat.reduceAdd, reduceIte, Nat.reduceEqDiff, Nat.reduceLeDiff, Int.reduceEq, reduceCtorEq, Int.reduceBEq, Int.reduceBNe, Int.reduceLT, Int.reduceNeg]
        exact ⟨h, h, _, rfl, by omega, by first | (rw [hst, hs0]; done) | (rw [hst]; done) | (rw [show (1 : Nat) = 0 + 1 from rfl, hst]; rfl)⟩
      | false =>
        have hst2 : stA (startsL (l.take j)) (a, b) = putL (startsL (l.take j)) a := by simp [stA, hb]
        rw [hst2] at hst
        simp only [D0, ains, appG, clsOf, abin, aint, aun, dnext, rowsOf, loadObj, cellsOf, ofCells, bnd, hmerge, Nat.reduceBEq, Nat.reduceAdd, reduceIte, Nat.reduceEqDiff, Nat.reduceLeDiff, Int.reduceEq, reduceCtorEq, Int.reduceBEq, Int.reduceBNe, Int.reduceLT, Int.reduceNeg, @use_all s10 62 k119.ora rfl, e119, @use_all s10 42 k96.ora rfl, e96, e119z, h', hg, hp, hb, hl1, hl2, fz, fzd, decide_true, Int.natCast_nonneg, Int.toNat_natCast]
        simp only [F1, bodyRes, one, ains, appG, clsOf, abin, aint, aun, dnext, rowsOf, loadObj, cellsOf, ofCells, bnd, hmerge, Nat.reduceBEq, Nat.reduceAdd, reduceIte, Nat.reduceEqDiff, Nat.reduceLeDiff, Int.reduceEq, reduceCtorEq, Int.reduceBEq, Int.reduceBNe, Int.reduceLT, Int.reduceNeg]
        exact ⟨h, h, _, rfl, by omega, by first | (rw [hst, hs0]; done) | (rw [hst]; done) | (rw [show (1 : Nat) = 0 + 1 from rfl, hst]; rfl)⟩
  · have h' : ¬ (j : Int) < (l.length : Int) := by omega
    have hjl : j = l.length := by omega
    subst hjl
    rw [List.take_length] at hcase
    simp only [D0, ains, appG, clsOf, abin, aint, aun, dnext, rowsOf, loadObj, cellsOf, ofCells, bnd, hmerge, Nat.reduceBEq, Nat.reduceAdd, reduceIte, Nat.reduceEqDiff, Nat.reduceLeDiff, Int.reduceEq, reduceCtorEq, Int.reduceBEq, Int.reduceBNe, Int.reduceLT, Int.reduceNeg, h', decide_false]
    refine .inr ⟨by simp, ?_⟩
    rcases hcase with ⟨h0, rfl, rfl⟩ | ⟨h0, rfl, rfl⟩
    · have : l = [] := List.eq_nil_of_length_eq_zero h0
      subst this
      simp only [F1, bodyRes, one, ains, appG, clsOf, abin, aint, aun, dnext, rowsOf, loadObj, cellsOf, ofCells, bnd, hmerge, Nat.reduceBEq, Nat.reduceAdd, reduceIte, Nat.reduceEqDiff, Nat.reduceLeDiff, Int.reduceEq, reduceCtorEq, Int.reduceBEq, Int.reduceBNe, Int.reduceLT, Int.reduceNeg, fn93_res, fn93_keep, fz, fzd, fzd.fzcells]
      rfl
    · simp only [F1, bodyRes, one, ains, appG, clsOf, abin, aint, aun, dnext, rowsOf, loadObj, cellsOf, ofCells, bnd, hmerge, Nat.reduceBEq, Nat.reduceAdd, reduceIte, Nat.reduceEqDiff, Nat.reduceLeDiff, Int.reduceEq, reduceCtorEq, Int.reduceBEq, Int.reduceBNe, Int.reduceLT, Int.reduceNeg, fn93_res, fn93_keep, fz, fzd, fzd.fzcells]
noncomputable def k93 : Kon ((List (Int × Int))) := ⟨fun x => x.length ≤ 1000, fun x => [(AV.list 2 (List.map (fun x => [AV.int .i64 x.1, AV.int .i64 x.2]) (x)))], fun x => (AV.list 1 (List.map (fun x => [AV.int .i64 x]) (startsL x)))⟩
theorem e93 (l : List (Int × Int)) (hd : l.length ≤ 1000) (q0 : Id) (H0 : Heap) : k93.ora q0 ([(AV.list 2 (List.map (fun x => [AV.int .i64 x.1, AV.int .i64 x.2]) (l)))]) H0 = some ((AV.list 1 (List.map (fun x => [AV.int .i64 x]) (startsL l))), H0) := k93.eq (setInj) (l) hd q0 H0
theorem ook93 : OraOK Tryz.prog (44 % 100000) k93.ora := k93.ok orders s10_ok (fun x hd => by simp [k93, PU]) (fun x hd => by simp [k93, PU]) (fun x hd => run93 x hd)

end Go.Proofs.Abs
