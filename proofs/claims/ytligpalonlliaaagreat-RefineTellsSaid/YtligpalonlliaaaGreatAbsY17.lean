/- A part of a proof: the text that states the row tells what is proved. No condition is laid on anything. -/
import Derived.Test.YtligpalonlliaaaGreatAbsY16
set_option linter.all false
set_option linter.constructorNameAsVariable false
set_option linter.defProp false
set_option linter.unusedVariables false
set_option linter.unusedSimpArgs false
set_option maxRecDepth 100000
set_option maxHeartbeats 16000000
namespace Go.Proofs.Abs
open Go
noncomputable def s11 : FT := upd (s10) 44 k93.ora
theorem s11_ok : FTOK Tryz.prog s11 := upd_ok2 (f := 44) (s10_ok) ook93

/-! 121: caesuraref03.Starts. -/
theorem run121 (l : List (List R2)) (h0 : l.length ≤ 1000) (hl : lenS l ≤ 1000) : cwp s11 29 [] [.list 1 (List.map (fun s => [(AV.list 2 (List.map (fun x => [AV.int .i64 x.1, AV.int .i64 x.2]) (s)))]) l)] [] (fun r H => r = (AV.list 1 (List.map (fun x => [AV.int .i64 x]) (startsL l.flatten))) ∧ H = []) := by
  refine run_fn (fn := fn121) rfl rfl ?_
  simp only [fn121_body, c121, D0, ains, appG, clsOf, abin, aint, aun, dnext, rowsOf, loadObj, cellsOf, ofCells, bnd, hmerge, Nat.reduceBEq, Nat.reduceAdd, reduceIte, Nat.reduceEqDiff, Nat.reduceLeDiff, Int.reduceEq, reduceCtorEq, Int.reduceBEq, Int.reduceBNe, Int.reduceLT, Int.reduceNeg]
  refine lg_rule (fun j e H => e = [(0, .list 1 (List.map (fun s => [(AV.list 2 (List.map (fun x => [AV.int .i64 x.1, AV.int .i64 x.2]) (s)))]) l)), (2, .own [0] 0), (3, .own [1] (l.take j).flatten.length), (4, .int .i64 j)] ∧
    H = [[([1], .row true true 55 2 (List.map (fun x => [AV.int .i64 x.1, AV.int .i64 x.2]) (l.take j).flatten)), ([0], .row true true 3 1 [])]] ∧ j ≤ l.length) l.length ?_ ?_
  · exact ⟨rfl, rfl, by simp⟩
  rintro j e H ⟨rfl, rfl, hj⟩
  simp only [D0, ains, appG, clsOf, abin, aint, aun, dnext, rowsOf, loadObj, cellsOf, ofCells, bnd, hmerge, Nat.reduceBEq, Nat.reduceAdd, reduceIte, Nat.reduceEqDiff, Nat.reduceLeDiff, Int.reduceEq, reduceCtorEq, Int.reduceBEq, Int.reduceBNe, Int.reduceLT, Int.reduceNeg]
  by_cases h : j < l.length
  · have h' : (j : Int) < (l.length : Int) := by omega
    have hp := wrapp (j := j) (by omega)
    have hg := map_get (f := fun s : List R2 => [(AV.list 2 (List.map (fun x => [AV.int .i64 x.1, AV.int .i64 x.2]) (s)))]) h []
    have hf := flat_snoc (l.take j) (l.getD j [])
    have hle := lenS_take l (j + 1)
    have hn := lenS_snoc (l.take j) (l.getD j [])
    rw [← takeL_snoc h] at hf hn
    have hl1 := flatS_len (l.take j)
    generalize l.getD j [] = x at hg hf hn
    generalize (l.take j).flatten = u at hf hl1 ⊢
    have hcap : (u.length + x.length) * 16 ≤ 140737488355328 := by omega
    simp only [D0, ains, appG, clsOf, abin, aint, aun, dnext, rowsOf, loadObj, cellsOf, ofCells, bnd, hmerge, Nat.reduceBEq, Nat.reduceAdd, reduceIte, Nat.reduceEqDiff, Nat.reduceLeDiff, Int.reduceEq, reduceCtorEq, Int.reduceBEq, Int.reduceBNe, Int.reduceLT, Int.reduceNeg, h', hg, hp, hcap, decide_true, Int.natCast_nonneg, Int.toNat_natCast, List.length_map]
    simp only [F1, bodyRes, one, ains, appG, clsOf, abin, aint, aun, dnext, rowsOf, loadObj, cellsOf, ofCells, bnd, hmerge, Nat.reduceBEq, Nat.reduceAdd, reduceIte, Nat.reduceEqDiff, Nat.reduceLeDiff, Int.reduceEq, reduceCtorEq, Int.reduceBEq, Int.reduceBNe, Int.reduceLT, Int.reduceNeg]
    rw [hf]
    exact ⟨h, by simp, by simp, h⟩
  have h' : ¬ (j : Int) < (l.length : Int) := by omega
  have hjl : j = l.length := by omega
  subst hjl
  have hfl : l.flatten.length ≤ 1000 := by rw [flatS_len]; exact hl
  simp only [List.take_length, D0, ains, appG, clsOf, abin, aint, aun, dnext, rowsOf, loadObj, cellsOf, ofCells, bnd, hmerge, Nat.reduceBEq, Nat.reduceAdd, reduceIte, Nat.reduceEqDiff, Nat.reduceLeDiff, Int.reduceEq, reduceCtorEq, Int.reduceBEq, Int.reduceBNe, Int.reduceLT, Int.reduceNeg, h', decide_false]
  refine .inr ⟨by simp, ?_⟩
  simp only [D0, ains, appG, clsOf, abin, aint, aun, dnext, rowsOf, loadObj, cellsOf, ofCells, bnd, hmerge, Nat.reduceBEq, Nat.reduceAdd, reduceIte, Nat.reduceEqDiff, Nat.reduceLeDiff, Int.reduceEq, reduceCtorEq, Int.reduceBEq, Int.reduceBNe, Int.reduceLT, Int.reduceNeg, @use_all s11 44 k93.ora rfl, e93, hfl, fz, fzd, List.length_map]
  simp only [F1, bodyRes, one, ains, appG, clsOf, abin, aint, aun, dnext, rowsOf, loadObj, cellsOf, ofCells, bnd, hmerge, Nat.reduceBEq, Nat.reduceAdd, reduceIte, Nat.reduceEqDiff, Nat.reduceLeDiff, Int.reduceEq, reduceCtorEq, Int.reduceBEq, Int.reduceBNe, Int.reduceLT, Int.reduceNeg, fn121_res, fn121_keep, fz, fzd, fzd.fzcells]
theorem run121' (a b : List R2) (h : a.length + b.length ≤ 1000) : cwp s11 29 [] [.list 1 [[(AV.list 2 (List.map (fun x => [AV.int .i64 x.1, AV.int .i64 x.2]) (a)))], [(AV.list 2 (List.map (fun x => [AV.int .i64 x.1, AV.int .i64 x.2]) (b)))]]] [] (fun r H => r = (AV.list 1 (List.map (fun x => [AV.int .i64 x]) (startsL (a ++ b)))) ∧ H = []) := by
  have := run121 [a, b] (by simp) (by simpa [lenS] using h)
  simpa using this
noncomputable def k121 : Kon ((List (Int × Int)) × (List (Int × Int))) := ⟨fun x => x.1.length + x.2.length ≤ 1000, fun x => [.list 1 [[(AV.list 2 (List.map (fun x => [AV.int .i64 x.1, AV.int .i64 x.2]) (x.1)))], [(AV.list 2 (List.map (fun x => [AV.int .i64 x.1, AV.int .i64 x.2]) (x.2)))]]], fun x => (AV.list 1 (List.map (fun x => [AV.int .i64 x]) (startsL (x.1 ++ x.2))))⟩
theorem e121 (a : List (Int × Int)) (b : List (Int × Int)) (hd : a.length + b.length ≤ 1000) (q0 : Id) (H0 : Heap) : k121.ora q0 ([.list 1 [[(AV.list 2 (List.map (fun x => [AV.int .i64 x.1, AV.int .i64 x.2]) (a)))], [(AV.list 2 (List.map (fun x => [AV.int .i64 x.1, AV.int .i64 x.2]) (b)))]]]) H0 = some ((AV.list 1 (List.map (fun x => [AV.int .i64 x]) (startsL (a ++ b)))), H0) := k121.eq (cat2Inj) (a, b) hd q0 H0
theorem ook121 : OraOK Tryz.prog (29 % 100000) k121.ora := k121.ok orders s11_ok (fun x hd => by simp [k121, PU]) (fun x hd => by simp [k121, PU]) (fun x hd => run121' x.1 x.2 hd)

end Go.Proofs.Abs
