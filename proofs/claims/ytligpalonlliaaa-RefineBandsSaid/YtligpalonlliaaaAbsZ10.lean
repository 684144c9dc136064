/- A part of a proof: the text that states the row tells what is proved. No condition is laid on anything. -/
import Derived.Test.YtligpalonlliaaaAbsZ9
set_option linter.all false
set_option linter.constructorNameAsVariable false
set_option linter.defProp false
set_option linter.unusedVariables false
set_option linter.unusedSimpArgs false
set_option maxRecDepth 100000
set_option maxHeartbeats 16000000
namespace Go.Proofs.Abs
open Go
/-! 1010: refine.Of. -/
def ofU (b : List R2) (v : Int) : Nat → Option Int
  | 0 => none
  | n + 1 => if (b.getD n (0, 0)).1 ≤ v then some (b.getD n (0, 0)).2 else ofU b v n
def ofBd (b : List R2) (v : Int) : Option Int := if isS v then ofU b v b.length else none
theorem run1010 (b : List R2) (v : Int) (hb : b.length ≤ 1000000) : cwp r8 13 [] [(AV.list 2 (List.map (fun x => [AV.int .i64 x.1, AV.int .i64 x.2]) (b))), .int .i64 v] [] (fun r H => r = .tuple [.int .i64 ((ofBd b v).getD 0), .bool (ofBd b v).isSome] ∧ H = []) := by
  refine run_fn (fn := fn1010) rfl rfl ?_
  cases hv : isS v with
  | false =>
    have e : ofBd b v = none := by simp [ofBd, hv]
    rw [e]
    simp only [fn1010_body, c1010, D0, ains, appG, clsOf, abin, aint, aun, dnext, rowsOf, loadObj, cellsOf, ofCells, bnd, hmerge, Nat.reduceBEq, Nat.reduceAdd, reduceIte, Nat.reduceEqDiff, Nat.reduceLeDiff, Int.reduceEq, reduceCtorEq, Int.reduceBEq, Int.reduceBNe, Int.reduceLT, Int.reduceNeg, @use_all r8 36 k97.ora rfl, e97, hv]
    simp only [F1, bodyRes, one, ains, appG, clsOf, abin, aint, aun, dnext, rowsOf, loadObj, cellsOf, ofCells, bnd, hmerge, Nat.reduceBEq, Nat.reduceAdd, reduceIte, Nat.reduceEqDiff, Nat.reduceLeDiff, Int.reduceEq, reduceCtorEq, Int.reduceBEq, Int.reduceBNe, Int.reduceLT, Int.reduceNeg, fn1010_res, fn1010_keep, fz, fzd, fzd.fzcells, Option.getD_none, Option.isSome_none]
  | true =>
    have e : ofBd b v = ofU b v b.length := by simp [ofBd, hv]
    rw [e]
    have hw : IntKind.i64.wrap ((b.length : Int) - 1) = (b.length : Int) - 1 := wrap64 (by omega) (by omega)
    simp only [fn1010_body, c1010, D0, ains, appG, clsOf, abin, aint, aun, dnext, rowsOf, loadObj, cellsOf, ofCells, bnd, hmerge, Nat.reduceBEq, Nat.reduceAdd, reduceIte, Nat.reduceEqDiff, Nat.reduceLeDiff, Int.reduceEq, reduceCtorEq, Int.reduceBEq, Int.reduceBNe, Int.reduceLT, Int.reduceNeg, @use_all r8 36 k97.ora rfl, e97, hv, hw]
    refine lg_rule (fun r e H => ∃ (m : Nat) (x : Int), e = [(0, (AV.list 2 (List.map (fun x => [AV.int .i64 x.1, AV.int .i64 x.2]) (b)))), (1, .int .i64 v), (4, .int .i64 0), (5, .bool false), (6, .int .i64 x)] ∧ H = [[]] ∧ x = (m : Int) - 1 ∧ m + r = b.length ∧ ofU b v b.length = ofU b v m) b.length ?_ ?_
    · exact ⟨b.length, _, rfl, rfl, rfl, by omega, rfl⟩
    rintro r e H ⟨m, x, rfl, rfl, hx, hm, ho⟩
    cases m with
    | zero =>
      have hx' : ¬ x ≥ 0 := by omega
      have ho' : ofU b v b.length = none := ho
      rw [ho']
      simp only [D0, ains, appG, clsOf, abin, aint, aun, dnext, rowsOf, loadObj, cellsOf, ofCells, bnd, hmerge, Nat.reduceBEq, Nat.reduceAdd, reduceIte, Nat.reduceEqDiff, Nat.reduceLeDiff, Int.reduceEq, reduceCtorEq, Int.reduceBEq, Int.reduceBNe, Int.reduceLT, Int.reduceNeg, hx', decide_false]
      refine .inr ⟨by simp, ?_⟩
      simp only [F1, bodyRes, one, ains, appG, clsOf, abin, aint, aun, dnext, rowsOf, loadObj, cellsOf, ofCells, bnd, hmerge, Nat.reduceBEq, Nat.reduceAdd, reduceIte, Nat.reduceEqDiff, Nat.reduceLeDiff, Int.reduceEq, reduceCtorEq, Int.reduceBEq, Int.reduceBNe, Int.reduceLT, Int.reduceNeg, fn1010_res, fn1010_keep, fz, fzd, fzd.fzcells, Option.getD_none, Option.isSome_none]
    | succ k =>
      have hxk : x = (k : Int) := by omega
      subst hxk
      have hx' : (k : Int) ≥ 0 := by omega
      have hk' : (k : Int) < (b.length : Int) := by omega
      have hg := map_get (f := fun x : Int × Int => [AV.int .i64 x.1, AV.int .i64 x.2]) (l := b) (j := k) (by omega) (0, 0)
      have hw1 : IntKind.i64.wrap ((k : Int) - 1) = (k : Int) - 1 := wrap64 (by omega) (by omega)
      simp only [ofU] at ho
      generalize b.getD k (0, 0) = y at hg ho
      obtain ⟨c, d⟩ := y
      by_cases h : c ≤ v
      · rw [if_pos h] at ho
        rw [ho]
        simp only [D0, ains, appG, clsOf, abin, aint, aun, dnext, rowsOf, loadObj, cellsOf, ofCells, bnd, hmerge, Nat.reduceBEq, Nat.reduceAdd, reduceIte, Nat.reduceEqDiff, Nat.reduceLeDiff, Int.reduceEq, reduceCtorEq, Int.reduceBEq, Int.reduceBNe, Int.reduceLT, Int.reduceNeg, hx', hk', hg, h, decide_true, Int.natCast_nonneg, Int.toNat_natCast]
        simp only [F1, bodyRes, one, ains, appG, clsOf, abin, aint, aun, dnext, rowsOf, loadObj, cellsOf, ofCells, bnd, hmerge, Nat.reduceBEq, Nat.reduceAdd, reduceIte, Nat.reduceEqDiff, Nat.reduceLeDiff, Int.reduceEq, reduceCtorEq, Int.reduceBEq, Int.reduceBNe, Int.reduceLT, Int.reduceNeg, fn1010_res, fn1010_keep, fz, fzd, fzd.fzcells, Option.getD_some, Option.isSome_some]
      · rw [if_neg h] at ho
        simp only [D0, ains, appG, clsOf, abin, aint, aun, dnext, rowsOf, loadObj, cellsOf, ofCells, bnd, hmerge, Nat.reduceBEq, Nat.reduceAdd, reduceIte, Nat.reduceEqDiff, Nat.reduceLeDiff, Int.reduceEq, reduceCtorEq, Int.reduceBEq, Int.reduceBNe, Int.reduceLT, Int.reduceNeg, hx', hk', hg, h, hw1, decide_true, decide_false, Int.natCast_nonneg, Int.toNat_natCast]
        simp only [F1, bodyRes, one, ains, appG, clsOf, abin, aint, aun, dnext, rowsOf, loadObj, cellsOf, ofCells, bnd, hmerge, Nat.reduceBEq, Nat.reduceAdd, reduceIte, Nat.reduceEqDiff, Nat.reduceLeDiff, Int.reduceEq, reduceCtorEq, Int.reduceBEq, Int.reduceBNe, Int.reduceLT, Int.reduceNeg]
        exact ⟨by omega, k, (k : Int) - 1, rfl, rfl, by omega, ho⟩
noncomputable def k1010 : Kon ((List (Int × Int)) × Int) := ⟨fun x => x.1.length ≤ 1000000, fun x => [(AV.list 2 (List.map (fun x => [AV.int .i64 x.1, AV.int .i64 x.2]) (x.1))), .int .i64 x.2], fun x => .tuple [.int .i64 ((ofBd x.1 x.2).getD 0), .bool (ofBd x.1 x.2).isSome]⟩
theorem e1010 (b : List (Int × Int)) (v : Int) (hd : b.length ≤ 1000000) (q0 : Id) (H0 : Heap) : k1010.ora q0 ([(AV.list 2 (List.map (fun x => [AV.int .i64 x.1, AV.int .i64 x.2]) (b))), .int .i64 v]) H0 = some (.tuple [.int .i64 ((ofBd b v).getD 0), .bool (ofBd b v).isSome], H0) := k1010.eq (setIntInj) (b, v) hd q0 H0
theorem ook1010 : OraOK Try.prog (13 % 100000) k1010.ora := k1010.ok orders r8_ok (fun x hd => by simp [k1010, PU]) (fun x hd => by simp [k1010, PU]) (fun x hd => run1010 x.1 x.2 hd)

/-! 1003: caesuralaw04.Fair. -/
def fairN (l : List (List R2)) : Nat := (l.map fun s => 1 + min s.length 200).sum
def fairB (l : List (List R2)) : Bool := decide (fairN l ≤ 150)
theorem fairN_snoc (l : List (List R2)) (s : List R2) : fairN (l ++ [s]) = fairN l + (1 + min s.length 200) := by simp [fairN]
theorem fairN_take (l : List (List R2)) (j : Nat) : fairN (l.take j) ≤ fairN l := by
  have e : fairN (l.take j) + fairN (l.drop j) = fairN l := by
    conv => rhs; rw [← List.take_append_drop j l]
    simp only [fairN, List.map_append, List.sum_append]
  omega
theorem fairN_len (l : List (List R2)) : l.length ≤ fairN l := by
  induction l with
  | nil => simp [fairN]
  | cons s l ih => simp only [fairN, List.map_cons, List.sum_cons, List.length_cons] at ih ⊢; omega
theorem run1003 (l : List (List R2)) : cwp r8 6 [] [(AV.list 1 (List.map (fun s => [(AV.list 2 (List.map (fun x => [AV.int .i64 x.1, AV.int .i64 x.2]) (s)))]) (l)))] [] (fun r H => r = .bool (fairB l) ∧ H = []) := by
  refine run_fn (fn := fn1003) rfl rfl ?_
  simp only [fn1003_body, c1003, D0, ains, appG, clsOf, abin, aint, aun, dnext, rowsOf, loadObj, cellsOf, ofCells, bnd, hmerge, Nat.reduceBEq, Nat.reduceAdd, reduceIte, Nat.reduceEqDiff, Nat.reduceLeDiff, Int.reduceEq, reduceCtorEq, Int.reduceBEq, Int.reduceBNe, Int.reduceLT, Int.reduceNeg]
  refine lg_rule (fun j e H => e = [(0, (AV.list 1 (List.map (fun s => [(AV.list 2 (List.map (fun x => [AV.int .i64 x.1, AV.int .i64 x.2]) (s)))]) (l)))), (2, .bool false), (3, .int .i64 (fairN (l.take j) : Nat)), (4, .int .i64 j)] ∧ H = [[]] ∧ j ≤ l.length ∧ fairN (l.take j) ≤ 150) l.length ?_ ?_
  · exact ⟨rfl, rfl, by simp, by simp [fairN]⟩
  rintro j e H ⟨rfl, rfl, hj, hf⟩
  simp only [D0, ains, appG, clsOf, abin, aint, aun, dnext, rowsOf, loadObj, cellsOf, ofCells, bnd, hmerge, Nat.reduceBEq, Nat.reduceAdd, reduceIte, Nat.reduceEqDiff, Nat.reduceLeDiff, Int.reduceEq, reduceCtorEq, Int.reduceBEq, Int.reduceBNe, Int.reduceLT, Int.reduceNeg]
  by_cases h : j < l.length
  · have h' : (j : Int) < (l.length : Int) := by omega
    have hjl := fairN_len (l.take j)
    have hjl2 : (l.take j).length = j := by simp; omega
    have hp := wrapp (j := j) (by omega)
    have hg := map_get (f := fun s : List R2 => [(AV.list 2 (List.map (fun x => [AV.int .i64 x.1, AV.int .i64 x.2]) (s)))]) h []
    have hn := fairN_snoc (l.take j) (l.getD j [])
    rw [← takeL_snoc h] at hn
    have hle := fairN_take l (j + 1)
    generalize l.getD j [] = s at hg hn
    have hmn : (if (200 : Int) < (s.length : Int) then (200 : Int) else (s.length : Int)) = ((min s.length 200 : Nat) : Int) := by split <;> omega
    have hw1 : IntKind.i64.wrap (1 + ((min s.length 200 : Nat) : Int)) = ((1 + min s.length 200 : Nat) : Int) := by rw [wrap64 (by omega) (by omega)]; omega
    have hw2 : IntKind.i64.wrap ((fairN (l.take j) : Int) + ((1 + min s.length 200 : Nat) : Int)) = ((fairN (l.take (j + 1)) : Nat) : Int) := by rw [wrap64 (by omega) (by omega), hn]; omega
    by_cases k : fairN (l.take (j + 1)) ≤ 150
    · have k' : ¬ ((fairN (l.take (j + 1)) : Nat) : Int) > 150 := by omega
      simp only [D0, ains, appG, clsOf, abin, aint, aun, dnext, rowsOf, loadObj, cellsOf, ofCells, bnd, hmerge, Nat.reduceBEq, Nat.reduceAdd, reduceIte, Nat.reduceEqDiff, Nat.reduceLeDiff, Int.reduceEq, reduceCtorEq, Int.reduceBEq, Int.reduceBNe, Int.reduceLT, Int.reduceNeg, h', hg, hmn, hw1, hw2, k', hp, decide_true, decide_false, Int.natCast_nonneg, Int.toNat_natCast, List.length_map]
      simp only [F1, bodyRes, one, ains, appG, clsOf, abin, aint, aun, dnext, rowsOf, loadObj, cellsOf, ofCells, bnd, hmerge, Nat.reduceBEq, Nat.reduceAdd, reduceIte, Nat.reduceEqDiff, Nat.reduceLeDiff, Int.reduceEq, reduceCtorEq, Int.reduceBEq, Int.reduceBNe, Int.reduceLT, Int.reduceNeg]
      exact ⟨h, h, k⟩
    · have k' : ((fairN (l.take (j + 1)) : Nat) : Int) > 150 := by omega
      have hb : fairB l = false := by simp [fairB]; omega
      simp only [D0, ains, appG, clsOf, abin, aint, aun, dnext, rowsOf, loadObj, cellsOf, ofCells, bnd, hmerge, Nat.reduceBEq, Nat.reduceAdd, reduceIte, Nat.reduceEqDiff, Nat.reduceLeDiff, Int.reduceEq, reduceCtorEq, Int.reduceBEq, Int.reduceBNe, Int.reduceLT, Int.reduceNeg, h', hg, hmn, hw1, hw2, k', decide_true, Int.natCast_nonneg, Int.toNat_natCast, List.length_map]
      simp only [F1, bodyRes, one, ains, appG, clsOf, abin, aint, aun, dnext, rowsOf, loadObj, cellsOf, ofCells, bnd, hmerge, Nat.reduceBEq, Nat.reduceAdd, reduceIte, Nat.reduceEqDiff, Nat.reduceLeDiff, Int.reduceEq, reduceCtorEq, Int.reduceBEq, Int.reduceBNe, Int.reduceLT, Int.reduceNeg, fn1003_res, fn1003_keep, hb]
  · have h' : ¬ (j : Int) < (l.length : Int) := by omega
    have hjl : j = l.length := by omega
    subst hjl
    rw [List.take_length] at hf
    have hb : fairB l = true := by simp [fairB, hf]
    simp only [D0, ains, appG, clsOf, abin, aint, aun, dnext, rowsOf, loadObj, cellsOf, ofCells, bnd, hmerge, Nat.reduceBEq, Nat.reduceAdd, reduceIte, Nat.reduceEqDiff, Nat.reduceLeDiff, Int.reduceEq, reduceCtorEq, Int.reduceBEq, Int.reduceBNe, Int.reduceLT, Int.reduceNeg, h', decide_false]
    refine .inr ⟨by simp, ?_⟩
    simp only [F1, bodyRes, one, ains, appG, clsOf, abin, aint, aun, dnext, rowsOf, loadObj, cellsOf, ofCells, bnd, hmerge, Nat.reduceBEq, Nat.reduceAdd, reduceIte, Nat.reduceEqDiff, Nat.reduceLeDiff, Int.reduceEq, reduceCtorEq, Int.reduceBEq, Int.reduceBNe, Int.reduceLT, Int.reduceNeg, fn1003_res, fn1003_keep, hb]
noncomputable def k1003 : Kon ((List (List (Int × Int)))) := ⟨fun _ => True, fun x => [(AV.list 1 (List.map (fun s => [(AV.list 2 (List.map (fun x => [AV.int .i64 x.1, AV.int .i64 x.2]) (s)))]) (x)))], fun x => .bool (fairB x)⟩
theorem e1003 (l : List (List (Int × Int))) (q0 : Id) (H0 : Heap) : k1003.ora q0 ([(AV.list 1 (List.map (fun s => [(AV.list 2 (List.map (fun x => [AV.int .i64 x.1, AV.int .i64 x.2]) (s)))]) (l)))]) H0 = some (.bool (fairB l), H0) := k1003.eq (setsInj) (l) trivial q0 H0
theorem ook1003 : OraOK Try.prog (6 % 100000) k1003.ora := k1003.ok orders r8_ok (fun x hd => by simp [k1003, PU]) (fun x hd => by simp [k1003, PU]) (fun x hd => run1003 x)

noncomputable def r9 : FT := upd (upd (r8) 13 k1010.ora) 6 k1003.ora
theorem r9_ok : FTOK Try.prog r9 := upd_ok2 (f := 6) (upd_ok2 (f := 13) (r8_ok) ook1010) ook1003

end Go.Proofs.Abs
