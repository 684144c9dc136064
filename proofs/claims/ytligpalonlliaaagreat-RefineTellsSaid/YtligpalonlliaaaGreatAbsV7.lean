/- A part of a proof: the text that states the row tells what is proved. No condition is laid on anything. -/
import Derived.Test.YtligpalonlliaaaGreatAbsZ8
import Derived.Test.YtligpalonlliaaaGreatAbsZW
set_option linter.all false
set_option linter.constructorNameAsVariable false
set_option linter.defProp false
set_option linter.unusedVariables false
set_option linter.unusedSimpArgs false
set_option maxRecDepth 100000
set_option maxHeartbeats 16000000
namespace Go.Proofs.Abs
open Go
/-! 1061: caesuralaw04.RefineOne. -/
noncomputable def r8 : FT := upd r7 6 kW.ora
theorem r8_ok : FTOK Tryz.prog r8 := upd_ok2 (f := 6) r7_ok ook1004
theorem both_self {s : List R2} (h : goodS s = true) : bothS s s = s := by
  obtain ⟨g, m⟩ := both_good h h
  exact gdL_ext g ((gdL_iff _).1 h) fun v _ => by rw [m v, and_self]
theorem both_not {s : List R2} (h : goodS s = true) : bothS s (notS s) = [] := by
  obtain ⟨n1, n2⟩ := notS_good h
  obtain ⟨g, m⟩ := both_good h (good_of n1)
  exact gdL_ext g .nil fun v hv => by rw [m v, n2 v hv]; simp [memS]
theorem first_in {s : List R2} (h : goodS s = true) (hne : s ≠ []) : ∃ v, isS v = true ∧ inS v s = true ∧ s.head? ≠ none := by
  cases s with
  | nil => exact absurd rfl hne
  | cons r s =>
    obtain ⟨a, _, c⟩ := wholeS_iff.1 (((gdL_iff _).1 h).whole r (List.mem_cons_self ..))
    exact ⟨r.1, a, inS_iff.2 ⟨r, List.mem_cons_self .., Int.le_refl _, c⟩, by simp⟩
theorem in_not {s : List R2} (h : goodS s = true) {v : Int} (hv : isS v = true) : inS v (notS s) = !inS v s := by
  have := (notS_good h).2 v hv
  rw [← inS_iff, ← inS_iff] at this
  cases a : inS v (notS s) <;> cases b : inS v s <;> simp_all
theorem is0 : isS 0 = true := by decide
/-- The first range's beginning, and whether nothing is in the set. -/
theorem lo_zero {s : List R2} (h : goodS s = true) (h0 : 0 < s.length) : 0 ≤ (s.getD 0 (0, 0)).1 ∧ ((s.getD 0 (0, 0)).1 = 0 ↔ inS 0 s = true) := by
  have hG := (gdL_iff _).1 h
  have hm : s.getD 0 (0, 0) ∈ s := by rw [getD_eq h0]; exact List.getElem_mem h0
  obtain ⟨a, b, c⟩ := wholeS_iff.1 (hG.whole _ hm)
  have ha := isS_iff.1 a
  refine ⟨by omega, ?_, ?_⟩
  · intro e
    exact inS_iff.2 ⟨_, hm, by omega, by omega⟩
  · intro e
    obtain ⟨r, hr, k1, k2⟩ := inS_iff.1 e
    obtain ⟨j, hj, ej⟩ := List.getElem_of_mem hr
    rw [← getD_eq hj] at ej
    subst ej
    by_cases hj0 : j = 0
    · subst hj0; omega
    · have := lo_up hG (i := 0) (j := j) (by omega) hj
      omega
theorem e1006s (s : List R2) (hs : s.length ≤ 60) (q : Id) (H : Heap) : k1006.ora q [.list 1 [[(AV.list 2 (List.map (fun x => [AV.int .i64 x.1, AV.int .i64 x.2]) (s)))]]] H = some (.tuple [(AV.list 1 (List.map (fun s => [(AV.list 2 (List.map (fun x => [AV.int .i64 x.1, AV.int .i64 x.2]) (s)))]) (partsV [s]))), .bool (partsB [s])], H) :=
  e1006 [s] ⟨by simp, by simp [lenS]; omega, fun t ht => by rw [List.mem_singleton.1 ht]; omega⟩ q H
theorem e1014a (P : List (List R2)) (h0 : P.length ≤ 1000000) (h1 : ∀ s ∈ P, s.length ≤ 9223372036854775807) (q : Id) (H : Heap) : k1014.ora q [(AV.list 1 (List.map (fun s => [(AV.list 2 (List.map (fun x => [AV.int .i64 x.1, AV.int .i64 x.2]) (s)))]) (P))), .list 1 [[.list 2 [[.int .i64 0, .int .i64 1114111]]]]] H = some (.bool (decide (P = [allS])), H) :=
  e1014 P [allS] ⟨h0, h1⟩ q H
theorem e1014b (P : List (List R2)) (x y : List R2) (h0 : P.length ≤ 1000000) (h1 : ∀ s ∈ P, s.length ≤ 9223372036854775807) (q : Id) (H : Heap) : k1014.ora q [(AV.list 1 (List.map (fun s => [(AV.list 2 (List.map (fun x => [AV.int .i64 x.1, AV.int .i64 x.2]) (s)))]) (P))), .list 1 [[(AV.list 2 (List.map (fun x => [AV.int .i64 x.1, AV.int .i64 x.2]) (x)))], [(AV.list 2 (List.map (fun x => [AV.int .i64 x.1, AV.int .i64 x.2]) (y)))]]] H = some (.bool (decide (P = [x, y])), H) :=
  e1014 P [x, y] ⟨h0, h1⟩ q H
theorem e1012s (s : List R2) (P : List (List R2)) (hs : s.length ≤ 60) (h0 : P.length ≤ 1000) (h1 : ∀ s ∈ P, s.length ≤ 400000) (q : Id) (H : Heap) : k1012.ora q [.list 1 [[(AV.list 2 (List.map (fun x => [AV.int .i64 x.1, AV.int .i64 x.2]) (s)))]], (AV.list 1 (List.map (fun s => [(AV.list 2 (List.map (fun x => [AV.int .i64 x.1, AV.int .i64 x.2]) (s)))]) (P)))] H = some (.tuple [.list 1 (List.map (fun y => [(AV.list 1 (List.map (fun x => [AV.int .i64 x]) (y)))]) (withinV [s] P)), .bool (withinB [s] P)], H) :=
  e1012 [s] P ⟨by simp, h0, fun t ht => by rw [List.mem_singleton.1 ht]; omega, h1⟩ q H
end Go.Proofs.Abs

set_option linter.all false
set_option linter.constructorNameAsVariable false
set_option linter.defProp false
set_option linter.unusedVariables false
set_option linter.unusedSimpArgs false
set_option maxRecDepth 100000
set_option maxHeartbeats 16000000
namespace Go.Proofs.Abs
open Go
/-! 1010: refine.Of. -/
def ofU (b : List R2) (v : Int) : Nat → Option Int
  | 0 => none
  | n + 1 => if (b.getD n (0, 0)).1 ≤ v then some (b.getD n (0, 0)).2 else ofU b v n
def ofBd (b : List R2) (v : Int) : Option Int := if isS v then ofU b v b.length else none
theorem run1010 (b : List R2) (v : Int) (hb : b.length ≤ 1000000) : cwp r8 12 [] [(AV.list 2 (List.map (fun x => [AV.int .i64 x.1, AV.int .i64 x.2]) (b))), .int .i64 v] [] (fun r H => r = .tuple [.int .i64 ((ofBd b v).getD 0), .bool (ofBd b v).isSome] ∧ H = []) := by
  refine run_fn (fn := fn1010) rfl rfl ?_
  cases hv : isS v with
  | false =>
    have e : ofBd b v = none := by simp [ofBd, hv]
    rw [e]
    simp only [fn1010_body, c1010, D0, ains, appG, clsOf, abin, aint, aun, dnext, rowsOf, loadObj, cellsOf, ofCells, bnd, hmerge, Nat.reduceBEq, Nat.reduceAdd, reduceIte, Nat.reduceEqDiff, Nat.reduceLeDiff, Int.reduceEq, reduceCtorEq, Int.reduceBEq, Int.reduceBNe, Int.reduceLT, Int.reduceNeg, @use_all r8 36 k97.ora rfl, e97, hv]
    simp only [F1, bodyRes, one, ains, appG, clsOf, abin, aint, aun, dnext, rowsOf, loadObj, cellsOf, ofCells, bnd, hmerge, Nat.reduceBEq, Nat.reduceAdd, reduceIte, Nat.reduceEqDiff, Nat.reduceLeDiff, Int.reduceEq, reduceCtorEq, Int.reduceBEq, Int.reduceBNe, Int.reduceLT, Int.reduceNeg, fn1010_res, fn1010_keep, fz, fzd, fzd.fzcells, Option.getD_none, Option.isSome_none]
  | true =>
    have e : ofBd b v = ofU b v b.length := by simp [ofBd, hv]
    rw [e]
    have hw : IntKind.i64.wrap ((b.length : Int) - 1) = (b.length : Int) - 1 := wrap64 (by omega) (by omega)
    simp only [fn1010_body, c1010, D0, ains, appG, clsOf, abin, aint, aun, dnext, rowsOf, loadObj, cellsOf, ofCells, bnd, hmerge, Nat.reduceBEq, Nat.reduceAdd, reduceIte, Nat.reduceEqDiff, Nat.reduceLeDiff, Int.reduceEq, reduceCtorEq, Int.reduceBEq, Int.reduceBNe, Int.reduceLT, Int.reduceNeg, @use_all r8 36 k97.ora rfl, e97, hv, hw]
    refine lg_rule (fun r e H => ∃ (m : Nat) (x : Int), e = [(0, (AV.list 2 (List.map (fun x => [AV.int .i64 x.1, AV.int .i64 x.2]) (b)))), (1, .int .i64 v), (4, .int .i64 0), (5, .bool false), (6, .int .i64 x)] ∧ H = [[]] ∧ x = (m : Int) - 1 ∧ m + r = b.length ∧ ofU b v b.length = ofU b v m) b.length ?_ ?_
    · exact ⟨b.length, _, rfl, rfl, rfl, by omega, rfl⟩
    rintro r e H ⟨m, x, rfl, rfl, hx, hm, ho⟩
    cases m with
    | zero =>
      have hx' : ¬ x ≥ 0 := by omega
      have ho' : ofU b v b.length = none := ho
      rw [ho']
      simp only [D0, ains, appG, clsOf, abin, aint, aun, dnext, rowsOf, loadObj, cellsOf, ofCells, bnd, hmerge, Nat.reduceBEq, Nat.reduceAdd, reduceIte, Nat.reduceEqDiff, Nat.reduceLeDiff, Int.reduceEq, reduceCtorEq, Int.reduceBEq, Int.reduceBNe, Int.reduceLT, Int.reduceNeg, hx', decide_false]
      refine .inr ⟨by simp, ?_⟩
      simp only [F1, bodyRes, one, ains, appG, clsOf, abin, aint, aun, dnext, rowsOf, loadObj, cellsOf, ofCells, bnd, hmerge, Nat.reduceBEq, Nat.reduceAdd, reduceIte, Nat.reduceEqDiff, Nat.reduceLeDiff, Int.reduceEq, reduceCtorEq, Int.reduceBEq, Int.reduceBNe, Int.reduceLT, Int.reduceNeg, fn1010_res, fn1010_keep, fz, fzd, fzd.fzcells, Option.getD_none, Option.isSome_none]
    | succ k =>
      have hxk : x = (k : Int) := by omega
      subst hxk
      have hx' : (k : Int) ≥ 0 := by omega
      have hk' : (k : Int) < (b.length : Int) := by omega
      have hg := map_get (f := fun x : Int × Int => [AV.int .i64 x.1, AV.int .i64 x.2]) (l := b) (j := k) (by omega) (0, 0)
      have hw1 : IntKind.i64.wrap ((k : Int) - 1) = (k : Int) - 1 := wrap64 (by omega) (by omega)
      simp only [ofU] at ho
      generalize b.getD k (0, 0) = y at hg ho
      obtain ⟨c, d⟩ := y
      by_cases h : c ≤ v
      · rw [if_pos h] at ho
        rw [ho]
        simp only [D0, ains, appG, clsOf, abin, aint, aun, dnext, rowsOf, loadObj, cellsOf, ofCells, bnd, hmerge, Nat.reduceBEq, Nat.reduceAdd, reduceIte, Nat.reduceEqDiff, Nat.reduceLeDiff, Int.reduceEq, reduceCtorEq, Int.reduceBEq, Int.reduceBNe, Int.reduceLT, Int.reduceNeg, hx', hk', hg, h, decide_true, Int.natCast_nonneg, Int.toNat_natCast]
        simp only [F1, bodyRes, one, ains, appG, clsOf, abin, aint, aun, dnext, rowsOf, loadObj, cellsOf, ofCells, bnd, hmerge, Nat.reduceBEq, Nat.reduceAdd, reduceIte, Nat.reduceEqDiff, Nat.reduceLeDiff, Int.reduceEq, reduceCtorEq, Int.reduceBEq, Int.reduceBNe, Int.reduceLT, Int.reduceNeg, fn1010_res, fn1010_keep, fz, fzd, fzd.fzcells, Option.getD_some, Option.isSome_some]
      · rw [if_neg h] at ho
        simp only [D0, ains, appG, clsOf, abin, aint, aun, dnext, rowsOf, loadObj, cellsOf, ofCells, bnd, hmerge, Nat.reduceBEq, Nat.reduceAdd, reduceIte, Nat.reduceEqDiff, Nat.reduceLeDiff, Int.reduceEq, reduceCtorEq, Int.reduceBEq, Int.reduceBNe, Int.reduceLT, Int.reduceNeg, hx', hk', hg, h, hw1, decide_true, decide_false, Int.natCast_nonneg, Int.toNat_natCast]
        simp only [F1, bodyRes, one, ains, appG, clsOf, abin, aint, aun, dnext, rowsOf, loadObj, cellsOf, ofCells, bnd, hmerge, Nat.reduceBEq, Nat.reduceAdd, reduceIte, Nat.reduceEqDiff, Nat.reduceLeDiff, Int.reduceEq, reduceCtorEq, Int.reduceBEq, Int.reduceBNe, Int.reduceLT, Int.reduceNeg]
        exact ⟨by omega, k, (k : Int) - 1, rfl, rfl, by omega, ho⟩
noncomputable def k1010 : Kon ((List (Int × Int)) × Int) := ⟨fun x => x.1.length ≤ 1000000, fun x => [(AV.list 2 (List.map (fun x => [AV.int .i64 x.1, AV.int .i64 x.2]) (x.1))), .int .i64 x.2], fun x => .tuple [.int .i64 ((ofBd x.1 x.2).getD 0), .bool (ofBd x.1 x.2).isSome]⟩
theorem e1010 (b : List (Int × Int)) (v : Int) (hd : b.length ≤ 1000000) (q0 : Id) (H0 : Heap) : k1010.ora q0 ([(AV.list 2 (List.map (fun x => [AV.int .i64 x.1, AV.int .i64 x.2]) (b))), .int .i64 v]) H0 = some (.tuple [.int .i64 ((ofBd b v).getD 0), .bool (ofBd b v).isSome], H0) := k1010.eq (setIntInj) (b, v) hd q0 H0
theorem ook1010 : OraOK Tryz.prog (12 % 100000) k1010.ora := k1010.ok orders r8_ok (fun x hd => by simp [k1010, PU]) (fun x hd => by simp [k1010, PU]) (fun x hd => run1010 x.1 x.2 hd)

/-! 1003: caesuralaw04.Fair. -/
def fairN (l : List (List R2)) : Nat := (l.map fun s => 1 + min s.length 200).sum
def fairB (l : List (List R2)) : Bool := decide (fairN l ≤ 150)
theorem fairN_snoc (l : List (List R2)) (s : List R2) : fairN (l ++ [s]) = fairN l + (1 + min s.length 200) := by simp [fairN]
theorem fairN_take (l : List (List R2)) (j : Nat) : fairN (l.take j) ≤ fairN l := by
  have e : fairN (l.take j) + fairN (l.drop j) = fairN l := by
    conv => rhs; rw [← List.take_append_drop j l]
    simp only [fairN, List.map_append, List.sum_append]
  omega
theorem fairN_len (l : List (List R2)) : l.length ≤ fairN l := by
  induction l with
  | nil => simp [fairN]
  | cons s l ih => simp only [fairN, List.map_cons, List.sum_cons, List.length_cons] at ih ⊢; omega
theorem run1003 (l : List (List R2)) : cwp r8 5 [] [(AV.list 1 (List.map (fun s => [(AV.list 2 (List.map (fun x => [AV.int .i64 x.1, AV.int .i64 x.2]) (s)))]) (l)))] [] (fun r H => r = .bool (fairB l) ∧ H = []) := by
  refine run_fn (fn := fn1003) rfl rfl ?_
  simp only [fn1003_body, c1003, D0, ains, appG, clsOf, abin, aint, aun, dnext, rowsOf, loadObj, cellsOf, ofCells, bnd, hmerge, Nat.reduceBEq, Nat.reduceAdd, reduceIte, Nat.reduceEqDiff, Nat.reduceLeDiff, Int.reduceEq, reduceCtorEq, Int.reduceBEq, Int.reduceBNe, Int.reduceLT, Int.reduceNeg]
  refine lg_rule (fun j e H => e = [(0, (AV.list 1 (List.map (fun s => [(AV.list 2 (List.map (fun x => [AV.int .i64 x.1, AV.int .i64 x.2]) (s)))]) (l)))), (2, .bool false), (3, .int .i64 (fairN (l.take j) : Nat)), (4, .int .i64 j)] ∧ H = [[]] ∧ j ≤ l.length ∧ fairN (l.take j) ≤ 150) l.length ?_ ?_
  · exact ⟨rfl, rfl, by simp, by simp [fairN]⟩
  rintro j e H ⟨rfl, rfl, hj, hf⟩
  simp only [D0, ains, appG, clsOf, abin, aint, aun, dnext, rowsOf, loadObj, cellsOf, ofCells, bnd, hmerge, Nat.reduceBEq, Nat.reduceAdd, reduceIte, Nat.reduceEqDiff, Nat.reduceLeDiff, Int.reduceEq, reduceCtorEq, Int.reduceBEq, Int.reduceBNe, Int.reduceLT, Int.reduceNeg]
  by_cases h : j < l.length
  · have h' : (j : Int) < (l.length : Int) := by omega
    have hjl := fairN_len (l.take j)
    have hjl2 : (l.take j).length = j := by simp; omega
    have hp := wrapp (j := j) (by omega)
    have hg := map_get (f := fun s : List R2 => [(AV.list 2 (List.map (fun x => [AV.int .i64 x.1, AV.int .i64 x.2]) (s)))]) h []
    have hn := fairN_snoc (l.take j) (l.getD j [])
    rw [← takeL_snoc h] at hn
    have hle := fairN_take l (j + 1)
    generalize l.getD j [] = s at hg hn
    have hmn : (if (200 : Int) < (s.length : Int) then (200 : Int) else (s.length : Int)) = ((min s.length 200 : Nat) : Int) := by split <;> omega
    have hw1 : IntKind.i64.wrap (1 + ((min s.length 200 : Nat) : Int)) = ((1 + min s.length 200 : Nat) : Int) := by rw [wrap64 (by omega) (by omega)]; omega
    have hw2 : IntKind.i64.wrap ((fairN (l.take j) : Int) + ((1 + min s.length 200 : Nat) : Int)) = ((fairN (l.take (j + 1)) : Nat) : Int) := by rw [wrap64 (by omega) (by omega), hn]; omega
    by_cases k : fairN (l.take (j + 1)) ≤ 150
    · have k' : ¬ ((fairN (l.take (j + 1)) : Nat) : Int) > 150 := by omega
      simp only [D0, ains, appG, clsOf, abin, aint, aun, dnext, rowsOf, loadObj, cellsOf, ofCells, bnd, hmerge, Nat.reduceBEq, Nat.reduceAdd, reduceIte, Nat.reduceEqDiff, Nat.reduceLeDiff, Int.reduceEq, reduceCtorEq, Int.reduceBEq, Int.reduceBNe, Int.reduceLT, Int.reduceNeg, h', hg, hmn, hw1, hw2, k', hp, decide_true, decide_false, Int.natCast_nonneg, Int.toNat_natCast, List.length_map]
      simp only [F1, bodyRes, one, ains, appG, clsOf, abin, aint, aun, dnext, rowsOf, loadObj, cellsOf, ofCells, bnd, hmerge, Nat.reduceBEq, Nat.reduceAdd, reduceIte, Nat.reduceEqDiff, Nat.reduceLeDiff, Int.reduceEq, reduceCtorEq, Int.reduceBEq, Int.reduceBNe, Int.reduceLT, Int.reduceNeg]
      exact ⟨h, h, k⟩
    · have k' : ((fairN (l.take (j + 1)) : Nat) : Int) > 150 := by omega
      have hb : fairB l = false := by simp [fairB]; omega
      simp only [D0, ains, appG, clsOf, abin, aint, aun, dnext, rowsOf, loadObj, cellsOf, ofCells, bnd, hmerge, Nat.reduceBEq, Nat.reduceAdd, reduceIte, Nat.reduceEqDiff, Nat.reduceLeDiff, Int.reduceEq, reduceCtorEq, Int.reduceBEq, Int.reduceBNe, Int.reduceLT, Int.reduceNeg, h', hg, hmn, hw1, hw2, k', decide_true, Int.natCast_nonneg, Int.toNat_natCast, List.length_map]
      simp only [F1, bodyRes, one, ains, appG, clsOf, abin, aint, aun, dnext, rowsOf, loadObj, cellsOf, ofCells, bnd, hmerge, Nat.reduceBEq, Nat.reduceAdd, reduceIte, Nat.reduceEqDiff, Nat.reduceLeDiff, Int.reduceEq, reduceCtorEq, Int.reduceBEq, Int.reduceBNe, Int.reduceLT, Int.reduceNeg, fn1003_res, fn1003_keep, hb]
  · have h' : ¬ (j : Int) < (l.length : Int) := by omega
    have hjl : j = l.length := by omega
    subst hjl
    rw [List.take_length] at hf
    have hb : fairB l = true := by simp [fairB, hf]
    simp only [D0, ains, appG, clsOf, abin, aint, aun, dnext, rowsOf, loadObj, cellsOf, ofCells, bnd, hmerge, Nat.reduceBEq, Nat.reduceAdd, reduceIte, Nat.reduceEqDiff, Nat.reduceLeDiff, Int.reduceEq, reduceCtorEq, Int.reduceBEq, Int.reduceBNe, Int.reduceLT, Int.reduceNeg, h', decide_false]
    refine .inr ⟨by simp, ?_⟩
    simp only [F1, bodyRes, one, ains, appG, clsOf, abin, aint, aun, dnext, rowsOf, loadObj, cellsOf, ofCells, bnd, hmerge, Nat.reduceBEq, Nat.reduceAdd, reduceIte, Nat.reduceEqDiff, Nat.reduceLeDiff, Int.reduceEq, reduceCtorEq, Int.reduceBEq, Int.reduceBNe, Int.reduceLT, Int.reduceNeg, fn1003_res, fn1003_keep, hb]
noncomputable def k1003 : Kon ((List (List (Int × Int)))) := ⟨fun _ => True, fun x => [(AV.list 1 (List.map (fun s => [(AV.list 2 (List.map (fun x => [AV.int .i64 x.1, AV.int .i64 x.2]) (s)))]) (x)))], fun x => .bool (fairB x)⟩
theorem e1003 (l : List (List (Int × Int))) (q0 : Id) (H0 : Heap) : k1003.ora q0 ([(AV.list 1 (List.map (fun s => [(AV.list 2 (List.map (fun x => [AV.int .i64 x.1, AV.int .i64 x.2]) (s)))]) (l)))]) H0 = some (.bool (fairB l), H0) := k1003.eq (setsInj) (l) trivial q0 H0
theorem ook1003 : OraOK Tryz.prog (5 % 100000) k1003.ora := k1003.ok orders r8_ok (fun x hd => by simp [k1003, PU]) (fun x hd => by simp [k1003, PU]) (fun x hd => run1003 x)

noncomputable def r9 : FT := upd (upd (r8) 12 k1010.ora) 5 k1003.ora
theorem r9_ok : FTOK Tryz.prog r9 := upd_ok2 (f := 5) (upd_ok2 (f := 12) (r8_ok) ook1010) ook1003

end Go.Proofs.Abs

set_option linter.all false
set_option linter.constructorNameAsVariable false
set_option linter.defProp false
set_option linter.unusedVariables false
set_option linter.unusedSimpArgs false
set_option maxRecDepth 100000
set_option maxHeartbeats 16000000
namespace Go.Proofs.Abs
open Go
/-! 1008: refine.Bands. -/
def stOf (i : Nat) (s : List R2) : List Rg.T3 := s.map fun r => (r.1, r.2, (i : Int))
def stU (ps : List (List R2)) (j : Nat) : List Rg.T3 := (List.range j).flatMap fun i => stOf i (ps.getD i [])
def stL (ps : List (List R2)) : List Rg.T3 := stU ps ps.length
theorem stU_next (ps : List (List R2)) (j : Nat) : stU ps (j + 1) = stU ps j ++ stOf j (ps.getD j []) := by
  unfold stU
  rw [List.range_succ, List.flatMap_append]
  simp
theorem stU_lenS {ps : List (List R2)} : ∀ (j : Nat), j ≤ ps.length → (stU ps j).length = lenS (ps.take j)
  | 0, _ => rfl
  | j + 1, h => by
    rw [stU_next, takeL_snoc (by omega), lenS_snoc, List.length_append, stU_lenS j (by omega)]
    simp [stOf]
theorem stU_len {ps : List (List R2)} (h : lenS ps ≤ 1000) {j : Nat} (hj : j ≤ ps.length) : (stU ps j).length ≤ 1000 := by
  rw [stU_lenS j hj]
  have := lenS_take ps j
  omega
theorem stOf_take (j : Nat) (s : List R2) {i : Nat} (h : i < s.length) : stOf j (s.take (i + 1)) = stOf j (s.take i) ++ [((s.getD i (0, 0)).1, (s.getD i (0, 0)).2, (j : Int))] := by
  rw [take_snoc h]
  simp [stOf]
def swp : List Rg.T3 → List R2 → Int → Bool → Option (List R2)
  | [], out, _, more => if more then none else some out
  | x :: r, out, from_, more => if more = true ∧ x.1 = from_ then swp r (out ++ [(from_, x.2.2)]) (nextV x.2.1) (nextB x.2.1) else none
def bandsO (ps : List (List R2)) : Option (List R2) := if ps.all goodS && ps.all (fun s => !s.isEmpty) then swp (Rg.sortT (stL ps)) [] 0 true else none
theorem bandsO_empty {ps : List (List R2)} {s : List R2} (h : s ∈ ps) (e : s = []) : bandsO ps = none := by
  have : ps.all (fun s => !s.isEmpty) = false := by
    rw [Bool.eq_false_iff]
    intro k
    have := List.all_eq_true.1 k s h
    rw [e] at this
    simp at this
  simp [bandsO, this]
theorem e1021 (l : List Rg.T3) (h1 : l.length ≤ 1000000) (hd : distB l = true) (q : Id) (H : Heap) (id : Id) (hg : hget H id = some (.row true true 69 3 (List.map (fun x => [AV.int .i64 x.1, AV.int .i64 x.2.1, AV.int .i64 x.2.2]) l))) :
    sortStSpec q [.own id l.length, .func 33 []] H = some (.tuple [], hset H id (.row true true 69 3 (List.map (fun x => [AV.int .i64 x.1, AV.int .i64 x.2.1, AV.int .i64 x.2.2]) (Rg.sortT l)))) := by
  have hn : t3Of (List.map (fun x => [AV.int .i64 x.1, AV.int .i64 x.2.1, AV.int .i64 x.2.2]) l) = some l := t3Of_rows l
  simp only [sortStSpec, hg, hn, h1, hd, and_self, if_true]
  rfl
theorem run1008 (ps : List (List R2)) (h0 : ps.length ≤ 1000) (hl : lenS ps ≤ 1000) (hd : distB (stL ps) = true) (hps : ∀ s ∈ ps, s.length ≤ 1000000) :
    cwp r9 10 [] [(AV.list 1 (List.map (fun s => [(AV.list 2 (List.map (fun x => [AV.int .i64 x.1, AV.int .i64 x.2]) (s)))]) (ps)))] [] (fun r H => r = .tuple [(AV.list 2 (List.map (fun x => [AV.int .i64 x.1, AV.int .i64 x.2]) ((bandsO ps).getD []))), .bool (bandsO ps).isSome] ∧ H = []) := by
  refine run_fn (fn := fn1008) rfl rfl ?_
  have d2 : ps.length ≤ 1000000 ∧ ∀ s ∈ ps, s.length ≤ 9223372036854775807 := ⟨by omega, fun s hs => by have := hps s hs; omega⟩
  cases g2 : ps.all goodS with
  | false =>
    have hb : bandsO ps = none := by simp [bandsO, g2]
    simp only [fn1008_body, c1008, D0, ains, appG, clsOf, abin, aint, aun, dnext, rowsOf, loadObj, cellsOf, ofCells, bnd, hmerge, Nat.reduceBEq, Nat.reduceAdd, reduceIte, Nat.reduceEqDiff, Nat.reduceLeDiff, Int.reduceEq, reduceCtorEq, Int.reduceBEq, Int.reduceBNe, Int.reduceLT, Int.reduceNeg, @use_all r9 23 k1017.ora rfl, e1017 ps d2, g2]
    simp only [F1, bodyRes, one, ains, appG, clsOf, abin, aint, aun, dnext, rowsOf, loadObj, cellsOf, ofCells, bnd, hmerge, Nat.reduceBEq, Nat.reduceAdd, reduceIte, Nat.reduceEqDiff, Nat.reduceLeDiff, Int.reduceEq, reduceCtorEq, Int.reduceBEq, Int.reduceBNe, Int.reduceLT, Int.reduceNeg, fn1008_res, fn1008_keep, fz, fzd, fzd.fzcells, hb, Option.getD_none, Option.isSome_none, List.map_nil]
  | true =>
    simp only [fn1008_body, c1008, D0, ains, appG, clsOf, abin, aint, aun, dnext, rowsOf, loadObj, cellsOf, ofCells, bnd, hmerge, Nat.reduceBEq, Nat.reduceAdd, reduceIte, Nat.reduceEqDiff, Nat.reduceLeDiff, Int.reduceEq, reduceCtorEq, Int.reduceBEq, Int.reduceBNe, Int.reduceLT, Int.reduceNeg, @use_all r9 23 k1017.ora rfl, e1017 ps d2, g2]
    refine lg_rule (fun j e H => e = [(0, (AV.list 1 (List.map (fun s => [(AV.list 2 (List.map (fun x => [AV.int .i64 x.1, AV.int .i64 x.2]) (s)))]) (ps)))), (2, .own [0] 0), (3, .bool false), (4, .own [5] (stU ps j).length), (17, (AV.list 1 (List.map (fun s => [(AV.list 2 (List.map (fun x => [AV.int .i64 x.1, AV.int .i64 x.2]) (s)))]) (ps)))), (18, .int .i64 ps.length), (19, .int .i64 j)] ∧
      H = [[([5], .row true true 69 3 (List.map (fun x => [AV.int .i64 x.1, AV.int .i64 x.2.1, AV.int .i64 x.2.2]) (stU ps j))), ([0], .row true true 40 2 [])]] ∧ j ≤ ps.length ∧ (ps.take j).all (fun s => !s.isEmpty) = true) ps.length ?_ ?_
    · exact ⟨rfl, rfl, by simp, rfl⟩
    rintro j e H ⟨rfl, rfl, hj, hok⟩
    simp only [D0, ains, appG, clsOf, abin, aint, aun, dnext, rowsOf, loadObj, cellsOf, ofCells, bnd, hmerge, Nat.reduceBEq, Nat.reduceAdd, reduceIte, Nat.reduceEqDiff, Nat.reduceLeDiff, Int.reduceEq, reduceCtorEq, Int.reduceBEq, Int.reduceBNe, Int.reduceLT, Int.reduceNeg]
    by_cases h : j < ps.length
    · have h' : (j : Int) < (ps.length : Int) := by omega
      have hp := wrapp (j := j) (by omega)
      have hg := map_get (f := fun s : List R2 => [(AV.list 2 (List.map (fun x => [AV.int .i64 x.1, AV.int .i64 x.2]) (s)))]) h []
      have hsl := hps _ (getD_memL h)
      have hn := stU_next ps j
      have hul := stU_len hl hj
      have hul2 := stU_len hl (j := j + 1) (by omega)
      have hem := bandsO_empty (ps := ps) (s := ps.getD j []) (getD_memL h)
      have hok2 : (ps.take (j + 1)).all (fun s => !s.isEmpty) = !(ps.getD j []).isEmpty := by rw [takeL_snoc h, List.all_append, hok]; simp
      generalize ps.getD j [] = s at hg hsl hn hem hok2
      by_cases hs0 : s.length = 0
      · have hs0' : ((s.length : Int) == 0) = true := by simp [hs0]
        have hb := hem (by simpa using hs0)
        simp only [D0, ains, appG, clsOf, abin, aint, aun, dnext, rowsOf, loadObj, cellsOf, ofCells, bnd, hmerge, Nat.reduceBEq, Nat.reduceAdd, reduceIte, Nat.reduceEqDiff, Nat.reduceLeDiff, Int.reduceEq, reduceCtorEq, Int.reduceBEq, Int.reduceBNe, Int.reduceLT, Int.reduceNeg, h', hg, hs0', decide_true, Int.natCast_nonneg, Int.toNat_natCast, List.length_map]
        simp only [F1, bodyRes, one, ains, appG, clsOf, abin, aint, aun, dnext, rowsOf, loadObj, cellsOf, ofCells, bnd, hmerge, Nat.reduceBEq, Nat.reduceAdd, reduceIte, Nat.reduceEqDiff, Nat.reduceLeDiff, Int.reduceEq, reduceCtorEq, Int.reduceBEq, Int.reduceBNe, Int.reduceLT, Int.reduceNeg, fn1008_res, fn1008_keep, fz, fzd, fzd.fzcells, hb, Option.getD_none, Option.isSome_none, List.map_nil]
      · have hs0' : ((s.length : Int) == 0) = false := beq_eq_false_iff_ne.2 (by omega)
        have hok3 : (ps.take (j + 1)).all (fun s => !s.isEmpty) = true := by rw [hok2]; cases s with | nil => simp at hs0 | cons _ _ => rfl
        simp only [D0, ains, appG, clsOf, abin, aint, aun, dnext, rowsOf, loadObj, cellsOf, ofCells, bnd, hmerge, Nat.reduceBEq, Nat.reduceAdd, reduceIte, Nat.reduceEqDiff, Nat.reduceLeDiff, Int.reduceEq, reduceCtorEq, Int.reduceBEq, Int.reduceBNe, Int.reduceLT, Int.reduceNeg, h', hg, hs0', decide_true, Int.natCast_nonneg, Int.toNat_natCast, List.length_map]
        have hst := fun i : Nat => stOf_take j s (i := i)
        have hls : ∀ i, (stOf j (s.take i)).length ≤ s.length := fun i => by simp [stOf]; omega
        have hsn : (stU ps j ++ stOf j s).length ≤ 1000 := by rw [← hn]; exact hul2
        generalize stU ps j = U at hn hul hsn ⊢
        refine lg_rule (fun i e H => e = [(0, (AV.list 1 (List.map (fun s => [(AV.list 2 (List.map (fun x => [AV.int .i64 x.1, AV.int .i64 x.2]) (s)))]) (ps)))), (2, .own [0] 0), (3, .bool false), (4, .own [5] (U ++ stOf j (s.take i)).length), (17, (AV.list 1 (List.map (fun s => [(AV.list 2 (List.map (fun x => [AV.int .i64 x.1, AV.int .i64 x.2]) (s)))]) (ps)))), (18, .int .i64 ps.length), (19, .int .i64 j), (5, .int .i64 j), (6, (AV.list 2 (List.map (fun x => [AV.int .i64 x.1, AV.int .i64 x.2]) (s)))), (27, (AV.list 2 (List.map (fun x => [AV.int .i64 x.1, AV.int .i64 x.2]) (s)))), (28, .int .i64 s.length), (29, .int .i64 i)] ∧
          H = [[], [([5], .row true true 69 3 (List.map (fun x => [AV.int .i64 x.1, AV.int .i64 x.2.1, AV.int .i64 x.2.2]) (U ++ stOf j (s.take i)))), ([0], .row true true 40 2 [])]] ∧ i ≤ s.length) s.length ?_ ?_
        · refine ⟨?_, ?_, by simp⟩
          · simp [stOf]
          · simp [stOf]
        rintro i e H ⟨rfl, rfl, hi⟩
        simp only [D0, ains, appG, clsOf, abin, aint, aun, dnext, rowsOf, loadObj, cellsOf, ofCells, bnd, hmerge, Nat.reduceBEq, Nat.reduceAdd, reduceIte, Nat.reduceEqDiff, Nat.reduceLeDiff, Int.reduceEq, reduceCtorEq, Int.reduceBEq, Int.reduceBNe, Int.reduceLT, Int.reduceNeg]
        by_cases k : i < s.length
        · have k' : (i : Int) < (s.length : Int) := by omega
          have hpi := wrapp (j := i) (by omega)
          have hgi := map_get (f := fun x : Int × Int => [AV.int .i64 x.1, AV.int .i64 x.2]) k (0, 0)
          have hst := hst i k
          have hlt : (U ++ stOf j (s.take i)).length ≤ 1000 := by
            have : (stOf j (s.take i)).length ≤ (stOf j s).length := by simp [stOf]; omega
            simp only [List.length_append] at hsn ⊢
            omega
          have hst2 : U ++ stOf j (s.take (i + 1)) = (U ++ stOf j (s.take i)) ++ [((s.getD i (0, 0)).1, (s.getD i (0, 0)).2, (j : Int))] := by rw [hst, List.append_assoc]
          generalize s.getD i (0, 0) = x at hgi hst2
          obtain ⟨a, b⟩ := x
          generalize U ++ stOf j (s.take i) = V at hst2 hlt ⊢
          have hc1 : (V.length + 1) * 24 ≤ 140737488355328 := by omega
          simp only [D0, ains, appG, clsOf, abin, aint, aun, dnext, rowsOf, loadObj, cellsOf, ofCells, bnd, hmerge, Nat.reduceBEq, Nat.reduceAdd, reduceIte, Nat.reduceEqDiff, Nat.reduceLeDiff, Int.reduceEq, reduceCtorEq, Int.reduceBEq, Int.reduceBNe, Int.reduceLT, Int.reduceNeg, fz, fzd, fzd.fzcells, setRows, k', hgi, hpi, hc1, decide_true, Int.natCast_nonneg, Int.toNat_natCast, List.length_map]
          simp only [F1, bodyRes, one, ains, appG, clsOf, abin, aint, aun, dnext, rowsOf, loadObj, cellsOf, ofCells, bnd, hmerge, Nat.reduceBEq, Nat.reduceAdd, reduceIte, Nat.reduceEqDiff, Nat.reduceLeDiff, Int.reduceEq, reduceCtorEq, Int.reduceBEq, Int.reduceBNe, Int.reduceLT, Int.reduceNeg]
          rw [hst2]
          exact ⟨k, by simp, by simp, k⟩
        · have k' : ¬ (i : Int) < (s.length : Int) := by omega
          have hil : i = s.length := by omega
          subst hil
          simp only [D0, ains, appG, clsOf, abin, aint, aun, dnext, rowsOf, loadObj, cellsOf, ofCells, bnd, hmerge, Nat.reduceBEq, Nat.reduceAdd, reduceIte, Nat.reduceEqDiff, Nat.reduceLeDiff, Int.reduceEq, reduceCtorEq, Int.reduceBEq, Int.reduceBNe, Int.reduceLT, Int.reduceNeg, k', decide_false]
          refine .inr ⟨by simp, ?_⟩
          simp only [D0, ains, appG, clsOf, abin, aint, aun, dnext, rowsOf, loadObj, cellsOf, ofCells, bnd, hmerge, Nat.reduceBEq, Nat.reduceAdd, reduceIte, Nat.reduceEqDiff, Nat.reduceLeDiff, Int.reduceEq, reduceCtorEq, Int.reduceBEq, Int.reduceBNe, Int.reduceLT, Int.reduceNeg, hp]
          simp only [F1, bodyRes, one, ains, appG, clsOf, abin, aint, aun, dnext, rowsOf, loadObj, cellsOf, ofCells, bnd, hmerge, Nat.reduceBEq, Nat.reduceAdd, reduceIte, Nat.reduceEqDiff, Nat.reduceLeDiff, Int.reduceEq, reduceCtorEq, Int.reduceBEq, Int.reduceBNe, Int.reduceLT, Int.reduceNeg, List.take_length]
          rw [hn]
          exact ⟨h, rfl, rfl, h, hok3⟩
    · have h' : ¬ (j : Int) < (ps.length : Int) := by omega
      have hjl : j = ps.length := by omega
      subst hjl
      rw [List.take_length] at hok
      have hb : bandsO ps = swp (Rg.sortT (stL ps)) [] 0 true := by simp only [bandsO, g2, hok, Bool.and_self, if_true]
      have hul := stU_len hl (Nat.le_refl ps.length)
      rw [hb]
      simp only [D0, ains, appG, clsOf, abin, aint, aun, dnext, rowsOf, loadObj, cellsOf, ofCells, bnd, hmerge, Nat.reduceBEq, Nat.reduceAdd, reduceIte, Nat.reduceEqDiff, Nat.reduceLeDiff, Int.reduceEq, reduceCtorEq, Int.reduceBEq, Int.reduceBNe, Int.reduceLT, Int.reduceNeg, h', decide_false]
      refine .inr ⟨by simp, ?_⟩
      have hln : (stU ps ps.length).length ≤ 1000000 := by omega
      have hs1 := e1021 (stU ps ps.length) hln hd [11] [[([5], .row true true 69 3 (List.map (fun x => [AV.int .i64 x.1, AV.int .i64 x.2.1, AV.int .i64 x.2.2]) (stU ps ps.length))), ([0], .row true true 40 2 [])]] [5] rfl
      have hsl := Rg.sortT_length (stU ps ps.length)
      simp only [@use_all r9 32 sortStSpec rfl, hs1, hsl, D0, ains, appG, clsOf, abin, aint, aun, dnext, rowsOf, loadObj, cellsOf, ofCells, bnd, hmerge, Nat.reduceBEq, Nat.reduceAdd, reduceIte, Nat.reduceEqDiff, Nat.reduceLeDiff, Int.reduceEq, reduceCtorEq, Int.reduceBEq, Int.reduceBNe, Int.reduceLT, Int.reduceNeg]
      have hbe : Rg.sortT (stL ps) = Rg.sortT (stU ps ps.length) := rfl
      rw [hbe]
      rw [← hsl] at hul ⊢
      generalize Rg.sortT (stU ps ps.length) = W at hul ⊢
      clear hs1 hsl hbe hb hln hd
      refine lg_rule (fun i e H => ∃ (out : List R2) (f : Int) (m : Bool), e = [(0, (AV.list 1 (List.map (fun s => [(AV.list 2 (List.map (fun x => [AV.int .i64 x.1, AV.int .i64 x.2]) (s)))]) (ps)))), (2, .own [0] 0), (3, .bool false), (4, .own [5] W.length), (17, (AV.list 1 (List.map (fun s => [(AV.list 2 (List.map (fun x => [AV.int .i64 x.1, AV.int .i64 x.2]) (s)))]) (ps)))), (18, .int .i64 ps.length), (19, .int .i64 ps.length), (9, .own [12] out.length), (10, .int .i64 f), (11, .bool m), (43, .own [5] W.length), (44, .int .i64 W.length), (45, .int .i64 i)] ∧
        H = [[([12], .row true true 40 2 (List.map (fun x => [AV.int .i64 x.1, AV.int .i64 x.2]) out)), ([5], .row true true 69 3 (List.map (fun x => [AV.int .i64 x.1, AV.int .i64 x.2.1, AV.int .i64 x.2.2]) W)), ([0], .row true true 40 2 [])]] ∧ i ≤ W.length ∧ out.length = i ∧ swp W [] 0 true = swp (W.drop i) out f m) W.length ?_ ?_
      · exact ⟨[], 0, true, rfl, rfl, by simp, rfl, rfl⟩
      rintro i e H ⟨out, f, m, rfl, rfl, hi, hol, hsw⟩
      simp only [D0, ains, appG, clsOf, abin, aint, aun, dnext, rowsOf, loadObj, cellsOf, ofCells, bnd, hmerge, Nat.reduceBEq, Nat.reduceAdd, reduceIte, Nat.reduceEqDiff, Nat.reduceLeDiff, Int.reduceEq, reduceCtorEq, Int.reduceBEq, Int.reduceBNe, Int.reduceLT, Int.reduceNeg]
      by_cases k : i < W.length
      · have k' : (i : Int) < (W.length : Int) := by omega
        have hpi := wrapp (j := i) (by omega)
        have hgi := map_get (f := fun x : Rg.T3 => [AV.int .i64 x.1, AV.int .i64 x.2.1, AV.int .i64 x.2.2]) k (0, 0, 0)
        have hdr : W.drop i = W.getD i (0, 0, 0) :: W.drop (i + 1) := by rw [List.drop_eq_getElem_cons k]; simp [List.getElem?_eq_getElem k]
        rw [hdr] at hsw
        generalize W.getD i (0, 0, 0) = x at hgi hsw
        obtain ⟨a, b, c⟩ := x
        have hc1 : (out.length + 1) * 16 ≤ 140737488355328 := by omega
        cases m with
        | false =>
          have hno : swp W [] 0 true = none := by rw [hsw]; simp [swp]
          simp only [D0, ains, appG, clsOf, abin, aint, aun, dnext, rowsOf, loadObj, cellsOf, ofCells, bnd, hmerge, Nat.reduceBEq, Nat.reduceAdd, reduceIte, Nat.reduceEqDiff, Nat.reduceLeDiff, Int.reduceEq, reduceCtorEq, Int.reduceBEq, Int.reduceBNe, Int.reduceLT, Int.reduceNeg, k', hgi, hpi, decide_true, Int.natCast_nonneg, Int.toNat_natCast, List.length_map]
          simp only [F1, bodyRes, one, ains, appG, clsOf, abin, aint, aun, dnext, rowsOf, loadObj, cellsOf, ofCells, bnd, hmerge, Nat.reduceBEq, Nat.reduceAdd, reduceIte, Nat.reduceEqDiff, Nat.reduceLeDiff, Int.reduceEq, reduceCtorEq, Int.reduceBEq, Int.reduceBNe, Int.reduceLT, Int.reduceNeg, fn1008_res, fn1008_keep, fz, fzd, fzd.fzcells, hno, Option.getD_none, Option.isSome_none, List.map_nil]
        | true =>
          by_cases ha : a = f
          · subst ha
            have hna : (a != a) = false := by simp
            have hyes : swp W [] 0 true = swp (W.drop (i + 1)) (out ++ [(a, c)]) (nextV b) (nextB b) := by rw [hsw]; simp [swp]
            simp only [D0, ains, appG, clsOf, abin, aint, aun, dnext, rowsOf, loadObj, cellsOf, ofCells, bnd, hmerge, Nat.reduceBEq, Nat.reduceAdd, reduceIte, Nat.reduceEqDiff, Nat.reduceLeDiff, Int.reduceEq, reduceCtorEq, Int.reduceBEq, Int.reduceBNe, Int.reduceLT, Int.reduceNeg, fz, fzd, fzd.fzcells, setRows, @use_all r9 35 k92.ora rfl, e92, k', hgi, hpi, hna, hc1, decide_true, Int.natCast_nonneg, Int.toNat_natCast, List.length_map]
            simp only [F1, bodyRes, one, ains, appG, clsOf, abin, aint, aun, dnext, rowsOf, loadObj, cellsOf, ofCells, bnd, hmerge, Nat.reduceBEq, Nat.reduceAdd, reduceIte, Nat.reduceEqDiff, Nat.reduceLeDiff, Int.reduceEq, reduceCtorEq, Int.reduceBEq, Int.reduceBNe, Int.reduceLT, Int.reduceNeg]
            exact ⟨k, out ++ [(a, c)], nextV b, nextB b, by simp, by simp, k, by simp [hol], hyes⟩
          · have hna : (a != f) = true := by simpa using ha
            have hno : swp W [] 0 true = none := by rw [hsw]; simp [swp, ha]
            simp only [D0, ains, appG, clsOf, abin, aint, aun, dnext, rowsOf, loadObj, cellsOf, ofCells, bnd, hmerge, Nat.reduceBEq, Nat.reduceAdd, reduceIte, Nat.reduceEqDiff, Nat.reduceLeDiff, Int.reduceEq, reduceCtorEq, Int.reduceBEq, Int.reduceBNe, Int.reduceLT, Int.reduceNeg, k', hgi, hpi, hna, decide_true, Int.natCast_nonneg, Int.toNat_natCast, List.length_map]
            simp only [F1, bodyRes, one, ains, appG, clsOf, abin, aint, aun, dnext, rowsOf, loadObj, cellsOf, ofCells, bnd, hmerge, Nat.reduceBEq, Nat.reduceAdd, reduceIte, Nat.reduceEqDiff, Nat.reduceLeDiff, Int.reduceEq, reduceCtorEq, Int.reduceBEq, Int.reduceBNe, Int.reduceLT, Int.reduceNeg, fn1008_res, fn1008_keep, fz, fzd, fzd.fzcells, hno, Option.getD_none, Option.isSome_none, List.map_nil]
      · have k' : ¬ (i : Int) < (W.length : Int) := by omega
        have hil : i = W.length := by omega
        rw [hil, List.drop_length] at hsw
        simp only [D0, ains, appG, clsOf, abin, aint, aun, dnext, rowsOf, loadObj, cellsOf, ofCells, bnd, hmerge, Nat.reduceBEq, Nat.reduceAdd, reduceIte, Nat.reduceEqDiff, Nat.reduceLeDiff, Int.reduceEq, reduceCtorEq, Int.reduceBEq, Int.reduceBNe, Int.reduceLT, Int.reduceNeg, k', decide_false]
        refine .inr ⟨by simp, ?_⟩
        cases m with
        | true =>
          have hno : swp W [] 0 true = none := by rw [hsw]; rfl
          simp only [D0, ains, appG, clsOf, abin, aint, aun, dnext, rowsOf, loadObj, cellsOf, ofCells, bnd, hmerge, Nat.reduceBEq, Nat.reduceAdd, reduceIte, Nat.reduceEqDiff, Nat.reduceLeDiff, Int.reduceEq, reduceCtorEq, Int.reduceBEq, Int.reduceBNe, Int.reduceLT, Int.reduceNeg]
          simp only [F1, bodyRes, one, ains, appG, clsOf, abin, aint, aun, dnext, rowsOf, loadObj, cellsOf, ofCells, bnd, hmerge, Nat.reduceBEq, Nat.reduceAdd, reduceIte, Nat.reduceEqDiff, Nat.reduceLeDiff, Int.reduceEq, reduceCtorEq, Int.reduceBEq, Int.reduceBNe, Int.reduceLT, Int.reduceNeg, fn1008_res, fn1008_keep, fz, fzd, fzd.fzcells, hno, Option.getD_none, Option.isSome_none, List.map_nil]
        | false =>
          have hyes : swp W [] 0 true = some out := by rw [hsw]; rfl
          simp only [D0, ains, appG, clsOf, abin, aint, aun, dnext, rowsOf, loadObj, cellsOf, ofCells, bnd, hmerge, Nat.reduceBEq, Nat.reduceAdd, reduceIte, Nat.reduceEqDiff, Nat.reduceLeDiff, Int.reduceEq, reduceCtorEq, Int.reduceBEq, Int.reduceBNe, Int.reduceLT, Int.reduceNeg]
          simp only [F1, bodyRes, one, ains, appG, clsOf, abin, aint, aun, dnext, rowsOf, loadObj, cellsOf, ofCells, bnd, hmerge, Nat.reduceBEq, Nat.reduceAdd, reduceIte, Nat.reduceEqDiff, Nat.reduceLeDiff, Int.reduceEq, reduceCtorEq, Int.reduceBEq, Int.reduceBNe, Int.reduceLT, Int.reduceNeg, fn1008_res, fn1008_keep, fz, fzd, fzd.fzcells, hyes, Option.getD_some, Option.isSome_some, List.length_map]
noncomputable def k1008 : Kon ((List (List (Int × Int)))) := ⟨fun x => x.length ≤ 1000 ∧ lenS x ≤ 1000 ∧ distB (stL x) = true ∧ ∀ s ∈ x, s.length ≤ 1000000, fun x => [(AV.list 1 (List.map (fun s => [(AV.list 2 (List.map (fun x => [AV.int .i64 x.1, AV.int .i64 x.2]) (s)))]) (x)))], fun x => .tuple [(AV.list 2 (List.map (fun x => [AV.int .i64 x.1, AV.int .i64 x.2]) ((bandsO x).getD []))), .bool (bandsO x).isSome]⟩
theorem e1008 (ps : List (List (Int × Int))) (hd : ps.length ≤ 1000 ∧ lenS ps ≤ 1000 ∧ distB (stL ps) = true ∧ ∀ s ∈ ps, s.length ≤ 1000000) (q0 : Id) (H0 : Heap) : k1008.ora q0 ([(AV.list 1 (List.map (fun s => [(AV.list 2 (List.map (fun x => [AV.int .i64 x.1, AV.int .i64 x.2]) (s)))]) (ps)))]) H0 = some (.tuple [(AV.list 2 (List.map (fun x => [AV.int .i64 x.1, AV.int .i64 x.2]) ((bandsO ps).getD []))), .bool (bandsO ps).isSome], H0) := k1008.eqD (fun a b _ _ h => setsInj a b h) (ps) hd q0 H0
theorem ook1008 : OraOK Tryz.prog (10 % 100000) k1008.ora := k1008.ok orders r9_ok (fun x hd => by simp [k1008, PU]) (fun x hd => by simp [k1008, PU]) (fun x hd => run1008 x hd.1 hd.2.1 hd.2.2.1 hd.2.2.2)

noncomputable def r10 : FT := upd (r9) 10 k1008.ora
theorem r10_ok : FTOK Tryz.prog r10 := upd_ok2 (f := 10) (r9_ok) ook1008

end Go.Proofs.Abs
