/- A part of a proof: the text that states the row tells what is proved. No condition is laid on anything. -/
import Derived.Test.YtgcncpedpjjjeaaAbsY7
set_option linter.all false
set_option linter.constructorNameAsVariable false
set_option linter.defProp false
set_option linter.unusedVariables false
set_option linter.unusedSimpArgs false
set_option maxRecDepth 100000
set_option maxHeartbeats 16000000
namespace Go.Proofs.Abs
open Go
/-! 91: scalar.Prev. -/
theorem run91 (v : Int) : cwp s2 91 [] [.int .i64 v] [] (fun r H => r = .tuple [.int .i64 (prevV v), .bool (prevB v)] ∧ H = []) := by
  refine run_fn (fn := fn91) rfl rfl ?_
  simp only [fn91_body, c91, D0, ains, clsOf, abin, aint, aun, dnext, rowsOf, loadObj, cellsOf, ofCells, bnd, hmerge, Nat.reduceBEq, Nat.reduceAdd, reduceIte, Nat.reduceEqDiff, Nat.reduceLeDiff, Int.reduceEq, reduceCtorEq, Int.reduceBEq, Int.reduceBNe, Int.reduceLT, Int.reduceNeg]
  repeat' ((first | refine rw1_nsplit (fun h => ?_) (fun h => ?_) | refine rw1_split (fun h => ?_) (fun h => ?_) | refine dw1_nsplit (fun h => ?_) (fun h => ?_) | refine dw1_split (fun h => ?_) (fun h => ?_) | refine cg2_nsplit (fun h => ?_) (fun h => ?_) | refine cg2_split (fun h => ?_) (fun h => ?_)) <;> simp only [D0, ains, clsOf, abin, aint, aun, dnext, rowsOf, loadObj, cellsOf, ofCells, bnd, hmerge, Nat.reduceBEq, Nat.reduceAdd, reduceIte, Nat.reduceEqDiff, Nat.reduceLeDiff, Int.reduceEq, reduceCtorEq, Int.reduceBEq, Int.reduceBNe, Int.reduceLT, Int.reduceNeg, h, if_true])
  all_goals simp only [F1, bodyRes, one, ains, clsOf, abin, aint, aun, dnext, rowsOf, loadObj, cellsOf, ofCells, bnd, hmerge, Nat.reduceBEq, Nat.reduceAdd, reduceIte, Nat.reduceEqDiff, Nat.reduceLeDiff, Int.reduceEq, reduceCtorEq, Int.reduceBEq, Int.reduceBNe, Int.reduceLT, Int.reduceNeg, fn91_res, fn91_keep]
  all_goals try simp only [decide_eq_true_eq, decide_eq_false_iff_not] at *
  all_goals try simp (disch := omega) only [wrap32, wrap64] at *
  all_goals try simp only [AV.tuple.injEq, AV.agg.injEq, List.cons.injEq, AV.int.injEq, AV.bool.injEq, and_true, true_and]
  all_goals refine ⟨by unfold prevV; (repeat' split) <;> omega, ?_⟩
  all_goals (rw [Bool.eq_iff_iff]; simp [prevB]; try omega)
noncomputable def k91 : Kon (Int) := ⟨fun _ => True, fun x => [.int .i64 x], fun x => .tuple [.int .i64 (prevV x), .bool (prevB x)]⟩
theorem e91 (v : Int) (q0 : Id) (H0 : Heap) : k91.ora q0 ([.int .i64 v]) H0 = some (.tuple [.int .i64 (prevV v), .bool (prevB v)], H0) := k91.eq (intInj) (v) trivial q0 H0
theorem ook91 : OraOK Try.prog (91 % 100000) k91.ora := k91.ok orders s2_ok (fun x hd => by simp [k91, PU]) (fun x hd => by simp [k91, PU]) (fun x hd => run91 x)

/-! 124, 100: scalar.Count. -/
theorem run124 (a b : Int) (h0 : 0 ≤ a) (h1 : b ≤ 1114111) : cwp s2 124 [] [.int .i64 a, .int .i64 b] [] (fun r H => r = .int .i64 (numV a b) ∧ H = []) := by
  refine run_fn (fn := fn124) rfl rfl ?_
  by_cases h : b < a
  · have e : numV a b = 0 := by simp [numV, h]
    simp only [fn124_body, c124, D0, ains, clsOf, abin, aint, aun, dnext, rowsOf, loadObj, cellsOf, ofCells, bnd, hmerge, Nat.reduceBEq, Nat.reduceAdd, reduceIte, Nat.reduceEqDiff, Nat.reduceLeDiff, Int.reduceEq, reduceCtorEq, Int.reduceBEq, Int.reduceBNe, Int.reduceLT, Int.reduceNeg, h, decide_true]
    simp only [F1, bodyRes, one, ains, clsOf, abin, aint, aun, dnext, rowsOf, loadObj, cellsOf, ofCells, bnd, hmerge, Nat.reduceBEq, Nat.reduceAdd, reduceIte, Nat.reduceEqDiff, Nat.reduceLeDiff, Int.reduceEq, reduceCtorEq, Int.reduceBEq, Int.reduceBNe, Int.reduceLT, Int.reduceNeg, fn124_res, fn124_keep, e]
  · have e : numV a b = b - a + 1 := by simp [numV, h]
    have w1 : IntKind.i64.wrap (b - a) = b - a := wrap64 (by omega) (by omega)
    have w2 : IntKind.i64.wrap (b - a + 1) = b - a + 1 := wrap64 (by omega) (by omega)
    simp only [fn124_body, c124, D0, ains, clsOf, abin, aint, aun, dnext, rowsOf, loadObj, cellsOf, ofCells, bnd, hmerge, Nat.reduceBEq, Nat.reduceAdd, reduceIte, Nat.reduceEqDiff, Nat.reduceLeDiff, Int.reduceEq, reduceCtorEq, Int.reduceBEq, Int.reduceBNe, Int.reduceLT, Int.reduceNeg, h, w1, w2, decide_false]
    simp only [F1, bodyRes, one, ains, clsOf, abin, aint, aun, dnext, rowsOf, loadObj, cellsOf, ofCells, bnd, hmerge, Nat.reduceBEq, Nat.reduceAdd, reduceIte, Nat.reduceEqDiff, Nat.reduceLeDiff, Int.reduceEq, reduceCtorEq, Int.reduceBEq, Int.reduceBNe, Int.reduceLT, Int.reduceNeg, fn124_res, fn124_keep, e]
theorem int2Inj : ∀ x y : Int × Int, [AV.int .i64 x.1, AV.int .i64 x.2] = [AV.int .i64 y.1, AV.int .i64 y.2] → x = y := by
  rintro ⟨a, b⟩ ⟨c, d⟩ h
  simpa using h
noncomputable def k124 : Kon (Int × Int) := ⟨fun x => 0 ≤ x.1 ∧ x.2 ≤ 1114111, fun x => [.int .i64 x.1, .int .i64 x.2], fun x => .int .i64 (numV x.1 x.2)⟩
theorem e124 (a : Int) (b : Int) (hd : 0 ≤ a ∧ b ≤ 1114111) (q0 : Id) (H0 : Heap) : k124.ora q0 ([.int .i64 a, .int .i64 b]) H0 = some (.int .i64 (numV a b), H0) := k124.eq (int2Inj) (a, b) hd q0 H0
theorem ook124 : OraOK Try.prog (124 % 100000) k124.ora := k124.ok orders s2_ok (fun x hd => by simp [k124, PU]) (fun x hd => by simp [k124, PU]) (fun x hd => run124 x.1 x.2 hd.1 hd.2)

noncomputable def s3 : FT := upd (upd (s2) 91 k91.ora) 124 k124.ora
theorem s3_ok : FTOK Try.prog s3 := upd_ok2 (f := 124) (upd_ok2 (f := 91) (s2_ok) ook91) ook124

theorem numV_le {a b : Int} (h0 : 0 ≤ a) (h1 : b ≤ 1114111) : 0 ≤ numV a b ∧ numV a b ≤ 1114112 := by unfold numV; split <;> omega
theorem run100 (a b : Int) (h0 : 0 ≤ a) (h1 : b ≤ 1114111) : cwp s3 100 [] [.int .i64 a, .int .i64 b] [] (fun r H => r = .int .i64 (cntV a b) ∧ H = []) := by
  refine run_fn (fn := fn100) rfl rfl ?_
  have e1 : (if a < 0 then 0 else a) = a := if_neg (by omega)
  have e2 : (if 1114111 < b then 1114111 else b) = b := if_neg (by omega)
  have e3 : (if 55295 < b then 55295 else b) = min b 55295 := by split <;> omega
  have e4 : (if a < 57344 then 57344 else a) = max a 57344 := by split <;> omega
  have d1 : min b 55295 ≤ 1114111 := by omega
  have d2 : 0 ≤ max a 57344 := by omega
  have n1 := numV_le h0 d1
  have n2 := numV_le d2 h1
  have w : IntKind.i64.wrap (numV a (min b 55295) + numV (max a 57344) b) = cntV a b := wrap64 (by omega) (by omega)
  simp only [fn100_body, c100, D0, ains, clsOf, abin, aint, aun, dnext, rowsOf, loadObj, cellsOf, ofCells, bnd, hmerge, Nat.reduceBEq, Nat.reduceAdd, reduceIte, Nat.reduceEqDiff, Nat.reduceLeDiff, Int.reduceEq, reduceCtorEq, Int.reduceBEq, Int.reduceBNe, Int.reduceLT, Int.reduceNeg, @use_all s3 124 k124.ora rfl, e124, e1, e2, e3, e4, h0, h1, d1, d2, w]
  simp only [F1, bodyRes, one, ains, clsOf, abin, aint, aun, dnext, rowsOf, loadObj, cellsOf, ofCells, bnd, hmerge, Nat.reduceBEq, Nat.reduceAdd, reduceIte, Nat.reduceEqDiff, Nat.reduceLeDiff, Int.reduceEq, reduceCtorEq, Int.reduceBEq, Int.reduceBNe, Int.reduceLT, Int.reduceNeg, fn100_res, fn100_keep]
noncomputable def k100 : Kon (Int × Int) := ⟨fun x => 0 ≤ x.1 ∧ x.2 ≤ 1114111, fun x => [.int .i64 x.1, .int .i64 x.2], fun x => .int .i64 (cntV x.1 x.2)⟩
theorem e100 (a : Int) (b : Int) (hd : 0 ≤ a ∧ b ≤ 1114111) (q0 : Id) (H0 : Heap) : k100.ora q0 ([.int .i64 a, .int .i64 b]) H0 = some (.int .i64 (cntV a b), H0) := k100.eq (int2Inj) (a, b) hd q0 H0
theorem ook100 : OraOK Try.prog (100 % 100000) k100.ora := k100.ok orders s3_ok (fun x hd => by simp [k100, PU]) (fun x hd => by simp [k100, PU]) (fun x hd => run100 x.1 x.2 hd.1 hd.2)

/-! 90: slices.Concat, of two sets. -/
def lenS (l : List (List R2)) : Nat := (l.map List.length).sum
theorem lenS_snoc (l : List (List R2)) (s : List R2) : lenS (l ++ [s]) = lenS l + s.length := by simp [lenS]
theorem takeL_snoc {l : List (List R2)} {j : Nat} (h : j < l.length) : l.take (j + 1) = l.take j ++ [l.getD j []] := by
  rw [List.take_succ_eq_append_getElem h]
  simp [List.getElem?_eq_getElem h]
theorem lenS_take (l : List (List R2)) (j : Nat) : lenS (l.take j) ≤ lenS l := by
  have e : lenS (l.take j) + lenS (l.drop j) = lenS l := by
    conv => rhs; rw [← List.take_append_drop j l]
    simp only [lenS, List.map_append, List.sum_append]
  omega
theorem flat_snoc (l : List (List R2)) (s : List R2) : (l ++ [s]).flatten = l.flatten ++ s := by simp
theorem flatS_len (l : List (List R2)) : l.flatten.length = lenS l := by simp [lenS, List.length_flatten]
theorem run90 (l : List (List R2)) (h0 : l.length ≤ 1000) (hl : lenS l ≤ 1000000) : cwp s3 90 [] [.list 1 (List.map (fun s => [(AV.list 2 (List.map (fun x => [AV.int .i64 x.1, AV.int .i64 x.2]) (s)))]) l)] [] (fun r H => r = (AV.list 2 (List.map (fun x => [AV.int .i64 x.1, AV.int .i64 x.2]) (l.flatten))) ∧ H = []) := by
  refine run_fn (fn := fn90) rfl rfl ?_
  simp only [fn90_body, c90, D0, ains, clsOf, abin, aint, aun, dnext, rowsOf, loadObj, cellsOf, ofCells, bnd, hmerge, Nat.reduceBEq, Nat.reduceAdd, reduceIte, Nat.reduceEqDiff, Nat.reduceLeDiff, Int.reduceEq, reduceCtorEq, Int.reduceBEq, Int.reduceBNe, Int.reduceLT, Int.reduceNeg]
  refine lg_rule (fun j e H => ∃ s : Nat, e = [(0, (.list 1 (List.map (fun s => [(AV.list 2 (List.map (fun x => [AV.int .i64 x.1, AV.int .i64 x.2]) (s)))]) l))), (2, .own [0] 0), (3, .int .i64 s), (9, (.list 1 (List.map (fun s => [(AV.list 2 (List.map (fun x => [AV.int .i64 x.1, AV.int .i64 x.2]) (s)))]) l))), (10, .int .i64 l.length), (11, .int .i64 j)] ∧ H = [[([0], .row true true 70 2 [])]] ∧ j ≤ l.length ∧ s = lenS (l.take j)) l.length ?_ ?_
  · exact ⟨0, rfl, rfl, by simp, rfl⟩
  rintro j e H ⟨s, rfl, rfl, hj, hs⟩
  simp only [D0, ains, clsOf, abin, aint, aun, dnext, rowsOf, loadObj, cellsOf, ofCells, bnd, hmerge, Nat.reduceBEq, Nat.reduceAdd, reduceIte, Nat.reduceEqDiff, Nat.reduceLeDiff, Int.reduceEq, reduceCtorEq, Int.reduceBEq, Int.reduceBNe, Int.reduceLT, Int.reduceNeg]
  by_cases h : j < l.length
  · have h' : (j : Int) < (l.length : Int) := by omega
    have hp := wrapp (j := j) (by omega)
    have hg := map_get (f := fun s : List R2 => [(AV.list 2 (List.map (fun x => [AV.int .i64 x.1, AV.int .i64 x.2]) (s)))]) h []
    have hn := lenS_snoc (l.take j) (l.getD j [])
    have hle := lenS_take l (j + 1)
    rw [← takeL_snoc h] at hn
    generalize l.getD j [] = x at hg hn
    have hw : IntKind.i64.wrap ((s : Int) + (x.length : Int)) = ((s + x.length : Nat) : Int) := by rw [wrap64 (by omega) (by omega)]; omega
    have hneg : ¬ ((s + x.length : Nat) : Int) < 0 := by omega
    simp only [D0, ains, clsOf, abin, aint, aun, dnext, rowsOf, loadObj, cellsOf, ofCells, bnd, hmerge, Nat.reduceBEq, Nat.reduceAdd, reduceIte, Nat.reduceEqDiff, Nat.reduceLeDiff, Int.reduceEq, reduceCtorEq, Int.reduceBEq, Int.reduceBNe, Int.reduceLT, Int.reduceNeg, h', hg, hp, hw, hneg, decide_true, decide_false, Int.natCast_nonneg, Int.toNat_natCast]
    simp only [F1, bodyRes, one, ains, clsOf, abin, aint, aun, dnext, rowsOf, loadObj, cellsOf, ofCells, bnd, hmerge, Nat.reduceBEq, Nat.reduceAdd, reduceIte, Nat.reduceEqDiff, Nat.reduceLeDiff, Int.reduceEq, reduceCtorEq, Int.reduceBEq, Int.reduceBNe, Int.reduceLT, Int.reduceNeg]
    exact ⟨h, _, rfl, h, by omega⟩
  have h' : ¬ (j : Int) < (l.length : Int) := by omega
  have hjl : j = l.length := by omega
  subst hjl
  rw [List.take_length] at hs
  subst hs
  simp only [D0, ains, clsOf, abin, aint, aun, dnext, rowsOf, loadObj, cellsOf, ofCells, bnd, hmerge, Nat.reduceBEq, Nat.reduceAdd, reduceIte, Nat.reduceEqDiff, Nat.reduceLeDiff, Int.reduceEq, reduceCtorEq, Int.reduceBEq, Int.reduceBNe, Int.reduceLT, Int.reduceNeg, h', decide_false]
  refine .inr ⟨by simp, ?_⟩
  have hc : 0 ≤ ((lenS l : Nat) : Int) ∧ ((lenS l : Nat) : Int) ≤ 1000000 := by omega
  simp only [D0, ains, clsOf, abin, aint, aun, dnext, rowsOf, loadObj, cellsOf, ofCells, bnd, hmerge, Nat.reduceBEq, Nat.reduceAdd, reduceIte, Nat.reduceEqDiff, Nat.reduceLeDiff, Int.reduceEq, reduceCtorEq, Int.reduceBEq, Int.reduceBNe, Int.reduceLT, Int.reduceNeg, @use_all s3 118 growSpec rfl, growSpec, if_pos hc]
  refine lg_rule (fun j e H => e = [(0, (.list 1 (List.map (fun s => [(AV.list 2 (List.map (fun x => [AV.int .i64 x.1, AV.int .i64 x.2]) (s)))]) l))), (2, .own [0] 0), (3, .int .i64 (lenS l)), (9, (.list 1 (List.map (fun s => [(AV.list 2 (List.map (fun x => [AV.int .i64 x.1, AV.int .i64 x.2]) (s)))]) l))), (10, .int .i64 l.length), (11, .int .i64 l.length), (6, .own [7, 0] (l.take j).flatten.length), (25, (.list 1 (List.map (fun s => [(AV.list 2 (List.map (fun x => [AV.int .i64 x.1, AV.int .i64 x.2]) (s)))]) l))), (26, .int .i64 l.length), (27, .int .i64 j)] ∧
    H = [[([7, 0], .row true true 70 2 (List.map (fun x => [AV.int .i64 x.1, AV.int .i64 x.2]) (l.take j).flatten)), ([0], .row true true 70 2 [])]] ∧ j ≤ l.length) l.length ?_ ?_
  · exact ⟨rfl, rfl, by simp⟩
  rintro j e H ⟨rfl, rfl, hj⟩
  simp only [D0, ains, clsOf, abin, aint, aun, dnext, rowsOf, loadObj, cellsOf, ofCells, bnd, hmerge, Nat.reduceBEq, Nat.reduceAdd, reduceIte, Nat.reduceEqDiff, Nat.reduceLeDiff, Int.reduceEq, reduceCtorEq, Int.reduceBEq, Int.reduceBNe, Int.reduceLT, Int.reduceNeg]
  by_cases h : j < l.length
  · have h' : (j : Int) < (l.length : Int) := by omega
    have hp := wrapp (j := j) (by omega)
    have hg := map_get (f := fun s : List R2 => [(AV.list 2 (List.map (fun x => [AV.int .i64 x.1, AV.int .i64 x.2]) (s)))]) h []
    have hf := flat_snoc (l.take j) (l.getD j [])
    have hle := lenS_take l (j + 1)
    have hn := lenS_snoc (l.take j) (l.getD j [])
    rw [← takeL_snoc h] at hf hn
    have hl1 := flatS_len (l.take j)
    generalize l.getD j [] = x at hg hf hn
    generalize (l.take j).flatten = u at hf hl1 ⊢
    have hcap : (u.length + x.length) * 16 ≤ 140737488355328 := by omega
    simp only [D0, ains, clsOf, abin, aint, aun, dnext, rowsOf, loadObj, cellsOf, ofCells, bnd, hmerge, Nat.reduceBEq, Nat.reduceAdd, reduceIte, Nat.reduceEqDiff, Nat.reduceLeDiff, Int.reduceEq, reduceCtorEq, Int.reduceBEq, Int.reduceBNe, Int.reduceLT, Int.reduceNeg, h', hg, hp, hcap, decide_true, Int.natCast_nonneg, Int.toNat_natCast, List.length_map]
    simp only [F1, bodyRes, one, ains, clsOf, abin, aint, aun, dnext, rowsOf, loadObj, cellsOf, ofCells, bnd, hmerge, Nat.reduceBEq, Nat.reduceAdd, reduceIte, Nat.reduceEqDiff, Nat.reduceLeDiff, Int.reduceEq, reduceCtorEq, Int.reduceBEq, Int.reduceBNe, Int.reduceLT, Int.reduceNeg]
    rw [hf]
    exact ⟨h, by simp, by simp, h⟩
  have h' : ¬ (j : Int) < (l.length : Int) := by omega
  have hjl : j = l.length := by omega
  subst hjl
  simp only [List.take_length, D0, ains, clsOf, abin, aint, aun, dnext, rowsOf, loadObj, cellsOf, ofCells, bnd, hmerge, Nat.reduceBEq, Nat.reduceAdd, reduceIte, Nat.reduceEqDiff, Nat.reduceLeDiff, Int.reduceEq, reduceCtorEq, Int.reduceBEq, Int.reduceBNe, Int.reduceLT, Int.reduceNeg, h', decide_false]
  refine .inr ⟨by simp, ?_⟩
  simp only [F1, bodyRes, one, ains, clsOf, abin, aint, aun, dnext, rowsOf, loadObj, cellsOf, ofCells, bnd, hmerge, Nat.reduceBEq, Nat.reduceAdd, reduceIte, Nat.reduceEqDiff, Nat.reduceLeDiff, Int.reduceEq, reduceCtorEq, Int.reduceBEq, Int.reduceBNe, Int.reduceLT, Int.reduceNeg, fn90_res, fn90_keep, fz, fzd, fzd.fzcells]
theorem cat2Inj : ∀ x y : List R2 × List R2, [AV.list 1 [[(AV.list 2 (List.map (fun x => [AV.int .i64 x.1, AV.int .i64 x.2]) (x.1)))], [(AV.list 2 (List.map (fun x => [AV.int .i64 x.1, AV.int .i64 x.2]) (x.2)))]]] = [AV.list 1 [[(AV.list 2 (List.map (fun x => [AV.int .i64 x.1, AV.int .i64 x.2]) (y.1)))], [(AV.list 2 (List.map (fun x => [AV.int .i64 x.1, AV.int .i64 x.2]) (y.2)))]]] → x = y := by
  rintro ⟨a, m⟩ ⟨b, n⟩ h
  simp only [List.cons.injEq, AV.list.injEq, and_true, true_and] at h
  have h1 := eSet_inj (a := a) (b := b) (by simp only [eSet, AV.list.injEq]; exact ⟨trivial, h.1⟩)
  have h2 := eSet_inj (a := m) (b := n) (by simp only [eSet, AV.list.injEq]; exact ⟨trivial, h.2⟩)
  rw [h1, h2]
theorem run90' (a b : List R2) (h : a.length + b.length ≤ 1000000) : cwp s3 90 [] [.list 1 [[(AV.list 2 (List.map (fun x => [AV.int .i64 x.1, AV.int .i64 x.2]) (a)))], [(AV.list 2 (List.map (fun x => [AV.int .i64 x.1, AV.int .i64 x.2]) (b)))]]] [] (fun r H => r = (AV.list 2 (List.map (fun x => [AV.int .i64 x.1, AV.int .i64 x.2]) (a ++ b))) ∧ H = []) := by
  have := run90 [a, b] (by simp) (by simpa [lenS] using h)
  simpa using this
@[simp] theorem pure_cat (a b : List R2) : Pure (AV.list 2 (List.map (fun x => [AV.int .i64 x.1, AV.int .i64 x.2]) a ++ List.map (fun x => [AV.int .i64 x.1, AV.int .i64 x.2]) b)) := by
  rw [← List.map_append]
  simp only [PU]
@[simp] theorem pure_two (a b : List R2) : Pure (AV.list 1 [[(AV.list 2 (List.map (fun x => [AV.int .i64 x.1, AV.int .i64 x.2]) (a)))], [(AV.list 2 (List.map (fun x => [AV.int .i64 x.1, AV.int .i64 x.2]) (b)))]]) := by
  refine .list _ _ fun j av e => ?_
  match j, e with
  | 0, e => simp at e; subst e; simp only [PU]
  | 1, e => simp at e; subst e; simp only [PU]
noncomputable def k90 : Kon ((List (Int × Int)) × (List (Int × Int))) := ⟨fun x => x.1.length + x.2.length ≤ 1000000, fun x => [.list 1 [[(AV.list 2 (List.map (fun x => [AV.int .i64 x.1, AV.int .i64 x.2]) (x.1)))], [(AV.list 2 (List.map (fun x => [AV.int .i64 x.1, AV.int .i64 x.2]) (x.2)))]]], fun x => (AV.list 2 (List.map (fun x => [AV.int .i64 x.1, AV.int .i64 x.2]) (x.1 ++ x.2)))⟩
theorem e90 (a : List (Int × Int)) (b : List (Int × Int)) (hd : a.length + b.length ≤ 1000000) (q0 : Id) (H0 : Heap) : k90.ora q0 ([.list 1 [[(AV.list 2 (List.map (fun x => [AV.int .i64 x.1, AV.int .i64 x.2]) (a)))], [(AV.list 2 (List.map (fun x => [AV.int .i64 x.1, AV.int .i64 x.2]) (b)))]]]) H0 = some ((AV.list 2 (List.map (fun x => [AV.int .i64 x.1, AV.int .i64 x.2]) (a ++ b))), H0) := k90.eq (cat2Inj) (a, b) hd q0 H0
theorem ook90 : OraOK Try.prog (90 % 100000) k90.ora := k90.ok orders s3_ok (fun x hd => by simp [k90, PU]) (fun x hd => by simp [k90, PU]) (fun x hd => run90' x.1 x.2 hd)

noncomputable def s4 : FT := upd (upd (s3) 100 k100.ora) 90 k90.ora
theorem s4_ok : FTOK Try.prog s4 := upd_ok2 (f := 90) (upd_ok2 (f := 100) (s3_ok) ook100) ook90

/-! 49: sets.Union. -/
theorem run49 (a b : List R2) (ha : a.length ≤ 400000) (hb : b.length ≤ 400000) : cwp s4 49 [] [(AV.list 2 (List.map (fun x => [AV.int .i64 x.1, AV.int .i64 x.2]) (a))), (AV.list 2 (List.map (fun x => [AV.int .i64 x.1, AV.int .i64 x.2]) (b)))] [] (fun r H => r = .tuple [(AV.list 2 (List.map (fun x => [AV.int .i64 x.1, AV.int .i64 x.2]) (unionS a b))), .bool (goodS a && goodS b)] ∧ H = []) := by
  refine run_fn (fn := fn49) rfl rfl ?_
  have la : a.length ≤ 9223372036854775807 := by omega
  have lb : b.length ≤ 9223372036854775807 := by omega
  have hab : a.length + b.length ≤ 1000000 := by omega
  have hab' : (a ++ b).length ≤ 1000000 := by simpa using hab
  cases ga : goodS a with
  | false =>
    have e : unionS a b = [] := by simp [unionS, ga]
    simp only [fn49_body, c49, D0, ains, clsOf, abin, aint, aun, dnext, rowsOf, loadObj, cellsOf, ofCells, bnd, hmerge, Nat.reduceBEq, Nat.reduceAdd, reduceIte, Nat.reduceEqDiff, Nat.reduceLeDiff, Int.reduceEq, reduceCtorEq, Int.reduceBEq, Int.reduceBNe, Int.reduceLT, Int.reduceNeg, @use_all s4 56 k56.ora rfl, e56, la, lb, ga]
    simp only [F1, bodyRes, one, ains, clsOf, abin, aint, aun, dnext, rowsOf, loadObj, cellsOf, ofCells, bnd, hmerge, Nat.reduceBEq, Nat.reduceAdd, reduceIte, Nat.reduceEqDiff, Nat.reduceLeDiff, Int.reduceEq, reduceCtorEq, Int.reduceBEq, Int.reduceBNe, Int.reduceLT, Int.reduceNeg, fn49_res, fn49_keep, fz, fzd, fzd.fzcells, e, List.map_nil]
    try rfl
  | true => cases gb : goodS b with
    | false =>
      have e : unionS a b = [] := by simp [unionS, gb]
      simp only [fn49_body, c49, D0, ains, clsOf, abin, aint, aun, dnext, rowsOf, loadObj, cellsOf, ofCells, bnd, hmerge, Nat.reduceBEq, Nat.reduceAdd, reduceIte, Nat.reduceEqDiff, Nat.reduceLeDiff, Int.reduceEq, reduceCtorEq, Int.reduceBEq, Int.reduceBNe, Int.reduceLT, Int.reduceNeg, @use_all s4 56 k56.ora rfl, e56, la, lb, ga, gb]
      simp only [F1, bodyRes, one, ains, clsOf, abin, aint, aun, dnext, rowsOf, loadObj, cellsOf, ofCells, bnd, hmerge, Nat.reduceBEq, Nat.reduceAdd, reduceIte, Nat.reduceEqDiff, Nat.reduceLeDiff, Int.reduceEq, reduceCtorEq, Int.reduceBEq, Int.reduceBNe, Int.reduceLT, Int.reduceNeg, fn49_res, fn49_keep, fz, fzd, fzd.fzcells, e, List.map_nil]
      try rfl
    | true =>
      obtain ⟨e1, _, _⟩ := union_good ga gb
      have e : unionS a b = ofV (a ++ b) := by simp [unionS, ga, gb]
      simp only [fn49_body, c49, D0, ains, clsOf, abin, aint, aun, dnext, rowsOf, loadObj, cellsOf, ofCells, bnd, hmerge, Nat.reduceBEq, Nat.reduceAdd, reduceIte, Nat.reduceEqDiff, Nat.reduceLeDiff, Int.reduceEq, reduceCtorEq, Int.reduceBEq, Int.reduceBNe, Int.reduceLT, Int.reduceNeg, @use_all s4 56 k56.ora rfl, e56, @use_all s4 90 k90.ora rfl, e90, @use_all s4 48 k48.ora rfl, e48, la, lb, ga, gb, hab, hab', fz, fzd, fzd.fzcells]
      simp only [F1, bodyRes, one, ains, clsOf, abin, aint, aun, dnext, rowsOf, loadObj, cellsOf, ofCells, bnd, hmerge, Nat.reduceBEq, Nat.reduceAdd, reduceIte, Nat.reduceEqDiff, Nat.reduceLeDiff, Int.reduceEq, reduceCtorEq, Int.reduceBEq, Int.reduceBNe, Int.reduceLT, Int.reduceNeg, fn49_res, fn49_keep, fz, fzd, fzd.fzcells, e, e1]
noncomputable def k49 : Kon ((List (Int × Int)) × (List (Int × Int))) := ⟨fun x => x.1.length ≤ 400000 ∧ x.2.length ≤ 400000, fun x => [(AV.list 2 (List.map (fun x => [AV.int .i64 x.1, AV.int .i64 x.2]) (x.1))), (AV.list 2 (List.map (fun x => [AV.int .i64 x.1, AV.int .i64 x.2]) (x.2)))], fun x => .tuple [(AV.list 2 (List.map (fun x => [AV.int .i64 x.1, AV.int .i64 x.2]) (unionS x.1 x.2))), .bool (goodS x.1 && goodS x.2)]⟩
theorem e49 (a : List (Int × Int)) (b : List (Int × Int)) (hd : a.length ≤ 400000 ∧ b.length ≤ 400000) (q0 : Id) (H0 : Heap) : k49.ora q0 ([(AV.list 2 (List.map (fun x => [AV.int .i64 x.1, AV.int .i64 x.2]) (a))), (AV.list 2 (List.map (fun x => [AV.int .i64 x.1, AV.int .i64 x.2]) (b)))]) H0 = some (.tuple [(AV.list 2 (List.map (fun x => [AV.int .i64 x.1, AV.int .i64 x.2]) (unionS a b))), .bool (goodS a && goodS b)], H0) := k49.eq (set2Inj) (a, b) hd q0 H0
theorem ook49 : OraOK Try.prog (49 % 100000) k49.ora := k49.ok orders s4_ok (fun x hd => by simp [k49, PU]) (fun x hd => by simp [k49, PU]) (fun x hd => run49 x.1 x.2 hd.1 hd.2)

/-! 51: sets.Not. -/
theorem run51 (s : List R2) (hs : s.length ≤ 1000000) : cwp s4 51 [] [(AV.list 2 (List.map (fun x => [AV.int .i64 x.1, AV.int .i64 x.2]) (s)))] [] (fun r H => r = .tuple [(AV.list 2 (List.map (fun x => [AV.int .i64 x.1, AV.int .i64 x.2]) (notS s))), .bool (goodS s)] ∧ H = []) := by
  refine run_fn (fn := fn51) rfl rfl ?_
  have ls : s.length ≤ 9223372036854775807 := by omega
  cases gs : goodS s with
  | false =>
    have e : notS s = [] := by simp [notS, gs]
    simp only [fn51_body, c51, D0, ains, clsOf, abin, aint, aun, dnext, rowsOf, loadObj, cellsOf, ofCells, bnd, hmerge, Nat.reduceBEq, Nat.reduceAdd, reduceIte, Nat.reduceEqDiff, Nat.reduceLeDiff, Int.reduceEq, reduceCtorEq, Int.reduceBEq, Int.reduceBNe, Int.reduceLT, Int.reduceNeg, @use_all s4 56 k56.ora rfl, e56, ls, gs]
    simp only [F1, bodyRes, one, ains, clsOf, abin, aint, aun, dnext, rowsOf, loadObj, cellsOf, ofCells, bnd, hmerge, Nat.reduceBEq, Nat.reduceAdd, reduceIte, Nat.reduceEqDiff, Nat.reduceLeDiff, Int.reduceEq, reduceCtorEq, Int.reduceBEq, Int.reduceBNe, Int.reduceLT, Int.reduceNeg, fn51_res, fn51_keep, fz, fzd, fzd.fzcells, e, List.map_nil]
    try rfl
  | true =>
    have e : notS s = notA s 0 true := by simp [notS, gs]
    rw [e]
    clear e
    simp only [fn51_body, c51, D0, ains, clsOf, abin, aint, aun, dnext, rowsOf, loadObj, cellsOf, ofCells, bnd, hmerge, Nat.reduceBEq, Nat.reduceAdd, reduceIte, Nat.reduceEqDiff, Nat.reduceLeDiff, Int.reduceEq, reduceCtorEq, Int.reduceBEq, Int.reduceBNe, Int.reduceLT, Int.reduceNeg, @use_all s4 56 k56.ora rfl, e56, ls, gs]
    refine lg_rule (fun j e H => ∃ (u : List R2) (f : Int) (m : Bool), notA s 0 true = u ++ notA (s.drop j) f m ∧ u.length ≤ j ∧ e = [(0, (AV.list 2 (List.map (fun x => [AV.int .i64 x.1, AV.int .i64 x.2]) (s)))), (2, .own [0] 0), (3, .bool false), (4, .own [5] u.length), (5, .int .i64 f), (6, .bool m), (14, (AV.list 2 (List.map (fun x => [AV.int .i64 x.1, AV.int .i64 x.2]) (s)))), (15, .int .i64 s.length), (16, .int .i64 j)] ∧
      H = [[([5], .row true true 70 2 (List.map (fun x => [AV.int .i64 x.1, AV.int .i64 x.2]) u)), ([0], .row true true 70 2 [])]] ∧ j ≤ s.length) s.length ?_ ?_
    · exact ⟨[], 0, true, rfl, by simp, rfl, rfl, by simp⟩
    rintro j e H ⟨u, f, m, hu, hul, rfl, rfl, hj⟩
    simp only [D0, ains, clsOf, abin, aint, aun, dnext, rowsOf, loadObj, cellsOf, ofCells, bnd, hmerge, Nat.reduceBEq, Nat.reduceAdd, reduceIte, Nat.reduceEqDiff, Nat.reduceLeDiff, Int.reduceEq, reduceCtorEq, Int.reduceBEq, Int.reduceBNe, Int.reduceLT, Int.reduceNeg]
    by_cases h : j < s.length
    · have h' : (j : Int) < (s.length : Int) := by omega
      have hp := wrapp (j := j) (by omega)
      have hg := map_get (f := fun x : Int × Int => [AV.int .i64 x.1, AV.int .i64 x.2]) h (0, 0)
      have hcap : (u.length + 1) * 16 ≤ 140737488355328 := by omega
      rw [drop_get h] at hu
      simp only [notA] at hu
      generalize s.getD j (0, 0) = r at hg hu
      obtain ⟨a, b⟩ := r
      cases hpb : prevB a with
      | false =>
        simp only [hpb, Bool.false_and, Bool.false_eq_true, if_false, List.nil_append] at hu
        simp only [D0, ains, clsOf, abin, aint, aun, dnext, rowsOf, loadObj, cellsOf, ofCells, bnd, hmerge, Nat.reduceBEq, Nat.reduceAdd, reduceIte, Nat.reduceEqDiff, Nat.reduceLeDiff, Int.reduceEq, reduceCtorEq, Int.reduceBEq, Int.reduceBNe, Int.reduceLT, Int.reduceNeg, @use_all s4 91 k91.ora rfl, e91, @use_all s4 92 k92.ora rfl, e92, h', hg, hp, hcap, hpb, decide_true, Int.natCast_nonneg, Int.toNat_natCast]
        simp only [F1, bodyRes, one, ains, clsOf, abin, aint, aun, dnext, rowsOf, loadObj, cellsOf, ofCells, bnd, hmerge, Nat.reduceBEq, Nat.reduceAdd, reduceIte, Nat.reduceEqDiff, Nat.reduceLeDiff, Int.reduceEq, reduceCtorEq, Int.reduceBEq, Int.reduceBNe, Int.reduceLT, Int.reduceNeg]
        exact ⟨h, u, _, _, hu, by omega, ⟨rfl, rfl, rfl⟩, rfl, h⟩
      | true =>
        by_cases hle : f ≤ prevV a
        · simp only [hpb, hle, decide_true, Bool.true_and, if_true] at hu
          simp only [D0, ains, clsOf, abin, aint, aun, dnext, rowsOf, loadObj, cellsOf, ofCells, bnd, hmerge, Nat.reduceBEq, Nat.reduceAdd, reduceIte, Nat.reduceEqDiff, Nat.reduceLeDiff, Int.reduceEq, reduceCtorEq, Int.reduceBEq, Int.reduceBNe, Int.reduceLT, Int.reduceNeg, @use_all s4 91 k91.ora rfl, e91, @use_all s4 92 k92.ora rfl, e92, h', hg, hp, hcap, hpb, hle, decide_true, Int.natCast_nonneg, Int.toNat_natCast, List.length_map]
          simp only [F1, bodyRes, one, ains, clsOf, abin, aint, aun, dnext, rowsOf, loadObj, cellsOf, ofCells, bnd, hmerge, Nat.reduceBEq, Nat.reduceAdd, reduceIte, Nat.reduceEqDiff, Nat.reduceLeDiff, Int.reduceEq, reduceCtorEq, Int.reduceBEq, Int.reduceBNe, Int.reduceLT, Int.reduceNeg]
          refine ⟨h, u ++ [(f, prevV a)], nextV b, nextB b, by rw [hu]; simp, by simp; omega, ?_⟩
          simp [List.map_append]
          omega
        · simp only [hpb, hle, decide_false, Bool.true_and, Bool.false_eq_true, if_false, List.nil_append] at hu
          simp only [D0, ains, clsOf, abin, aint, aun, dnext, rowsOf, loadObj, cellsOf, ofCells, bnd, hmerge, Nat.reduceBEq, Nat.reduceAdd, reduceIte, Nat.reduceEqDiff, Nat.reduceLeDiff, Int.reduceEq, reduceCtorEq, Int.reduceBEq, Int.reduceBNe, Int.reduceLT, Int.reduceNeg, @use_all s4 91 k91.ora rfl, e91, @use_all s4 92 k92.ora rfl, e92, h', hg, hp, hcap, hpb, hle, decide_true, decide_false, Int.natCast_nonneg, Int.toNat_natCast]
          simp only [F1, bodyRes, one, ains, clsOf, abin, aint, aun, dnext, rowsOf, loadObj, cellsOf, ofCells, bnd, hmerge, Nat.reduceBEq, Nat.reduceAdd, reduceIte, Nat.reduceEqDiff, Nat.reduceLeDiff, Int.reduceEq, reduceCtorEq, Int.reduceBEq, Int.reduceBNe, Int.reduceLT, Int.reduceNeg]
          exact ⟨h, u, _, _, hu, by omega, ⟨rfl, rfl, rfl⟩, rfl, h⟩
    · have h' : ¬ (j : Int) < (s.length : Int) := by omega
      have hjl : j = s.length := by omega
      subst hjl
      have hcap : (u.length + 1) * 16 ≤ 140737488355328 := by omega
      rw [List.drop_length] at hu
      simp only [notA] at hu
      simp only [D0, ains, clsOf, abin, aint, aun, dnext, rowsOf, loadObj, cellsOf, ofCells, bnd, hmerge, Nat.reduceBEq, Nat.reduceAdd, reduceIte, Nat.reduceEqDiff, Nat.reduceLeDiff, Int.reduceEq, reduceCtorEq, Int.reduceBEq, Int.reduceBNe, Int.reduceLT, Int.reduceNeg, h', decide_false]
      refine .inr ⟨by simp, ?_⟩
      cases m with
      | true =>
        simp only [if_true] at hu
        simp only [D0, ains, clsOf, abin, aint, aun, dnext, rowsOf, loadObj, cellsOf, ofCells, bnd, hmerge, Nat.reduceBEq, Nat.reduceAdd, reduceIte, Nat.reduceEqDiff, Nat.reduceLeDiff, Int.reduceEq, reduceCtorEq, Int.reduceBEq, Int.reduceBNe, Int.reduceLT, Int.reduceNeg, hcap, List.length_map]
        simp only [F1, bodyRes, one, ains, clsOf, abin, aint, aun, dnext, rowsOf, loadObj, cellsOf, ofCells, bnd, hmerge, Nat.reduceBEq, Nat.reduceAdd, reduceIte, Nat.reduceEqDiff, Nat.reduceLeDiff, Int.reduceEq, reduceCtorEq, Int.reduceBEq, Int.reduceBNe, Int.reduceLT, Int.reduceNeg, fn51_res, fn51_keep, fz, fzd, fzd.fzcells, hu]
        rw [List.map_append]
        simp [ob_some, hpop]
      | false =>
        simp only [Bool.false_eq_true, if_false, List.append_nil] at hu
        simp only [D0, ains, clsOf, abin, aint, aun, dnext, rowsOf, loadObj, cellsOf, ofCells, bnd, hmerge, Nat.reduceBEq, Nat.reduceAdd, reduceIte, Nat.reduceEqDiff, Nat.reduceLeDiff, Int.reduceEq, reduceCtorEq, Int.reduceBEq, Int.reduceBNe, Int.reduceLT, Int.reduceNeg, hcap, List.length_map]
        simp only [F1, bodyRes, one, ains, clsOf, abin, aint, aun, dnext, rowsOf, loadObj, cellsOf, ofCells, bnd, hmerge, Nat.reduceBEq, Nat.reduceAdd, reduceIte, Nat.reduceEqDiff, Nat.reduceLeDiff, Int.reduceEq, reduceCtorEq, Int.reduceBEq, Int.reduceBNe, Int.reduceLT, Int.reduceNeg, fn51_res, fn51_keep, fz, fzd, fzd.fzcells, hu]
noncomputable def k51 : Kon ((List (Int × Int))) := ⟨fun x => x.length ≤ 1000000, fun x => [(AV.list 2 (List.map (fun x => [AV.int .i64 x.1, AV.int .i64 x.2]) (x)))], fun x => .tuple [(AV.list 2 (List.map (fun x => [AV.int .i64 x.1, AV.int .i64 x.2]) (notS x))), .bool (goodS x)]⟩
theorem e51 (s : List (Int × Int)) (hd : s.length ≤ 1000000) (q0 : Id) (H0 : Heap) : k51.ora q0 ([(AV.list 2 (List.map (fun x => [AV.int .i64 x.1, AV.int .i64 x.2]) (s)))]) H0 = some (.tuple [(AV.list 2 (List.map (fun x => [AV.int .i64 x.1, AV.int .i64 x.2]) (notS s))), .bool (goodS s)], H0) := k51.eq (setInj) (s) hd q0 H0
theorem ook51 : OraOK Try.prog (51 % 100000) k51.ora := k51.ok orders s4_ok (fun x hd => by simp [k51, PU]) (fun x hd => by simp [k51, PU]) (fun x hd => run51 x hd)

/-! 60: sets.Size. -/
theorem getD_mem' {s : List R2} {j : Nat} (h : j < s.length) : s.getD j (0, 0) ∈ s := by rw [getD_eq h]; exact List.getElem_mem h
def sumC (l : List R2) : Int := (l.map fun r => cntV r.1 r.2).sum
theorem sumC_snoc (l : List R2) (r : R2) : sumC (l ++ [r]) = sumC l + cntV r.1 r.2 := by simp [sumC]
noncomputable def s5 : FT := upd (upd (s4) 49 k49.ora) 51 k51.ora
theorem s5_ok : FTOK Try.prog s5 := upd_ok2 (f := 51) (upd_ok2 (f := 49) (s4_ok) ook49) ook51

theorem run60 (s : List R2) (hs : s.length ≤ 1000000) : cwp s5 60 [] [(AV.list 2 (List.map (fun x => [AV.int .i64 x.1, AV.int .i64 x.2]) (s)))] [] (fun r H => r = .int .i64 (sizeS s) ∧ H = []) := by
  refine run_fn (fn := fn60) rfl rfl ?_
  have ls : s.length ≤ 9223372036854775807 := by omega
  cases gs : goodS s with
  | false =>
    have e : sizeS s = 0 := by simp [sizeS, gs]
    simp only [fn60_body, c60, D0, ains, clsOf, abin, aint, aun, dnext, rowsOf, loadObj, cellsOf, ofCells, bnd, hmerge, Nat.reduceBEq, Nat.reduceAdd, reduceIte, Nat.reduceEqDiff, Nat.reduceLeDiff, Int.reduceEq, reduceCtorEq, Int.reduceBEq, Int.reduceBNe, Int.reduceLT, Int.reduceNeg, @use_all s5 56 k56.ora rfl, e56, ls, gs]
    simp only [F1, bodyRes, one, ains, clsOf, abin, aint, aun, dnext, rowsOf, loadObj, cellsOf, ofCells, bnd, hmerge, Nat.reduceBEq, Nat.reduceAdd, reduceIte, Nat.reduceEqDiff, Nat.reduceLeDiff, Int.reduceEq, reduceCtorEq, Int.reduceBEq, Int.reduceBNe, Int.reduceLT, Int.reduceNeg, fn60_res, fn60_keep, e]
  | true =>
    have e : sizeS s = sumC s := by simp [sizeS, gs, sumC]
    have gd := (gdL_iff s).1 gs
    rw [e]
    clear e
    simp only [fn60_body, c60, D0, ains, clsOf, abin, aint, aun, dnext, rowsOf, loadObj, cellsOf, ofCells, bnd, hmerge, Nat.reduceBEq, Nat.reduceAdd, reduceIte, Nat.reduceEqDiff, Nat.reduceLeDiff, Int.reduceEq, reduceCtorEq, Int.reduceBEq, Int.reduceBNe, Int.reduceLT, Int.reduceNeg, @use_all s5 56 k56.ora rfl, e56, ls, gs]
    refine lg_rule (fun j e H => ∃ n : Int, n = sumC (s.take j) ∧ 0 ≤ n ∧ n ≤ 2228224 * j ∧ e = [(0, (AV.list 2 (List.map (fun x => [AV.int .i64 x.1, AV.int .i64 x.2]) (s)))), (2, .int .i64 0), (3, .int .i64 n), (8, (AV.list 2 (List.map (fun x => [AV.int .i64 x.1, AV.int .i64 x.2]) (s)))), (9, .int .i64 s.length), (10, .int .i64 j)] ∧ H = [[]] ∧ j ≤ s.length) s.length ?_ ?_
    · exact ⟨0, rfl, by simp, by simp, rfl, rfl, by simp⟩
    rintro j e H ⟨n, hn, hn0, hn1, rfl, rfl, hj⟩
    simp only [D0, ains, clsOf, abin, aint, aun, dnext, rowsOf, loadObj, cellsOf, ofCells, bnd, hmerge, Nat.reduceBEq, Nat.reduceAdd, reduceIte, Nat.reduceEqDiff, Nat.reduceLeDiff, Int.reduceEq, reduceCtorEq, Int.reduceBEq, Int.reduceBNe, Int.reduceLT, Int.reduceNeg]
    by_cases h : j < s.length
    · have h' : (j : Int) < (s.length : Int) := by omega
      have hp := wrapp (j := j) (by omega)
      have hg := map_get (f := fun x : Int × Int => [AV.int .i64 x.1, AV.int .i64 x.2]) h (0, 0)
      have hsn := sumC_snoc (s.take j) (s.getD j (0, 0))
      rw [← take_snoc h] at hsn
      have hw := gd.whole _ (getD_mem' h)
      generalize s.getD j (0, 0) = r at hg hsn hw
      obtain ⟨a, b⟩ := r
      obtain ⟨w1, w2, w3⟩ := wholeS_iff.1 hw
      have d1 := isS_iff.1 w1
      have d2 := isS_iff.1 w2
      simp only at d1 d2
      have a0 : 0 ≤ a := by omega
      have b1 : b ≤ 1114111 := by omega
      have n1 := numV_le a0 (show min b 55295 ≤ 1114111 by omega)
      have n2 := numV_le (show 0 ≤ max a 57344 by omega) b1
      have hc : 0 ≤ cntV a b ∧ cntV a b ≤ 2228224 := by unfold cntV; omega
      have hwr : IntKind.i64.wrap (n + cntV a b) = n + cntV a b := wrap64 (by omega) (by omega)
      simp only [D0, ains, clsOf, abin, aint, aun, dnext, rowsOf, loadObj, cellsOf, ofCells, bnd, hmerge, Nat.reduceBEq, Nat.reduceAdd, reduceIte, Nat.reduceEqDiff, Nat.reduceLeDiff, Int.reduceEq, reduceCtorEq, Int.reduceBEq, Int.reduceBNe, Int.reduceLT, Int.reduceNeg, @use_all s5 100 k100.ora rfl, e100, h', hg, hp, a0, b1, hwr, decide_true, Int.natCast_nonneg, Int.toNat_natCast]
      simp only [F1, bodyRes, one, ains, clsOf, abin, aint, aun, dnext, rowsOf, loadObj, cellsOf, ofCells, bnd, hmerge, Nat.reduceBEq, Nat.reduceAdd, reduceIte, Nat.reduceEqDiff, Nat.reduceLeDiff, Int.reduceEq, reduceCtorEq, Int.reduceBEq, Int.reduceBNe, Int.reduceLT, Int.reduceNeg]
      exact ⟨h, _, by rw [hsn, hn], by omega, by omega, rfl, h⟩
    · have h' : ¬ (j : Int) < (s.length : Int) := by omega
      have hjl : j = s.length := by omega
      subst hjl
      rw [List.take_length] at hn
      simp only [D0, ains, clsOf, abin, aint, aun, dnext, rowsOf, loadObj, cellsOf, ofCells, bnd, hmerge, Nat.reduceBEq, Nat.reduceAdd, reduceIte, Nat.reduceEqDiff, Nat.reduceLeDiff, Int.reduceEq, reduceCtorEq, Int.reduceBEq, Int.reduceBNe, Int.reduceLT, Int.reduceNeg, h', decide_false]
      refine .inr ⟨by simp, ?_⟩
      simp only [F1, bodyRes, one, ains, clsOf, abin, aint, aun, dnext, rowsOf, loadObj, cellsOf, ofCells, bnd, hmerge, Nat.reduceBEq, Nat.reduceAdd, reduceIte, Nat.reduceEqDiff, Nat.reduceLeDiff, Int.reduceEq, reduceCtorEq, Int.reduceBEq, Int.reduceBNe, Int.reduceLT, Int.reduceNeg, fn60_res, fn60_keep, hn]
noncomputable def k60 : Kon ((List (Int × Int))) := ⟨fun x => x.length ≤ 1000000, fun x => [(AV.list 2 (List.map (fun x => [AV.int .i64 x.1, AV.int .i64 x.2]) (x)))], fun x => .int .i64 (sizeS x)⟩
theorem e60 (s : List (Int × Int)) (hd : s.length ≤ 1000000) (q0 : Id) (H0 : Heap) : k60.ora q0 ([(AV.list 2 (List.map (fun x => [AV.int .i64 x.1, AV.int .i64 x.2]) (s)))]) H0 = some (.int .i64 (sizeS s), H0) := k60.eq (setInj) (s) hd q0 H0
theorem ook60 : OraOK Try.prog (60 % 100000) k60.ora := k60.ok orders s5_ok (fun x hd => by simp [k60, PU]) (fun x hd => by simp [k60, PU]) (fun x hd => run60 x hd)

end Go.Proofs.Abs
