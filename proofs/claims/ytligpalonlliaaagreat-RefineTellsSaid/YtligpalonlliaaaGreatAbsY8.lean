/- A part of a proof: the text that states the row tells what is proved. No condition is laid on anything. -/
import Derived.Test.YtligpalonlliaaaGreatAbsY7
set_option linter.all false
set_option linter.constructorNameAsVariable false
set_option linter.defProp false
set_option linter.unusedVariables false
set_option linter.unusedSimpArgs false
set_option maxRecDepth 100000
set_option maxHeartbeats 16000000
namespace Go.Proofs.Abs
open Go
/-! 91: scalar.Prev. -/
theorem run91 (v : Int) : cwp s2 27 [] [.int .i64 v] [] (fun r H => r = .tuple [.int .i64 (prevV v), .bool (prevB v)] ∧ H = []) := by
  refine run_fn (fn := fn91) rfl rfl ?_
  simp only [fn91_body, c91, D0, ains, appG, clsOf, abin, aint, aun, dnext, rowsOf, loadObj, cellsOf, ofCells, bnd, hmerge, Nat.reduceBEq, Nat.reduceAdd, reduceIte, Nat.reduceEqDiff, Nat.reduceLeDiff, Int.reduceEq, reduceCtorEq, Int.reduceBEq, Int.reduceBNe, Int.reduceLT, Int.reduceNeg]
  repeat' ((first | refine rw1_nsplit (fun h => ?_) (fun h => ?_) | refine rw1_split (fun h => ?_) (fun h => ?_) | refine dw1_nsplit (fun h => ?_) (fun h => ?_) | refine dw1_split (fun h => ?_) (fun h => ?_) | refine cg2_nsplit (fun h => ?_) (fun h => ?_) | refine cg2_split (fun h => ?_) (fun h => ?_)) <;> simp only [D0, ains, appG, clsOf, abin, aint, aun, dnext, rowsOf, loadObj, cellsOf, ofCells, bnd, hmerge, Nat.reduceBEq, Nat.reduceAdd, reduceIte, Nat.reduceEqDiff, Nat.reduceLeDiff, Int.reduceEq, reduceCtorEq, Int.reduceBEq, Int.reduceBNe, Int.reduceLT, Int.reduceNeg, h, if_true])
  all_goals simp only [F1, bodyRes, one, ains, appG, clsOf, abin, aint, aun, dnext, rowsOf, loadObj, cellsOf, ofCells, bnd, hmerge, Nat.reduceBEq, Nat.reduceAdd, reduceIte, Nat.reduceEqDiff, Nat.reduceLeDiff, Int.reduceEq, reduceCtorEq, Int.reduceBEq, Int.reduceBNe, Int.reduceLT, Int.reduceNeg, fn91_res, fn91_keep]
  all_goals try simp only [decide_eq_true_eq, decide_eq_false_iff_not] at *
  all_goals try simp (disch := omega) only [wrap32, wrap64] at *
  all_goals try simp only [AV.tuple.injEq, AV.agg.injEq, List.cons.injEq, AV.int.injEq, AV.bool.injEq, and_true, true_and]
  all_goals refine ⟨by unfold prevV; (repeat' split) <;> omega, ?_⟩
  all_goals (rw [Bool.eq_iff_iff]; simp [prevB]; try omega)
noncomputable def k91 : Kon (Int) := ⟨fun _ => True, fun x => [.int .i64 x], fun x => .tuple [.int .i64 (prevV x), .bool (prevB x)]⟩
theorem e91 (v : Int) (q0 : Id) (H0 : Heap) : k91.ora q0 ([.int .i64 v]) H0 = some (.tuple [.int .i64 (prevV v), .bool (prevB v)], H0) := k91.eq (intInj) (v) trivial q0 H0
theorem ook91 : OraOK Tryz.prog (27 % 100000) k91.ora := k91.ok orders s2_ok (fun x hd => by simp [k91, PU]) (fun x hd => by simp [k91, PU]) (fun x hd => run91 x)

/-! 124, 100: scalar.Count. -/
theorem int2Inj : ∀ x y : Int × Int, [AV.int .i64 x.1, AV.int .i64 x.2] = [AV.int .i64 y.1, AV.int .i64 y.2] → x = y := by
  rintro ⟨a, b⟩ ⟨c, d⟩ h
  simpa using h
noncomputable def s3 : FT := upd (s2) 27 k91.ora
theorem s3_ok : FTOK Tryz.prog s3 := upd_ok2 (f := 27) (s2_ok) ook91

theorem numV_le {a b : Int} (h0 : 0 ≤ a) (h1 : b ≤ 1114111) : 0 ≤ numV a b ∧ numV a b ≤ 1114112 := by unfold numV; split <;> omega
/-! 90: slices.Concat, of two sets. -/
def lenS (l : List (List R2)) : Nat := (l.map List.length).sum
theorem lenS_snoc (l : List (List R2)) (s : List R2) : lenS (l ++ [s]) = lenS l + s.length := by simp [lenS]
theorem takeL_snoc {l : List (List R2)} {j : Nat} (h : j < l.length) : l.take (j + 1) = l.take j ++ [l.getD j []] := by
  rw [List.take_succ_eq_append_getElem h]
  simp [List.getElem?_eq_getElem h]
theorem lenS_take (l : List (List R2)) (j : Nat) : lenS (l.take j) ≤ lenS l := by
  have e : lenS (l.take j) + lenS (l.drop j) = lenS l := by
    conv => rhs; rw [← List.take_append_drop j l]
    simp only [lenS, List.map_append, List.sum_append]
  omega
theorem flat_snoc (l : List (List R2)) (s : List R2) : (l ++ [s]).flatten = l.flatten ++ s := by simp
theorem flatS_len (l : List (List R2)) : l.flatten.length = lenS l := by simp [lenS, List.length_flatten]
theorem cat2Inj : ∀ x y : List R2 × List R2, [AV.list 1 [[(AV.list 2 (List.map (fun x => [AV.int .i64 x.1, AV.int .i64 x.2]) (x.1)))], [(AV.list 2 (List.map (fun x => [AV.int .i64 x.1, AV.int .i64 x.2]) (x.2)))]]] = [AV.list 1 [[(AV.list 2 (List.map (fun x => [AV.int .i64 x.1, AV.int .i64 x.2]) (y.1)))], [(AV.list 2 (List.map (fun x => [AV.int .i64 x.1, AV.int .i64 x.2]) (y.2)))]]] → x = y := by
  rintro ⟨a, m⟩ ⟨b, n⟩ h
  simp only [List.cons.injEq, AV.list.injEq, and_true, true_and] at h
  have h1 := eSet_inj (a := a) (b := b) (by simp only [eSet, AV.list.injEq]; exact ⟨trivial, h.1⟩)
  have h2 := eSet_inj (a := m) (b := n) (by simp only [eSet, AV.list.injEq]; exact ⟨trivial, h.2⟩)
  rw [h1, h2]
@[simp] theorem pure_cat (a b : List R2) : Pure (AV.list 2 (List.map (fun x => [AV.int .i64 x.1, AV.int .i64 x.2]) a ++ List.map (fun x => [AV.int .i64 x.1, AV.int .i64 x.2]) b)) := by
  rw [← List.map_append]
  simp only [PU]
@[simp] theorem pure_two (a b : List R2) : Pure (AV.list 1 [[(AV.list 2 (List.map (fun x => [AV.int .i64 x.1, AV.int .i64 x.2]) (a)))], [(AV.list 2 (List.map (fun x => [AV.int .i64 x.1, AV.int .i64 x.2]) (b)))]]) := by
  refine .list _ _ fun j av e => ?_
  match j, e with
  | 0, e => simp at e; subst e; simp only [PU]
  | 1, e => simp at e; subst e; simp only [PU]
noncomputable def s4 : FT := s3
theorem s4_ok : FTOK Tryz.prog s4 := s3_ok

/-! 49: sets.Union. -/
/-! 51: sets.Not. -/
/-! 60: sets.Size. -/
theorem getD_mem' {s : List R2} {j : Nat} (h : j < s.length) : s.getD j (0, 0) ∈ s := by rw [getD_eq h]; exact List.getElem_mem h
def sumC (l : List R2) : Int := (l.map fun r => cntV r.1 r.2).sum
theorem sumC_snoc (l : List R2) (r : R2) : sumC (l ++ [r]) = sumC l + cntV r.1 r.2 := by simp [sumC]
noncomputable def s5 : FT := s4
theorem s5_ok : FTOK Tryz.prog s5 := s4_ok

end Go.Proofs.Abs
