/- A part of a proof: the text that states the row tells what is proved. No condition is laid on anything. -/
import Derived.Test.YtligpalonlliaaaGreatAbsC
import Derived.Test.YtligpalonlliaaaGreatAbsE0
import Derived.Test.YtligpalonlliaaaGreatAbsP
set_option linter.all false
set_option linter.constructorNameAsVariable false
set_option linter.defProp false
set_option linter.unusedVariables false
set_option linter.unusedSimpArgs false
set_option maxRecDepth 100000
namespace Go.Proofs.Abs
open Go

theorem intInj : ∀ a b : Int, [AV.int .i64 a] = [AV.int .i64 b] → a = b := by
  intro a b h
  simpa using h
theorem ndInj : ∀ a b : Nd, [AV.agg (eNd a)] = [AV.agg (eNd b)] → a = b := by
  intro a b h
  simp only [List.cons.injEq, AV.agg.injEq, and_true] at h
  exact eNd_inj h
theorem rgInj : ∀ a b : Int × Int, [AV.agg [.int .i64 a.1, .int .i64 a.2]] = [AV.agg [.int .i64 b.1, .int .i64 b.2]] → a = b := by
  rintro ⟨a, b⟩ ⟨c, d⟩ h
  simpa using h

/-! 122: scalar.sign. -/
def sgV (v : Int) : Int := if 0 ≤ v ∧ v ≤ 1114111 then v else 0
theorem run122 (v : Int) : cwp ft 60 [] [.int .i64 v] [] (fun r H => r = .tuple [.int .i32 (sgV v), .bool (isS v)] ∧ H = []) := by
  refine run_fn (fn := fn122) rfl rfl ?_
  simp only [fn122_body, c122, D0, ains, appG, clsOf, abin, aint, aun, dnext, rowsOf, loadObj, cellsOf, ofCells, bnd, hmerge, Nat.reduceBEq, Nat.reduceAdd, reduceIte, Nat.reduceEqDiff, Nat.reduceLeDiff, Int.reduceEq, reduceCtorEq, Int.reduceBEq, Int.reduceBNe, Int.reduceLT, Int.reduceNeg]
  repeat' ((first | refine rw1_nsplit (fun h => ?_) (fun h => ?_) | refine rw1_split (fun h => ?_) (fun h => ?_) | refine dw1_nsplit (fun h => ?_) (fun h => ?_) | refine dw1_split (fun h => ?_) (fun h => ?_) | refine cg2_nsplit (fun h => ?_) (fun h => ?_) | refine cg2_split (fun h => ?_) (fun h => ?_)) <;> simp only [D0, ains, appG, clsOf, abin, aint, aun, dnext, rowsOf, loadObj, cellsOf, ofCells, bnd, hmerge, Nat.reduceBEq, Nat.reduceAdd, reduceIte, Nat.reduceEqDiff, Nat.reduceLeDiff, Int.reduceEq, reduceCtorEq, Int.reduceBEq, Int.reduceBNe, Int.reduceLT, Int.reduceNeg, h, if_true])
  all_goals simp only [F1, bodyRes, one, ains, appG, clsOf, abin, aint, aun, dnext, rowsOf, loadObj, cellsOf, ofCells, bnd, hmerge, Nat.reduceBEq, Nat.reduceAdd, reduceIte, Nat.reduceEqDiff, Nat.reduceLeDiff, Int.reduceEq, reduceCtorEq, Int.reduceBEq, Int.reduceBNe, Int.reduceLT, Int.reduceNeg, fn122_res, fn122_keep]
  all_goals try simp only [decide_eq_true_eq, decide_eq_false_iff_not] at *
  all_goals try simp (disch := omega) only [wrap32, wrap64] at *
  all_goals try simp only [AV.tuple.injEq, AV.agg.injEq, List.cons.injEq, AV.int.injEq, AV.bool.injEq, and_true, true_and]
  all_goals refine ⟨by unfold sgV; split <;> omega, ?_⟩
  all_goals (rw [Bool.eq_iff_iff]; simp [isS]; omega)
/-! 92: scalar.Next. -/
theorem run92 (v : Int) : cwp ft 35 [] [.int .i64 v] [] (fun r H => r = .tuple [.int .i64 (nextV v), .bool (nextB v)] ∧ H = []) := by
  refine run_fn (fn := fn92) rfl rfl ?_
  simp only [fn92_body, c92, D0, ains, appG, clsOf, abin, aint, aun, dnext, rowsOf, loadObj, cellsOf, ofCells, bnd, hmerge, Nat.reduceBEq, Nat.reduceAdd, reduceIte, Nat.reduceEqDiff, Nat.reduceLeDiff, Int.reduceEq, reduceCtorEq, Int.reduceBEq, Int.reduceBNe, Int.reduceLT, Int.reduceNeg]
  repeat' ((first | refine rw1_nsplit (fun h => ?_) (fun h => ?_) | refine rw1_split (fun h => ?_) (fun h => ?_) | refine dw1_nsplit (fun h => ?_) (fun h => ?_) | refine dw1_split (fun h => ?_) (fun h => ?_) | refine cg2_nsplit (fun h => ?_) (fun h => ?_) | refine cg2_split (fun h => ?_) (fun h => ?_)) <;> simp only [D0, ains, appG, clsOf, abin, aint, aun, dnext, rowsOf, loadObj, cellsOf, ofCells, bnd, hmerge, Nat.reduceBEq, Nat.reduceAdd, reduceIte, Nat.reduceEqDiff, Nat.reduceLeDiff, Int.reduceEq, reduceCtorEq, Int.reduceBEq, Int.reduceBNe, Int.reduceLT, Int.reduceNeg, h, if_true])
  all_goals simp only [F1, bodyRes, one, ains, appG, clsOf, abin, aint, aun, dnext, rowsOf, loadObj, cellsOf, ofCells, bnd, hmerge, Nat.reduceBEq, Nat.reduceAdd, reduceIte, Nat.reduceEqDiff, Nat.reduceLeDiff, Int.reduceEq, reduceCtorEq, Int.reduceBEq, Int.reduceBNe, Int.reduceLT, Int.reduceNeg, fn92_res, fn92_keep]
  all_goals try simp only [decide_eq_true_eq, decide_eq_false_iff_not] at *
  all_goals try simp (disch := omega) only [wrap32, wrap64] at *
  all_goals try simp only [AV.tuple.injEq, AV.agg.injEq, List.cons.injEq, AV.int.injEq, AV.bool.injEq, and_true, true_and]
  all_goals refine ⟨by unfold nextV; (repeat' split) <;> omega, ?_⟩
  all_goals (rw [Bool.eq_iff_iff]; simp [nextB]; try omega)
/-! 66: caesuraref01.Is. -/
theorem run66 (v : Int) : cwp ft 37 [] [.int .i64 v] [] (fun r H => r = .bool (isS v) ∧ H = []) := by
  refine run_fn (fn := fn66) rfl rfl ?_
  simp only [fn66_body, c66, D0, ains, appG, clsOf, abin, aint, aun, dnext, rowsOf, loadObj, cellsOf, ofCells, bnd, hmerge, Nat.reduceBEq, Nat.reduceAdd, reduceIte, Nat.reduceEqDiff, Nat.reduceLeDiff, Int.reduceEq, reduceCtorEq, Int.reduceBEq, Int.reduceBNe, Int.reduceLT, Int.reduceNeg]
  repeat' ((first | refine rw1_nsplit (fun h => ?_) (fun h => ?_) | refine rw1_split (fun h => ?_) (fun h => ?_) | refine dw1_nsplit (fun h => ?_) (fun h => ?_) | refine dw1_split (fun h => ?_) (fun h => ?_) | refine cg2_nsplit (fun h => ?_) (fun h => ?_) | refine cg2_split (fun h => ?_) (fun h => ?_)) <;> simp only [D0, ains, appG, clsOf, abin, aint, aun, dnext, rowsOf, loadObj, cellsOf, ofCells, bnd, hmerge, Nat.reduceBEq, Nat.reduceAdd, reduceIte, Nat.reduceEqDiff, Nat.reduceLeDiff, Int.reduceEq, reduceCtorEq, Int.reduceBEq, Int.reduceBNe, Int.reduceLT, Int.reduceNeg, h, if_true])
  all_goals simp only [F1, bodyRes, one, ains, appG, clsOf, abin, aint, aun, dnext, rowsOf, loadObj, cellsOf, ofCells, bnd, hmerge, Nat.reduceBEq, Nat.reduceAdd, reduceIte, Nat.reduceEqDiff, Nat.reduceLeDiff, Int.reduceEq, reduceCtorEq, Int.reduceBEq, Int.reduceBNe, Int.reduceLT, Int.reduceNeg, fn66_res, fn66_keep]
  all_goals try simp only [decide_eq_true_eq, decide_eq_false_iff_not] at *
  all_goals try simp (disch := omega) only [wrap32, wrap64] at *
  all_goals try simp only [AV.tuple.injEq, AV.agg.injEq, List.cons.injEq, AV.int.injEq, AV.bool.injEq, and_true, true_and]
  all_goals (rw [Bool.eq_iff_iff]; simp [isS]; omega)
/-! 96: caesuraref01.Next. -/
theorem run96 (v : Int) : cwp ft 42 [] [.int .i64 v] [] (fun r H => r = .agg [.int .i64 (nextV v), .bool (nextB v)] ∧ H = []) := by
  refine run_fn (fn := fn96) rfl rfl ?_
  simp only [fn96_body, c96, D0, ains, appG, clsOf, abin, aint, aun, dnext, rowsOf, loadObj, cellsOf, ofCells, bnd, hmerge, Nat.reduceBEq, Nat.reduceAdd, reduceIte, Nat.reduceEqDiff, Nat.reduceLeDiff, Int.reduceEq, reduceCtorEq, Int.reduceBEq, Int.reduceBNe, Int.reduceLT, Int.reduceNeg]
  repeat' ((first | refine rw1_nsplit (fun h => ?_) (fun h => ?_) | refine rw1_split (fun h => ?_) (fun h => ?_) | refine dw1_nsplit (fun h => ?_) (fun h => ?_) | refine dw1_split (fun h => ?_) (fun h => ?_) | refine cg2_nsplit (fun h => ?_) (fun h => ?_) | refine cg2_split (fun h => ?_) (fun h => ?_)) <;> simp only [D0, ains, appG, clsOf, abin, aint, aun, dnext, rowsOf, loadObj, cellsOf, ofCells, bnd, hmerge, Nat.reduceBEq, Nat.reduceAdd, reduceIte, Nat.reduceEqDiff, Nat.reduceLeDiff, Int.reduceEq, reduceCtorEq, Int.reduceBEq, Int.reduceBNe, Int.reduceLT, Int.reduceNeg, h, if_true])
  all_goals simp only [F1, bodyRes, one, ains, appG, clsOf, abin, aint, aun, dnext, rowsOf, loadObj, cellsOf, ofCells, bnd, hmerge, Nat.reduceBEq, Nat.reduceAdd, reduceIte, Nat.reduceEqDiff, Nat.reduceLeDiff, Int.reduceEq, reduceCtorEq, Int.reduceBEq, Int.reduceBNe, Int.reduceLT, Int.reduceNeg, fn96_res, fn96_keep]
  all_goals try simp only [decide_eq_true_eq, decide_eq_false_iff_not] at *
  all_goals try simp (disch := omega) only [wrap32, wrap64] at *
  all_goals try simp only [AV.tuple.injEq, AV.agg.injEq, List.cons.injEq, AV.int.injEq, AV.bool.injEq, and_true, true_and]
  all_goals refine ⟨by unfold nextV; (repeat' split) <;> omega, ?_⟩
  all_goals (rw [Bool.eq_iff_iff]; simp [nextB]; try omega)
noncomputable def k122 : Kon (Int) := ⟨fun _ => True, fun x => [.int .i64 x], fun x => .tuple [.int .i32 (sgV x), .bool (isS x)]⟩
theorem e122 (v : Int) (q0 : Id) (H0 : Heap) : k122.ora q0 ([.int .i64 v]) H0 = some (.tuple [.int .i32 (sgV v), .bool (isS v)], H0) := k122.eq (intInj) (v) trivial q0 H0
theorem ook122 : OraOK Tryz.prog (60 % 100000) k122.ora := k122.ok orders ft_ok (fun x hd => by simp [k122, PU]) (fun x hd => by simp [k122, PU]) (fun x hd => run122 x)

noncomputable def k92 : Kon (Int) := ⟨fun _ => True, fun x => [.int .i64 x], fun x => .tuple [.int .i64 (nextV x), .bool (nextB x)]⟩
theorem e92 (v : Int) (q0 : Id) (H0 : Heap) : k92.ora q0 ([.int .i64 v]) H0 = some (.tuple [.int .i64 (nextV v), .bool (nextB v)], H0) := k92.eq (intInj) (v) trivial q0 H0
theorem ook92 : OraOK Tryz.prog (35 % 100000) k92.ora := k92.ok orders ft_ok (fun x hd => by simp [k92, PU]) (fun x hd => by simp [k92, PU]) (fun x hd => run92 x)

noncomputable def k66 : Kon (Int) := ⟨fun _ => True, fun x => [.int .i64 x], fun x => .bool (isS x)⟩
theorem e66 (v : Int) (q0 : Id) (H0 : Heap) : k66.ora q0 ([.int .i64 v]) H0 = some (.bool (isS v), H0) := k66.eq (intInj) (v) trivial q0 H0
theorem ook66 : OraOK Tryz.prog (37 % 100000) k66.ora := k66.ok orders ft_ok (fun x hd => by simp [k66, PU]) (fun x hd => by simp [k66, PU]) (fun x hd => run66 x)

noncomputable def k96 : Kon (Int) := ⟨fun _ => True, fun x => [.int .i64 x], fun x => .agg [.int .i64 (nextV x), .bool (nextB x)]⟩
theorem e96 (v : Int) (q0 : Id) (H0 : Heap) : k96.ora q0 ([.int .i64 v]) H0 = some (.agg [.int .i64 (nextV v), .bool (nextB v)], H0) := k96.eq (intInj) (v) trivial q0 H0
theorem ook96 : OraOK Tryz.prog (42 % 100000) k96.ora := k96.ok orders ft_ok (fun x hd => by simp [k96, PU]) (fun x hd => by simp [k96, PU]) (fun x hd => run96 x)

noncomputable def t1 : FT := upd (upd (upd (upd (ft) 60 k122.ora) 35 k92.ora) 37 k66.ora) 42 k96.ora
theorem t1_ok : FTOK Tryz.prog t1 := upd_ok2 (f := 42) (upd_ok2 (f := 37) (upd_ok2 (f := 35) (upd_ok2 (f := 60) (ft_ok) ook122) ook92) ook66) ook96

/-! 97: scalar.Is. -/
theorem run97 (v : Int) : cwp t1 36 [] [.int .i64 v] [] (fun r H => r = .bool (isS v) ∧ H = []) := by
  refine run_fn (fn := fn97) rfl rfl ?_
  simp only [fn97_body, c97, @use_all t1 60 k122.ora rfl, e122, D0, ains, appG, clsOf, abin, aint, aun, dnext, rowsOf, loadObj, cellsOf, ofCells, bnd, hmerge, Nat.reduceBEq, Nat.reduceAdd, reduceIte, Nat.reduceEqDiff, Nat.reduceLeDiff, Int.reduceEq, reduceCtorEq, Int.reduceBEq, Int.reduceBNe, Int.reduceLT, Int.reduceNeg]
  simp only [F1, bodyRes, one, ains, appG, clsOf, abin, aint, aun, dnext, rowsOf, loadObj, cellsOf, ofCells, bnd, hmerge, Nat.reduceBEq, Nat.reduceAdd, reduceIte, Nat.reduceEqDiff, Nat.reduceLeDiff, Int.reduceEq, reduceCtorEq, Int.reduceBEq, Int.reduceBNe, Int.reduceLT, Int.reduceNeg, fn97_res, fn97_keep]
noncomputable def k97 : Kon (Int) := ⟨fun _ => True, fun x => [.int .i64 x], fun x => .bool (isS x)⟩
theorem e97 (v : Int) (q0 : Id) (H0 : Heap) : k97.ora q0 ([.int .i64 v]) H0 = some (.bool (isS v), H0) := k97.eq (intInj) (v) trivial q0 H0
theorem ook97 : OraOK Tryz.prog (36 % 100000) k97.ora := k97.ok orders t1_ok (fun x hd => by simp [k97, PU]) (fun x hd => by simp [k97, PU]) (fun x hd => run97 x)

noncomputable def t2 : FT := upd (t1) 36 k97.ora
theorem t2_ok : FTOK Tryz.prog t2 := upd_ok2 (f := 36) (t1_ok) ook97

/-! 88: sets.whole. -/
theorem run88 (a b : Int) : cwp t2 54 [] [.agg [.int .i64 a, .int .i64 b]] [] (fun r H => r = .bool (wholeS (a, b)) ∧ H = []) := by
  refine run_fn (fn := fn88) rfl rfl ?_
  simp only [fn88_body, c88, @use_all t2 36 k97.ora rfl, e97, D0, ains, appG, clsOf, abin, aint, aun, dnext, rowsOf, loadObj, cellsOf, ofCells, bnd, hmerge, Nat.reduceBEq, Nat.reduceAdd, reduceIte, Nat.reduceEqDiff, Nat.reduceLeDiff, Int.reduceEq, reduceCtorEq, Int.reduceBEq, Int.reduceBNe, Int.reduceLT, Int.reduceNeg]
  repeat' ((first | refine rw1_nsplit (fun h => ?_) (fun h => ?_) | refine rw1_split (fun h => ?_) (fun h => ?_) | refine dw1_nsplit (fun h => ?_) (fun h => ?_) | refine dw1_split (fun h => ?_) (fun h => ?_) | refine cg2_nsplit (fun h => ?_) (fun h => ?_) | refine cg2_split (fun h => ?_) (fun h => ?_)) <;> simp only [D0, ains, appG, clsOf, abin, aint, aun, dnext, rowsOf, loadObj, cellsOf, ofCells, bnd, hmerge, Nat.reduceBEq, Nat.reduceAdd, reduceIte, Nat.reduceEqDiff, Nat.reduceLeDiff, Int.reduceEq, reduceCtorEq, Int.reduceBEq, Int.reduceBNe, Int.reduceLT, Int.reduceNeg, h, @use_all t2 36 k97.ora rfl, e97])
  all_goals simp only [F1, bodyRes, one, ains, appG, clsOf, abin, aint, aun, dnext, rowsOf, loadObj, cellsOf, ofCells, bnd, hmerge, Nat.reduceBEq, Nat.reduceAdd, reduceIte, Nat.reduceEqDiff, Nat.reduceLeDiff, Int.reduceEq, reduceCtorEq, Int.reduceBEq, Int.reduceBNe, Int.reduceLT, Int.reduceNeg, fn88_res, fn88_keep]
  all_goals simp [wholeS, *]
/-! 89: sets.apart. -/
theorem run89 (a b c e : Int) : cwp t2 55 [] [.agg [.int .i64 a, .int .i64 b], .agg [.int .i64 c, .int .i64 e]] [] (fun r H => r = .bool (apartS (a, b) (c, e)) ∧ H = []) := by
  refine run_fn (fn := fn89) rfl rfl ?_
  simp only [fn89_body, c89, @use_all t2 35 k92.ora rfl, e92, D0, ains, appG, clsOf, abin, aint, aun, dnext, rowsOf, loadObj, cellsOf, ofCells, bnd, hmerge, Nat.reduceBEq, Nat.reduceAdd, reduceIte, Nat.reduceEqDiff, Nat.reduceLeDiff, Int.reduceEq, reduceCtorEq, Int.reduceBEq, Int.reduceBNe, Int.reduceLT, Int.reduceNeg]
  repeat' ((first | refine rw1_nsplit (fun h => ?_) (fun h => ?_) | refine rw1_split (fun h => ?_) (fun h => ?_) | refine dw1_nsplit (fun h => ?_) (fun h => ?_) | refine dw1_split (fun h => ?_) (fun h => ?_) | refine cg2_nsplit (fun h => ?_) (fun h => ?_) | refine cg2_split (fun h => ?_) (fun h => ?_)) <;> simp only [D0, ains, appG, clsOf, abin, aint, aun, dnext, rowsOf, loadObj, cellsOf, ofCells, bnd, hmerge, Nat.reduceBEq, Nat.reduceAdd, reduceIte, Nat.reduceEqDiff, Nat.reduceLeDiff, Int.reduceEq, reduceCtorEq, Int.reduceBEq, Int.reduceBNe, Int.reduceLT, Int.reduceNeg, h, @use_all t2 35 k92.ora rfl, e92])
  all_goals simp only [F1, bodyRes, one, ains, appG, clsOf, abin, aint, aun, dnext, rowsOf, loadObj, cellsOf, ofCells, bnd, hmerge, Nat.reduceBEq, Nat.reduceAdd, reduceIte, Nat.reduceEqDiff, Nat.reduceLeDiff, Int.reduceEq, reduceCtorEq, Int.reduceBEq, Int.reduceBNe, Int.reduceLT, Int.reduceNeg, fn89_res, fn89_keep]
  all_goals simp [apartS, *]
noncomputable def k88 : Kon (Int × Int) := ⟨fun _ => True, fun x => [.agg [.int .i64 x.1, .int .i64 x.2]], fun x => .bool (wholeS (x.1, x.2))⟩
theorem e88 (a : Int) (b : Int) (q0 : Id) (H0 : Heap) : k88.ora q0 ([.agg [.int .i64 a, .int .i64 b]]) H0 = some (.bool (wholeS (a, b)), H0) := k88.eq (by dsimp only [k88]; rintro ⟨a, b⟩ ⟨c, d⟩ h; simpa using h) (a, b) trivial q0 H0
theorem ook88 : OraOK Tryz.prog (54 % 100000) k88.ora := k88.ok orders t2_ok (fun x hd => by simp [k88, PU]) (fun x hd => by simp [k88, PU]) (fun x hd => run88 x.1 x.2)

noncomputable def k89 : Kon (Int × Int × Int × Int) := ⟨fun _ => True, fun x => [.agg [.int .i64 x.1, .int .i64 x.2.1], .agg [.int .i64 x.2.2.1, .int .i64 x.2.2.2]], fun x => .bool (apartS (x.1, x.2.1) (x.2.2.1, x.2.2.2))⟩
theorem e89 (a : Int) (b : Int) (c : Int) (e : Int) (q0 : Id) (H0 : Heap) : k89.ora q0 ([.agg [.int .i64 a, .int .i64 b], .agg [.int .i64 c, .int .i64 e]]) H0 = some (.bool (apartS (a, b) (c, e)), H0) := k89.eq (by dsimp only [k89]; rintro ⟨a, b, c, d⟩ ⟨a', b', c', d'⟩ h; simp at h; simp [h]) (a, b, c, e) trivial q0 H0
theorem ook89 : OraOK Tryz.prog (55 % 100000) k89.ora := k89.ok orders t2_ok (fun x hd => by simp [k89, PU]) (fun x hd => by simp [k89, PU]) (fun x hd => run89 x.1 x.2.1 x.2.2.1 x.2.2.2)

noncomputable def t3 : FT := upd (upd (t2) 54 k88.ora) 55 k89.ora
theorem t3_ok : FTOK Tryz.prog t3 := upd_ok2 (f := 55) (upd_ok2 (f := 54) (t2_ok) ook88) ook89

end Go.Proofs.Abs
