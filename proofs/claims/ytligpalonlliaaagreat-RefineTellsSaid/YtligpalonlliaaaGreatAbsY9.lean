/- A part of a proof: the text that states the row tells what is proved. No condition is laid on anything. -/
import Derived.Test.YtligpalonlliaaaGreatAbsY8
set_option linter.all false
set_option linter.constructorNameAsVariable false
set_option linter.defProp false
set_option linter.unusedVariables false
set_option linter.unusedSimpArgs false
set_option maxRecDepth 100000
set_option maxHeartbeats 16000000
namespace Go.Proofs.Abs
open Go
/-! 50: sets.Both. -/
theorem bothF_nil1 : ∀ (n : Nat) (b : List R2), bothF n [] b = []
  | 0, _ => rfl
  | _ + 1, _ => rfl
theorem bothF_nil2 : ∀ (n : Nat) (a : List R2), bothF n a [] = []
  | 0, _ => by simp [bothF]
  | _ + 1, [] => rfl
  | _ + 1, _ :: _ => rfl
theorem run50 (a b : List R2) (ha : a.length ≤ 400000) (hb : b.length ≤ 400000) : cwp s5 38 [] [(AV.list 2 (List.map (fun x => [AV.int .i64 x.1, AV.int .i64 x.2]) (a))), (AV.list 2 (List.map (fun x => [AV.int .i64 x.1, AV.int .i64 x.2]) (b)))] [] (fun r H => r = .tuple [(AV.list 2 (List.map (fun x => [AV.int .i64 x.1, AV.int .i64 x.2]) (bothS a b))), .bool (goodS a && goodS b)] ∧ H = []) := by
  refine run_fn (fn := fn50) rfl rfl ?_
  have la : a.length ≤ 9223372036854775807 := by omega
  have lb : b.length ≤ 9223372036854775807 := by omega
  cases ga : goodS a with
  | false =>
    have e : bothS a b = [] := by simp [bothS, ga]
    simp only [fn50_body, c50, D0, ains, appG, clsOf, abin, aint, aun, dnext, rowsOf, loadObj, cellsOf, ofCells, bnd, hmerge, Nat.reduceBEq, Nat.reduceAdd, reduceIte, Nat.reduceEqDiff, Nat.reduceLeDiff, Int.reduceEq, reduceCtorEq, Int.reduceBEq, Int.reduceBNe, Int.reduceLT, Int.reduceNeg, @use_all s5 47 k56.ora rfl, e56, la, lb, ga]
    simp only [F1, bodyRes, one, ains, appG, clsOf, abin, aint, aun, dnext, rowsOf, loadObj, cellsOf, ofCells, bnd, hmerge, Nat.reduceBEq, Nat.reduceAdd, reduceIte, Nat.reduceEqDiff, Nat.reduceLeDiff, Int.reduceEq, reduceCtorEq, Int.reduceBEq, Int.reduceBNe, Int.reduceLT, Int.reduceNeg, fn50_res, fn50_keep, fz, fzd, fzd.fzcells, e, List.map_nil]
    try rfl
  | true => cases gb : goodS b with
    | false =>
      have e : bothS a b = [] := by simp [bothS, gb]
      simp only [fn50_body, c50, D0, ains, appG, clsOf, abin, aint, aun, dnext, rowsOf, loadObj, cellsOf, ofCells, bnd, hmerge, Nat.reduceBEq, Nat.reduceAdd, reduceIte, Nat.reduceEqDiff, Nat.reduceLeDiff, Int.reduceEq, reduceCtorEq, Int.reduceBEq, Int.reduceBNe, Int.reduceLT, Int.reduceNeg, @use_all s5 47 k56.ora rfl, e56, la, lb, ga, gb]
      simp only [F1, bodyRes, one, ains, appG, clsOf, abin, aint, aun, dnext, rowsOf, loadObj, cellsOf, ofCells, bnd, hmerge, Nat.reduceBEq, Nat.reduceAdd, reduceIte, Nat.reduceEqDiff, Nat.reduceLeDiff, Int.reduceEq, reduceCtorEq, Int.reduceBEq, Int.reduceBNe, Int.reduceLT, Int.reduceNeg, fn50_res, fn50_keep, fz, fzd, fzd.fzcells, e, List.map_nil]
      try rfl
    | true =>
      have e : bothS a b = bothF (a.length + b.length) a b := by simp [bothS, ga, gb]
      rw [e]
      clear e
      simp only [fn50_body, c50, D0, ains, appG, clsOf, abin, aint, aun, dnext, rowsOf, loadObj, cellsOf, ofCells, bnd, hmerge, Nat.reduceBEq, Nat.reduceAdd, reduceIte, Nat.reduceEqDiff, Nat.reduceLeDiff, Int.reduceEq, reduceCtorEq, Int.reduceBEq, Int.reduceBNe, Int.reduceLT, Int.reduceNeg, @use_all s5 47 k56.ora rfl, e56, la, lb, ga, gb]
      refine lg_rule (fun j e H => ∃ (a' b' u : List R2) (n : Nat), bothF (a.length + b.length) a b = u ++ bothF n a' b' ∧ a'.length + b'.length ≤ n ∧ n + j = a.length + b.length ∧ u.length ≤ j ∧ e = [(0, (AV.list 2 (List.map (fun x => [AV.int .i64 x.1, AV.int .i64 x.2]) (a')))), (1, (AV.list 2 (List.map (fun x => [AV.int .i64 x.1, AV.int .i64 x.2]) (b')))), (4, .own [0] 0), (5, .bool false), (6, .own [10] u.length)] ∧
        H = [[([10], .row true true 55 2 (List.map (fun x => [AV.int .i64 x.1, AV.int .i64 x.2]) u)), ([0], .row true true 55 2 [])]]) (a.length + b.length) ?_ ?_
      · exact ⟨a, b, [], a.length + b.length, rfl, by omega, by omega, by simp, rfl, rfl⟩
      rintro j e H ⟨a', b', u, n, hu, hn, hnj, hul, rfl, rfl⟩
      have hcap : (u.length + 1) * 16 ≤ 140737488355328 := by omega
      match a', b', hu, hn with
      | [], b', hu, hn =>
        rw [bothF_nil1, List.append_nil] at hu
        have hz : ¬ (((0 : Nat) : Int) > 0) := by decide
        simp only [List.map_nil, List.length_nil, D0, ains, appG, clsOf, abin, aint, aun, dnext, rowsOf, loadObj, cellsOf, ofCells, bnd, hmerge, Nat.reduceBEq, Nat.reduceAdd, reduceIte, Nat.reduceEqDiff, Nat.reduceLeDiff, Int.reduceEq, reduceCtorEq, Int.reduceBEq, Int.reduceBNe, Int.reduceLT, Int.reduceNeg, hz, decide_false]
        refine .inr ⟨by simp, ?_⟩
        simp only [F1, bodyRes, one, ains, appG, clsOf, abin, aint, aun, dnext, rowsOf, loadObj, cellsOf, ofCells, bnd, hmerge, Nat.reduceBEq, Nat.reduceAdd, reduceIte, Nat.reduceEqDiff, Nat.reduceLeDiff, Int.reduceEq, reduceCtorEq, Int.reduceBEq, Int.reduceBNe, Int.reduceLT, Int.reduceNeg, fn50_res, fn50_keep, fz, fzd, fzd.fzcells, hu]
      | x :: a', [], hu, hn =>
        rw [bothF_nil2, List.append_nil] at hu
        have hz : ¬ (((0 : Nat) : Int) > 0) := by decide
        have hpos : ((a'.length + 1 : Nat) : Int) > 0 := by omega
        simp only [List.map_nil, List.length_nil, List.map_cons, List.length_cons, List.length_map, D0, ains, appG, clsOf, abin, aint, aun, dnext, rowsOf, loadObj, cellsOf, ofCells, bnd, hmerge, Nat.reduceBEq, Nat.reduceAdd, reduceIte, Nat.reduceEqDiff, Nat.reduceLeDiff, Int.reduceEq, reduceCtorEq, Int.reduceBEq, Int.reduceBNe, Int.reduceLT, Int.reduceNeg, hz, hpos, decide_false, decide_true]
        refine .inr ⟨by simp, ?_⟩
        simp only [F1, bodyRes, one, ains, appG, clsOf, abin, aint, aun, dnext, rowsOf, loadObj, cellsOf, ofCells, bnd, hmerge, Nat.reduceBEq, Nat.reduceAdd, reduceIte, Nat.reduceEqDiff, Nat.reduceLeDiff, Int.reduceEq, reduceCtorEq, Int.reduceBEq, Int.reduceBNe, Int.reduceLT, Int.reduceNeg, fn50_res, fn50_keep, fz, fzd, fzd.fzcells, hu]
      | (x1, x2) :: a', (y1, y2) :: b', hu, hn =>
        have hpa : ((a'.length + 1 : Nat) : Int) > 0 := by omega
        have hpb : ((b'.length + 1 : Nat) : Int) > 0 := by omega
        match n, hu, hn, hnj with
        | n + 1, hu, hn, hnj =>
          simp only [List.length_cons] at hn
          simp only [bothF, cutR, mxI, mnI] at hu
          have z0 : (0 : Int) ≤ 0 := Int.le_refl 0
          have z1 : (0 : Int) ≤ 1 := by decide
          have t1 : Int.toNat 1 = 1 := rfl
          have sa : 1 ≤ a'.length + 1 := by omega
          have sb : 1 ≤ b'.length + 1 := by omega
          have ta : List.take a'.length (List.map (fun x : R2 => [AV.int .i64 x.1, AV.int .i64 x.2]) a') = List.map (fun x : R2 => [AV.int .i64 x.1, AV.int .i64 x.2]) a' := List.take_of_length_le (by simp)
          have tb : List.take b'.length (List.map (fun x : R2 => [AV.int .i64 x.1, AV.int .i64 x.2]) b') = List.map (fun x : R2 => [AV.int .i64 x.1, AV.int .i64 x.2]) b' := List.take_of_length_le (by simp)
          by_cases hm : (if x1 < y1 then y1 else x1) ≤ (if y2 < x2 then y2 else x2)
          · rw [if_pos hm] at hu
            by_cases hlt : x2 < y2
            · simp only [List.map_cons, List.length_cons, List.length_map, D0, ains, appG, clsOf, abin, aint, aun, dnext, rowsOf, loadObj, cellsOf, ofCells, bnd, hmerge, Nat.reduceBEq, Nat.reduceAdd, reduceIte, Nat.reduceEqDiff, Nat.reduceLeDiff, Int.reduceEq, reduceCtorEq, Int.reduceBEq, Int.reduceBNe, Int.reduceLT, Int.reduceNeg, hpa, hpb, z0, z1, t1, sa, sb, ta, tb, List.drop_succ_cons, List.drop_zero, Nat.le_refl, and_self, Int.toNat_zero, List.getElem?_cons_zero, Option.map_some, hm, hlt, hcap, hins, fins, idk, List.getLast?_cons_cons, List.getLast?_singleton, Option.getD_some, Option.isNone_none, Nat.reduceLT, lrc_x, apx, apart, apart1, needs, decide_true, decide_false]
              simp only [F1, bodyRes, one, ains, appG, clsOf, abin, aint, aun, dnext, rowsOf, loadObj, cellsOf, ofCells, bnd, hmerge, Nat.reduceBEq, Nat.reduceAdd, reduceIte, Nat.reduceEqDiff, Nat.reduceLeDiff, Int.reduceEq, reduceCtorEq, Int.reduceBEq, Int.reduceBNe, Int.reduceLT, Int.reduceNeg]
              refine ⟨by omega, a', (y1, y2) :: b', u ++ [((if x1 < y1 then y1 else x1), (if y2 < x2 then y2 else x2))], n, ?_, ?_, by omega, ?_, ?_⟩
              · rw [hu]; simp [hlt]
              · simp only [List.length_cons]; omega
              · first | omega | (simp; omega) | simp
              · simp [List.map_append]
            · simp only [List.map_cons, List.length_cons, List.length_map, D0, ains, appG, clsOf, abin, aint, aun, dnext, rowsOf, loadObj, cellsOf, ofCells, bnd, hmerge, Nat.reduceBEq, Nat.reduceAdd, reduceIte, Nat.reduceEqDiff, Nat.reduceLeDiff, Int.reduceEq, reduceCtorEq, Int.reduceBEq, Int.reduceBNe, Int.reduceLT, Int.reduceNeg, hpa, hpb, z0, z1, t1, sa, sb, ta, tb, List.drop_succ_cons, List.drop_zero, Nat.le_refl, and_self, Int.toNat_zero, List.getElem?_cons_zero, Option.map_some, hm, hlt, hcap, hins, fins, idk, List.getLast?_cons_cons, List.getLast?_singleton, Option.getD_some, Option.isNone_none, Nat.reduceLT, lrc_x, apx, apart, apart1, needs, decide_true, decide_false]
              simp only [F1, bodyRes, one, ains, appG, clsOf, abin, aint, aun, dnext, rowsOf, loadObj, cellsOf, ofCells, bnd, hmerge, Nat.reduceBEq, Nat.reduceAdd, reduceIte, Nat.reduceEqDiff, Nat.reduceLeDiff, Int.reduceEq, reduceCtorEq, Int.reduceBEq, Int.reduceBNe, Int.reduceLT, Int.reduceNeg]
              refine ⟨by omega, (x1, x2) :: a', b', u ++ [((if x1 < y1 then y1 else x1), (if y2 < x2 then y2 else x2))], n, ?_, ?_, by omega, ?_, ?_⟩
              · rw [hu]; simp [hlt]
              · simp only [List.length_cons]; omega
              · first | omega | (simp; omega) | simp
              · simp [List.map_append]
          · rw [if_neg hm] at hu
            by_cases hlt : x2 < y2
            · simp only [List.map_cons, List.length_cons, List.length_map, D0, ains, appG, clsOf, abin, aint, aun, dnext, rowsOf, loadObj, cellsOf, ofCells, bnd, hmerge, Nat.reduceBEq, Nat.reduceAdd, reduceIte, Nat.reduceEqDiff, Nat.reduceLeDiff, Int.reduceEq, reduceCtorEq, Int.reduceBEq, Int.reduceBNe, Int.reduceLT, Int.reduceNeg, hpa, hpb, z0, z1, t1, sa, sb, ta, tb, List.drop_succ_cons, List.drop_zero, Nat.le_refl, and_self, Int.toNat_zero, List.getElem?_cons_zero, Option.map_some, hm, hlt, hcap, hins, fins, idk, List.getLast?_cons_cons, List.getLast?_singleton, Option.getD_some, Option.isNone_none, Nat.reduceLT, lrc_x, apx, apart, apart1, needs, decide_true, decide_false]
              simp only [F1, bodyRes, one, ains, appG, clsOf, abin, aint, aun, dnext, rowsOf, loadObj, cellsOf, ofCells, bnd, hmerge, Nat.reduceBEq, Nat.reduceAdd, reduceIte, Nat.reduceEqDiff, Nat.reduceLeDiff, Int.reduceEq, reduceCtorEq, Int.reduceBEq, Int.reduceBNe, Int.reduceLT, Int.reduceNeg]
              refine ⟨by omega, a', (y1, y2) :: b', u, n, ?_, ?_, by omega, ?_, ?_⟩
              · rw [hu]; simp [hlt]
              · simp only [List.length_cons]; omega
              · first | omega | (simp; omega) | simp
              · simp [List.map_append]
            · simp only [List.map_cons, List.length_cons, List.length_map, D0, ains, appG, clsOf, abin, aint, aun, dnext, rowsOf, loadObj, cellsOf, ofCells, bnd, hmerge, Nat.reduceBEq, Nat.reduceAdd, reduceIte, Nat.reduceEqDiff, Nat.reduceLeDiff, Int.reduceEq, reduceCtorEq, Int.reduceBEq, Int.reduceBNe, Int.reduceLT, Int.reduceNeg, hpa, hpb, z0, z1, t1, sa, sb, ta, tb, List.drop_succ_cons, List.drop_zero, Nat.le_refl, and_self, Int.toNat_zero, List.getElem?_cons_zero, Option.map_some, hm, hlt, hcap, hins, fins, idk, List.getLast?_cons_cons, List.getLast?_singleton, Option.getD_some, Option.isNone_none, Nat.reduceLT, lrc_x, apx, apart, apart1, needs, decide_true, decide_false]
              simp only [F1, bodyRes, one, ains, appG, clsOf, abin, aint, aun, dnext, rowsOf, loadObj, cellsOf, ofCells, bnd, hmerge, Nat.reduceBEq, Nat.reduceAdd, reduceIte, Nat.reduceEqDiff, Nat.reduceLeDiff, Int.reduceEq, reduceCtorEq, Int.reduceBEq, Int.reduceBNe, Int.reduceLT, Int.reduceNeg]
              refine ⟨by omega, (x1, x2) :: a', b', u, n, ?_, ?_, by omega, ?_, ?_⟩
              · rw [hu]; simp [hlt]
              · simp only [List.length_cons]; omega
              · first | omega | (simp; omega) | simp
              · simp [List.map_append]
noncomputable def k50 : Kon ((List (Int × Int)) × (List (Int × Int))) := ⟨fun x => x.1.length ≤ 400000 ∧ x.2.length ≤ 400000, fun x => [(AV.list 2 (List.map (fun x => [AV.int .i64 x.1, AV.int .i64 x.2]) (x.1))), (AV.list 2 (List.map (fun x => [AV.int .i64 x.1, AV.int .i64 x.2]) (x.2)))], fun x => .tuple [(AV.list 2 (List.map (fun x => [AV.int .i64 x.1, AV.int .i64 x.2]) (bothS x.1 x.2))), .bool (goodS x.1 && goodS x.2)]⟩
theorem e50 (a : List (Int × Int)) (b : List (Int × Int)) (hd : a.length ≤ 400000 ∧ b.length ≤ 400000) (q0 : Id) (H0 : Heap) : k50.ora q0 ([(AV.list 2 (List.map (fun x => [AV.int .i64 x.1, AV.int .i64 x.2]) (a))), (AV.list 2 (List.map (fun x => [AV.int .i64 x.1, AV.int .i64 x.2]) (b)))]) H0 = some (.tuple [(AV.list 2 (List.map (fun x => [AV.int .i64 x.1, AV.int .i64 x.2]) (bothS a b))), .bool (goodS a && goodS b)], H0) := k50.eq (set2Inj) (a, b) hd q0 H0
theorem ook50 : OraOK Tryz.prog (38 % 100000) k50.ora := k50.ok orders s5_ok (fun x hd => by simp [k50, PU]) (fun x hd => by simp [k50, PU]) (fun x hd => run50 x.1 x.2 hd.1 hd.2)

noncomputable def s6 : FT := upd (s5) 38 k50.ora
theorem s6_ok : FTOK Tryz.prog s6 := upd_ok2 (f := 38) (s5_ok) ook50

end Go.Proofs.Abs
