/- A part of a proof: the text that states the row tells what is proved. No condition is laid on anything. -/
import Derived.Test.YtligpalonlliaaaGreatAbsY19
set_option linter.all false
set_option linter.constructorNameAsVariable false
set_option linter.defProp false
set_option linter.unusedVariables false
set_option linter.unusedSimpArgs false
set_option maxRecDepth 100000
set_option maxHeartbeats 16000000
namespace Go.Proofs.Abs
open Go
noncomputable def s12 : FT := upd (upd (s11) 29 k121.ora) 31 k94.ora
theorem s12_ok : FTOK Tryz.prog s12 := upd_ok2 (f := 31) (upd_ok2 (f := 29) (s11_ok) ook121) ook94

/-! 55: caesuraref03.Not; 52: Of; 95: two; 53, 54. -/
def mrkN (f : Int → Bool) (at_ : List Int) (k : Nat) : List Bool := (at_.take k).map f ++ List.replicate (at_.length - k) false
theorem mrkN_length (f : Int → Bool) (at_ : List Int) (k : Nat) (h : k ≤ at_.length) : (mrkN f at_ k).length = at_.length := by
  simp [mrkN]; omega
theorem mrkN_zero (f : Int → Bool) (at_ : List Int) : mrkN f at_ 0 = List.replicate at_.length false := by simp [mrkN]
theorem mrkN_all (f : Int → Bool) (at_ : List Int) : mrkN f at_ at_.length = at_.map f := by simp [mrkN]
theorem mrkN_at (f : Int → Bool) {at_ : List Int} {k : Nat} (h : k < at_.length) : mrkN f at_ k = (at_.take k).map f ++ false :: List.replicate (at_.length - (k + 1)) false := by
  unfold mrkN
  have : at_.length - k = at_.length - (k + 1) + 1 := by omega
  rw [this, List.replicate_succ]
theorem mrkN_get (f : Int → Bool) {at_ : List Int} {k : Nat} (h : k < at_.length) : (mrkN f at_ k).getD k false = false := by
  have hl : (List.map f (at_.take k)).length = k := by simp; omega
  rw [mrkN_at f h, List.getD_eq_getElem?_getD, List.getElem?_append_right (by omega), hl, Nat.sub_self]
  rfl
theorem mrkN_set (f : Int → Bool) {at_ : List Int} {k : Nat} (h : k < at_.length) (b : Bool) : (mrkN f at_ k).set k b = (at_.take k).map f ++ b :: List.replicate (at_.length - (k + 1)) false := by
  have hl : (List.map f (at_.take k)).length = k := by simp; omega
  rw [mrkN_at f h, List.set_append_right _ _ (by omega), hl, Nat.sub_self]
  rfl
theorem mrkN_next (f : Int → Bool) {at_ : List Int} {k : Nat} (h : k < at_.length) : (mrkN f at_ k).set k (f (at_.getD k 0)) = mrkN f at_ (k + 1) := by
  rw [mrkN_set f h]
  unfold mrkN
  rw [takeI h, List.map_append, List.append_assoc]
  rfl
theorem rep_map (n : Nat) : List.replicate n [AV.bool false] = List.map (fun x => [AV.bool x]) (List.replicate n false) := by simp
theorem set_map (l : List Bool) (k : Nat) (b : Bool) : (List.map (fun x => [AV.bool x]) l).set k [AV.bool b] = List.map (fun x => [AV.bool x]) (l.set k b) := by simp [List.map_set]
theorem run55 (s : List R2) (hs : s.length ≤ 1000) : cwp s12 21 [] [(AV.list 2 (List.map (fun x => [AV.int .i64 x.1, AV.int .i64 x.2]) (s)))] [] (fun r H => r = .agg [(AV.list 2 (List.map (fun x => [AV.int .i64 x.1, AV.int .i64 x.2]) (notS s))), .bool (goodS s)] ∧ H = []) := by
  refine run_fn (fn := fn55) rfl rfl ?_
  have ls : s.length ≤ 9223372036854775807 := by omega
  have ls6 : s.length ≤ 1000000 := by omega
  cases gs : goodS s with
  | false =>
    have e : notS s = [] := by simp [notS, gs]
    simp only [fn55_body, c55, D0, ains, appG, clsOf, abin, aint, aun, dnext, rowsOf, loadObj, cellsOf, ofCells, bnd, hmerge, Nat.reduceBEq, Nat.reduceAdd, reduceIte, Nat.reduceEqDiff, Nat.reduceLeDiff, Int.reduceEq, reduceCtorEq, Int.reduceBEq, Int.reduceBNe, Int.reduceLT, Int.reduceNeg, @use_all s12 19 k57.ora rfl, e57, ls, gs]
    simp only [F1, bodyRes, one, ains, appG, clsOf, abin, aint, aun, dnext, rowsOf, loadObj, cellsOf, ofCells, bnd, hmerge, Nat.reduceBEq, Nat.reduceAdd, reduceIte, Nat.reduceEqDiff, Nat.reduceLeDiff, Int.reduceEq, reduceCtorEq, Int.reduceBEq, Int.reduceBNe, Int.reduceLT, Int.reduceNeg, fn55_res, fn55_keep, fz, fzd, fzd.fzcells, e, List.map_nil]
  | true =>
    have hr := rNot_eq s
    unfold rNotV at hr
    rw [if_pos gs] at hr
    unfold mrkNot at hr
    have hn := startsL_length s
    simp only [fn55_body, c55, D0, ains, appG, clsOf, abin, aint, aun, dnext, rowsOf, loadObj, cellsOf, ofCells, bnd, hmerge, Nat.reduceBEq, Nat.reduceAdd, reduceIte, Nat.reduceEqDiff, Nat.reduceLeDiff, Int.reduceEq, reduceCtorEq, Int.reduceBEq, Int.reduceBNe, Int.reduceLT, Int.reduceNeg, @use_all s12 19 k57.ora rfl, e57, @use_all s12 44 k93.ora rfl, e93, ls, hs, gs]
    generalize startsL s = z at hr hn
    have hz : ((z.length : Nat) : Int) * ((1 : Nat) : Int) ≤ 140737488355328 := by omega
    have hm0 := rep_map z.length
    rw [← mrkN_zero (fun v => !hasS s v)] at hm0
    simp only [D0, ains, appG, clsOf, abin, aint, aun, dnext, rowsOf, loadObj, cellsOf, ofCells, bnd, hmerge, Nat.reduceBEq, Nat.reduceAdd, reduceIte, Nat.reduceEqDiff, Nat.reduceLeDiff, Int.reduceEq, reduceCtorEq, Int.reduceBEq, Int.reduceBNe, Int.reduceLT, Int.reduceNeg, hz, hm0, Int.natCast_nonneg, Int.toNat_natCast]
    refine lg_rule (fun j e H => e = [(0, (AV.list 2 (List.map (fun x => [AV.int .i64 x.1, AV.int .i64 x.2]) (s)))), (2, .ref [0] 1 0 0), (3, (AV.list 1 (List.map (fun x => [AV.int .i64 x]) (z)))), (4, .own [9] z.length), (5, .int .i64 j)] ∧
      H = [[([9], .row true true 4 1 (List.map (fun x => [AV.bool x]) (mrkN (fun v => !hasS s v) z j))), ([0], .box [.list 2 [], .bool false])]] ∧ j ≤ z.length) z.length ?_ ?_
    · exact ⟨rfl, rfl, by simp⟩
    rintro j e H ⟨rfl, rfl, hj⟩
    simp only [D0, ains, appG, clsOf, abin, aint, aun, dnext, rowsOf, loadObj, cellsOf, ofCells, bnd, hmerge, Nat.reduceBEq, Nat.reduceAdd, reduceIte, Nat.reduceEqDiff, Nat.reduceLeDiff, Int.reduceEq, reduceCtorEq, Int.reduceBEq, Int.reduceBNe, Int.reduceLT, Int.reduceNeg]
    by_cases h : j < z.length
    · have h' : (j : Int) < (z.length : Int) := by omega
      have hp := wrapp (j := j) (by omega)
      have hg := getI h
      have hnx := mrkN_next (fun v => !hasS s v) h
      have hml := mrkN_length (fun v => !hasS s v) z j (by omega)
      have hb := getB (l := mrkN (fun v => !hasS s v) z j) (j := j) (by omega)
      generalize z.getD j 0 = a at hg hnx
      simp only [D0, ains, appG, clsOf, abin, aint, aun, dnext, rowsOf, loadObj, cellsOf, ofCells, bnd, hmerge, Nat.reduceBEq, Nat.reduceAdd, reduceIte, Nat.reduceEqDiff, Nat.reduceLeDiff, Int.reduceEq, reduceCtorEq, Int.reduceBEq, Int.reduceBNe, Int.reduceLT, Int.reduceNeg, @use_all s12 30 k59.ora rfl, e59, h', h, hg, hp, hb, ls6, hml, decide_true, Int.natCast_nonneg, Int.toNat_natCast, List.length_map]
      simp only [F1, bodyRes, one, ains, appG, clsOf, abin, aint, aun, dnext, rowsOf, loadObj, cellsOf, ofCells, bnd, hmerge, Nat.reduceBEq, Nat.reduceAdd, reduceIte, Nat.reduceEqDiff, Nat.reduceLeDiff, Int.reduceEq, reduceCtorEq, Int.reduceBEq, Int.reduceBNe, Int.reduceLT, Int.reduceNeg]
      rw [set_map, hnx]
      exact ⟨rfl, h⟩
    · have h' : ¬ (j : Int) < (z.length : Int) := by omega
      have hjl : j = z.length := by omega
      subst hjl
      have hall := mrkN_all (fun v => !hasS s v) z
      have hz6 : z.length ≤ 1000000 := by omega
      have hml : z.length ≤ (List.map (fun v => !hasS s v) z).length := by simp
      simp only [hall, D0, ains, appG, clsOf, abin, aint, aun, dnext, rowsOf, loadObj, cellsOf, ofCells, bnd, hmerge, Nat.reduceBEq, Nat.reduceAdd, reduceIte, Nat.reduceEqDiff, Nat.reduceLeDiff, Int.reduceEq, reduceCtorEq, Int.reduceBEq, Int.reduceBNe, Int.reduceLT, Int.reduceNeg, h', decide_false]
      refine .inr ⟨by simp, ?_⟩
      simp only [D0, ains, appG, clsOf, abin, aint, aun, dnext, rowsOf, loadObj, cellsOf, ofCells, bnd, hmerge, Nat.reduceBEq, Nat.reduceAdd, reduceIte, Nat.reduceEqDiff, Nat.reduceLeDiff, Int.reduceEq, reduceCtorEq, Int.reduceBEq, Int.reduceBNe, Int.reduceLT, Int.reduceNeg, @use_all s12 31 k94.ora rfl, e94, hz6, hml, hr, fz, fzd, List.length_map, Nat.le_refl]
      simp only [F1, bodyRes, one, ains, appG, clsOf, abin, aint, aun, dnext, rowsOf, loadObj, cellsOf, ofCells, bnd, hmerge, Nat.reduceBEq, Nat.reduceAdd, reduceIte, Nat.reduceEqDiff, Nat.reduceLeDiff, Int.reduceEq, reduceCtorEq, Int.reduceBEq, Int.reduceBNe, Int.reduceLT, Int.reduceNeg, fn55_res, fn55_keep, fz, fzd, fzd.fzcells]
noncomputable def k55 : Kon ((List (Int × Int))) := ⟨fun x => x.length ≤ 1000, fun x => [(AV.list 2 (List.map (fun x => [AV.int .i64 x.1, AV.int .i64 x.2]) (x)))], fun x => .agg [(AV.list 2 (List.map (fun x => [AV.int .i64 x.1, AV.int .i64 x.2]) (notS x))), .bool (goodS x)]⟩
theorem e55 (s : List (Int × Int)) (hd : s.length ≤ 1000) (q0 : Id) (H0 : Heap) : k55.ora q0 ([(AV.list 2 (List.map (fun x => [AV.int .i64 x.1, AV.int .i64 x.2]) (s)))]) H0 = some (.agg [(AV.list 2 (List.map (fun x => [AV.int .i64 x.1, AV.int .i64 x.2]) (notS s))), .bool (goodS s)], H0) := k55.eq (setInj) (s) hd q0 H0
theorem ook55 : OraOK Tryz.prog (21 % 100000) k55.ora := k55.ok orders s12_ok (fun x hd => by simp [k55, PU]) (fun x hd => by simp [k55, PU]) (fun x hd => run55 x hd)

theorem run95 (a b : List R2) (t : Bool) (hl : a.length + b.length ≤ 1000) : cwp s12 43 [] [(AV.list 2 (List.map (fun x => [AV.int .i64 x.1, AV.int .i64 x.2]) (a))), (AV.list 2 (List.map (fun x => [AV.int .i64 x.1, AV.int .i64 x.2]) (b))), .bool t] [] (fun r H => r = .agg [(AV.list 2 (List.map (fun x => [AV.int .i64 x.1, AV.int .i64 x.2]) (rTwoV a b t))), .bool (goodS a && goodS b)] ∧ H = []) := by
  refine run_fn (fn := fn95) rfl rfl ?_
  have la : a.length ≤ 9223372036854775807 := by omega
  have lb : b.length ≤ 9223372036854775807 := by omega
  have la6 : a.length ≤ 1000000 := by omega
  have lb6 : b.length ≤ 1000000 := by omega
  cases ga : goodS a with
  | false =>
    have e : rTwoV a b t = [] := by simp [rTwoV, ga]
    simp only [fn95_body, c95, D0, ains, appG, clsOf, abin, aint, aun, dnext, rowsOf, loadObj, cellsOf, ofCells, bnd, hmerge, Nat.reduceBEq, Nat.reduceAdd, reduceIte, Nat.reduceEqDiff, Nat.reduceLeDiff, Int.reduceEq, reduceCtorEq, Int.reduceBEq, Int.reduceBNe, Int.reduceLT, Int.reduceNeg, @use_all s12 19 k57.ora rfl, e57, la, lb, ga]
    simp only [F1, bodyRes, one, ains, appG, clsOf, abin, aint, aun, dnext, rowsOf, loadObj, cellsOf, ofCells, bnd, hmerge, Nat.reduceBEq, Nat.reduceAdd, reduceIte, Nat.reduceEqDiff, Nat.reduceLeDiff, Int.reduceEq, reduceCtorEq, Int.reduceBEq, Int.reduceBNe, Int.reduceLT, Int.reduceNeg, fn95_res, fn95_keep, fz, fzd, fzd.fzcells, e, List.map_nil, Bool.false_and]
  | true => cases gb : goodS b with
    | false =>
      have e : rTwoV a b t = [] := by simp [rTwoV, ga, gb]
      simp only [fn95_body, c95, D0, ains, appG, clsOf, abin, aint, aun, dnext, rowsOf, loadObj, cellsOf, ofCells, bnd, hmerge, Nat.reduceBEq, Nat.reduceAdd, reduceIte, Nat.reduceEqDiff, Nat.reduceLeDiff, Int.reduceEq, reduceCtorEq, Int.reduceBEq, Int.reduceBNe, Int.reduceLT, Int.reduceNeg, @use_all s12 19 k57.ora rfl, e57, la, lb, ga, gb]
      simp only [F1, bodyRes, one, ains, appG, clsOf, abin, aint, aun, dnext, rowsOf, loadObj, cellsOf, ofCells, bnd, hmerge, Nat.reduceBEq, Nat.reduceAdd, reduceIte, Nat.reduceEqDiff, Nat.reduceLeDiff, Int.reduceEq, reduceCtorEq, Int.reduceBEq, Int.reduceBNe, Int.reduceLT, Int.reduceNeg, fn95_res, fn95_keep, fz, fzd, fzd.fzcells, e, List.map_nil]
    | true =>
      have hr : rTwoV a b t = buildL (startsL (a ++ b)) (mrkTwo a b t) := by simp [rTwoV, ga, gb]
      unfold mrkTwo at hr
      rw [hr]
      clear hr
      have hn := startsL_length (a ++ b)
      rw [List.length_append] at hn
      simp only [fn95_body, c95, D0, ains, appG, clsOf, abin, aint, aun, dnext, rowsOf, loadObj, cellsOf, ofCells, bnd, hmerge, Nat.reduceBEq, Nat.reduceAdd, reduceIte, Nat.reduceEqDiff, Nat.reduceLeDiff, Int.reduceEq, reduceCtorEq, Int.reduceBEq, Int.reduceBNe, Int.reduceLT, Int.reduceNeg, @use_all s12 19 k57.ora rfl, e57, @use_all s12 29 k121.ora rfl, e121, la, lb, hl, ga, gb, fz, fzd]
      generalize startsL (a ++ b) = z at hn
      have hz : ((z.length : Nat) : Int) * ((1 : Nat) : Int) ≤ 140737488355328 := by omega
      have hm0 := rep_map z.length
      generalize hF : (fun v => (hasS a v && hasS b v) || (!t && (hasS a v || hasS b v))) = F
      rw [← mrkN_zero F] at hm0
      simp only [D0, ains, appG, clsOf, abin, aint, aun, dnext, rowsOf, loadObj, cellsOf, ofCells, bnd, hmerge, Nat.reduceBEq, Nat.reduceAdd, reduceIte, Nat.reduceEqDiff, Nat.reduceLeDiff, Int.reduceEq, reduceCtorEq, Int.reduceBEq, Int.reduceBNe, Int.reduceLT, Int.reduceNeg, hz, hm0, Int.natCast_nonneg, Int.toNat_natCast]
      refine lg_rule (fun j e H => e = [(0, (AV.list 2 (List.map (fun x => [AV.int .i64 x.1, AV.int .i64 x.2]) (a)))), (1, (AV.list 2 (List.map (fun x => [AV.int .i64 x.1, AV.int .i64 x.2]) (b)))), (2, .bool t), (6, .ref [0] 1 0 0), (7, (AV.list 1 (List.map (fun x => [AV.int .i64 x]) (z)))), (8, .own [16] z.length), (9, .int .i64 j)] ∧
        H = [[([16], .row true true 4 1 (List.map (fun x => [AV.bool x]) (mrkN F z j))), ([11], .row false true 46 1 [[(AV.list 2 (List.map (fun x => [AV.int .i64 x.1, AV.int .i64 x.2]) (a)))], [(AV.list 2 (List.map (fun x => [AV.int .i64 x.1, AV.int .i64 x.2]) (b)))]]), ([0], .box [.list 2 [], .bool false])]] ∧ j ≤ z.length) z.length ?_ ?_
      · exact ⟨rfl, rfl, by simp⟩
      rintro j e H ⟨rfl, rfl, hj⟩
      simp only [D0, ains, appG, clsOf, abin, aint, aun, dnext, rowsOf, loadObj, cellsOf, ofCells, bnd, hmerge, Nat.reduceBEq, Nat.reduceAdd, reduceIte, Nat.reduceEqDiff, Nat.reduceLeDiff, Int.reduceEq, reduceCtorEq, Int.reduceBEq, Int.reduceBNe, Int.reduceLT, Int.reduceNeg]
      by_cases h : j < z.length
      · have h' : (j : Int) < (z.length : Int) := by omega
        have hp := wrapp (j := j) (by omega)
        have hg := getI h
        have hnx := mrkN_next F h
        have hml := mrkN_length F z j (by omega)
        have hb := getB (l := mrkN F z j) (j := j) (by omega)
        generalize z.getD j 0 = c at hg hnx
        have hFc : F c = ((hasS a c && hasS b c) || (!t && (hasS a c || hasS b c))) := by rw [← hF]
        have ea : ∀ q H, k59.ora q [(AV.list 2 (List.map (fun x => [AV.int .i64 x.1, AV.int .i64 x.2]) (a))), .int .i64 c] H = some (.bool (hasS a c), H) := e59 a c la6
        have eb : ∀ q H, k59.ora q [(AV.list 2 (List.map (fun x => [AV.int .i64 x.1, AV.int .i64 x.2]) (b))), .int .i64 c] H = some (.bool (hasS b c), H) := e59 b c lb6
        generalize hasS a c = x at hFc ea
        generalize hasS b c = y at hFc eb
        cases x <;> cases y <;> cases t
        all_goals simp only [Bool.false_and, Bool.true_and, Bool.not_false, Bool.not_true, Bool.or_false, Bool.or_true, Bool.or_self, Bool.and_self] at hFc
        all_goals rw [hFc] at hnx
        all_goals simp only [D0, ains, appG, clsOf, abin, aint, aun, dnext, rowsOf, loadObj, cellsOf, ofCells, bnd, hmerge, Nat.reduceBEq, Nat.reduceAdd, reduceIte, Nat.reduceEqDiff, Nat.reduceLeDiff, Int.reduceEq, reduceCtorEq, Int.reduceBEq, Int.reduceBNe, Int.reduceLT, Int.reduceNeg, @use_all s12 30 k59.ora rfl, ea, eb, h', h, hg, hp, hb, hml, lrc_x, apx, apart, apart1, needs, decide_true, Int.natCast_nonneg, Int.toNat_natCast, List.length_map]
        all_goals simp only [F1, bodyRes, one, ains, appG, clsOf, abin, aint, aun, dnext, rowsOf, loadObj, cellsOf, ofCells, bnd, hmerge, Nat.reduceBEq, Nat.reduceAdd, reduceIte, Nat.reduceEqDiff, Nat.reduceLeDiff, Int.reduceEq, reduceCtorEq, Int.reduceBEq, Int.reduceBNe, Int.reduceLT, Int.reduceNeg]
        all_goals rw [set_map, hnx]
        all_goals exact ⟨rfl, h⟩
      · have h' : ¬ (j : Int) < (z.length : Int) := by omega
        have hjl : j = z.length := by omega
        subst hjl
        have hall := mrkN_all F z
        have hz6 : z.length ≤ 1000000 := by omega
        simp only [hall, D0, ains, appG, clsOf, abin, aint, aun, dnext, rowsOf, loadObj, cellsOf, ofCells, bnd, hmerge, Nat.reduceBEq, Nat.reduceAdd, reduceIte, Nat.reduceEqDiff, Nat.reduceLeDiff, Int.reduceEq, reduceCtorEq, Int.reduceBEq, Int.reduceBNe, Int.reduceLT, Int.reduceNeg, h', decide_false]
        refine .inr ⟨by simp, ?_⟩
        simp only [D0, ains, appG, clsOf, abin, aint, aun, dnext, rowsOf, loadObj, cellsOf, ofCells, bnd, hmerge, Nat.reduceBEq, Nat.reduceAdd, reduceIte, Nat.reduceEqDiff, Nat.reduceLeDiff, Int.reduceEq, reduceCtorEq, Int.reduceBEq, Int.reduceBNe, Int.reduceLT, Int.reduceNeg, @use_all s12 31 k94.ora rfl, e94, hz6, fz, fzd, List.length_map, Nat.le_refl]
        simp only [F1, bodyRes, one, ains, appG, clsOf, abin, aint, aun, dnext, rowsOf, loadObj, cellsOf, ofCells, bnd, hmerge, Nat.reduceBEq, Nat.reduceAdd, reduceIte, Nat.reduceEqDiff, Nat.reduceLeDiff, Int.reduceEq, reduceCtorEq, Int.reduceBEq, Int.reduceBNe, Int.reduceLT, Int.reduceNeg, fn95_res, fn95_keep, fz, fzd, fzd.fzcells]
theorem setsBoolInj : ∀ x y : List R2 × List R2 × Bool, [(AV.list 2 (List.map (fun x => [AV.int .i64 x.1, AV.int .i64 x.2]) (x.1))), (AV.list 2 (List.map (fun x => [AV.int .i64 x.1, AV.int .i64 x.2]) (x.2.1))), AV.bool x.2.2] = [(AV.list 2 (List.map (fun x => [AV.int .i64 x.1, AV.int .i64 x.2]) (y.1))), (AV.list 2 (List.map (fun x => [AV.int .i64 x.1, AV.int .i64 x.2]) (y.2.1))), AV.bool y.2.2] → x = y := by
  rintro ⟨a, b, t⟩ ⟨c, d, u⟩ h
  simp only [List.cons.injEq, AV.bool.injEq, and_true] at h
  rw [eSet_inj (a := a) (b := c) h.1, eSet_inj (a := b) (b := d) h.2.1, h.2.2]
noncomputable def k95 : Kon ((List (Int × Int)) × (List (Int × Int)) × Bool) := ⟨fun x => x.1.length + x.2.1.length ≤ 1000, fun x => [(AV.list 2 (List.map (fun x => [AV.int .i64 x.1, AV.int .i64 x.2]) (x.1))), (AV.list 2 (List.map (fun x => [AV.int .i64 x.1, AV.int .i64 x.2]) (x.2.1))), .bool x.2.2], fun x => .agg [(AV.list 2 (List.map (fun x => [AV.int .i64 x.1, AV.int .i64 x.2]) (rTwoV x.1 x.2.1 x.2.2))), .bool (goodS x.1 && goodS x.2.1)]⟩
theorem e95 (a : List (Int × Int)) (b : List (Int × Int)) (t : Bool) (hd : a.length + b.length ≤ 1000) (q0 : Id) (H0 : Heap) : k95.ora q0 ([(AV.list 2 (List.map (fun x => [AV.int .i64 x.1, AV.int .i64 x.2]) (a))), (AV.list 2 (List.map (fun x => [AV.int .i64 x.1, AV.int .i64 x.2]) (b))), .bool t]) H0 = some (.agg [(AV.list 2 (List.map (fun x => [AV.int .i64 x.1, AV.int .i64 x.2]) (rTwoV a b t))), .bool (goodS a && goodS b)], H0) := k95.eq (setsBoolInj) (a, b, t) hd q0 H0
theorem ook95 : OraOK Tryz.prog (43 % 100000) k95.ora := k95.ok orders s12_ok (fun x hd => by simp [k95, PU]) (fun x hd => by simp [k95, PU]) (fun x hd => run95 x.1 x.2.1 x.2.2 hd)

noncomputable def s13 : FT := upd (upd (s12) 21 k55.ora) 43 k95.ora
theorem s13_ok : FTOK Tryz.prog s13 := upd_ok2 (f := 43) (upd_ok2 (f := 21) (s12_ok) ook55) ook95

theorem run54 (a b : List R2) (hl : a.length + b.length ≤ 1000) : cwp s13 20 [] [(AV.list 2 (List.map (fun x => [AV.int .i64 x.1, AV.int .i64 x.2]) (a))), (AV.list 2 (List.map (fun x => [AV.int .i64 x.1, AV.int .i64 x.2]) (b)))] [] (fun r H => r = .agg [(AV.list 2 (List.map (fun x => [AV.int .i64 x.1, AV.int .i64 x.2]) (bothS a b))), .bool (goodS a && goodS b)] ∧ H = []) := by
  refine run_fn (fn := fn54) rfl rfl ?_
  have e := rTwo_true a b
  simp only [fn54_body, c54, D0, ains, appG, clsOf, abin, aint, aun, dnext, rowsOf, loadObj, cellsOf, ofCells, bnd, hmerge, Nat.reduceBEq, Nat.reduceAdd, reduceIte, Nat.reduceEqDiff, Nat.reduceLeDiff, Int.reduceEq, reduceCtorEq, Int.reduceBEq, Int.reduceBNe, Int.reduceLT, Int.reduceNeg, @use_all s13 43 k95.ora rfl, e95, hl]
  simp only [F1, bodyRes, one, ains, appG, clsOf, abin, aint, aun, dnext, rowsOf, loadObj, cellsOf, ofCells, bnd, hmerge, Nat.reduceBEq, Nat.reduceAdd, reduceIte, Nat.reduceEqDiff, Nat.reduceLeDiff, Int.reduceEq, reduceCtorEq, Int.reduceBEq, Int.reduceBNe, Int.reduceLT, Int.reduceNeg, fn54_res, fn54_keep, fz, fzd, fzd.fzcells, e]
noncomputable def k54 : Kon ((List (Int × Int)) × (List (Int × Int))) := ⟨fun x => x.1.length + x.2.length ≤ 1000, fun x => [(AV.list 2 (List.map (fun x => [AV.int .i64 x.1, AV.int .i64 x.2]) (x.1))), (AV.list 2 (List.map (fun x => [AV.int .i64 x.1, AV.int .i64 x.2]) (x.2)))], fun x => .agg [(AV.list 2 (List.map (fun x => [AV.int .i64 x.1, AV.int .i64 x.2]) (bothS x.1 x.2))), .bool (goodS x.1 && goodS x.2)]⟩
theorem e54 (a : List (Int × Int)) (b : List (Int × Int)) (hd : a.length + b.length ≤ 1000) (q0 : Id) (H0 : Heap) : k54.ora q0 ([(AV.list 2 (List.map (fun x => [AV.int .i64 x.1, AV.int .i64 x.2]) (a))), (AV.list 2 (List.map (fun x => [AV.int .i64 x.1, AV.int .i64 x.2]) (b)))]) H0 = some (.agg [(AV.list 2 (List.map (fun x => [AV.int .i64 x.1, AV.int .i64 x.2]) (bothS a b))), .bool (goodS a && goodS b)], H0) := k54.eq (set2Inj) (a, b) hd q0 H0
theorem ook54 : OraOK Tryz.prog (20 % 100000) k54.ora := k54.ok orders s13_ok (fun x hd => by simp [k54, PU]) (fun x hd => by simp [k54, PU]) (fun x hd => run54 x.1 x.2 hd)

end Go.Proofs.Abs
