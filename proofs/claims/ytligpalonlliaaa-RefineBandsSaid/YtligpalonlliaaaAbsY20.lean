/- A part of a proof: the text that states the row tells what is proved. No condition is laid on anything. -/
import Derived.Test.YtligpalonlliaaaAbsY19
set_option linter.all false
set_option linter.constructorNameAsVariable false
set_option linter.defProp false
set_option linter.unusedVariables false
set_option linter.unusedSimpArgs false
set_option maxRecDepth 100000
set_option maxHeartbeats 16000000
namespace Go.Proofs.Abs
open Go
noncomputable def s12 : FT := upd (upd (s11) 37 k121.ora) 38 k94.ora
theorem s12_ok : FTOK Try.prog s12 := upd_ok2 (f := 38) (upd_ok2 (f := 37) (s11_ok) ook121) ook94

/-! 55: caesuraref03.Not; 52: Of; 95: two; 53, 54. -/
def mrkN (f : Int → Bool) (at_ : List Int) (k : Nat) : List Bool := (at_.take k).map f ++ List.replicate (at_.length - k) false
theorem mrkN_length (f : Int → Bool) (at_ : List Int) (k : Nat) (h : k ≤ at_.length) : (mrkN f at_ k).length = at_.length := by
  simp [mrkN]; omega
theorem mrkN_zero (f : Int → Bool) (at_ : List Int) : mrkN f at_ 0 = List.replicate at_.length false := by simp [mrkN]
theorem mrkN_all (f : Int → Bool) (at_ : List Int) : mrkN f at_ at_.length = at_.map f := by simp [mrkN]
theorem mrkN_at (f : Int → Bool) {at_ : List Int} {k : Nat} (h : k < at_.length) : mrkN f at_ k = (at_.take k).map f ++ false :: List.replicate (at_.length - (k + 1)) false := by
  unfold mrkN
  have : at_.length - k = at_.length - (k + 1) + 1 := by omega
  rw [this, List.replicate_succ]
theorem mrkN_get (f : Int → Bool) {at_ : List Int} {k : Nat} (h : k < at_.length) : (mrkN f at_ k).getD k false = false := by
  have hl : (List.map f (at_.take k)).length = k := by simp; omega
  rw [mrkN_at f h, List.getD_eq_getElem?_getD, List.getElem?_append_right (by omega), hl, Nat.sub_self]
  rfl
theorem mrkN_set (f : Int → Bool) {at_ : List Int} {k : Nat} (h : k < at_.length) (b : Bool) : (mrkN f at_ k).set k b = (at_.take k).map f ++ b :: List.replicate (at_.length - (k + 1)) false := by
  have hl : (List.map f (at_.take k)).length = k := by simp; omega
  rw [mrkN_at f h, List.set_append_right _ _ (by omega), hl, Nat.sub_self]
  rfl
theorem mrkN_next (f : Int → Bool) {at_ : List Int} {k : Nat} (h : k < at_.length) : (mrkN f at_ k).set k (f (at_.getD k 0)) = mrkN f at_ (k + 1) := by
  rw [mrkN_set f h]
  unfold mrkN
  rw [takeI h, List.map_append, List.append_assoc]
  rfl
theorem rep_map (n : Nat) : List.replicate n [AV.bool false] = List.map (fun x => [AV.bool x]) (List.replicate n false) := by simp
theorem set_map (l : List Bool) (k : Nat) (b : Bool) : (List.map (fun x => [AV.bool x]) l).set k [AV.bool b] = List.map (fun x => [AV.bool x]) (l.set k b) := by simp [List.map_set]
theorem run55 (s : List R2) (hs : s.length ≤ 1000) : cwp s12 17 [] [(AV.list 2 (List.map (fun x => [AV.int .i64 x.1, AV.int .i64 x.2]) (s)))] [] (fun r H => r = .agg [(AV.list 2 (List.map (fun x => [AV.int .i64 x.1, AV.int .i64 x.2]) (notS s))), .bool (goodS s)] ∧ H = []) := by
  refine run_fn (fn := fn55) rfl rfl ?_
  have ls : s.length ≤ 9223372036854775807 := by omega
  have ls6 : s.length ≤ 1000000 := by omega
  cases gs : goodS s with
  | false =>
    have e : notS s = [] := by simp [notS, gs]
    simp only [fn55_body, c55, D0, ains, appG, clsOf, abin, aint, aun, dnext, rowsOf, loadObj, cellsOf, ofCells, bnd, hmerge, Nat.reduceBEq, Nat.reduceAdd, reduceIte, Nat.reduceEqDiff, Nat.reduceLeDiff, Int.reduceEq, reduceCtorEq, Int.reduceBEq, Int.reduceBNe, Int.reduceLT, Int.reduceNeg, @use_all s12 9 k57.ora rfl, e57, ls, gs]
    simp only [F1, bodyRes, one, ains, appG, clsOf, abin, aint, aun, dnext, rowsOf, loadObj, cellsOf, ofCells, bnd, hmerge, Nat.reduceBEq, Nat.reduceAdd, reduceIte, Nat.reduceEqDiff, Nat.reduceLeDiff, Int.reduceEq, reduceCtorEq, Int.reduceBEq, Int.reduceBNe, Int.reduceLT, Int.reduceNeg, fn55_res, fn55_keep, fz, fzd, fzd.fzcells, e, List.map_nil]
  | true =>
    have hr := rNot_eq s
    unfold rNotV at hr
    rw [if_pos gs] at hr
    unfold mrkNot at hr
    have hn := startsL_length s
    simp only [fn55_body, c55, D0, ains, appG, clsOf, abin, aint, aun, dnext, rowsOf, loadObj, cellsOf, ofCells, bnd, hmerge, Nat.reduceBEq, Nat.reduceAdd, reduceIte, Nat.reduceEqDiff, Nat.reduceLeDiff, Int.reduceEq, reduceCtorEq, Int.reduceBEq, Int.reduceBNe, Int.reduceLT, Int.reduceNeg, @use_all s12 9 k57.ora rfl, e57, @use_all s12 39 k93.ora rfl, e93, ls, hs, gs]
    generalize startsL s = z at hr hn
    have hz : ((z.length : Nat) : Int) * ((1 : Nat) : Int) ≤ 140737488355328 := by omega
    have hm0 := rep_map z.length
    rw [← mrkN_zero (fun v => !hasS s v)] at hm0
    simp only [D0, ains, appG, clsOf, abin, aint, aun, dnext, rowsOf, loadObj, cellsOf, ofCells, bnd, hmerge, Nat.reduceBEq, Nat.reduceAdd, reduceIte, Nat.reduceEqDiff, Nat.reduceLeDiff, Int.reduceEq, reduceCtorEq, Int.reduceBEq, Int.reduceBNe, Int.reduceLT, Int.reduceNeg, hz, hm0, Int.natCast_nonneg, Int.toNat_natCast]
    refine lg_rule (fun j e H => e = [(0, (AV.list 2 (List.map (fun x => [AV.int .i64 x.1, AV.int .i64 x.2]) (s)))), (2, .ref [0] 1 0 0), (3, (AV.list 1 (List.map (fun x => [AV.int .i64 x]) (z)))), (4, .own [9] z.length), (5, .int .i64 j)] ∧
      H = [[([9], .row true true 4 1 (List.map (fun x => [AV.bool x]) (mrkN (fun v => !hasS s v) z j))), ([0], .box [.list 2 [], .bool false])]] ∧ j ≤ z.length) z.length ?_ ?_
    · exact ⟨rfl, rfl, by simp⟩
    rintro j e H ⟨rfl, rfl, hj⟩
    simp only [D0, ains, appG, clsOf, abin, aint, aun, dnext, rowsOf, loadObj, cellsOf, ofCells, bnd, hmerge, Nat.reduceBEq, Nat.reduceAdd, reduceIte, Nat.reduceEqDiff, Nat.reduceLeDiff, Int.reduceEq, reduceCtorEq, Int.reduceBEq, Int.reduceBNe, Int.reduceLT, Int.reduceNeg]
    by_cases h : j < z.length
    · have h' : (j : Int) < (z.length : Int) := by omega
      have hp := wrapp (j := j) (by omega)
      have hg := getI h
      have hnx := mrkN_next (fun v => !hasS s v) h
      have hml := mrkN_length (fun v => !hasS s v) z j (by omega)
      have hb := getB (l := mrkN (fun v => !hasS s v) z j) (j := j) (by omega)
      generalize z.getD j 0 = a at hg hnx
      simp only [D0, ains, appG, clsOf, abin, aint, aun, dnext, rowsOf, loadObj, cellsOf, ofCells, bnd, hmerge, Nat.reduceBEq, Nat.reduceAdd, reduceIte, Nat.reduceEqDiff, Nat.reduceLeDiff, Int.reduceEq, reduceCtorEq, Int.reduceBEq, Int.reduceBNe, Int.reduceLT, Int.reduceNeg, @use_all s12 15 k59.ora rfl, e59, h', h, hg, hp, hb, ls6, hml, decide_true, Int.natCast_nonneg, Int.toNat_natCast, List.length_map]
      simp only [F1, bodyRes, one, ains, appG, clsOf, abin, aint, aun, dnext, rowsOf, loadObj, cellsOf, ofCells, bnd, hmerge, Nat.reduceBEq, Nat.reduceAdd, reduceIte, Nat.reduceEqDiff, Nat.reduceLeDiff, Int.reduceEq, reduceCtorEq, Int.reduceBEq, Int.reduceBNe, Int.reduceLT, Int.reduceNeg]
      rw [set_map, hnx]
      exact ⟨rfl, h⟩
    · have h' : ¬ (j : Int) < (z.length : Int) := by omega
      have hjl : j = z.length := by omega
      subst hjl
      have hall := mrkN_all (fun v => !hasS s v) z
      have hz6 : z.length ≤ 1000000 := by omega
      have hml : z.length ≤ (List.map (fun v => !hasS s v) z).length := by simp
      simp only [hall, D0, ains, appG, clsOf, abin, aint, aun, dnext, rowsOf, loadObj, cellsOf, ofCells, bnd, hmerge, Nat.reduceBEq, Nat.reduceAdd, reduceIte, Nat.reduceEqDiff, Nat.reduceLeDiff, Int.reduceEq, reduceCtorEq, Int.reduceBEq, Int.reduceBNe, Int.reduceLT, Int.reduceNeg, h', decide_false]
      refine .inr ⟨by simp, ?_⟩
      simp only [D0, ains, appG, clsOf, abin, aint, aun, dnext, rowsOf, loadObj, cellsOf, ofCells, bnd, hmerge, Nat.reduceBEq, Nat.reduceAdd, reduceIte, Nat.reduceEqDiff, Nat.reduceLeDiff, Int.reduceEq, reduceCtorEq, Int.reduceBEq, Int.reduceBNe, Int.reduceLT, Int.reduceNeg, @use_all s12 38 k94.ora rfl, e94, hz6, hml, hr, fz, fzd, List.length_map, Nat.le_refl]
      simp only [F1, bodyRes, one, ains, appG, clsOf, abin, aint, aun, dnext, rowsOf, loadObj, cellsOf, ofCells, bnd, hmerge, Nat.reduceBEq, Nat.reduceAdd, reduceIte, Nat.reduceEqDiff, Nat.reduceLeDiff, Int.reduceEq, reduceCtorEq, Int.reduceBEq, Int.reduceBNe, Int.reduceLT, Int.reduceNeg, fn55_res, fn55_keep, fz, fzd, fzd.fzcells]
noncomputable def k55 : Kon ((List (Int × Int))) := ⟨fun x => x.length ≤ 1000, fun x => [(AV.list 2 (List.map (fun x => [AV.int .i64 x.1, AV.int .i64 x.2]) (x)))], fun x => .agg [(AV.list 2 (List.map (fun x => [AV.int .i64 x.1, AV.int .i64 x.2]) (notS x))), .bool (goodS x)]⟩
theorem e55 (s : List (Int × Int)) (hd : s.length ≤ 1000) (q0 : Id) (H0 : Heap) : k55.ora q0 ([(AV.list 2 (List.map (fun x => [AV.int .i64 x.1, AV.int .i64 x.2]) (s)))]) H0 = some (.agg [(AV.list 2 (List.map (fun x => [AV.int .i64 x.1, AV.int .i64 x.2]) (notS s))), .bool (goodS s)], H0) := k55.eq (setInj) (s) hd q0 H0
theorem ook55 : OraOK Try.prog (17 % 100000) k55.ora := k55.ok orders s12_ok (fun x hd => by simp [k55, PU]) (fun x hd => by simp [k55, PU]) (fun x hd => run55 x hd)

theorem setsBoolInj : ∀ x y : List R2 × List R2 × Bool, [(AV.list 2 (List.map (fun x => [AV.int .i64 x.1, AV.int .i64 x.2]) (x.1))), (AV.list 2 (List.map (fun x => [AV.int .i64 x.1, AV.int .i64 x.2]) (x.2.1))), AV.bool x.2.2] = [(AV.list 2 (List.map (fun x => [AV.int .i64 x.1, AV.int .i64 x.2]) (y.1))), (AV.list 2 (List.map (fun x => [AV.int .i64 x.1, AV.int .i64 x.2]) (y.2.1))), AV.bool y.2.2] → x = y := by
  rintro ⟨a, b, t⟩ ⟨c, d, u⟩ h
  simp only [List.cons.injEq, AV.bool.injEq, and_true] at h
  rw [eSet_inj (a := a) (b := c) h.1, eSet_inj (a := b) (b := d) h.2.1, h.2.2]
noncomputable def s13 : FT := upd (s12) 17 k55.ora
theorem s13_ok : FTOK Try.prog s13 := upd_ok2 (f := 17) (s12_ok) ook55

end Go.Proofs.Abs
