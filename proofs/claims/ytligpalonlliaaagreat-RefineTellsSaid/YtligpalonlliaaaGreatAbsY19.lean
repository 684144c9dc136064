/- A part of a proof: the text that states the row tells what is proved. No condition is laid on anything. -/
import Derived.Test.YtligpalonlliaaaGreatAbsY18
set_option linter.all false
set_option linter.constructorNameAsVariable false
set_option linter.defProp false
set_option linter.unusedVariables false
set_option linter.unusedSimpArgs false
set_option maxRecDepth 100000
set_option maxHeartbeats 16000000
namespace Go.Proofs.Abs
open Go
/-! 94: caesuraref03.Build. -/
def eMrk (m : List Bool) : AV := .list 1 (List.map (fun x => [AV.bool x]) m)
theorem getB {l : List Bool} {j : Nat} (h : j < l.length) : (List.map (fun x => [AV.bool x]) l)[j]? = some [AV.bool (l.getD j false)] := by
  simp [List.getElem?_eq_getElem h]
theorem run94 (at_ : List Int) (m : List Bool) (hl : at_.length ≤ 1000000) (hm : at_.length ≤ m.length) : cwp s11 31 [] [(AV.list 1 (List.map (fun x => [AV.int .i64 x]) (at_))), .list 1 (List.map (fun x => [AV.bool x]) m)] [] (fun r H => r = (AV.list 2 (List.map (fun x => [AV.int .i64 x.1, AV.int .i64 x.2]) (buildL at_ m))) ∧ H = []) := by
  refine run_fn (fn := fn94) rfl rfl ?_
  simp only [fn94_body, c94, D0, ains, appG, clsOf, abin, aint, aun, dnext, rowsOf, loadObj, cellsOf, ofCells, bnd, hmerge, Nat.reduceBEq, Nat.reduceAdd, reduceIte, Nat.reduceEqDiff, Nat.reduceLeDiff, Int.reduceEq, reduceCtorEq, Int.reduceBEq, Int.reduceBNe, Int.reduceLT, Int.reduceNeg]
  refine lg_rule (fun j e H => e = [(0, (AV.list 1 (List.map (fun x => [AV.int .i64 x]) (at_)))), (1, .list 1 (List.map (fun x => [AV.bool x]) m)), (4, .own [0] 0), (5, .own [1] (bldN at_ m j).length), (6, .int .i64 j)] ∧
    H = [[([1], .row true true 55 2 (List.map (fun x => [AV.int .i64 x.1, AV.int .i64 x.2]) (bldN at_ m j))), ([0], .row true true 55 2 [])]] ∧ j ≤ at_.length) at_.length ?_ ?_
  · exact ⟨rfl, rfl, by simp⟩
  rintro j e H ⟨rfl, rfl, hj⟩
  simp only [D0, ains, appG, clsOf, abin, aint, aun, dnext, rowsOf, loadObj, cellsOf, ofCells, bnd, hmerge, Nat.reduceBEq, Nat.reduceAdd, reduceIte, Nat.reduceEqDiff, Nat.reduceLeDiff, Int.reduceEq, reduceCtorEq, Int.reduceBEq, Int.reduceBNe, Int.reduceLT, Int.reduceNeg]
  by_cases h : j < at_.length
  · have h' : (j : Int) < (at_.length : Int) := by omega
    have hp := wrapp (j := j) (by omega)
    have hg := getI h
    have hb := getB (l := m) (j := j) (by omega)
    have hnx : bldN at_ m (j + 1) = if m.getD j false then bldA (bldN at_ m j) (at_.getD j 0) (hiA at_ j) else bldN at_ m j := rfl
    have hul := bldN_length at_ m j
    cases hmj : m.getD j false with
    | false =>
      rw [hmj] at hb hnx
      simp only [Bool.false_eq_true, if_false] at hnx
      simp only [D0, ains, appG, clsOf, abin, aint, aun, dnext, rowsOf, loadObj, cellsOf, ofCells, bnd, hmerge, Nat.reduceBEq, Nat.reduceAdd, reduceIte, Nat.reduceEqDiff, Nat.reduceLeDiff, Int.reduceEq, reduceCtorEq, Int.reduceBEq, Int.reduceBNe, Int.reduceLT, Int.reduceNeg, h', hg, hb, hp, decide_true, Bool.not_false, Int.natCast_nonneg, Int.toNat_natCast]
      simp only [F1, bodyRes, one, ains, appG, clsOf, abin, aint, aun, dnext, rowsOf, loadObj, cellsOf, ofCells, bnd, hmerge, Nat.reduceBEq, Nat.reduceAdd, reduceIte, Nat.reduceEqDiff, Nat.reduceLeDiff, Int.reduceEq, reduceCtorEq, Int.reduceBEq, Int.reduceBNe, Int.reduceLT, Int.reduceNeg]
      rw [hnx]
      exact ⟨h, rfl, rfl, h⟩
    | true =>
      rw [hmj] at hb hnx
      simp only [if_true] at hnx
      generalize bldN at_ m j = u at hnx hul
      generalize at_.getD j 0 = a at hg hnx
      by_cases h1 : j + 1 < at_.length
      · have h1' : ((j + 1 : Nat) : Int) < (at_.length : Int) := by omega
        have hg1 := getI h1
        have hhi : hiA at_ j = prevV (at_.getD (j + 1) 0) := by simp only [hiA, if_pos h1]
        rw [hhi] at hnx
        generalize at_.getD (j + 1) 0 = a1 at hg1 hnx
        by_cases h0 : u.length = 0
        · have hu : u = [] := List.eq_nil_of_length_eq_zero h0
          subst hu
          have hb0 : bldA [] a (prevV a1) = [(a, prevV a1)] := rfl
          rw [hb0] at hnx
          have hw0 : decide (IntKind.i64.wrap (((0 : Nat) : Int) - 1) ≥ 0) = false := by decide
          simp only [D0, ains, appG, clsOf, abin, aint, aun, dnext, rowsOf, loadObj, cellsOf, ofCells, bnd, hmerge, Nat.reduceBEq, Nat.reduceAdd, reduceIte, Nat.reduceEqDiff, Nat.reduceLeDiff, Int.reduceEq, reduceCtorEq, Int.reduceBEq, Int.reduceBNe, Int.reduceLT, Int.reduceNeg, @use_all s11 42 k96.ora rfl, e96, @use_all s11 56 k120.ora rfl, e120, h', hg, hb, hp, h1', hg1, hw0, Nat.reduceMul, lrc_x, apx, apart, apart1, needs, Nat.reduceLT, decide_true, decide_false, Bool.not_true, Int.natCast_nonneg, Int.toNat_natCast]
          simp only [F1, bodyRes, one, ains, appG, clsOf, abin, aint, aun, dnext, rowsOf, loadObj, cellsOf, ofCells, bnd, hmerge, Nat.reduceBEq, Nat.reduceAdd, reduceIte, Nat.reduceEqDiff, Nat.reduceLeDiff, Int.reduceEq, reduceCtorEq, Int.reduceBEq, Int.reduceBNe, Int.reduceLT, Int.reduceNeg]
          rw [hnx]
          exact ⟨h, by simp, by simp, h⟩
        · have hm1 := wrapm (j := u.length) (by omega) (by omega)
          have hgu := map_get (f := fun x : Int × Int => [AV.int .i64 x.1, AV.int .i64 x.2]) (l := u) (j := u.length - 1) (by omega) (0, 0)
          have hun : ((u.length - 1 : Nat) : Int) < (u.length : Int) := by omega
          have hun' : u.length - 1 < u.length := by omega
          have hge : ((u.length - 1 : Nat) : Int) ≥ 0 := by omega
          have hcap : (u.length + 1) * 16 ≤ 140737488355328 := by omega
          have hb0 : bldA u a (prevV a1) = if nextV (u.getD (u.length - 1) (0, 0)).2 = a then u.set (u.length - 1) ((u.getD (u.length - 1) (0, 0)).1, prevV a1) else u ++ [(a, prevV a1)] := by simp [bldA, h0]
          rw [hb0] at hnx
          generalize u.getD (u.length - 1) (0, 0) = p at hgu hnx
          obtain ⟨c, d⟩ := p
          by_cases he : nextV d = a
          · rw [if_pos he] at hnx
            have he' : (nextV d == a) = true := by simpa using he
            simp only [D0, ains, appG, clsOf, abin, aint, aun, dnext, rowsOf, loadObj, cellsOf, ofCells, bnd, hmerge, Nat.reduceBEq, Nat.reduceAdd, reduceIte, Nat.reduceEqDiff, Nat.reduceLeDiff, Int.reduceEq, reduceCtorEq, Int.reduceBEq, Int.reduceBNe, Int.reduceLT, Int.reduceNeg, @use_all s11 42 k96.ora rfl, e96, @use_all s11 56 k120.ora rfl, e120, h', hg, hb, hp, h1', hg1, hm1, hgu, hun, hun', hge, he', hcap, lrc_x, apx, apart, apart1, needs, decide_true, decide_false, Bool.not_true, Int.natCast_nonneg, Int.toNat_natCast, List.length_map, Nat.reduceLT]
            simp only [F1, bodyRes, one, ains, appG, clsOf, abin, aint, aun, dnext, rowsOf, loadObj, cellsOf, ofCells, bnd, hmerge, Nat.reduceBEq, Nat.reduceAdd, reduceIte, Nat.reduceEqDiff, Nat.reduceLeDiff, Int.reduceEq, reduceCtorEq, Int.reduceBEq, Int.reduceBNe, Int.reduceLT, Int.reduceNeg]
            rw [hnx]
            exact ⟨h, by simp, by simp [List.map_set], h⟩
          · rw [if_neg he] at hnx
            have he' : (nextV d == a) = false := by simpa using he
            simp only [D0, ains, appG, clsOf, abin, aint, aun, dnext, rowsOf, loadObj, cellsOf, ofCells, bnd, hmerge, Nat.reduceBEq, Nat.reduceAdd, reduceIte, Nat.reduceEqDiff, Nat.reduceLeDiff, Int.reduceEq, reduceCtorEq, Int.reduceBEq, Int.reduceBNe, Int.reduceLT, Int.reduceNeg, @use_all s11 42 k96.ora rfl, e96, @use_all s11 56 k120.ora rfl, e120, h', hg, hb, hp, h1', hg1, hm1, hgu, hun, hun', hge, he', hcap, lrc_x, apx, apart, apart1, needs, decide_true, decide_false, Bool.not_true, Int.natCast_nonneg, Int.toNat_natCast, List.length_map, Nat.reduceLT]
            simp only [F1, bodyRes, one, ains, appG, clsOf, abin, aint, aun, dnext, rowsOf, loadObj, cellsOf, ofCells, bnd, hmerge, Nat.reduceBEq, Nat.reduceAdd, reduceIte, Nat.reduceEqDiff, Nat.reduceLeDiff, Int.reduceEq, reduceCtorEq, Int.reduceBEq, Int.reduceBNe, Int.reduceLT, Int.reduceNeg]
            rw [hnx]
            exact ⟨h, by simp, by simp [List.map_set], h⟩
      · have h1' : ¬ ((j + 1 : Nat) : Int) < (at_.length : Int) := by omega
        have hhi : hiA at_ j = 1114111 := by simp only [hiA, if_neg h1]
        rw [hhi] at hnx
        by_cases h0 : u.length = 0
        · have hu : u = [] := List.eq_nil_of_length_eq_zero h0
          subst hu
          have hb0 : bldA [] a (1114111) = [(a, 1114111)] := rfl
          rw [hb0] at hnx
          have hw0 : decide (IntKind.i64.wrap (((0 : Nat) : Int) - 1) ≥ 0) = false := by decide
          simp only [D0, ains, appG, clsOf, abin, aint, aun, dnext, rowsOf, loadObj, cellsOf, ofCells, bnd, hmerge, Nat.reduceBEq, Nat.reduceAdd, reduceIte, Nat.reduceEqDiff, Nat.reduceLeDiff, Int.reduceEq, reduceCtorEq, Int.reduceBEq, Int.reduceBNe, Int.reduceLT, Int.reduceNeg, @use_all s11 42 k96.ora rfl, e96, @use_all s11 56 k120.ora rfl, e120, h', hg, hb, hp, h1', hw0, Nat.reduceMul, lrc_x, apx, apart, apart1, needs, Nat.reduceLT, decide_true, decide_false, Bool.not_true, Int.natCast_nonneg, Int.toNat_natCast]
          simp only [F1, bodyRes, one, ains, appG, clsOf, abin, aint, aun, dnext, rowsOf, loadObj, cellsOf, ofCells, bnd, hmerge, Nat.reduceBEq, Nat.reduceAdd, reduceIte, Nat.reduceEqDiff, Nat.reduceLeDiff, Int.reduceEq, reduceCtorEq, Int.reduceBEq, Int.reduceBNe, Int.reduceLT, Int.reduceNeg]
          rw [hnx]
          exact ⟨h, by simp, by simp, h⟩
        · have hm1 := wrapm (j := u.length) (by omega) (by omega)
          have hgu := map_get (f := fun x : Int × Int => [AV.int .i64 x.1, AV.int .i64 x.2]) (l := u) (j := u.length - 1) (by omega) (0, 0)
          have hun : ((u.length - 1 : Nat) : Int) < (u.length : Int) := by omega
          have hun' : u.length - 1 < u.length := by omega
          have hge : ((u.length - 1 : Nat) : Int) ≥ 0 := by omega
          have hcap : (u.length + 1) * 16 ≤ 140737488355328 := by omega
          have hb0 : bldA u a (1114111) = if nextV (u.getD (u.length - 1) (0, 0)).2 = a then u.set (u.length - 1) ((u.getD (u.length - 1) (0, 0)).1, 1114111) else u ++ [(a, 1114111)] := by simp [bldA, h0]
          rw [hb0] at hnx
          generalize u.getD (u.length - 1) (0, 0) = p at hgu hnx
          obtain ⟨c, d⟩ := p
          by_cases he : nextV d = a
          · rw [if_pos he] at hnx
            have he' : (nextV d == a) = true := by simpa using he
            simp only [D0, ains, appG, clsOf, abin, aint, aun, dnext, rowsOf, loadObj, cellsOf, ofCells, bnd, hmerge, Nat.reduceBEq, Nat.reduceAdd, reduceIte, Nat.reduceEqDiff, Nat.reduceLeDiff, Int.reduceEq, reduceCtorEq, Int.reduceBEq, Int.reduceBNe, Int.reduceLT, Int.reduceNeg, @use_all s11 42 k96.ora rfl, e96, @use_all s11 56 k120.ora rfl, e120, h', hg, hb, hp, h1', hm1, hgu, hun, hun', hge, he', hcap, lrc_x, apx, apart, apart1, needs, decide_true, decide_false, Bool.not_true, Int.natCast_nonneg, Int.toNat_natCast, List.length_map, Nat.reduceLT]
            simp only [F1, bodyRes, one, ains, appG, clsOf, abin, aint, aun, dnext, rowsOf, loadObj, cellsOf, ofCells, bnd, hmerge, Nat.reduceBEq, Nat.reduceAdd, reduceIte, Nat.reduceEqDiff, Nat.reduceLeDiff, Int.reduceEq, reduceCtorEq, Int.reduceBEq, Int.reduceBNe, Int.reduceLT, Int.reduceNeg]
            rw [hnx]
            exact ⟨h, by simp, by simp [List.map_set], h⟩
          · rw [if_neg he] at hnx
            have he' : (nextV d == a) = false := by simpa using he
            simp only [D0, ains, appG, clsOf, abin, aint, aun, dnext, rowsOf, loadObj, cellsOf, ofCells, bnd, hmerge, Nat.reduceBEq, Nat.reduceAdd, reduceIte, Nat.reduceEqDiff, Nat.reduceLeDiff, Int.reduceEq, reduceCtorEq, Int.reduceBEq, Int.reduceBNe, Int.reduceLT, Int.reduceNeg, @use_all s11 42 k96.ora rfl, e96, @use_all s11 56 k120.ora rfl, e120, h', hg, hb, hp, h1', hm1, hgu, hun, hun', hge, he', hcap, lrc_x, apx, apart, apart1, needs, decide_true, decide_false, Bool.not_true, Int.natCast_nonneg, Int.toNat_natCast, List.length_map, Nat.reduceLT]
            simp only [F1, bodyRes, one, ains, appG, clsOf, abin, aint, aun, dnext, rowsOf, loadObj, cellsOf, ofCells, bnd, hmerge, Nat.reduceBEq, Nat.reduceAdd, reduceIte, Nat.reduceEqDiff, Nat.reduceLeDiff, Int.reduceEq, reduceCtorEq, Int.reduceBEq, Int.reduceBNe, Int.reduceLT, Int.reduceNeg]
            rw [hnx]
            exact ⟨h, by simp, by simp [List.map_set], h⟩
  · have h' : ¬ (j : Int) < (at_.length : Int) := by omega
    have hjl : j = at_.length := by omega
    subst hjl
    simp only [D0, ains, appG, clsOf, abin, aint, aun, dnext, rowsOf, loadObj, cellsOf, ofCells, bnd, hmerge, Nat.reduceBEq, Nat.reduceAdd, reduceIte, Nat.reduceEqDiff, Nat.reduceLeDiff, Int.reduceEq, reduceCtorEq, Int.reduceBEq, Int.reduceBNe, Int.reduceLT, Int.reduceNeg, h', decide_false]
    refine .inr ⟨by simp, ?_⟩
    simp only [F1, bodyRes, one, ains, appG, clsOf, abin, aint, aun, dnext, rowsOf, loadObj, cellsOf, ofCells, bnd, hmerge, Nat.reduceBEq, Nat.reduceAdd, reduceIte, Nat.reduceEqDiff, Nat.reduceLeDiff, Int.reduceEq, reduceCtorEq, Int.reduceBEq, Int.reduceBNe, Int.reduceLT, Int.reduceNeg, fn94_res, fn94_keep, fz, fzd, fzd.fzcells]
    rfl
@[simp] theorem pure_mrk (m : List Bool) : Pure (.list 1 (List.map (fun b => [AV.bool b]) m)) := .list _ _ (pure_flat (by
  intro r hr a ha
  obtain ⟨b, _, rfl⟩ := List.mem_map.1 hr
  rw [List.mem_singleton.1 ha]
  exact .bool b))
theorem mrkInj : ∀ x y : List Int × List Bool, [(AV.list 1 (List.map (fun x => [AV.int .i64 x]) (x.1))), AV.list 1 (List.map (fun b => [AV.bool b]) x.2)] = [(AV.list 1 (List.map (fun x => [AV.int .i64 x]) (y.1))), AV.list 1 (List.map (fun b => [AV.bool b]) y.2)] → x = y := by
  rintro ⟨a, m⟩ ⟨b, n⟩ h
  simp only [List.cons.injEq, AV.list.injEq, and_true, true_and] at h
  rw [eRow_inj (a := a) (b := b) (by simp only [eRow, AV.list.injEq]; exact ⟨trivial, h.1⟩)]
  have : m = n := by
    have h2 := h.2
    clear h
    induction m generalizing n with
    | nil => cases n with
      | nil => rfl
      | cons y n => simp at h2
    | cons x m ih => cases n with
      | nil => simp at h2
      | cons y n =>
        simp only [List.map_cons, List.cons.injEq, AV.bool.injEq, and_true] at h2
        rw [h2.1, ih n h2.2]
  rw [this]
noncomputable def k94 : Kon (List Int × List Bool) := ⟨fun x => x.1.length ≤ 1000000 ∧ x.1.length ≤ x.2.length, fun x => [(AV.list 1 (List.map (fun x => [AV.int .i64 x]) (x.1))), .list 1 (List.map (fun b => [AV.bool b]) x.2)], fun x => (AV.list 2 (List.map (fun x => [AV.int .i64 x.1, AV.int .i64 x.2]) (buildL x.1 x.2)))⟩
theorem e94 (at_ : List Int) (m : List Bool) (hd : at_.length ≤ 1000000 ∧ at_.length ≤ m.length) (q0 : Id) (H0 : Heap) : k94.ora q0 ([(AV.list 1 (List.map (fun x => [AV.int .i64 x]) (at_))), .list 1 (List.map (fun b => [AV.bool b]) m)]) H0 = some ((AV.list 2 (List.map (fun x => [AV.int .i64 x.1, AV.int .i64 x.2]) (buildL at_ m))), H0) := k94.eq (mrkInj) (at_, m) hd q0 H0
theorem ook94 : OraOK Tryz.prog (31 % 100000) k94.ora := k94.ok orders s11_ok (fun x hd => by simp [k94, PU]) (fun x hd => by simp [k94, PU]) (fun x hd => run94 x.1 x.2 hd.1 hd.2)

end Go.Proofs.Abs
