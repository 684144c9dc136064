/- A part of a proof: the text that states the row tells what is proved. No condition is laid on anything. -/
import Derived.Test.YtligpalonlliaaaAbsZ8
import Derived.Test.YtligpalonlliaaaAbsZW
set_option linter.all false
set_option linter.constructorNameAsVariable false
set_option linter.defProp false
set_option linter.unusedVariables false
set_option linter.unusedSimpArgs false
set_option maxRecDepth 100000
set_option maxHeartbeats 16000000
namespace Go.Proofs.Abs
open Go
/-! 1061: caesuralaw04.RefineOne. -/
noncomputable def r8 : FT := upd r7 7 kW.ora
theorem r8_ok : FTOK Try.prog r8 := upd_ok2 (f := 7) r7_ok ook1004
theorem both_self {s : List R2} (h : goodS s = true) : bothS s s = s := by
  obtain ⟨g, m⟩ := both_good h h
  exact gdL_ext g ((gdL_iff _).1 h) fun v _ => by rw [m v, and_self]
theorem both_not {s : List R2} (h : goodS s = true) : bothS s (notS s) = [] := by
  obtain ⟨n1, n2⟩ := notS_good h
  obtain ⟨g, m⟩ := both_good h (good_of n1)
  exact gdL_ext g .nil fun v hv => by rw [m v, n2 v hv]; simp [memS]
theorem first_in {s : List R2} (h : goodS s = true) (hne : s ≠ []) : ∃ v, isS v = true ∧ inS v s = true ∧ s.head? ≠ none := by
  cases s with
  | nil => exact absurd rfl hne
  | cons r s =>
    obtain ⟨a, _, c⟩ := wholeS_iff.1 (((gdL_iff _).1 h).whole r (List.mem_cons_self ..))
    exact ⟨r.1, a, inS_iff.2 ⟨r, List.mem_cons_self .., Int.le_refl _, c⟩, by simp⟩
theorem in_not {s : List R2} (h : goodS s = true) {v : Int} (hv : isS v = true) : inS v (notS s) = !inS v s := by
  have := (notS_good h).2 v hv
  rw [← inS_iff, ← inS_iff] at this
  cases a : inS v (notS s) <;> cases b : inS v s <;> simp_all
theorem is0 : isS 0 = true := by decide
/-- The first range's beginning, and whether nothing is in the set. -/
theorem lo_zero {s : List R2} (h : goodS s = true) (h0 : 0 < s.length) : 0 ≤ (s.getD 0 (0, 0)).1 ∧ ((s.getD 0 (0, 0)).1 = 0 ↔ inS 0 s = true) := by
  have hG := (gdL_iff _).1 h
  have hm : s.getD 0 (0, 0) ∈ s := by rw [getD_eq h0]; exact List.getElem_mem h0
  obtain ⟨a, b, c⟩ := wholeS_iff.1 (hG.whole _ hm)
  have ha := isS_iff.1 a
  refine ⟨by omega, ?_, ?_⟩
  · intro e
    exact inS_iff.2 ⟨_, hm, by omega, by omega⟩
  · intro e
    obtain ⟨r, hr, k1, k2⟩ := inS_iff.1 e
    obtain ⟨j, hj, ej⟩ := List.getElem_of_mem hr
    rw [← getD_eq hj] at ej
    subst ej
    by_cases hj0 : j = 0
    · subst hj0; omega
    · have := lo_up hG (i := 0) (j := j) (by omega) hj
      omega
theorem e1006s (s : List R2) (hs : s.length ≤ 60) (q : Id) (H : Heap) : k1006.ora q [.list 1 [[(AV.list 2 (List.map (fun x => [AV.int .i64 x.1, AV.int .i64 x.2]) (s)))]]] H = some (.tuple [(AV.list 1 (List.map (fun s => [(AV.list 2 (List.map (fun x => [AV.int .i64 x.1, AV.int .i64 x.2]) (s)))]) (partsV [s]))), .bool (partsB [s])], H) :=
  e1006 [s] ⟨by simp, by simp [lenS]; omega, fun t ht => by rw [List.mem_singleton.1 ht]; omega⟩ q H
theorem e1014a (P : List (List R2)) (h0 : P.length ≤ 1000000) (h1 : ∀ s ∈ P, s.length ≤ 9223372036854775807) (q : Id) (H : Heap) : k1014.ora q [(AV.list 1 (List.map (fun s => [(AV.list 2 (List.map (fun x => [AV.int .i64 x.1, AV.int .i64 x.2]) (s)))]) (P))), .list 1 [[.list 2 [[.int .i64 0, .int .i64 1114111]]]]] H = some (.bool (decide (P = [allS])), H) :=
  e1014 P [allS] ⟨h0, h1⟩ q H
theorem e1014b (P : List (List R2)) (x y : List R2) (h0 : P.length ≤ 1000000) (h1 : ∀ s ∈ P, s.length ≤ 9223372036854775807) (q : Id) (H : Heap) : k1014.ora q [(AV.list 1 (List.map (fun s => [(AV.list 2 (List.map (fun x => [AV.int .i64 x.1, AV.int .i64 x.2]) (s)))]) (P))), .list 1 [[(AV.list 2 (List.map (fun x => [AV.int .i64 x.1, AV.int .i64 x.2]) (x)))], [(AV.list 2 (List.map (fun x => [AV.int .i64 x.1, AV.int .i64 x.2]) (y)))]]] H = some (.bool (decide (P = [x, y])), H) :=
  e1014 P [x, y] ⟨h0, h1⟩ q H
theorem e1012s (s : List R2) (P : List (List R2)) (hs : s.length ≤ 60) (h0 : P.length ≤ 1000) (h1 : ∀ s ∈ P, s.length ≤ 400000) (q : Id) (H : Heap) : k1012.ora q [.list 1 [[(AV.list 2 (List.map (fun x => [AV.int .i64 x.1, AV.int .i64 x.2]) (s)))]], (AV.list 1 (List.map (fun s => [(AV.list 2 (List.map (fun x => [AV.int .i64 x.1, AV.int .i64 x.2]) (s)))]) (P)))] H = some (.tuple [.list 1 (List.map (fun y => [(AV.list 1 (List.map (fun x => [AV.int .i64 x]) (y)))]) (withinV [s] P)), .bool (withinB [s] P)], H) :=
  e1012 [s] P ⟨by simp, h0, fun t ht => by rw [List.mem_singleton.1 ht]; omega, h1⟩ q H
theorem run1061 (s : List R2) (ws : WfS s) : cwp r8 5 [] [(AV.list 2 (List.map (fun x => [AV.int .i64 x.1, AV.int .i64 x.2]) (s)))] [] (fun r H => r = .bool true ∧ H = []) := by
  refine run_fn (fn := fn1061) rfl rfl ?_
  have ls := ws.len
  by_cases hl : s.length ≤ 60
  · have hl' : ¬ (s.length : Int) > 60 := by omega
    have hl3 : s.length ≤ 1000 := by omega
    cases gs : goodS s with
    | false =>
      simp only [fn1061_body, c1061, D0, ains, appG, clsOf, abin, aint, aun, dnext, rowsOf, loadObj, cellsOf, ofCells, bnd, hmerge, Nat.reduceBEq, Nat.reduceAdd, reduceIte, Nat.reduceEqDiff, Nat.reduceLeDiff, Int.reduceEq, reduceCtorEq, Int.reduceBEq, Int.reduceBNe, Int.reduceLT, Int.reduceNeg, @use_all r8 9 k57.ora rfl, e57, ls, gs, hl', decide_false, @use_all r8 7 kW.ora rfl, eW]
      simp only [F1, bodyRes, one, ains, appG, clsOf, abin, aint, aun, dnext, rowsOf, loadObj, cellsOf, ofCells, bnd, hmerge, Nat.reduceBEq, Nat.reduceAdd, reduceIte, Nat.reduceEqDiff, Nat.reduceLeDiff, Int.reduceEq, reduceCtorEq, Int.reduceBEq, Int.reduceBNe, Int.reduceLT, Int.reduceNeg, fn1061_res, fn1061_keep]
    | true =>
      obtain ⟨oA, oB⟩ := one_set gs
      have hgn := good_of (notS_good gs).1
      have hnl := not_len s
      by_cases ha : ∀ v, isS v = true → inS v s = inS 0 s
      · obtain ⟨pb, pv⟩ := oA ha
        have hor : s = [] ∨ notS s = [] := by
          by_cases h1 : s = []
          · exact .inl h1
          · right
            obtain ⟨v, hv, hin, _⟩ := first_in gs h1
            have h0 : inS 0 s = true := by rw [← ha v hv]; exact hin
            by_cases h2 : notS s = []
            · exact h2
            · obtain ⟨w, hw, hwn, _⟩ := first_in hgn h2
              rw [in_not gs hw, ha w hw, h0] at hwn
              cases hwn
        have hc : (((s.length : Int) == 0) = true) ∨ (((s.length : Int) == 0) = false ∧ (((notS s).length : Int) == 0) = true) := by
          rcases hor with e | e
          · left; rw [e]; rfl
          · by_cases h1 : s.length = 0
            · left; simp [h1]
            · right; refine ⟨by simp only [beq_eq_false_iff_ne]; omega, by rw [e]; rfl⟩
        have hk := e1014a (partsV [s]) (by rw [pv]; simp) (by rw [pv]; intro t ht; rw [List.mem_singleton.1 ht]; simp [allS])
        have hd : decide (partsV [s] = [allS]) = true := by rw [pv]; simp
        rw [hd] at hk
        rcases hc with hc | ⟨hc, hc2⟩
        · simp only [fn1061_body, c1061, c1061_2, D0, ains, appG, clsOf, abin, aint, aun, dnext, rowsOf, loadObj, cellsOf, ofCells, bnd, hmerge, Nat.reduceBEq, Nat.reduceAdd, reduceIte, Nat.reduceEqDiff, Nat.reduceLeDiff, Int.reduceEq, reduceCtorEq, Int.reduceBEq, Int.reduceBNe, Int.reduceLT, Int.reduceNeg, @use_all r8 9 k57.ora rfl, e57, @use_all r8 17 k55.ora rfl, e55, @use_all r8 8 k1006.ora rfl, e1006s s hl, ls, hl3, gs, pb, hl', hc, hk, @use_all r8 18 k1014.ora rfl, decide_false, @use_all r8 7 kW.ora rfl, eW, fz, fzd, fzd.fzcells]
          simp only [F1, bodyRes, one, ains, appG, clsOf, abin, aint, aun, dnext, rowsOf, loadObj, cellsOf, ofCells, bnd, hmerge, Nat.reduceBEq, Nat.reduceAdd, reduceIte, Nat.reduceEqDiff, Nat.reduceLeDiff, Int.reduceEq, reduceCtorEq, Int.reduceBEq, Int.reduceBNe, Int.reduceLT, Int.reduceNeg, fn1061_res, fn1061_keep]
        · simp only [fn1061_body, c1061, c1061_2, D0, ains, appG, clsOf, abin, aint, aun, dnext, rowsOf, loadObj, cellsOf, ofCells, bnd, hmerge, Nat.reduceBEq, Nat.reduceAdd, reduceIte, Nat.reduceEqDiff, Nat.reduceLeDiff, Int.reduceEq, reduceCtorEq, Int.reduceBEq, Int.reduceBNe, Int.reduceLT, Int.reduceNeg, @use_all r8 9 k57.ora rfl, e57, @use_all r8 17 k55.ora rfl, e55, @use_all r8 8 k1006.ora rfl, e1006s s hl, ls, hl3, gs, pb, hl', hc, hc2, hk, @use_all r8 18 k1014.ora rfl, decide_false, @use_all r8 7 kW.ora rfl, eW, fz, fzd, fzd.fzcells]
          simp only [F1, bodyRes, one, ains, appG, clsOf, abin, aint, aun, dnext, rowsOf, loadObj, cellsOf, ofCells, bnd, hmerge, Nat.reduceBEq, Nat.reduceAdd, reduceIte, Nat.reduceEqDiff, Nat.reduceLeDiff, Int.reduceEq, reduceCtorEq, Int.reduceBEq, Int.reduceBNe, Int.reduceLT, Int.reduceNeg, fn1061_res, fn1061_keep]
      · have hex : ∃ v, isS v = true ∧ inS v s = !inS 0 s := by
          refine Classical.byContradiction fun hn => ha fun v hv => ?_
          refine Classical.byContradiction fun hne => hn ⟨v, hv, ?_⟩
          revert hne
          cases inS v s <;> cases inS 0 s <;> simp
        obtain ⟨pb, pv⟩ := oB hex
        obtain ⟨v, hv, hne⟩ := hex
        have hnin : inS v (notS s) = inS 0 s := by rw [in_not gs hv, hne, Bool.not_not]
        have h0n := in_not gs is0
        -- both have something
        have ne1 : 0 < s.length := by
          rcases Nat.eq_zero_or_pos s.length with e | e
          · have := List.eq_nil_of_length_eq_zero e
            subst this
            cases hne
          · exact e
        have ne2 : 0 < (notS s).length := by
          rcases Nat.eq_zero_or_pos (notS s).length with e | e
          · have := List.eq_nil_of_length_eq_zero e
            rw [this] at hnin h0n
            have e1 : inS v ([] : List R2) = false := rfl
            have e2 : inS 0 ([] : List R2) = false := rfl
            rw [e1] at hnin
            rw [e2, ← hnin] at h0n
            cases h0n
          · exact e
        obtain ⟨a0, a1⟩ := lo_zero gs ne1
        obtain ⟨b0, b1⟩ := lo_zero hgn ne2
        rw [h0n] at b1
        have hc1 : ((s.length : Int) == 0) = false := by simp only [beq_eq_false_iff_ne]; omega
        have hc2 : (((notS s).length : Int) == 0) = false := by simp only [beq_eq_false_iff_ne]; omega
        have hg1 := map_get (f := fun x : Int × Int => [AV.int .i64 x.1, AV.int .i64 x.2]) ne1 (0, 0)
        have hg2 := map_get (f := fun x : Int × Int => [AV.int .i64 x.1, AV.int .i64 x.2]) ne2 (0, 0)
        have hself := both_self gs
        have hnot := both_not gs
        have hnn : notS s ≠ [] := fun e => by rw [e] at ne2; simp at ne2
        have hnn' : ¬ [] = notS s := fun e => hnn e.symm
        have hno63 : (notS s).length ≤ 9223372036854775807 := by omega
        have hz0 : (0 : Int) ≤ 0 := Int.le_refl 0
        have h11 : (((1 : Nat) : Int) == 1) = true := rfl
        cases h00 : inS 0 s with
        | true =>
          rw [h00] at pv a1 b1
          simp only [if_true, if_false, Bool.false_eq_true] at pv
          have hlt : ¬ ((notS s).getD 0 (0, 0)).1 < (s.getD 0 (0, 0)).1 := by have := a1.2 rfl; omega
          have hk := e1014b (partsV [s]) s (notS s) (by rw [pv]; simp) (by rw [pv]; intro t ht; simp at ht; rcases ht with rfl | rfl <;> omega)
          have hd : decide (partsV [s] = [s, notS s]) = true := by rw [pv]; simp
          rw [hd] at hk
          have hw := e1012s s (partsV [s]) hl (by rw [pv]; simp) (by rw [pv]; intro t ht; simp at ht; rcases ht with rfl | rfl <;> omega)
          have hwo : wOne s [s, notS s] 2 = [0] := by simp [wOne, List.range_succ, hself, hnot, hnn']
          have hwk : wOk s [s, notS s] 2 = true := by simp [wOk, List.range_succ, hself, hnot]
          have hwB : withinB [s] (partsV [s]) = true := by rw [pv]; simp [withinB, gs, hgn, hwk]
          have hwV : withinV [s] (partsV [s]) = [[0]] := by unfold withinV; rw [hwB, pv]; simp [hwo]
          rw [hwB, hwV] at hw
          simp only [List.map_cons, List.map_nil] at hw
          generalize (notS s).getD 0 (0, 0) = y at hg2 hlt
          generalize s.getD 0 (0, 0) = x at hg1 hlt
          simp only [fn1061_body, c1061, c1061_2, c1061_1, D0, ains, appG, clsOf, abin, aint, aun, dnext, rowsOf, loadObj, cellsOf, ofCells, bnd, hmerge, Nat.reduceBEq, Nat.reduceAdd, reduceIte, Nat.reduceEqDiff, Nat.reduceLeDiff, Int.reduceEq, reduceCtorEq, Int.reduceBEq, Int.reduceBNe, Int.reduceLT, Int.reduceNeg, @use_all r8 9 k57.ora rfl, e57, @use_all r8 17 k55.ora rfl, e55, @use_all r8 8 k1006.ora rfl, e1006s s hl, ls, hl3, gs, pb, hl', hc1, hc2, hg1, hg2, hlt, hz0, h11, hk, hw, @use_all r8 18 k1014.ora rfl, @use_all r8 11 k1012.ora rfl, lrc_x, apx, apart, apart1, needs, Int.toNat_zero, decide_false, decide_true, @use_all r8 7 kW.ora rfl, eW, fz, fzd, fzd.fzcells]
          simp only [F1, bodyRes, one, ains, appG, clsOf, abin, aint, aun, dnext, rowsOf, loadObj, cellsOf, ofCells, bnd, hmerge, Nat.reduceBEq, Nat.reduceAdd, reduceIte, Nat.reduceEqDiff, Nat.reduceLeDiff, Int.reduceEq, reduceCtorEq, Int.reduceBEq, Int.reduceBNe, Int.reduceLT, Int.reduceNeg, fn1061_res, fn1061_keep]
        | false =>
          rw [h00] at pv a1 b1
          simp only [if_true, if_false, Bool.false_eq_true] at pv
          have hlt : ((notS s).getD 0 (0, 0)).1 < (s.getD 0 (0, 0)).1 := by have h1 := b1.2 rfl; have h2 : ¬ (s.getD 0 (0, 0)).1 = 0 := fun e => (by have := a1.1 e; cases this); omega
          have hk := e1014b (partsV [s]) (notS s) s (by rw [pv]; simp) (by rw [pv]; intro t ht; simp at ht; rcases ht with rfl | rfl <;> omega)
          have hd : decide (partsV [s] = [notS s, s]) = true := by rw [pv]; simp
          rw [hd] at hk
          have hw := e1012s s (partsV [s]) hl (by rw [pv]; simp) (by rw [pv]; intro t ht; simp at ht; rcases ht with rfl | rfl <;> omega)
          have hwo : wOne s [notS s, s] 2 = [1] := by simp [wOne, List.range_succ, hself, hnot, hnn']
          have hwk : wOk s [notS s, s] 2 = true := by simp [wOk, List.range_succ, hself, hnot]
          have hwB : withinB [s] (partsV [s]) = true := by rw [pv]; simp [withinB, gs, hgn, hwk]
          have hwV : withinV [s] (partsV [s]) = [[1]] := by unfold withinV; rw [hwB, pv]; simp [hwo]
          rw [hwB, hwV] at hw
          simp only [List.map_cons, List.map_nil] at hw
          generalize (notS s).getD 0 (0, 0) = y at hg2 hlt
          generalize s.getD 0 (0, 0) = x at hg1 hlt
          simp only [fn1061_body, c1061, c1061_2, c1061_1, D0, ains, appG, clsOf, abin, aint, aun, dnext, rowsOf, loadObj, cellsOf, ofCells, bnd, hmerge, Nat.reduceBEq, Nat.reduceAdd, reduceIte, Nat.reduceEqDiff, Nat.reduceLeDiff, Int.reduceEq, reduceCtorEq, Int.reduceBEq, Int.reduceBNe, Int.reduceLT, Int.reduceNeg, @use_all r8 9 k57.ora rfl, e57, @use_all r8 17 k55.ora rfl, e55, @use_all r8 8 k1006.ora rfl, e1006s s hl, ls, hl3, gs, pb, hl', hc1, hc2, hg1, hg2, hlt, hz0, h11, hk, hw, @use_all r8 18 k1014.ora rfl, @use_all r8 11 k1012.ora rfl, lrc_x, apx, apart, apart1, needs, Int.toNat_zero, decide_false, decide_true, @use_all r8 7 kW.ora rfl, eW, fz, fzd, fzd.fzcells]
          simp only [F1, bodyRes, one, ains, appG, clsOf, abin, aint, aun, dnext, rowsOf, loadObj, cellsOf, ofCells, bnd, hmerge, Nat.reduceBEq, Nat.reduceAdd, reduceIte, Nat.reduceEqDiff, Nat.reduceLeDiff, Int.reduceEq, reduceCtorEq, Int.reduceBEq, Int.reduceBNe, Int.reduceLT, Int.reduceNeg, fn1061_res, fn1061_keep]
  · have hl' : (s.length : Int) > 60 := by omega
    simp only [fn1061_body, c1061, D0, ains, appG, clsOf, abin, aint, aun, dnext, rowsOf, loadObj, cellsOf, ofCells, bnd, hmerge, Nat.reduceBEq, Nat.reduceAdd, reduceIte, Nat.reduceEqDiff, Nat.reduceLeDiff, Int.reduceEq, reduceCtorEq, Int.reduceBEq, Int.reduceBNe, Int.reduceLT, Int.reduceNeg, hl', decide_true, @use_all r8 7 kW.ora rfl, eW]
    simp only [F1, bodyRes, one, ains, appG, clsOf, abin, aint, aun, dnext, rowsOf, loadObj, cellsOf, ofCells, bnd, hmerge, Nat.reduceBEq, Nat.reduceAdd, reduceIte, Nat.reduceEqDiff, Nat.reduceLeDiff, Int.reduceEq, reduceCtorEq, Int.reduceBEq, Int.reduceBNe, Int.reduceLT, Int.reduceNeg, fn1061_res, fn1061_keep]
end Go.Proofs.Abs
