/- A part of a proof: the text that states the row tells what is proved. No condition is laid on anything. -/
import Derived.Test.YtgcncpedpjjjeaaAbsF2
set_option linter.all false
set_option linter.constructorNameAsVariable false
set_option linter.defProp false
set_option linter.unusedVariables false
set_option linter.unusedSimpArgs false
set_option maxRecDepth 100000
set_option maxHeartbeats 4000000
namespace Go.Proofs.Abs
open Go
/-! 23: tree.Parts. -/
def lastN (t : List Nd) : Nd := t.getD (t.length - 1) default
def partOK (t : List Nd) : Bool := goodT t && (isFork (lastN t) || decide ((lastN t).kind = 5))
def partA (t : List Nd) : List Nd := if partOK t then mov (t.take ((lastN t).a.toNat + 1)) 0 else []
def partB (t : List Nd) : List Nd := if goodT t && isFork (lastN t) then mov ((t.take ((lastN t).b.toNat + 1)).drop ((lastN t).a.toNat + 1)) (-(((lastN t).a.toNat + 1 : Nat) : Int)) else []
theorem sm_sub {t s : List Nd} (ht : SmT t) (hs : ∀ n ∈ s, n ∈ t) (hl : s.length ≤ t.length) : SmT s := ⟨by have := ht.len; omega, fun n hn => ht.all n (hs n hn)⟩
theorem good_last {t : List Nd} (h : goodT t = true) : ∃ l, begs t = some l ∧ 1 ≤ t.length ∧ t.length ≤ 40000 ∧ l.getD (t.length - 1) 0 = 0 ∧ Cut l (t.length - 1) (lastN t) := by
  obtain ⟨h1, h2, l, hl, h3⟩ := goodT_iff.1 h
  refine ⟨l, hl, h1, h2, h3, ?_⟩
  have := (begs_cut hl (t.length - 1) (by omega)).2
  unfold lastN
  rw [List.getD_eq_getElem?_getD, List.getElem?_eq_getElem (by omega)]
  exact this
theorem run23 (t : List Nd) (ht : SmS t) : cwp v3 23 [] [(AV.list 5 (List.map eNd t))] [] (fun r H => r = .tuple [.list 5 (List.map eNd (partA t)), .list 5 (List.map eNd (partB t)), .bool (partOK t)] ∧ H = []) := by
  refine run_fn (fn := fn23) rfl rfl ?_
  have hw := ht.wf
  by_cases g : goodT t = true
  · obtain ⟨l, hl, h1, h2, h3, hc⟩ := good_last g
    have hsm := good_sm ht g
    have hle := fun i hi => (begs_cut hl i hi).1
    have hm := wrapm (j := t.length) (by omega) (by omega)
    have hg := map_get (f := eNd) (l := t) (j := t.length - 1) (by omega) default
    have hA : partA t = if partOK t then mov (t.take ((lastN t).a.toNat + 1)) 0 else [] := rfl
    have hB : partB t = if goodT t && isFork (lastN t) then mov ((t.take ((lastN t).b.toNat + 1)).drop ((lastN t).a.toNat + 1)) (-(((lastN t).a.toNat + 1 : Nat) : Int)) else [] := rfl
    have hO : partOK t = (goodT t && (isFork (lastN t) || decide ((lastN t).kind = 5))) := rfl
    rw [g] at hB hO
    have hgl : t.getD (t.length - 1) default = lastN t := rfl
    rw [hgl] at hg
    generalize lastN t = n at hc hg hA hB hO
    obtain ⟨k, a, b, c, z⟩ := n
    have mt : ∀ x y, ((List.map eNd t).take x).drop y = List.map eNd ((t.take x).drop y) := fun x y => by simp
    have md0 : ∀ (l : List Nd) x, (List.map eNd l).drop x = List.map eNd (l.drop x) := fun l x => by simp
    have mt0 : ∀ x, (List.map eNd t).take x = List.map eNd (t.take x) := fun x => by simp
    cases hc with
    | fork hk c2 hb0 c1 ha hn hg0 =>
      simp only at ha hb0
      have := hle (t.length - 1 - 1) (by omega)
      obtain ⟨a', rfl⟩ : ∃ a' : Nat, a = (a' : Int) := ⟨l.getD (t.length - 1 - 1) 0 - 1, by omega⟩
      obtain ⟨b', rfl⟩ : ∃ b' : Nat, b = (b' : Int) := ⟨t.length - 1 - 1, by omega⟩
      have wa := wrapp (j := a') (by omega)
      have wb := wrapp (j := b') (by omega)
      have wn : IntKind.i64.wrap (0 - (a' : Int)) = -(a' : Int) := by rw [wrap64 (by omega) (by omega)]; omega
      have wn2 : IntKind.i64.wrap (-(a' : Int) - 1) = -((a' + 1 : Nat) : Int) := by rw [wrap64 (by omega) (by omega)]; omega
      have s1 : 0 ≤ a' + 1 ∧ a' + 1 ≤ t.length ∧ t.length ≤ t.length := ⟨by omega, by omega, by omega⟩
      have s2 : a' + 1 ≤ b' + 1 ∧ b' + 1 ≤ t.length ∧ t.length ≤ t.length := ⟨by omega, by omega, by omega⟩
      have d1 : SmT (t.take (a' + 1)) ∧ -200000 ≤ (0 : Int) ∧ (0 : Int) ≤ 200000 := ⟨sm_sub hsm (fun n hn => List.mem_of_mem_take hn) (by simp; omega), by omega, by omega⟩
      have d2 : SmT ((t.take (b' + 1)).drop (a' + 1)) ∧ -200000 ≤ -((a' + 1 : Nat) : Int) ∧ -((a' + 1 : Nat) : Int) ≤ 200000 := ⟨sm_sub hsm (fun n hn => List.mem_of_mem_take (List.mem_of_mem_drop hn)) (by simp; omega), by omega, by omega⟩
      have hk' : k = 3 ∨ k = 4 := by simpa [isFork] using hk
      simp only [hk, Bool.true_or, Bool.and_self, if_true, Int.toNat_natCast] at hA hB hO
      rw [hO] at hA
      simp only [if_true] at hA
      clear hg0 hn hk
      rcases hk' with rfl | rfl <;> simp only [fn23_body, c23, D0, ains, clsOf, abin, aint, aun, dnext, rowsOf, loadObj, cellsOf, ofCells, bnd, hmerge, Nat.reduceBEq, Nat.reduceAdd, reduceIte, Nat.reduceEqDiff, Nat.reduceLeDiff, Int.reduceEq, reduceCtorEq, Int.reduceBEq, Int.reduceBNe, Int.reduceLT, Int.reduceNeg, @use_all v3 29 k29.ora rfl, e29, @use_all v3 100068 k100068.ora rfl, e100068, hw, g, hm, hg, eNd, eSet, wa, wb, wn, wn2, s1, s2, mt, mt0, md0, d1, d2, Int.natCast_nonneg, Int.toNat_natCast, decide_true]
      all_goals simp only [F1, bodyRes, one, ains, clsOf, abin, aint, aun, dnext, rowsOf, loadObj, cellsOf, ofCells, bnd, hmerge, Nat.reduceBEq, Nat.reduceAdd, reduceIte, Nat.reduceEqDiff, Nat.reduceLeDiff, Int.reduceEq, reduceCtorEq, Int.reduceBEq, Int.reduceBNe, Int.reduceLT, Int.reduceNeg, fn23_res, fn23_keep, fz, fzd, fzd.fzcells, hA, hB, hO]
    | star hf hk c1 ha hb0 hn hg0 =>
      simp only at ha hb0 hk
      obtain ⟨a', rfl⟩ : ∃ a' : Nat, a = (a' : Int) := ⟨t.length - 1 - 1, by omega⟩
      have wa := wrapp (j := a') (by omega)
      have s1 : 0 ≤ a' + 1 ∧ a' + 1 ≤ t.length ∧ t.length ≤ t.length := ⟨by omega, by omega, by omega⟩
      have d1 : SmT (t.take (a' + 1)) ∧ -200000 ≤ (0 : Int) ∧ (0 : Int) ≤ 200000 := ⟨sm_sub hsm (fun n hn => List.mem_of_mem_take hn) (by simp; omega), by omega, by omega⟩
      subst hk
      simp only [hf, Bool.false_or, Bool.and_false, Bool.and_self, Bool.false_eq_true, if_false, if_true, Int.toNat_natCast, decide_true] at hA hB hO
      rw [hO] at hA
      simp only [if_true] at hA
      clear hg0 hn hf
      simp only [fn23_body, c23, D0, ains, clsOf, abin, aint, aun, dnext, rowsOf, loadObj, cellsOf, ofCells, bnd, hmerge, Nat.reduceBEq, Nat.reduceAdd, reduceIte, Nat.reduceEqDiff, Nat.reduceLeDiff, Int.reduceEq, reduceCtorEq, Int.reduceBEq, Int.reduceBNe, Int.reduceLT, Int.reduceNeg, @use_all v3 29 k29.ora rfl, e29, @use_all v3 100068 k100068.ora rfl, e100068, hw, g, hm, hg, eNd, eSet, wa, s1, mt0, d1, Int.natCast_nonneg, Int.toNat_natCast, decide_true]
      all_goals simp only [F1, bodyRes, one, ains, clsOf, abin, aint, aun, dnext, rowsOf, loadObj, cellsOf, ofCells, bnd, hmerge, Nat.reduceBEq, Nat.reduceAdd, reduceIte, Nat.reduceEqDiff, Nat.reduceLeDiff, Int.reduceEq, reduceCtorEq, Int.reduceBEq, Int.reduceBNe, Int.reduceLT, Int.reduceNeg, fn23_res, fn23_keep, fz, fzd, fzd.fzcells, hA, hB, hO]
    | leaf hf hk hn hg0 =>
      simp only at hk
      have hk3 : (k == 3) = false := by simp [isFork] at hf; simp [hf]
      have hk4 : (k == 4) = false := by simp [isFork] at hf; simp [hf]
      have hk5 : (k == 5) = false := by simpa using hk
      simp only [hf, Bool.false_or, Bool.and_false, Bool.false_eq_true, if_false, hk, decide_false] at hA hB hO
      rw [hO] at hA
      simp only [Bool.false_eq_true, if_false] at hA
      clear hg0 hn hf
      simp only [fn23_body, c23, D0, ains, clsOf, abin, aint, aun, dnext, rowsOf, loadObj, cellsOf, ofCells, bnd, hmerge, Nat.reduceBEq, Nat.reduceAdd, reduceIte, Nat.reduceEqDiff, Nat.reduceLeDiff, Int.reduceEq, reduceCtorEq, Int.reduceBEq, Int.reduceBNe, Int.reduceLT, Int.reduceNeg, @use_all v3 29 k29.ora rfl, e29, @use_all v3 100068 k100068.ora rfl, e100068, hw, g, hm, hg, eNd, eSet, hk3, hk4, hk5, Int.natCast_nonneg, Int.toNat_natCast, decide_true]
      all_goals simp only [F1, bodyRes, one, ains, clsOf, abin, aint, aun, dnext, rowsOf, loadObj, cellsOf, ofCells, bnd, hmerge, Nat.reduceBEq, Nat.reduceAdd, reduceIte, Nat.reduceEqDiff, Nat.reduceLeDiff, Int.reduceEq, reduceCtorEq, Int.reduceBEq, Int.reduceBNe, Int.reduceLT, Int.reduceNeg, fn23_res, fn23_keep, fz, fzd, fzd.fzcells, hA, hB, hO]
  · have g' : goodT t = false := by simpa using g
    have hO : partOK t = false := by simp [partOK, g']
    have hA : partA t = [] := by simp [partA, hO]
    have hB : partB t = [] := by simp [partB, g']
    simp only [fn23_body, c23, D0, ains, clsOf, abin, aint, aun, dnext, rowsOf, loadObj, cellsOf, ofCells, bnd, hmerge, Nat.reduceBEq, Nat.reduceAdd, reduceIte, Nat.reduceEqDiff, Nat.reduceLeDiff, Int.reduceEq, reduceCtorEq, Int.reduceBEq, Int.reduceBNe, Int.reduceLT, Int.reduceNeg, @use_all v3 29 k29.ora rfl, e29, @use_all v3 100068 k100068.ora rfl, e100068, hw, g']
    simp only [F1, bodyRes, one, ains, clsOf, abin, aint, aun, dnext, rowsOf, loadObj, cellsOf, ofCells, bnd, hmerge, Nat.reduceBEq, Nat.reduceAdd, reduceIte, Nat.reduceEqDiff, Nat.reduceLeDiff, Int.reduceEq, reduceCtorEq, Int.reduceBEq, Int.reduceBNe, Int.reduceLT, Int.reduceNeg, fn23_res, fn23_keep, fz, fzd, fzd.fzcells, hA, hB, hO]
/-! 62: sets.Same. -/
theorem ext_getD {α : Type} {a b : List α} (z : α) (hl : a.length = b.length) (h : ∀ i, i < a.length → a.getD i z = b.getD i z) : a = b := by
  refine List.ext_getElem hl fun i h1 h2 => ?_
  have := h i h1
  rw [List.getD_eq_getElem?_getD, List.getD_eq_getElem?_getD, List.getElem?_eq_getElem h1, List.getElem?_eq_getElem h2] at this
  exact this
theorem run62 (a b : List (Int × Int)) (ha : a.length ≤ 9223372036854775807) : cwp v3 62 [] [(AV.list 2 (List.map (fun x => [AV.int .i64 x.1, AV.int .i64 x.2]) (a))), (AV.list 2 (List.map (fun x => [AV.int .i64 x.1, AV.int .i64 x.2]) (b)))] [] (fun r H => r = .bool (decide (a = b)) ∧ H = []) := by
  refine run_fn (fn := fn62) rfl rfl ?_
  by_cases hl : a.length = b.length
  · have hl' : ((a.length : Int) != (b.length : Int)) = false := by simp [hl]
    simp only [fn62_body, c62, D0, ains, clsOf, abin, aint, aun, dnext, rowsOf, loadObj, cellsOf, ofCells, bnd, hmerge, Nat.reduceBEq, Nat.reduceAdd, reduceIte, Nat.reduceEqDiff, Nat.reduceLeDiff, Int.reduceEq, reduceCtorEq, Int.reduceBEq, Int.reduceBNe, Int.reduceLT, Int.reduceNeg, hl']
    refine lg_rule (fun j e H => e = [(0, (AV.list 2 (List.map (fun x => [AV.int .i64 x.1, AV.int .i64 x.2]) (a)))), (1, (AV.list 2 (List.map (fun x => [AV.int .i64 x.1, AV.int .i64 x.2]) (b)))), (4, .bool false), (12, (AV.list 2 (List.map (fun x => [AV.int .i64 x.1, AV.int .i64 x.2]) (a)))), (13, .int .i64 a.length), (14, .int .i64 j)] ∧ H = [[]] ∧ j ≤ a.length ∧ ∀ i, i < j → a.getD i (0, 0) = b.getD i (0, 0)) a.length ?_ ?_
    · exact ⟨rfl, rfl, by simp, by simp⟩
    rintro j e H ⟨rfl, rfl, hj, hi⟩
    simp only [D0, ains, clsOf, abin, aint, aun, dnext, rowsOf, loadObj, cellsOf, ofCells, bnd, hmerge, Nat.reduceBEq, Nat.reduceAdd, reduceIte, Nat.reduceEqDiff, Nat.reduceLeDiff, Int.reduceEq, reduceCtorEq, Int.reduceBEq, Int.reduceBNe, Int.reduceLT, Int.reduceNeg]
    by_cases h : j < a.length
    · have h' : (j : Int) < (a.length : Int) := by omega
      have hp := wrapp (j := j) (by omega)
      have hga := map_get (f := fun x : Int × Int => [AV.int .i64 x.1, AV.int .i64 x.2]) h (0, 0)
      have hgb := map_get (f := fun x : Int × Int => [AV.int .i64 x.1, AV.int .i64 x.2]) (l := b) (j := j) (by omega) (0, 0)
      have ne : a.getD j (0, 0) ≠ b.getD j (0, 0) → decide (a = b) = false := fun h1 => by
        rw [decide_eq_false_iff_not]
        intro e
        exact h1 (by rw [e])
      have step : a.getD j (0, 0) = b.getD j (0, 0) → ∀ i, i < j + 1 → a.getD i (0, 0) = b.getD i (0, 0) := fun h1 i h2 => by
        by_cases e : i = j
        · rw [e]; exact h1
        · exact hi i (by omega)
      generalize a.getD j (0, 0) = x at hga ne step
      generalize b.getD j (0, 0) = y at hgb ne step
      obtain ⟨x1, x2⟩ := x
      obtain ⟨y1, y2⟩ := y
      by_cases h1 : x1 = y1
      · by_cases h2 : x2 = y2
        · have st := step (by rw [h1, h2])
          clear ne step hi
          simp only [D0, ains, clsOf, abin, aint, aun, dnext, rowsOf, loadObj, cellsOf, ofCells, bnd, hmerge, Nat.reduceBEq, Nat.reduceAdd, reduceIte, Nat.reduceEqDiff, Nat.reduceLeDiff, Int.reduceEq, reduceCtorEq, Int.reduceBEq, Int.reduceBNe, Int.reduceLT, Int.reduceNeg, h', hga, hgb, abins, acells, h1, h2, hp, decide_true, Int.natCast_nonneg, Int.toNat_natCast]
          simp only [F1, bodyRes, one, ains, clsOf, abin, aint, aun, dnext, rowsOf, loadObj, cellsOf, ofCells, bnd, hmerge, Nat.reduceBEq, Nat.reduceAdd, reduceIte, Nat.reduceEqDiff, Nat.reduceLeDiff, Int.reduceEq, reduceCtorEq, Int.reduceBEq, Int.reduceBNe, Int.reduceLT, Int.reduceNeg]
          exact ⟨h, h, st⟩
        · have ne' := ne (by simp [h2])
          have h2' : (x2 == y2) = false := by simpa using h2
          clear ne step hi
          simp only [D0, ains, clsOf, abin, aint, aun, dnext, rowsOf, loadObj, cellsOf, ofCells, bnd, hmerge, Nat.reduceBEq, Nat.reduceAdd, reduceIte, Nat.reduceEqDiff, Nat.reduceLeDiff, Int.reduceEq, reduceCtorEq, Int.reduceBEq, Int.reduceBNe, Int.reduceLT, Int.reduceNeg, h', hga, hgb, abins, acells, h1, h2', decide_true, Int.natCast_nonneg, Int.toNat_natCast]
          simp only [F1, bodyRes, one, ains, clsOf, abin, aint, aun, dnext, rowsOf, loadObj, cellsOf, ofCells, bnd, hmerge, Nat.reduceBEq, Nat.reduceAdd, reduceIte, Nat.reduceEqDiff, Nat.reduceLeDiff, Int.reduceEq, reduceCtorEq, Int.reduceBEq, Int.reduceBNe, Int.reduceLT, Int.reduceNeg, fn62_res, fn62_keep, ne']
      · have ne' := ne (by simp [h1])
        have h1' : (x1 == y1) = false := by simpa using h1
        clear ne step hi
        simp only [D0, ains, clsOf, abin, aint, aun, dnext, rowsOf, loadObj, cellsOf, ofCells, bnd, hmerge, Nat.reduceBEq, Nat.reduceAdd, reduceIte, Nat.reduceEqDiff, Nat.reduceLeDiff, Int.reduceEq, reduceCtorEq, Int.reduceBEq, Int.reduceBNe, Int.reduceLT, Int.reduceNeg, h', hga, hgb, abins, acells, h1', decide_true, Int.natCast_nonneg, Int.toNat_natCast]
        simp only [F1, bodyRes, one, ains, clsOf, abin, aint, aun, dnext, rowsOf, loadObj, cellsOf, ofCells, bnd, hmerge, Nat.reduceBEq, Nat.reduceAdd, reduceIte, Nat.reduceEqDiff, Nat.reduceLeDiff, Int.reduceEq, reduceCtorEq, Int.reduceBEq, Int.reduceBNe, Int.reduceLT, Int.reduceNeg, fn62_res, fn62_keep, ne']
    · have h' : ¬ (j : Int) < (a.length : Int) := by omega
      have he : decide (a = b) = true := decide_eq_true (ext_getD (0, 0) hl fun i h1 => hi i (by omega))
      simp only [D0, ains, clsOf, abin, aint, aun, dnext, rowsOf, loadObj, cellsOf, ofCells, bnd, hmerge, Nat.reduceBEq, Nat.reduceAdd, reduceIte, Nat.reduceEqDiff, Nat.reduceLeDiff, Int.reduceEq, reduceCtorEq, Int.reduceBEq, Int.reduceBNe, Int.reduceLT, Int.reduceNeg, h', decide_false]
      refine .inr ⟨by simp, ?_⟩
      simp only [F1, bodyRes, one, ains, clsOf, abin, aint, aun, dnext, rowsOf, loadObj, cellsOf, ofCells, bnd, hmerge, Nat.reduceBEq, Nat.reduceAdd, reduceIte, Nat.reduceEqDiff, Nat.reduceLeDiff, Int.reduceEq, reduceCtorEq, Int.reduceBEq, Int.reduceBNe, Int.reduceLT, Int.reduceNeg, fn62_res, fn62_keep, he]
  · have hl' : ((a.length : Int) != (b.length : Int)) = true := by
      simp only [bne_iff_ne, ne_eq]
      omega
    have he : decide (a = b) = false := by
      rw [decide_eq_false_iff_not]
      intro e
      exact hl (by rw [e])
    simp only [fn62_body, c62, D0, ains, clsOf, abin, aint, aun, dnext, rowsOf, loadObj, cellsOf, ofCells, bnd, hmerge, Nat.reduceBEq, Nat.reduceAdd, reduceIte, Nat.reduceEqDiff, Nat.reduceLeDiff, Int.reduceEq, reduceCtorEq, Int.reduceBEq, Int.reduceBNe, Int.reduceLT, Int.reduceNeg, hl']
    simp only [F1, bodyRes, one, ains, clsOf, abin, aint, aun, dnext, rowsOf, loadObj, cellsOf, ofCells, bnd, hmerge, Nat.reduceBEq, Nat.reduceAdd, reduceIte, Nat.reduceEqDiff, Nat.reduceLeDiff, Int.reduceEq, reduceCtorEq, Int.reduceBEq, Int.reduceBNe, Int.reduceLT, Int.reduceNeg, fn62_res, fn62_keep, he]
theorem set2Inj : ∀ x y : List (Int × Int) × List (Int × Int), [(AV.list 2 (List.map (fun x => [AV.int .i64 x.1, AV.int .i64 x.2]) (x.1))), (AV.list 2 (List.map (fun x => [AV.int .i64 x.1, AV.int .i64 x.2]) (x.2)))] = [(AV.list 2 (List.map (fun x => [AV.int .i64 x.1, AV.int .i64 x.2]) (y.1))), (AV.list 2 (List.map (fun x => [AV.int .i64 x.1, AV.int .i64 x.2]) (y.2)))] → x = y := by
  rintro ⟨a, m⟩ ⟨b, n⟩ h
  simp only [List.cons.injEq, and_true] at h
  rw [eSet_inj (a := a) (b := b) h.1, eSet_inj (a := m) (b := n) h.2]
def k23 : Kon (List Nd) := ⟨fun x => SmS x, fun x => [(AV.list 5 (List.map eNd x))], fun x => .tuple [.list 5 (List.map eNd (partA x)), .list 5 (List.map eNd (partB x)), .bool (partOK x)]⟩
theorem e23 (t : List Nd) (hd : SmS t) (q0 : Id) (H0 : Heap) : k23.ora q0 ([(AV.list 5 (List.map eNd t))]) H0 = some (.tuple [.list 5 (List.map eNd (partA t)), .list 5 (List.map eNd (partB t)), .bool (partOK t)], H0) := k23.eq (treeInj) (t) hd q0 H0
theorem ook23 : OraOK Try.prog (23 % 100000) k23.ora := k23.ok orders v3_ok (fun x hd => by simp [k23, PU]) (fun x hd => by simp [k23, PU]) (fun x hd => run23 x hd)

def k62 : Kon ((List (Int × Int)) × (List (Int × Int))) := ⟨fun x => x.1.length ≤ 9223372036854775807, fun x => [(AV.list 2 (List.map (fun x => [AV.int .i64 x.1, AV.int .i64 x.2]) (x.1))), (AV.list 2 (List.map (fun x => [AV.int .i64 x.1, AV.int .i64 x.2]) (x.2)))], fun x => .bool (decide (x.1 = x.2))⟩
theorem e62 (a : List (Int × Int)) (b : List (Int × Int)) (hd : a.length ≤ 9223372036854775807) (q0 : Id) (H0 : Heap) : k62.ora q0 ([(AV.list 2 (List.map (fun x => [AV.int .i64 x.1, AV.int .i64 x.2]) (a))), (AV.list 2 (List.map (fun x => [AV.int .i64 x.1, AV.int .i64 x.2]) (b)))]) H0 = some (.bool (decide (a = b)), H0) := k62.eq (set2Inj) (a, b) hd q0 H0
theorem ook62 : OraOK Try.prog (62 % 100000) k62.ora := k62.ok orders v3_ok (fun x hd => by simp [k62, PU]) (fun x hd => by simp [k62, PU]) (fun x hd => run62 x.1 x.2 hd)

noncomputable def v4 : FT := upd (upd (v3) 23 k23.ora) 62 k62.ora
theorem v4_ok : FTOK Try.prog v4 := upd_ok2 (f := 62) (upd_ok2 (f := 23) (v3_ok) ook23) ook62

/-! 75, 74, 33: tree.Same. -/
def sameN (n m : Nd) : Bool := decide (n.kind = m.kind) && decide (n.a = m.a) && decide (n.b = m.b) && decide (n.name = m.name) && decide (n.set = m.set)
theorem sameN_iff {n m : Nd} : sameN n m = true ↔ n = m := by
  cases n; cases m
  simp only [sameN, Bool.and_eq_true, decide_eq_true_eq, Nd.mk.injEq, and_assoc]
  constructor
  · rintro ⟨h1, h2, h3, h4, h5⟩; exact ⟨h1, h2, h3, h5, h4⟩
  · rintro ⟨h1, h2, h3, h5, h4⟩; exact ⟨h1, h2, h3, h4, h5⟩
def sameT (a b : List Nd) : Bool := decide (a.length = b.length) && (List.range a.length).all fun i => sameN (a.getD i default) (b.getD i default)
theorem sameT_iff {a b : List Nd} : sameT a b = true ↔ a = b := by
  simp only [sameT, Bool.and_eq_true, decide_eq_true_eq, List.all_eq_true, List.mem_range, sameN_iff]
  constructor
  · rintro ⟨h1, h2⟩; exact ext_getD default h1 h2
  · rintro rfl; exact ⟨rfl, fun _ _ => rfl⟩
theorem sameT_self (a : List Nd) : sameT a a = true := sameT_iff.2 rfl
theorem run75 (n m : Nd) (hs : n.set.length ≤ 9223372036854775807) : cwp v4 75 [] [.agg [AV.int .i64 (Nd.kind n), AV.int .i64 (Nd.a n), AV.int .i64 (Nd.b n), (AV.list 2 (List.map (fun x => [AV.int .i64 x.1, AV.int .i64 x.2]) (Nd.set n))), AV.str (Nd.name n)], .agg [AV.int .i64 (Nd.kind m), AV.int .i64 (Nd.a m), AV.int .i64 (Nd.b m), (AV.list 2 (List.map (fun x => [AV.int .i64 x.1, AV.int .i64 x.2]) (Nd.set m))), AV.str (Nd.name m)]] [] (fun r H => r = .bool (sameN n m) ∧ H = []) := by
  refine run_fn (fn := fn75) rfl rfl ?_
  simp only [fn75_body, c75, D0, ains, clsOf, abin, aint, aun, dnext, rowsOf, loadObj, cellsOf, ofCells, bnd, hmerge, Nat.reduceBEq, Nat.reduceAdd, reduceIte, Nat.reduceEqDiff, Nat.reduceLeDiff, Int.reduceEq, reduceCtorEq, Int.reduceBEq, Int.reduceBNe, Int.reduceLT, Int.reduceNeg, @use_all v4 62 k62.ora rfl, e62, hs]
  repeat' ((first | refine rw1_nsplit (fun h => ?_) (fun h => ?_) | refine rw1_split (fun h => ?_) (fun h => ?_) | refine dw1_nsplit (fun h => ?_) (fun h => ?_) | refine dw1_split (fun h => ?_) (fun h => ?_) | refine cg2_nsplit (fun h => ?_) (fun h => ?_) | refine cg2_split (fun h => ?_) (fun h => ?_)) <;> simp only [D0, ains, clsOf, abin, aint, aun, dnext, rowsOf, loadObj, cellsOf, ofCells, bnd, hmerge, Nat.reduceBEq, Nat.reduceAdd, reduceIte, Nat.reduceEqDiff, Nat.reduceLeDiff, Int.reduceEq, reduceCtorEq, Int.reduceBEq, Int.reduceBNe, Int.reduceLT, Int.reduceNeg, h, @use_all v4 62 k62.ora rfl, e62, hs])
  all_goals simp only [F1, bodyRes, one, ains, clsOf, abin, aint, aun, dnext, rowsOf, loadObj, cellsOf, ofCells, bnd, hmerge, Nat.reduceBEq, Nat.reduceAdd, reduceIte, Nat.reduceEqDiff, Nat.reduceLeDiff, Int.reduceEq, reduceCtorEq, Int.reduceBEq, Int.reduceBNe, Int.reduceLT, Int.reduceNeg, fn75_res, fn75_keep]
  all_goals simp_all [sameN]
theorem nd2Inj : ∀ x y : N5 × N5, [AV.agg [AV.int .i64 x.1.1, AV.int .i64 x.1.2.1, AV.int .i64 x.1.2.2.1, (AV.list 2 (List.map (fun x => [AV.int .i64 x.1, AV.int .i64 x.2]) x.1.2.2.2.1)), AV.str x.1.2.2.2.2], AV.agg [AV.int .i64 x.2.1, AV.int .i64 x.2.2.1, AV.int .i64 x.2.2.2.1, (AV.list 2 (List.map (fun x => [AV.int .i64 x.1, AV.int .i64 x.2]) x.2.2.2.2.1)), AV.str x.2.2.2.2.2]] = [AV.agg [AV.int .i64 y.1.1, AV.int .i64 y.1.2.1, AV.int .i64 y.1.2.2.1, (AV.list 2 (List.map (fun x => [AV.int .i64 x.1, AV.int .i64 x.2]) y.1.2.2.2.1)), AV.str y.1.2.2.2.2], AV.agg [AV.int .i64 y.2.1, AV.int .i64 y.2.2.1, AV.int .i64 y.2.2.2.1, (AV.list 2 (List.map (fun x => [AV.int .i64 x.1, AV.int .i64 x.2]) y.2.2.2.2.1)), AV.str y.2.2.2.2.2]] → x = y := by
  rintro ⟨x1, x2⟩ ⟨y1, y2⟩ h
  simp only [List.cons.injEq, and_true] at h
  rw [ndInj5 x1 y1 (by simp only [List.cons.injEq, and_true]; exact h.1), ndInj5 x2 y2 (by simp only [List.cons.injEq, and_true]; exact h.2)]
end Go.Proofs.Abs
