/- A part of a proof: the text that states the row tells what is proved. No condition is laid on anything. -/
import Derived.Test.YtligpalonlliaaaAbsV1
set_option linter.all false
set_option linter.constructorNameAsVariable false
set_option linter.defProp false
set_option linter.unusedVariables false
set_option linter.unusedSimpArgs false
set_option maxRecDepth 100000
set_option maxHeartbeats 16000000
namespace Go.Proofs.Abs
open Go
/-! 1059: caesuralaw04.RefineParts. -/
def LL (W : List (List Int)) : AV := .list 1 (List.map (fun y => [(AV.list 1 (List.map (fun x => [AV.int .i64 x]) (y)))]) W)
theorem has_part {P : List (List R2)} (h : Tile P) {q : Nat} (hq : q < P.length) {v : Int} (hv : isS v = true) : hasS (P.getD q []) v = inS v (P.getD q []) := by
  rw [hasS_iff, h.good _ (getD_memP hq), hv]; rfl
theorem lenS_le {l : List (List R2)} {s : List R2} (h : s ∈ l) : s.length ≤ lenS l := by
  obtain ⟨a, b, rfl⟩ := List.append_of_mem h
  simp [lenS]
  omega
theorem fair_dom {l : List (List R2)} (h : fairB l = true) : l.length ≤ 150 ∧ lenS l ≤ 150 := by
  have h1 : fairN l ≤ 150 := by simpa [fairB] using h
  have h2 := fairN_len l
  refine ⟨by omega, ?_⟩
  have : ∀ l : List (List R2), fairN l ≤ 150 → lenS l ≤ fairN l := by
    intro l
    induction l with
    | nil => intro _; simp [lenS, fairN]
    | cons s l ih =>
      intro h
      simp only [fairN, List.map_cons, List.sum_cons] at h ⊢
      simp only [lenS, List.map_cons, List.sum_cons]
      have := ih (by simp only [fairN]; omega)
      simp only [lenS, fairN] at this
      omega
  have := this l h1
  omega
theorem sumZ_bnd {P : List (List R2)} (h : Tile P) (n : Nat) (hn : n ≤ P.length) : 0 ≤ sumZ P n ∧ sumZ P n ≤ 1112064 := by
  obtain ⟨N, hN⟩ : ∃ N : Nat, N = 1114112 := ⟨_, rfl⟩
  rw [sumZ_card h N hN n hn]
  refine ⟨by omega, ?_⟩
  have h1 := card_all N hN
  have h2 : cardS N (fun v => (P.take n).any (inS v)) ≤ cardS N (fun v => inS v allS) := by
    unfold cardS
    apply List.countP_mono_left
    intro x _ hx
    rw [Bool.and_eq_true] at hx ⊢
    exact ⟨hx.1, inS_iff.2 (allS_mem hx.1)⟩
  omega
def sameU (l : List (List R2)) (x y : Int) (n : Nat) : Bool := (l.take n).all fun s => inS x s == inS y s
theorem sameU_next {l : List (List R2)} {x y : Int} {n : Nat} (h : n < l.length) : sameU l x y (n + 1) = (sameU l x y n && (inS x (l.getD n []) == inS y (l.getD n []))) := by
  unfold sameU
  rw [takeL_snoc h, List.all_append]
  simp
theorem tail1059 (l : List (List R2)) (v : List Int) (P : List (List R2)) (b : List R2) (W : List (List AV)) (d1 : l.length ≤ 150) (hv40 : v.length ≤ 40) (d3 : ∀ s ∈ l, s.length ≤ 1000000 ∧ goodS s = true)
    (hP : Parted l P) (hB : BandsOf P b) (hsum : sumZ P P.length = 1112064) (hpl : P.length ≤ 256) (hps : ∀ s ∈ P, s.length ≤ 400000) (hb6 : b.length ≤ 1000000) :
    run r10 c1059_7 [] (fun x s => ob (bodyRes fn1059 x s) fun r => r.1 = .bool true ∧ r.2 = [])
      { env := [(0, (AV.list 1 (List.map (fun s => [(AV.list 2 (List.map (fun x => [AV.int .i64 x.1, AV.int .i64 x.2]) (s)))]) (l)))), (1, (AV.list 1 (List.map (fun x => [AV.int .i64 x]) (v)))), (4, .bool false), (5, (AV.list 1 (List.map (fun s => [(AV.list 2 (List.map (fun x => [AV.int .i64 x.1, AV.int .i64 x.2]) (s)))]) (P)))), (6, .bool true), (8, (AV.list 2 (List.map (fun x => [AV.int .i64 x.1, AV.int .i64 x.2]) (b)))), (9, .bool true), (10, .list 1 W), (11, .bool true), (12, .int .i64 0), (13, .int .i64 (-1))], heap := [[]], p := [], k := 53 } := by
  have hpz : ∀ q, q < P.length → 0 < (P.getD q []).length := fun q hq => List.length_pos_iff.2 (hP.tile.ne _ (getD_memP hq))
  have hsz : ∀ n, n ≤ P.length → 0 ≤ sumZ P n ∧ sumZ P n ≤ 1112064 := fun n hn => sumZ_bnd hP.tile n hn
  have hlo0 : ∀ q, q < P.length → 0 ≤ ((P.getD q []).getD 0 (0, 0)).1 := fun q hq => (lo_zero (hP.tile.good _ (getD_memP hq)) (hpz q hq)).1
  simp only [c1059_7, D0, ains, appG, clsOf, abin, aint, aun, dnext, rowsOf, loadObj, cellsOf, ofCells, bnd, hmerge, Nat.reduceBEq, Nat.reduceAdd, reduceIte, Nat.reduceEqDiff, Nat.reduceLeDiff, Int.reduceEq, reduceCtorEq, Int.reduceBEq, Int.reduceBNe, Int.reduceLT, Int.reduceNeg]
  refine lg_rule (fun j e H => ∃ lo : Int, e = [(0, (AV.list 1 (List.map (fun s => [(AV.list 2 (List.map (fun x => [AV.int .i64 x.1, AV.int .i64 x.2]) (s)))]) (l)))), (1, (AV.list 1 (List.map (fun x => [AV.int .i64 x]) (v)))), (4, .bool false), (5, (AV.list 1 (List.map (fun s => [(AV.list 2 (List.map (fun x => [AV.int .i64 x.1, AV.int .i64 x.2]) (s)))]) (P)))), (6, .bool true), (8, (AV.list 2 (List.map (fun x => [AV.int .i64 x.1, AV.int .i64 x.2]) (b)))), (9, .bool true), (10, .list 1 W), (11, .bool true), (12, .int .i64 (sumZ P j)), (13, .int .i64 lo), (14, .int .i64 j)] ∧ H = [[]] ∧ j ≤ P.length ∧
    (j = 0 → lo = -1) ∧ (0 < j → lo = ((P.getD (j - 1) []).getD 0 (0, 0)).1)) P.length ?_ ?_
  · exact ⟨-1, rfl, rfl, by simp, fun _ => rfl, fun h => by omega⟩
  rintro j e H ⟨lo, rfl, rfl, hj, hl0, hl1⟩
  simp only [D0, ains, appG, clsOf, abin, aint, aun, dnext, rowsOf, loadObj, cellsOf, ofCells, bnd, hmerge, Nat.reduceBEq, Nat.reduceAdd, reduceIte, Nat.reduceEqDiff, Nat.reduceLeDiff, Int.reduceEq, reduceCtorEq, Int.reduceBEq, Int.reduceBNe, Int.reduceLT, Int.reduceNeg]
  by_cases h : j < P.length
  · have h' : (j : Int) < (P.length : Int) := by omega
    have hp := wrapp (j := j) (by omega)
    have hg := map_get (f := fun s : List R2 => [(AV.list 2 (List.map (fun x => [AV.int .i64 x.1, AV.int .i64 x.2]) (s)))]) h []
    have hlt : lo < ((P.getD j []).getD 0 (0, 0)).1 := by
      by_cases j0 : j = 0
      · rw [hl0 j0]; have := hlo0 j h; omega
      · rw [hl1 (by omega)]; exact hP.low (j - 1) j (by omega) h
    have hs0 := hpz j h
    have hs4 := hps _ (getD_memP h)
    have hgd := hP.tile.good _ (getD_memP h)
    have hsn := sumZ_next h
    have hb1 := hsz j (by omega)
    have hb2 := hsz (j + 1) (by omega)
    have hlo1 : ((P.getD (j + 1 - 1) []).getD 0 (0, 0)).1 = ((P.getD j []).getD 0 (0, 0)).1 := rfl
    generalize P.getD j [] = s at hg hlt hs0 hs4 hgd hsn hlo1
    have hg0 := map_get (f := fun x : Int × Int => [AV.int .i64 x.1, AV.int .i64 x.2]) hs0 (0, 0)
    generalize s.getD 0 (0, 0) = x at hg0 hlt hlo1
    obtain ⟨a, c⟩ := x
    have hs9 : s.length ≤ 9223372036854775807 := by omega
    have hs6 : s.length ≤ 1000000 := by omega
    have hz : ((s.length : Int) == 0) = false := beq_eq_false_iff_ne.2 (by omega)
    have hle : ¬ a ≤ lo := by simp only at hlt; omega
    have hi0 : (0 : Int) < (s.length : Int) := by omega
    have hz0 : (0 : Int) ≤ 0 := Int.le_refl 0
    have hw : IntKind.i64.wrap (sumZ P j + sizeS s) = sumZ P (j + 1) := by rw [wrap64 (by omega) (by omega), hsn]
    simp only [c1059_2, D0, ains, appG, clsOf, abin, aint, aun, dnext, rowsOf, loadObj, cellsOf, ofCells, bnd, hmerge, Nat.reduceBEq, Nat.reduceAdd, reduceIte, Nat.reduceEqDiff, Nat.reduceLeDiff, Int.reduceEq, reduceCtorEq, Int.reduceBEq, Int.reduceBNe, Int.reduceLT, Int.reduceNeg, h', hg, hp, hg0, hgd, hs9, hs6, hz, hle, hi0, hz0, hw, @use_all r10 9 k57.ora rfl, e57, @use_all r10 12 k61.ora rfl, e61, decide_true, decide_false, Int.natCast_nonneg, Int.toNat_natCast, Int.toNat_zero, List.length_map]
    simp only [F1, bodyRes, one, ains, appG, clsOf, abin, aint, aun, dnext, rowsOf, loadObj, cellsOf, ofCells, bnd, hmerge, Nat.reduceBEq, Nat.reduceAdd, reduceIte, Nat.reduceEqDiff, Nat.reduceLeDiff, Int.reduceEq, reduceCtorEq, Int.reduceBEq, Int.reduceBNe, Int.reduceLT, Int.reduceNeg]
    exact ⟨h, a, rfl, h, fun k => k.elim, fun _ => hlo1.symm⟩
  · have h' : ¬ (j : Int) < (P.length : Int) := by omega
    have hjl : j = P.length := by omega
    subst hjl
    simp only [D0, ains, appG, clsOf, abin, aint, aun, dnext, rowsOf, loadObj, cellsOf, ofCells, bnd, hmerge, Nat.reduceBEq, Nat.reduceAdd, reduceIte, Nat.reduceEqDiff, Nat.reduceLeDiff, Int.reduceEq, reduceCtorEq, Int.reduceBEq, Int.reduceBNe, Int.reduceLT, Int.reduceNeg, h', decide_false]
    refine .inr ⟨by simp, ?_⟩
    have hne : ((1112064 : Int) != 1112064) = false := by decide
    simp only [D0, ains, appG, clsOf, abin, aint, aun, dnext, rowsOf, loadObj, cellsOf, ofCells, bnd, hmerge, Nat.reduceBEq, Nat.reduceAdd, reduceIte, Nat.reduceEqDiff, Nat.reduceLeDiff, Int.reduceEq, reduceCtorEq, Int.reduceBEq, Int.reduceBNe, Int.reduceLT, Int.reduceNeg, hsum, hne]
    clear hne hl0 hl1 hj h h' hsz
    refine lg_rule (fun i e H => e = [(0, (AV.list 1 (List.map (fun s => [(AV.list 2 (List.map (fun x => [AV.int .i64 x.1, AV.int .i64 x.2]) (s)))]) (l)))), (1, (AV.list 1 (List.map (fun x => [AV.int .i64 x]) (v)))), (4, .bool false), (5, (AV.list 1 (List.map (fun s => [(AV.list 2 (List.map (fun x => [AV.int .i64 x.1, AV.int .i64 x.2]) (s)))]) (P)))), (6, .bool true), (8, (AV.list 2 (List.map (fun x => [AV.int .i64 x.1, AV.int .i64 x.2]) (b)))), (9, .bool true), (10, .list 1 W), (11, .bool true), (12, .int .i64 1112064), (13, .int .i64 lo), (14, .int .i64 P.length), (15, .int .i64 i)] ∧ H = [[]] ∧ i ≤ v.length) v.length ?_ ?_
    · exact ⟨rfl, rfl, by simp⟩
    rintro i e H ⟨rfl, rfl, hi⟩
    simp only [D0, ains, appG, clsOf, abin, aint, aun, dnext, rowsOf, loadObj, cellsOf, ofCells, bnd, hmerge, Nat.reduceBEq, Nat.reduceAdd, reduceIte, Nat.reduceEqDiff, Nat.reduceLeDiff, Int.reduceEq, reduceCtorEq, Int.reduceBEq, Int.reduceBNe, Int.reduceLT, Int.reduceNeg]
    by_cases h : i < v.length
    · have h' : (i : Int) < (v.length : Int) := by omega
      have hp := wrapp (j := i) (by omega)
      have hg := map_get (f := fun x : Int => [AV.int .i64 x]) h 0
      cases hx : isS (v.getD i 0) with
      | false =>
        generalize v.getD i 0 = x at hg hx
        have hof : ofBd b x = none := by simp [ofBd, hx]
        simp only [c1059_6, c1059_3, D0, ains, appG, clsOf, abin, aint, aun, dnext, rowsOf, loadObj, cellsOf, ofCells, bnd, hmerge, Nat.reduceBEq, Nat.reduceAdd, reduceIte, Nat.reduceEqDiff, Nat.reduceLeDiff, Int.reduceEq, reduceCtorEq, Int.reduceBEq, Int.reduceBNe, Int.reduceLT, Int.reduceNeg, h', hg, hp, @use_all r10 13 k1010.ora rfl, e1010 b x hb6, @use_all r10 14 k66.ora rfl, e66, hof, hx, Option.getD_none, Option.isSome_none, bne_self_eq_false, decide_true, Int.natCast_nonneg, Int.toNat_natCast, List.length_map]
        refine lg_rule (fun k e H => k = 0 ∧ e = [(0, (AV.list 1 (List.map (fun s => [(AV.list 2 (List.map (fun x => [AV.int .i64 x.1, AV.int .i64 x.2]) (s)))]) (l)))), (1, (AV.list 1 (List.map (fun x => [AV.int .i64 x]) (v)))), (4, .bool false), (5, (AV.list 1 (List.map (fun s => [(AV.list 2 (List.map (fun x => [AV.int .i64 x.1, AV.int .i64 x.2]) (s)))]) (P)))), (6, .bool true), (8, (AV.list 2 (List.map (fun x => [AV.int .i64 x.1, AV.int .i64 x.2]) (b)))), (9, .bool true), (10, .list 1 W), (11, .bool true), (12, .int .i64 1112064), (13, .int .i64 lo), (14, .int .i64 P.length), (15, .int .i64 i), (16, .int .i64 0), (17, .bool false), (18, .int .i64 0)] ∧ H = [[], []]) 0 ?_ ?_
        · exact ⟨rfl, rfl, rfl⟩
        rintro k e H ⟨rfl, rfl, rfl⟩
        by_cases hi0 : (0 : Int) < (i : Int)
        · simp only [D0, ains, appG, clsOf, abin, aint, aun, dnext, rowsOf, loadObj, cellsOf, ofCells, bnd, hmerge, Nat.reduceBEq, Nat.reduceAdd, reduceIte, Nat.reduceEqDiff, Nat.reduceLeDiff, Int.reduceEq, reduceCtorEq, Int.reduceBEq, Int.reduceBNe, Int.reduceLT, Int.reduceNeg, hi0, decide_true]
          refine .inr ⟨by simp, ?_⟩
          simp only [D0, ains, appG, clsOf, abin, aint, aun, dnext, rowsOf, loadObj, cellsOf, ofCells, bnd, hmerge, Nat.reduceBEq, Nat.reduceAdd, reduceIte, Nat.reduceEqDiff, Nat.reduceLeDiff, Int.reduceEq, reduceCtorEq, Int.reduceBEq, Int.reduceBNe, Int.reduceLT, Int.reduceNeg, hp]
          simp only [F1, bodyRes, one, ains, appG, clsOf, abin, aint, aun, dnext, rowsOf, loadObj, cellsOf, ofCells, bnd, hmerge, Nat.reduceBEq, Nat.reduceAdd, reduceIte, Nat.reduceEqDiff, Nat.reduceLeDiff, Int.reduceEq, reduceCtorEq, Int.reduceBEq, Int.reduceBNe, Int.reduceLT, Int.reduceNeg]
          exact ⟨h, h⟩
        · simp only [D0, ains, appG, clsOf, abin, aint, aun, dnext, rowsOf, loadObj, cellsOf, ofCells, bnd, hmerge, Nat.reduceBEq, Nat.reduceAdd, reduceIte, Nat.reduceEqDiff, Nat.reduceLeDiff, Int.reduceEq, reduceCtorEq, Int.reduceBEq, Int.reduceBNe, Int.reduceLT, Int.reduceNeg, hi0, decide_false]
          refine .inr ⟨by simp, ?_⟩
          simp only [D0, ains, appG, clsOf, abin, aint, aun, dnext, rowsOf, loadObj, cellsOf, ofCells, bnd, hmerge, Nat.reduceBEq, Nat.reduceAdd, reduceIte, Nat.reduceEqDiff, Nat.reduceLeDiff, Int.reduceEq, reduceCtorEq, Int.reduceBEq, Int.reduceBNe, Int.reduceLT, Int.reduceNeg, hp]
          simp only [F1, bodyRes, one, ains, appG, clsOf, abin, aint, aun, dnext, rowsOf, loadObj, cellsOf, ofCells, bnd, hmerge, Nat.reduceBEq, Nat.reduceAdd, reduceIte, Nat.reduceEqDiff, Nat.reduceLeDiff, Int.reduceEq, reduceCtorEq, Int.reduceBEq, Int.reduceBNe, Int.reduceLT, Int.reduceNeg]
          exact ⟨h, h⟩
      | true =>
        obtain ⟨c, hof, hc, hin⟩ := hB.of _ hx
        have hsame := fun (y : Int) (d : Nat) hy hd hiy => hP.same (v.getD i 0) y c d hx hy hc hd hin hiy
        generalize v.getD i 0 = x at hg hx hof hin hsame
        have hc' : (c : Int) < (P.length : Int) := by omega
        have hc0 : ¬ (c : Int) < 0 := by omega
        have hc1 : ¬ (c : Int) ≥ (P.length : Int) := by omega
        have hgc := map_get (f := fun s : List R2 => [(AV.list 2 (List.map (fun x => [AV.int .i64 x.1, AV.int .i64 x.2]) (s)))]) hc []
        have hhas := has_part hP.tile hc hx
        rw [hin] at hhas
        have hqs := hps _ (getD_memP hc)
        generalize P.getD c [] = q at hgc hhas hqs
        have hq6 : q.length ≤ 1000000 := by omega
        simp only [c1059_6, c1059_3, D0, ains, appG, clsOf, abin, aint, aun, dnext, rowsOf, loadObj, cellsOf, ofCells, bnd, hmerge, Nat.reduceBEq, Nat.reduceAdd, reduceIte, Nat.reduceEqDiff, Nat.reduceLeDiff, Int.reduceEq, reduceCtorEq, Int.reduceBEq, Int.reduceBNe, Int.reduceLT, Int.reduceNeg, h', hg, hp, @use_all r10 13 k1010.ora rfl, e1010 b x hb6, @use_all r10 14 k66.ora rfl, e66, @use_all r10 15 k59.ora rfl, e59, hof, hx, hgc, hhas, hq6, hc', hc0, hc1, Option.getD_some, Option.isSome_some, bne_self_eq_false, decide_true, decide_false, Int.natCast_nonneg, Int.toNat_natCast, List.length_map]
        refine lg_rule (fun k e H => e = [(0, (AV.list 1 (List.map (fun s => [(AV.list 2 (List.map (fun x => [AV.int .i64 x.1, AV.int .i64 x.2]) (s)))]) (l)))), (1, (AV.list 1 (List.map (fun x => [AV.int .i64 x]) (v)))), (4, .bool false), (5, (AV.list 1 (List.map (fun s => [(AV.list 2 (List.map (fun x => [AV.int .i64 x.1, AV.int .i64 x.2]) (s)))]) (P)))), (6, .bool true), (8, (AV.list 2 (List.map (fun x => [AV.int .i64 x.1, AV.int .i64 x.2]) (b)))), (9, .bool true), (10, .list 1 W), (11, .bool true), (12, .int .i64 1112064), (13, .int .i64 lo), (14, .int .i64 P.length), (15, .int .i64 i), (16, .int .i64 c), (17, .bool true), (18, .int .i64 k)] ∧ H = [[], []] ∧ k ≤ i) i ?_ ?_
        · exact ⟨rfl, rfl, by simp⟩
        rintro k e H ⟨rfl, rfl, hk⟩
        by_cases hki : k < i
        · have hki' : (k : Int) < (i : Int) := by omega
          have hkv' : (k : Int) < (v.length : Int) := by omega
          have hpk := wrapp (j := k) (by omega)
          have hgk := map_get (f := fun x : Int => [AV.int .i64 x]) (l := v) (j := k) (by omega) 0
          generalize v.getD k 0 = y at hgk
          cases hy : isS y with
          | false =>
            have hofy : ofBd b y = none := by simp [ofBd, hy]
            simp only [c1059_5, D0, ains, appG, clsOf, abin, aint, aun, dnext, rowsOf, loadObj, cellsOf, ofCells, bnd, hmerge, Nat.reduceBEq, Nat.reduceAdd, reduceIte, Nat.reduceEqDiff, Nat.reduceLeDiff, Int.reduceEq, reduceCtorEq, Int.reduceBEq, Int.reduceBNe, Int.reduceLT, Int.reduceNeg, hki', hkv', hgk, hpk, @use_all r10 13 k1010.ora rfl, e1010 b y hb6, hofy, Option.getD_none, Option.isSome_none, decide_true, Int.natCast_nonneg, Int.toNat_natCast, List.length_map]
            simp only [F1, bodyRes, one, ains, appG, clsOf, abin, aint, aun, dnext, rowsOf, loadObj, cellsOf, ofCells, bnd, hmerge, Nat.reduceBEq, Nat.reduceAdd, reduceIte, Nat.reduceEqDiff, Nat.reduceLeDiff, Int.reduceEq, reduceCtorEq, Int.reduceBEq, Int.reduceBNe, Int.reduceLT, Int.reduceNeg]
            exact ⟨hki, hki⟩
          | true =>
            obtain ⟨d, hofy, hd, hiny⟩ := hB.of _ hy
            have hsm := hsame y d hy hd hiny
            simp only [c1059_5, D0, ains, appG, clsOf, abin, aint, aun, dnext, rowsOf, loadObj, cellsOf, ofCells, bnd, hmerge, Nat.reduceBEq, Nat.reduceAdd, reduceIte, Nat.reduceEqDiff, Nat.reduceLeDiff, Int.reduceEq, reduceCtorEq, Int.reduceBEq, Int.reduceBNe, Int.reduceLT, Int.reduceNeg, hki', hkv', hgk, hpk, @use_all r10 13 k1010.ora rfl, e1010 b y hb6, hofy, Option.getD_some, Option.isSome_some, decide_true, Int.natCast_nonneg, Int.toNat_natCast, List.length_map]
            refine lg_rule (fun n e H => e = [(0, (AV.list 1 (List.map (fun s => [(AV.list 2 (List.map (fun x => [AV.int .i64 x.1, AV.int .i64 x.2]) (s)))]) (l)))), (1, (AV.list 1 (List.map (fun x => [AV.int .i64 x]) (v)))), (4, .bool false), (5, (AV.list 1 (List.map (fun s => [(AV.list 2 (List.map (fun x => [AV.int .i64 x.1, AV.int .i64 x.2]) (s)))]) (P)))), (6, .bool true), (8, (AV.list 2 (List.map (fun x => [AV.int .i64 x.1, AV.int .i64 x.2]) (b)))), (9, .bool true), (10, .list 1 W), (11, .bool true), (12, .int .i64 1112064), (13, .int .i64 lo), (14, .int .i64 P.length), (15, .int .i64 i), (16, .int .i64 c), (17, .bool true), (18, .int .i64 k), (19, .int .i64 d), (20, .bool true), (21, .bool (sameU l x y n)), (22, .int .i64 n)] ∧ H = [[], [], []] ∧ n ≤ l.length) l.length ?_ ?_
            · exact ⟨rfl, rfl, by simp⟩
            rintro n e H ⟨rfl, rfl, hn⟩
            simp only [D0, ains, appG, clsOf, abin, aint, aun, dnext, rowsOf, loadObj, cellsOf, ofCells, bnd, hmerge, Nat.reduceBEq, Nat.reduceAdd, reduceIte, Nat.reduceEqDiff, Nat.reduceLeDiff, Int.reduceEq, reduceCtorEq, Int.reduceBEq, Int.reduceBNe, Int.reduceLT, Int.reduceNeg]
            by_cases hnl : n < l.length
            · have hnl' : (n : Int) < (l.length : Int) := by omega
              have hpn := wrapp (j := n) (by omega)
              have hgn := map_get (f := fun s : List R2 => [(AV.list 2 (List.map (fun x => [AV.int .i64 x.1, AV.int .i64 x.2]) (s)))]) hnl []
              have hsn := sameU_next (x := x) (y := y) hnl
              obtain ⟨hs6, hsg⟩ := d3 _ (getD_memL hnl)
              have hh1 : hasS (l.getD n []) x = inS x (l.getD n []) := by rw [hasS_iff, hsg, hx]; rfl
              have hh2 : hasS (l.getD n []) y = inS y (l.getD n []) := by rw [hasS_iff, hsg, hy]; rfl
              generalize l.getD n [] = s at hgn hsn hs6 hh1 hh2
              cases hu : sameU l x y n with
              | false =>
                rw [hu, Bool.false_and] at hsn
                simp only [c1059_4, D0, ains, appG, clsOf, abin, aint, aun, dnext, rowsOf, loadObj, cellsOf, ofCells, bnd, hmerge, Nat.reduceBEq, Nat.reduceAdd, reduceIte, Nat.reduceEqDiff, Nat.reduceLeDiff, Int.reduceEq, reduceCtorEq, Int.reduceBEq, Int.reduceBNe, Int.reduceLT, Int.reduceNeg, hnl', hpn]
                simp only [F1, bodyRes, one, ains, appG, clsOf, abin, aint, aun, dnext, rowsOf, loadObj, cellsOf, ofCells, bnd, hmerge, Nat.reduceBEq, Nat.reduceAdd, reduceIte, Nat.reduceEqDiff, Nat.reduceLeDiff, Int.reduceEq, reduceCtorEq, Int.reduceBEq, Int.reduceBNe, Int.reduceLT, Int.reduceNeg]
                exact ⟨hnl, by rw [hsn], hnl⟩
              | true =>
                rw [hu, Bool.true_and] at hsn
                simp only [c1059_4, D0, ains, appG, clsOf, abin, aint, aun, dnext, rowsOf, loadObj, cellsOf, ofCells, bnd, hmerge, Nat.reduceBEq, Nat.reduceAdd, reduceIte, Nat.reduceEqDiff, Nat.reduceLeDiff, Int.reduceEq, reduceCtorEq, Int.reduceBEq, Int.reduceBNe, Int.reduceLT, Int.reduceNeg, hnl', hkv', h', hpn, hgn, hg, hgk, @use_all r10 15 k59.ora rfl, e59, hs6, hh1, hh2, decide_true, Int.natCast_nonneg, Int.toNat_natCast, List.length_map]
                simp only [F1, bodyRes, one, ains, appG, clsOf, abin, aint, aun, dnext, rowsOf, loadObj, cellsOf, ofCells, bnd, hmerge, Nat.reduceBEq, Nat.reduceAdd, reduceIte, Nat.reduceEqDiff, Nat.reduceLeDiff, Int.reduceEq, reduceCtorEq, Int.reduceBEq, Int.reduceBNe, Int.reduceLT, Int.reduceNeg]
                exact ⟨hnl, by rw [hsn], hnl⟩
            · have hnl' : ¬ (n : Int) < (l.length : Int) := by omega
              have hne : n = l.length := by omega
              have hcd : (((c : Int) == (d : Int)) == sameU l x y n) = true := by
                have hu : sameU l x y n = true ↔ c = d := by
                  rw [hne, hsm]
                  unfold sameU
                  rw [List.take_length, List.all_eq_true]
                  simp only [beq_iff_eq]
                cases e : sameU l x y n with
                | true => rw [hu.1 e]; simp
                | false =>
                  have : ¬ c = d := fun k => by rw [hu.2 k] at e; cases e
                  have : ((c : Int) == (d : Int)) = false := beq_eq_false_iff_ne.2 (by omega)
                  rw [this]; rfl
              simp only [D0, ains, appG, clsOf, abin, aint, aun, dnext, rowsOf, loadObj, cellsOf, ofCells, bnd, hmerge, Nat.reduceBEq, Nat.reduceAdd, reduceIte, Nat.reduceEqDiff, Nat.reduceLeDiff, Int.reduceEq, reduceCtorEq, Int.reduceBEq, Int.reduceBNe, Int.reduceLT, Int.reduceNeg, hnl', decide_false]
              refine .inr ⟨by simp, ?_⟩
              simp only [D0, ains, appG, clsOf, abin, aint, aun, dnext, rowsOf, loadObj, cellsOf, ofCells, bnd, hmerge, Nat.reduceBEq, Nat.reduceAdd, reduceIte, Nat.reduceEqDiff, Nat.reduceLeDiff, Int.reduceEq, reduceCtorEq, Int.reduceBEq, Int.reduceBNe, Int.reduceLT, Int.reduceNeg, hcd, hpk]
              simp only [F1, bodyRes, one, ains, appG, clsOf, abin, aint, aun, dnext, rowsOf, loadObj, cellsOf, ofCells, bnd, hmerge, Nat.reduceBEq, Nat.reduceAdd, reduceIte, Nat.reduceEqDiff, Nat.reduceLeDiff, Int.reduceEq, reduceCtorEq, Int.reduceBEq, Int.reduceBNe, Int.reduceLT, Int.reduceNeg]
              exact ⟨hki, hki⟩
        · have hki' : ¬ (k : Int) < (i : Int) := by omega
          simp only [D0, ains, appG, clsOf, abin, aint, aun, dnext, rowsOf, loadObj, cellsOf, ofCells, bnd, hmerge, Nat.reduceBEq, Nat.reduceAdd, reduceIte, Nat.reduceEqDiff, Nat.reduceLeDiff, Int.reduceEq, reduceCtorEq, Int.reduceBEq, Int.reduceBNe, Int.reduceLT, Int.reduceNeg, hki', decide_false]
          refine .inr ⟨by simp, ?_⟩
          simp only [D0, ains, appG, clsOf, abin, aint, aun, dnext, rowsOf, loadObj, cellsOf, ofCells, bnd, hmerge, Nat.reduceBEq, Nat.reduceAdd, reduceIte, Nat.reduceEqDiff, Nat.reduceLeDiff, Int.reduceEq, reduceCtorEq, Int.reduceBEq, Int.reduceBNe, Int.reduceLT, Int.reduceNeg, hp]
          simp only [F1, bodyRes, one, ains, appG, clsOf, abin, aint, aun, dnext, rowsOf, loadObj, cellsOf, ofCells, bnd, hmerge, Nat.reduceBEq, Nat.reduceAdd, reduceIte, Nat.reduceEqDiff, Nat.reduceLeDiff, Int.reduceEq, reduceCtorEq, Int.reduceBEq, Int.reduceBNe, Int.reduceLT, Int.reduceNeg]
          exact ⟨h, h⟩
    · have h' : ¬ (i : Int) < (v.length : Int) := by omega
      simp only [D0, ains, appG, clsOf, abin, aint, aun, dnext, rowsOf, loadObj, cellsOf, ofCells, bnd, hmerge, Nat.reduceBEq, Nat.reduceAdd, reduceIte, Nat.reduceEqDiff, Nat.reduceLeDiff, Int.reduceEq, reduceCtorEq, Int.reduceBEq, Int.reduceBNe, Int.reduceLT, Int.reduceNeg, h', decide_false]
      refine .inr ⟨by simp, ?_⟩
      simp only [D0, ains, appG, clsOf, abin, aint, aun, dnext, rowsOf, loadObj, cellsOf, ofCells, bnd, hmerge, Nat.reduceBEq, Nat.reduceAdd, reduceIte, Nat.reduceEqDiff, Nat.reduceLeDiff, Int.reduceEq, reduceCtorEq, Int.reduceBEq, Int.reduceBNe, Int.reduceLT, Int.reduceNeg, @use_all r10 7 kW.ora rfl, eW]
      simp only [F1, bodyRes, one, ains, appG, clsOf, abin, aint, aun, dnext, rowsOf, loadObj, cellsOf, ofCells, bnd, hmerge, Nat.reduceBEq, Nat.reduceAdd, reduceIte, Nat.reduceEqDiff, Nat.reduceLeDiff, Int.reduceEq, reduceCtorEq, Int.reduceBEq, Int.reduceBNe, Int.reduceLT, Int.reduceNeg, fn1059_res, fn1059_keep]
theorem run1059 (l : List (List R2)) (v : List Int) (wl : l.length ≤ 9223372036854775807 ∧ ∀ s ∈ l, WfS s) (wv : v.length ≤ 9223372036854775807 ∧ ∀ x ∈ v, I64 x) : cwp r10 3 [] [(AV.list 1 (List.map (fun s => [(AV.list 2 (List.map (fun x => [AV.int .i64 x.1, AV.int .i64 x.2]) (s)))]) (l))), (AV.list 1 (List.map (fun x => [AV.int .i64 x]) (v)))] [] (fun r H => r = .bool true ∧ H = []) := by
  refine run_fn (fn := fn1059) rfl rfl ?_
  cases hf : fairB l with
  | false =>
    simp only [fn1059_body, c1059, D0, ains, appG, clsOf, abin, aint, aun, dnext, rowsOf, loadObj, cellsOf, ofCells, bnd, hmerge, Nat.reduceBEq, Nat.reduceAdd, reduceIte, Nat.reduceEqDiff, Nat.reduceLeDiff, Int.reduceEq, reduceCtorEq, Int.reduceBEq, Int.reduceBNe, Int.reduceLT, Int.reduceNeg, @use_all r10 6 k1003.ora rfl, e1003, hf, @use_all r10 7 kW.ora rfl, eW]
    simp only [F1, bodyRes, one, ains, appG, clsOf, abin, aint, aun, dnext, rowsOf, loadObj, cellsOf, ofCells, bnd, hmerge, Nat.reduceBEq, Nat.reduceAdd, reduceIte, Nat.reduceEqDiff, Nat.reduceLeDiff, Int.reduceEq, reduceCtorEq, Int.reduceBEq, Int.reduceBNe, Int.reduceLT, Int.reduceNeg, fn1059_res, fn1059_keep]
  | true =>
    by_cases hv40 : v.length ≤ 40
    · have hv40' : ¬ (v.length : Int) > 40 := by omega
      obtain ⟨d1, d2⟩ := fair_dom hf
      have d3 : ∀ s ∈ l, s.length ≤ 150 := fun s hs => Nat.le_trans (lenS_le hs) d2
      have dP : l.length ≤ 1000 ∧ lenS l ≤ 1000 ∧ ∀ s ∈ l, s.length ≤ 1000000 := ⟨by omega, by omega, fun s hs => by have := d3 s hs; omega⟩
      cases hb : partsB l with
      | false =>
        obtain ⟨pv, p7⟩ := parts_no hb
        have hz : (((0 : Nat) : Int) == 0) = true := rfl
        simp only [fn1059_body, c1059, c1059_1, D0, ains, appG, clsOf, abin, aint, aun, dnext, rowsOf, loadObj, cellsOf, ofCells, bnd, hmerge, Nat.reduceBEq, Nat.reduceAdd, reduceIte, Nat.reduceEqDiff, Nat.reduceLeDiff, Int.reduceEq, reduceCtorEq, Int.reduceBEq, Int.reduceBNe, Int.reduceLT, Int.reduceNeg, @use_all r10 6 k1003.ora rfl, e1003, hf, hv40', @use_all r10 8 k1006.ora rfl, e1006 l dP, hb, pv, decide_false, List.map_nil]
        refine lg_rule (fun j e H => e = [(0, (AV.list 1 (List.map (fun s => [(AV.list 2 (List.map (fun x => [AV.int .i64 x.1, AV.int .i64 x.2]) (s)))]) (l)))), (1, (AV.list 1 (List.map (fun x => [AV.int .i64 x]) (v)))), (4, .bool false), (5, .list 1 []), (6, .bool false), (7, .int .i64 j)] ∧ H = [[]] ∧ j ≤ l.length ∧ ∀ i, i < j → goodS (l.getD i []) = true) l.length ?_ ?_
        · exact ⟨rfl, rfl, by simp, fun i hi => by omega⟩
        rintro j e H ⟨rfl, rfl, hj, hgd⟩
        simp only [D0, ains, appG, clsOf, abin, aint, aun, dnext, rowsOf, loadObj, cellsOf, ofCells, bnd, hmerge, Nat.reduceBEq, Nat.reduceAdd, reduceIte, Nat.reduceEqDiff, Nat.reduceLeDiff, Int.reduceEq, reduceCtorEq, Int.reduceBEq, Int.reduceBNe, Int.reduceLT, Int.reduceNeg]
        by_cases h : j < l.length
        · have h' : (j : Int) < (l.length : Int) := by omega
          have hp := wrapp (j := j) (by omega)
          have hg := map_get (f := fun s : List R2 => [(AV.list 2 (List.map (fun x => [AV.int .i64 x.1, AV.int .i64 x.2]) (s)))]) h []
          have hs9 : (l.getD j []).length ≤ 9223372036854775807 := by have := d3 _ (getD_memL h); omega
          have hgj : goodS (l.getD j []) = true → ∀ i, i < j + 1 → goodS (l.getD i []) = true := fun e i hi => by
            by_cases k : i = j
            · rw [k]; exact e
            · exact hgd i (by omega)
          generalize l.getD j [] = s at hg hs9 hgj
          cases gs : goodS s with
          | true =>
            simp only [D0, ains, appG, clsOf, abin, aint, aun, dnext, rowsOf, loadObj, cellsOf, ofCells, bnd, hmerge, Nat.reduceBEq, Nat.reduceAdd, reduceIte, Nat.reduceEqDiff, Nat.reduceLeDiff, Int.reduceEq, reduceCtorEq, Int.reduceBEq, Int.reduceBNe, Int.reduceLT, Int.reduceNeg, h', hg, hp, hs9, @use_all r10 9 k57.ora rfl, e57, gs, decide_true, Int.natCast_nonneg, Int.toNat_natCast, List.length_map]
            simp only [F1, bodyRes, one, ains, appG, clsOf, abin, aint, aun, dnext, rowsOf, loadObj, cellsOf, ofCells, bnd, hmerge, Nat.reduceBEq, Nat.reduceAdd, reduceIte, Nat.reduceEqDiff, Nat.reduceLeDiff, Int.reduceEq, reduceCtorEq, Int.reduceBEq, Int.reduceBNe, Int.reduceLT, Int.reduceNeg]
            exact ⟨h, h, hgj gs⟩
          | false =>
            simp only [D0, ains, appG, clsOf, abin, aint, aun, dnext, rowsOf, loadObj, cellsOf, ofCells, bnd, hmerge, Nat.reduceBEq, Nat.reduceAdd, reduceIte, Nat.reduceEqDiff, Nat.reduceLeDiff, Int.reduceEq, reduceCtorEq, Int.reduceBEq, Int.reduceBNe, Int.reduceLT, Int.reduceNeg, h', hg, hp, hs9, @use_all r10 9 k57.ora rfl, e57, gs, hz, @use_all r10 7 kW.ora rfl, eW, decide_true, Int.natCast_nonneg, Int.toNat_natCast, List.length_map, List.length_nil]
            simp only [F1, bodyRes, one, ains, appG, clsOf, abin, aint, aun, dnext, rowsOf, loadObj, cellsOf, ofCells, bnd, hmerge, Nat.reduceBEq, Nat.reduceAdd, reduceIte, Nat.reduceEqDiff, Nat.reduceLeDiff, Int.reduceEq, reduceCtorEq, Int.reduceBEq, Int.reduceBNe, Int.reduceLT, Int.reduceNeg, fn1059_res, fn1059_keep]
        · have h' : ¬ (j : Int) < (l.length : Int) := by omega
          have h7 := p7 fun s hs => by
            obtain ⟨i, hi, rfl⟩ := List.getElem_of_mem hs
            have := hgd i (by omega)
            simpa [List.getElem?_eq_getElem hi] using this
          have h7' : (l.length : Int) > 7 := by omega
          simp only [D0, ains, appG, clsOf, abin, aint, aun, dnext, rowsOf, loadObj, cellsOf, ofCells, bnd, hmerge, Nat.reduceBEq, Nat.reduceAdd, reduceIte, Nat.reduceEqDiff, Nat.reduceLeDiff, Int.reduceEq, reduceCtorEq, Int.reduceBEq, Int.reduceBNe, Int.reduceLT, Int.reduceNeg, h', decide_false]
          refine .inr ⟨by simp, ?_⟩
          simp only [D0, ains, appG, clsOf, abin, aint, aun, dnext, rowsOf, loadObj, cellsOf, ofCells, bnd, hmerge, Nat.reduceBEq, Nat.reduceAdd, reduceIte, Nat.reduceEqDiff, Nat.reduceLeDiff, Int.reduceEq, reduceCtorEq, Int.reduceBEq, Int.reduceBNe, Int.reduceLT, Int.reduceNeg, h7', hz, @use_all r10 7 kW.ora rfl, eW, decide_true, List.length_nil]
          simp only [F1, bodyRes, one, ains, appG, clsOf, abin, aint, aun, dnext, rowsOf, loadObj, cellsOf, ofCells, bnd, hmerge, Nat.reduceBEq, Nat.reduceAdd, reduceIte, Nat.reduceEqDiff, Nat.reduceLeDiff, Int.reduceEq, reduceCtorEq, Int.reduceBEq, Int.reduceBNe, Int.reduceLT, Int.reduceNeg, fn1059_res, fn1059_keep]
      | true =>
        have hall : ∀ s ∈ l, goodS s = true := by
          unfold partsB at hb
          simp only [Bool.and_eq_true] at hb
          exact List.all_eq_true.1 hb.1
        have hP := parted hb
        obtain ⟨hwB, hwL⟩ := within_part hP hall
        obtain ⟨b, hbo, hB, hbl⟩ := bands_ok hP.tile
        have hsum := sumZ_all hP.tile
        have hpl : (partsV l).length ≤ 256 := hP.num.2
        have hdist := dist_of hP.tile.good hP.tile.uniq
        have hps : ∀ s ∈ partsV l, s.length ≤ 400000 := fun s hs => by have := lenS_le hs; have := hP.len; omega
        have dB : (partsV l).length ≤ 1000 ∧ lenS (partsV l) ≤ 1000 ∧ distB (stL (partsV l)) = true ∧ ∀ s ∈ partsV l, s.length ≤ 1000000 := ⟨by omega, by have := hP.len; omega, hdist, fun s hs => by have := hps s hs; omega⟩
        have dW : l.length ≤ 1000 ∧ (partsV l).length ≤ 1000 ∧ (∀ s ∈ l, s.length ≤ 400000) ∧ ∀ s ∈ partsV l, s.length ≤ 400000 := ⟨by omega, by omega, fun s hs => by have := d3 s hs; omega, hps⟩
        have e6 : ∀ (q : Id) (H : Heap), k1006.ora q [(AV.list 1 (List.map (fun s => [(AV.list 2 (List.map (fun x => [AV.int .i64 x.1, AV.int .i64 x.2]) (s)))]) (l)))] H = some (.tuple [(AV.list 1 (List.map (fun s => [(AV.list 2 (List.map (fun x => [AV.int .i64 x.1, AV.int .i64 x.2]) (s)))]) (partsV l))), .bool true], H) := fun q H => by have := e1006 l dP q H; rw [hb] at this; exact this
        have e8 : ∀ (q : Id) (H : Heap), k1008.ora q [(AV.list 1 (List.map (fun s => [(AV.list 2 (List.map (fun x => [AV.int .i64 x.1, AV.int .i64 x.2]) (s)))]) (partsV l)))] H = some (.tuple [(AV.list 2 (List.map (fun x => [AV.int .i64 x.1, AV.int .i64 x.2]) (b))), .bool true], H) := fun q H => by have := e1008 (partsV l) dB q H; rw [hbo] at this; exact this
        have e12 : ∀ (q : Id) (H : Heap), k1012.ora q [(AV.list 1 (List.map (fun s => [(AV.list 2 (List.map (fun x => [AV.int .i64 x.1, AV.int .i64 x.2]) (s)))]) (l))), (AV.list 1 (List.map (fun s => [(AV.list 2 (List.map (fun x => [AV.int .i64 x.1, AV.int .i64 x.2]) (s)))]) (partsV l)))] H = some (.tuple [.list 1 (List.map (fun y => [(AV.list 1 (List.map (fun x => [AV.int .i64 x]) (y)))]) (withinV l (partsV l))), .bool true], H) := fun q H => by have := e1012 l (partsV l) dW q H; rw [hwB] at this; exact this
        have hb6 : b.length ≤ 1000000 := by have := hP.len; omega
        have hwL' : (List.map (fun y : List Int => [(AV.list 1 (List.map (fun x => [AV.int .i64 x]) (y)))]) (withinV l (partsV l))).length = l.length := by simp [hwL]
        generalize List.map (fun y : List Int => [(AV.list 1 (List.map (fun x => [AV.int .i64 x]) (y)))]) (withinV l (partsV l)) = W at e12 hwL'
        clear hwB hwL hbo dB dW hdist hbl
        have hp0 : (((partsV l).length : Int) == 0) = false := beq_eq_false_iff_ne.2 (by have := hP.num.1; omega)
        have hll : ((l.length : Int) != (l.length : Int)) = false := by simp
        generalize partsV l = P at *
        simp only [fn1059_body, c1059, c1059_8, D0, ains, appG, clsOf, abin, aint, aun, dnext, rowsOf, loadObj, cellsOf, ofCells, bnd, hmerge, Nat.reduceBEq, Nat.reduceAdd, reduceIte, Nat.reduceEqDiff, Nat.reduceLeDiff, Int.reduceEq, reduceCtorEq, Int.reduceBEq, Int.reduceBNe, Int.reduceLT, Int.reduceNeg, @use_all r10 6 k1003.ora rfl, e1003, hf, hv40', @use_all r10 8 k1006.ora rfl, e6, @use_all r10 10 k1008.ora rfl, e8, @use_all r10 11 k1012.ora rfl, e12, hp0, hwL', hll, decide_false, List.length_map, lrc_x, apx, apart, apart1, needs]
        exact tail1059 l v P b W d1 hv40 (fun s hs => ⟨by have := d3 s hs; omega, hall s hs⟩) hP hB hsum hpl hps hb6
    · have hv40' : (v.length : Int) > 40 := by omega
      simp only [fn1059_body, c1059, D0, ains, appG, clsOf, abin, aint, aun, dnext, rowsOf, loadObj, cellsOf, ofCells, bnd, hmerge, Nat.reduceBEq, Nat.reduceAdd, reduceIte, Nat.reduceEqDiff, Nat.reduceLeDiff, Int.reduceEq, reduceCtorEq, Int.reduceBEq, Int.reduceBNe, Int.reduceLT, Int.reduceNeg, @use_all r10 6 k1003.ora rfl, e1003, hf, hv40', @use_all r10 7 kW.ora rfl, eW, decide_true]
      simp only [F1, bodyRes, one, ains, appG, clsOf, abin, aint, aun, dnext, rowsOf, loadObj, cellsOf, ofCells, bnd, hmerge, Nat.reduceBEq, Nat.reduceAdd, reduceIte, Nat.reduceEqDiff, Nat.reduceLeDiff, Int.reduceEq, reduceCtorEq, Int.reduceBEq, Int.reduceBNe, Int.reduceLT, Int.reduceNeg, fn1059_res, fn1059_keep]
end Go.Proofs.Abs
