/- A part of a proof: the text that states the row tells what is proved. No condition is laid on anything. -/
import Derived.Test.YtligpalonlliaaaAbsV3
set_option linter.all false
set_option linter.constructorNameAsVariable false
set_option linter.defProp false
set_option linter.unusedVariables false
set_option linter.unusedSimpArgs false
set_option maxRecDepth 100000
set_option maxHeartbeats 16000000
namespace Go.Proofs.Abs
open Go
/-! 1060: caesuralaw04.RefineBands. -/
theorem has_partB {P : List (List R2)} (h : Tile P) {q : Nat} (hq : q < P.length) {v : Int} (hv : isS v = true) : hasS (P.getD q []) v = inS v (P.getD q []) := by
  rw [hasS_iff, h.good _ (getD_memP hq), hv]; rfl
theorem lenS_leB {l : List (List R2)} {s : List R2} (h : s ∈ l) : s.length ≤ lenS l := by
  obtain ⟨a, b, rfl⟩ := List.append_of_mem h
  simp [lenS]
  omega
theorem fair_domB {l : List (List R2)} (h : fairB l = true) : l.length ≤ 150 ∧ lenS l ≤ 150 := by
  have h1 : fairN l ≤ 150 := by simpa [fairB] using h
  have h2 := fairN_len l
  refine ⟨by omega, ?_⟩
  have : ∀ l : List (List R2), fairN l ≤ 150 → lenS l ≤ fairN l := by
    intro l
    induction l with
    | nil => intro _; simp [lenS, fairN]
    | cons s l ih =>
      intro h
      simp only [fairN, List.map_cons, List.sum_cons] at h ⊢
      simp only [lenS, List.map_cons, List.sum_cons]
      have := ih (by simp only [fairN]; omega)
      simp only [lenS, fairN] at this
      omega
  have := this l h1
  omega
theorem tail_none {l P : List (List R2)} (h : Parted l P) : bandsO (P.drop 1) = none ∧ distB (stL (P.drop 1)) = true ∧ lenS (P.drop 1) ≤ lenS P := by
  have hg : ∀ s ∈ P.drop 1, goodS s = true := fun s hs => h.tile.good s (List.mem_of_mem_drop hs)
  have hgd : ∀ i, (P.drop 1).getD i [] = P.getD (i + 1) [] := fun i => by simp [Nat.add_comm]
  refine ⟨bands_none (fun s hs => ?_) hg, dist_of hg fun v i j hv hi hj h1 h2 => ?_, ?_⟩
  · obtain ⟨i, hi, rfl⟩ := List.getElem_of_mem hs
    simp only [List.length_drop] at hi
    rw [Bool.eq_false_iff]
    intro k
    have := h.tile.uniq 0 0 (i + 1) (by decide) (by omega) (by omega) h.zero (by
      rw [← hgd i]
      simpa [List.getElem?_eq_getElem (show 1 + i < P.length by omega), List.getElem?_eq_getElem (show i + 1 < P.length by omega), Nat.add_comm] using k)
    omega
  · simp only [List.length_drop] at hi hj
    rw [hgd] at h1 h2
    have := h.tile.uniq v (i + 1) (j + 1) hv (by omega) (by omega) h1 h2
    omega
  · cases P with
    | nil => simp [lenS]
    | cons s P => simp [lenS]
theorem run1060 (l : List (List R2)) (v : List Int) (wl : l.length ≤ 9223372036854775807 ∧ ∀ s ∈ l, WfS s) (wv : v.length ≤ 9223372036854775807 ∧ ∀ x ∈ v, I64 x) : cwp r12 4 [] [(AV.list 1 (List.map (fun s => [(AV.list 2 (List.map (fun x => [AV.int .i64 x.1, AV.int .i64 x.2]) (s)))]) (l))), (AV.list 1 (List.map (fun x => [AV.int .i64 x]) (v)))] [] (fun r H => r = .bool true ∧ H = []) := by
  refine run_fn (fn := fn1060) rfl rfl ?_
  cases hf : fairB l with
  | false =>
    simp only [fn1060_body, c1060, D0, ains, appG, clsOf, abin, aint, aun, dnext, rowsOf, loadObj, cellsOf, ofCells, bnd, hmerge, Nat.reduceBEq, Nat.reduceAdd, reduceIte, Nat.reduceEqDiff, Nat.reduceLeDiff, Int.reduceEq, reduceCtorEq, Int.reduceBEq, Int.reduceBNe, Int.reduceLT, Int.reduceNeg, @use_all r12 6 k1003.ora rfl, e1003, hf, @use_all r12 7 kW.ora rfl, eW]
    simp only [F1, bodyRes, one, ains, appG, clsOf, abin, aint, aun, dnext, rowsOf, loadObj, cellsOf, ofCells, bnd, hmerge, Nat.reduceBEq, Nat.reduceAdd, reduceIte, Nat.reduceEqDiff, Nat.reduceLeDiff, Int.reduceEq, reduceCtorEq, Int.reduceBEq, Int.reduceBNe, Int.reduceLT, Int.reduceNeg, fn1060_res, fn1060_keep]
  | true =>
    by_cases hv20 : v.length ≤ 20
    · have hv20' : ¬ (v.length : Int) > 20 := by omega
      obtain ⟨d1, d2⟩ := fair_domB hf
      have d3 : ∀ s ∈ l, s.length ≤ 150 := fun s hs => Nat.le_trans (lenS_leB hs) d2
      have dP : l.length ≤ 1000 ∧ lenS l ≤ 1000 ∧ ∀ s ∈ l, s.length ≤ 1000000 := ⟨by omega, by omega, fun s hs => by have := d3 s hs; omega⟩
      cases hb : partsB l with
      | false =>
        simp only [fn1060_body, c1060, D0, ains, appG, clsOf, abin, aint, aun, dnext, rowsOf, loadObj, cellsOf, ofCells, bnd, hmerge, Nat.reduceBEq, Nat.reduceAdd, reduceIte, Nat.reduceEqDiff, Nat.reduceLeDiff, Int.reduceEq, reduceCtorEq, Int.reduceBEq, Int.reduceBNe, Int.reduceLT, Int.reduceNeg, @use_all r12 6 k1003.ora rfl, e1003, hf, hv20', @use_all r12 16 k1007.ora rfl, e1007 l dP, hb, decide_false, @use_all r12 7 kW.ora rfl, eW]
        simp only [F1, bodyRes, one, ains, appG, clsOf, abin, aint, aun, dnext, rowsOf, loadObj, cellsOf, ofCells, bnd, hmerge, Nat.reduceBEq, Nat.reduceAdd, reduceIte, Nat.reduceEqDiff, Nat.reduceLeDiff, Int.reduceEq, reduceCtorEq, Int.reduceBEq, Int.reduceBNe, Int.reduceLT, Int.reduceNeg, fn1060_res, fn1060_keep]
      | true =>
        have hP := parted hb
        obtain ⟨b, hbo, hB, hbl⟩ := bands_ok hP.tile
        obtain ⟨tn, td, tl⟩ := tail_none hP
        have hpl : (partsV l).length ≤ 256 := hP.num.2
        have hdist := dist_of hP.tile.good hP.tile.uniq
        have hps : ∀ s ∈ partsV l, s.length ≤ 400000 := fun s hs => by have := lenS_leB hs; have := hP.len; omega
        have dB : (partsV l).length ≤ 1000 ∧ lenS (partsV l) ≤ 1000 ∧ distB (stL (partsV l)) = true ∧ ∀ s ∈ partsV l, s.length ≤ 1000000 := ⟨by omega, by have := hP.len; omega, hdist, fun s hs => by have := hps s hs; omega⟩
        have dT : ((partsV l).drop 1).length ≤ 1000 ∧ lenS ((partsV l).drop 1) ≤ 1000 ∧ distB (stL ((partsV l).drop 1)) = true ∧ ∀ s ∈ (partsV l).drop 1, s.length ≤ 1000000 := ⟨by simp; omega, by have := hP.len; omega, td, fun s hs => by have := hps s (List.mem_of_mem_drop hs); omega⟩
        have e7 : ∀ (q : Id) (H : Heap), k1007.ora q [(AV.list 1 (List.map (fun s => [(AV.list 2 (List.map (fun x => [AV.int .i64 x.1, AV.int .i64 x.2]) (s)))]) (l)))] H = some (.tuple [(AV.list 1 (List.map (fun s => [(AV.list 2 (List.map (fun x => [AV.int .i64 x.1, AV.int .i64 x.2]) (s)))]) (partsV l))), .bool true], H) := fun q H => by have := e1007 l dP q H; rw [hb] at this; exact this
        have e8 : ∀ (q : Id) (H : Heap), k1008.ora q [(AV.list 1 (List.map (fun s => [(AV.list 2 (List.map (fun x => [AV.int .i64 x.1, AV.int .i64 x.2]) (s)))]) (partsV l)))] H = some (.tuple [(AV.list 2 (List.map (fun x => [AV.int .i64 x.1, AV.int .i64 x.2]) (b))), .bool true], H) := fun q H => by have := e1008 (partsV l) dB q H; rw [hbo] at this; exact this
        have e8t : ∀ (q : Id) (H : Heap), k1008.ora q [(AV.list 1 (List.map (fun s => [(AV.list 2 (List.map (fun x => [AV.int .i64 x.1, AV.int .i64 x.2]) (s)))]) ((partsV l).drop 1)))] H = some (.tuple [.list 2 [], .bool false], H) := fun q H => by have := e1008 ((partsV l).drop 1) dT q H; rw [tn] at this; exact this
        have hb6 : b.length ≤ 1000000 := by have := hP.len; omega
        clear hbo dB dT hdist hbl tn td tl
        generalize partsV l = P at *
        have hb0 : 0 < b.length := hB.pos
        have hbz : ((b.length : Int) == 0) = false := beq_eq_false_iff_ne.2 (by omega)
        have hbi : (0 : Int) < (b.length : Int) := by omega
        have hz0 : (0 : Int) ≤ 0 := Int.le_refl 0
        have hg0 := map_get (f := fun x : Int × Int => [AV.int .i64 x.1, AV.int .i64 x.2]) hb0 (0, 0)
        have hzr := hB.zero
        generalize b.getD 0 (0, 0) = y at hg0 hzr
        obtain ⟨y1, y2⟩ := y
        simp only at hzr
        subst hzr
        have hne0 : ((0 : Int) != 0) = false := by decide
        simp only [fn1060_body, c1060, c1060_4, D0, ains, appG, clsOf, abin, aint, aun, dnext, rowsOf, loadObj, cellsOf, ofCells, bnd, hmerge, Nat.reduceBEq, Nat.reduceAdd, reduceIte, Nat.reduceEqDiff, Nat.reduceLeDiff, Int.reduceEq, reduceCtorEq, Int.reduceBEq, Int.reduceBNe, Int.reduceLT, Int.reduceNeg, @use_all r12 6 k1003.ora rfl, e1003, hf, hv20', @use_all r12 16 k1007.ora rfl, e7, @use_all r12 10 k1008.ora rfl, e8, hbz, hbi, hz0, hg0, hne0, decide_false, decide_true, Int.toNat_zero, List.length_map, lrc_x, apx, apart, apart1, needs]
        refine lg_rule (fun i e H => e = [(0, (AV.list 1 (List.map (fun s => [(AV.list 2 (List.map (fun x => [AV.int .i64 x.1, AV.int .i64 x.2]) (s)))]) (l)))), (1, (AV.list 1 (List.map (fun x => [AV.int .i64 x]) (v)))), (4, .bool false), (5, (AV.list 1 (List.map (fun s => [(AV.list 2 (List.map (fun x => [AV.int .i64 x.1, AV.int .i64 x.2]) (s)))]) (P)))), (6, .bool true), (7, (AV.list 2 (List.map (fun x => [AV.int .i64 x.1, AV.int .i64 x.2]) (b)))), (8, .bool true), (9, .int .i64 i)] ∧ H = [[]] ∧ i ≤ b.length) b.length ?_ ?_
        · exact ⟨rfl, rfl, by simp⟩
        rintro i e H ⟨rfl, rfl, hi⟩
        simp only [D0, ains, appG, clsOf, abin, aint, aun, dnext, rowsOf, loadObj, cellsOf, ofCells, bnd, hmerge, Nat.reduceBEq, Nat.reduceAdd, reduceIte, Nat.reduceEqDiff, Nat.reduceLeDiff, Int.reduceEq, reduceCtorEq, Int.reduceBEq, Int.reduceBNe, Int.reduceLT, Int.reduceNeg]
        by_cases h : i < b.length
        · have h' : (i : Int) < (b.length : Int) := by omega
          have hp := wrapp (j := i) (by omega)
          have hg := map_get (f := fun x : Int × Int => [AV.int .i64 x.1, AV.int .i64 x.2]) h (0, 0)
          obtain ⟨c, hc, hcl, hfs, hin⟩ := hB.cls i h
          have hhas := has_partB hP.tile hcl hfs
          rw [hin] at hhas
          have hgc := map_get (f := fun s : List R2 => [(AV.list 2 (List.map (fun x => [AV.int .i64 x.1, AV.int .i64 x.2]) (s)))]) hcl []
          have hqs := hps _ (getD_memP hcl)
          have hup := fun k : 0 < i => hB.up (i - 1) (by omega)
          have hi1 : ∀ k : 0 < i, i - 1 + 1 = i := fun k => by omega
          by_cases i0 : 0 < i
          · have hup := hup i0
            rw [hi1 i0] at hup
            have hg1 := map_get (f := fun x : Int × Int => [AV.int .i64 x.1, AV.int .i64 x.2]) (l := b) (j := i - 1) (by omega) (0, 0)
            have hw1 := wrapm (j := i) (by omega) (by omega)
            generalize b.getD (i - 1) (0, 0) = y at hg1 hup
            generalize b.getD i (0, 0) = x at hg hc hfs hin hhas hup
            generalize P.getD c [] = q at hgc hqs hhas hin
            obtain ⟨x1, x2⟩ := x
            obtain ⟨y1', y2'⟩ := y
            simp only at hc hup hhas
            subst hc
            have hi0' : (i : Int) > 0 := by omega
            have hc' : (c : Int) < (P.length : Int) := by omega
            have hc0 : ¬ (c : Int) < 0 := by omega
            have hc1 : ¬ (c : Int) ≥ (P.length : Int) := by omega
            have hle : ¬ x1 ≤ y1' := by omega
            have hne : ((c : Int) == y2') = false := beq_eq_false_iff_ne.2 fun k => hup.2 k.symm
            have hq6 : q.length ≤ 1000000 := by omega
            have him : ((i - 1 : Nat) : Int) < (b.length : Int) := by omega
            simp only [c1060_1, D0, ains, appG, clsOf, abin, aint, aun, dnext, rowsOf, loadObj, cellsOf, ofCells, bnd, hmerge, Nat.reduceBEq, Nat.reduceAdd, reduceIte, Nat.reduceEqDiff, Nat.reduceLeDiff, Int.reduceEq, reduceCtorEq, Int.reduceBEq, Int.reduceBNe, Int.reduceLT, Int.reduceNeg, h', hg, hp, hg1, hw1, hgc, hhas, hq6, hi0', hc', hc0, hc1, hle, hne, him, @use_all r12 15 k59.ora rfl, e59, decide_true, decide_false, Int.natCast_nonneg, Int.toNat_natCast, List.length_map]
            simp only [F1, bodyRes, one, ains, appG, clsOf, abin, aint, aun, dnext, rowsOf, loadObj, cellsOf, ofCells, bnd, hmerge, Nat.reduceBEq, Nat.reduceAdd, reduceIte, Nat.reduceEqDiff, Nat.reduceLeDiff, Int.reduceEq, reduceCtorEq, Int.reduceBEq, Int.reduceBNe, Int.reduceLT, Int.reduceNeg]
            exact ⟨h, h⟩
          · have hi0' : ¬ (i : Int) > 0 := by omega
            generalize b.getD i (0, 0) = x at hg hc hfs hin hhas
            generalize P.getD c [] = q at hgc hqs hhas hin
            obtain ⟨x1, x2⟩ := x
            simp only at hc hhas
            subst hc
            have hc' : (c : Int) < (P.length : Int) := by omega
            have hc0 : ¬ (c : Int) < 0 := by omega
            have hc1 : ¬ (c : Int) ≥ (P.length : Int) := by omega
            have hq6 : q.length ≤ 1000000 := by omega
            simp only [c1060_1, D0, ains, appG, clsOf, abin, aint, aun, dnext, rowsOf, loadObj, cellsOf, ofCells, bnd, hmerge, Nat.reduceBEq, Nat.reduceAdd, reduceIte, Nat.reduceEqDiff, Nat.reduceLeDiff, Int.reduceEq, reduceCtorEq, Int.reduceBEq, Int.reduceBNe, Int.reduceLT, Int.reduceNeg, h', hg, hp, hgc, hhas, hq6, hi0', hc', hc0, hc1, @use_all r12 15 k59.ora rfl, e59, decide_true, decide_false, Int.natCast_nonneg, Int.toNat_natCast, List.length_map]
            simp only [F1, bodyRes, one, ains, appG, clsOf, abin, aint, aun, dnext, rowsOf, loadObj, cellsOf, ofCells, bnd, hmerge, Nat.reduceBEq, Nat.reduceAdd, reduceIte, Nat.reduceEqDiff, Nat.reduceLeDiff, Int.reduceEq, reduceCtorEq, Int.reduceBEq, Int.reduceBNe, Int.reduceLT, Int.reduceNeg]
            exact ⟨h, h⟩
        · have h' : ¬ (i : Int) < (b.length : Int) := by omega
          simp only [D0, ains, appG, clsOf, abin, aint, aun, dnext, rowsOf, loadObj, cellsOf, ofCells, bnd, hmerge, Nat.reduceBEq, Nat.reduceAdd, reduceIte, Nat.reduceEqDiff, Nat.reduceLeDiff, Int.reduceEq, reduceCtorEq, Int.reduceBEq, Int.reduceBNe, Int.reduceLT, Int.reduceNeg, h', decide_false]
          refine .inr ⟨by simp, ?_⟩
          simp only [c1060_3, D0, ains, appG, clsOf, abin, aint, aun, dnext, rowsOf, loadObj, cellsOf, ofCells, bnd, hmerge, Nat.reduceBEq, Nat.reduceAdd, reduceIte, Nat.reduceEqDiff, Nat.reduceLeDiff, Int.reduceEq, reduceCtorEq, Int.reduceBEq, Int.reduceBNe, Int.reduceLT, Int.reduceNeg]
          clear hi h h'
          refine lg_rule (fun k e H => e = [(0, (AV.list 1 (List.map (fun s => [(AV.list 2 (List.map (fun x => [AV.int .i64 x.1, AV.int .i64 x.2]) (s)))]) (l)))), (1, (AV.list 1 (List.map (fun x => [AV.int .i64 x]) (v)))), (4, .bool false), (5, (AV.list 1 (List.map (fun s => [(AV.list 2 (List.map (fun x => [AV.int .i64 x.1, AV.int .i64 x.2]) (s)))]) (P)))), (6, .bool true), (7, (AV.list 2 (List.map (fun x => [AV.int .i64 x.1, AV.int .i64 x.2]) (b)))), (8, .bool true), (9, .int .i64 i), (10, .int .i64 k)] ∧ H = [[]] ∧ k ≤ v.length) v.length ?_ ?_
          · exact ⟨rfl, rfl, by simp⟩
          rintro k e H ⟨rfl, rfl, hk⟩
          simp only [D0, ains, appG, clsOf, abin, aint, aun, dnext, rowsOf, loadObj, cellsOf, ofCells, bnd, hmerge, Nat.reduceBEq, Nat.reduceAdd, reduceIte, Nat.reduceEqDiff, Nat.reduceLeDiff, Int.reduceEq, reduceCtorEq, Int.reduceBEq, Int.reduceBNe, Int.reduceLT, Int.reduceNeg]
          by_cases hkv : k < v.length
          · have hkv' : (k : Int) < (v.length : Int) := by omega
            have hpk := wrapp (j := k) (by omega)
            have hgk := map_get (f := fun x : Int => [AV.int .i64 x]) hkv 0
            cases hx : isS (v.getD k 0) with
            | false =>
              generalize v.getD k 0 = x at hgk hx
              have hof : ofBd b x = none := by simp [ofBd, hx]
              simp only [c1060_2, D0, ains, appG, clsOf, abin, aint, aun, dnext, rowsOf, loadObj, cellsOf, ofCells, bnd, hmerge, Nat.reduceBEq, Nat.reduceAdd, reduceIte, Nat.reduceEqDiff, Nat.reduceLeDiff, Int.reduceEq, reduceCtorEq, Int.reduceBEq, Int.reduceBNe, Int.reduceLT, Int.reduceNeg, hkv', hgk, hpk, @use_all r12 13 k1010.ora rfl, e1010 b x hb6, @use_all r12 14 k66.ora rfl, e66, hof, hx, Option.getD_none, Option.isSome_none, bne_self_eq_false, decide_true, Int.natCast_nonneg, Int.toNat_natCast, List.length_map]
              simp only [F1, bodyRes, one, ains, appG, clsOf, abin, aint, aun, dnext, rowsOf, loadObj, cellsOf, ofCells, bnd, hmerge, Nat.reduceBEq, Nat.reduceAdd, reduceIte, Nat.reduceEqDiff, Nat.reduceLeDiff, Int.reduceEq, reduceCtorEq, Int.reduceBEq, Int.reduceBNe, Int.reduceLT, Int.reduceNeg]
              exact ⟨hkv, hkv⟩
            | true =>
              obtain ⟨c, hof, hc, hin⟩ := hB.of _ hx
              generalize v.getD k 0 = x at hgk hx hof hin
              have hc' : (c : Int) < (P.length : Int) := by omega
              have hc0 : ¬ (c : Int) < 0 := by omega
              have hc1 : ¬ (c : Int) ≥ (P.length : Int) := by omega
              have hgc := map_get (f := fun s : List R2 => [(AV.list 2 (List.map (fun x => [AV.int .i64 x.1, AV.int .i64 x.2]) (s)))]) hc []
              have hhas := has_partB hP.tile hc hx
              rw [hin] at hhas
              have hqs := hps _ (getD_memP hc)
              generalize P.getD c [] = q at hgc hhas hqs
              have hq6 : q.length ≤ 1000000 := by omega
              simp only [c1060_2, D0, ains, appG, clsOf, abin, aint, aun, dnext, rowsOf, loadObj, cellsOf, ofCells, bnd, hmerge, Nat.reduceBEq, Nat.reduceAdd, reduceIte, Nat.reduceEqDiff, Nat.reduceLeDiff, Int.reduceEq, reduceCtorEq, Int.reduceBEq, Int.reduceBNe, Int.reduceLT, Int.reduceNeg, hkv', hgk, hpk, @use_all r12 13 k1010.ora rfl, e1010 b x hb6, @use_all r12 14 k66.ora rfl, e66, @use_all r12 15 k59.ora rfl, e59, hof, hx, hgc, hhas, hq6, hc', hc0, hc1, Option.getD_some, Option.isSome_some, bne_self_eq_false, decide_true, decide_false, Int.natCast_nonneg, Int.toNat_natCast, List.length_map]
              simp only [F1, bodyRes, one, ains, appG, clsOf, abin, aint, aun, dnext, rowsOf, loadObj, cellsOf, ofCells, bnd, hmerge, Nat.reduceBEq, Nat.reduceAdd, reduceIte, Nat.reduceEqDiff, Nat.reduceLeDiff, Int.reduceEq, reduceCtorEq, Int.reduceBEq, Int.reduceBNe, Int.reduceLT, Int.reduceNeg]
              exact ⟨hkv, hkv⟩
          · have hkv' : ¬ (k : Int) < (v.length : Int) := by omega
            have hdr : List.drop 1 (List.take P.length (List.map (fun s => [(AV.list 2 (List.map (fun x => [AV.int .i64 x.1, AV.int .i64 x.2]) (s)))]) P)) = List.map (fun s => [(AV.list 2 (List.map (fun x => [AV.int .i64 x.1, AV.int .i64 x.2]) (s)))]) (P.drop 1) := by rw [List.take_of_length_le (by simp), List.map_drop]
            have hp1 : (1 : Int) ≤ (P.length : Int) := by have := hP.num.1; omega
            simp only [D0, ains, appG, clsOf, abin, aint, aun, dnext, rowsOf, loadObj, cellsOf, ofCells, bnd, hmerge, Nat.reduceBEq, Nat.reduceAdd, reduceIte, Nat.reduceEqDiff, Nat.reduceLeDiff, Int.reduceEq, reduceCtorEq, Int.reduceBEq, Int.reduceBNe, Int.reduceLT, Int.reduceNeg, hkv', decide_false]
            refine .inr ⟨by simp, ?_⟩
            have h01 : (0 : Int) ≤ 1 := by decide
            have hT1 : Int.toNat 1 = 1 := rfl
            have hP1 : 1 ≤ P.length := hP.num.1
            have hP2 : P.length ≤ P.length := Nat.le_refl _
            simp only [D0, ains, appG, clsOf, abin, aint, aun, dnext, rowsOf, loadObj, cellsOf, ofCells, bnd, hmerge, Nat.reduceBEq, Nat.reduceAdd, reduceIte, Nat.reduceEqDiff, Nat.reduceLeDiff, Int.reduceEq, reduceCtorEq, Int.reduceBEq, Int.reduceBNe, Int.reduceLT, Int.reduceNeg, hdr, h01, hT1, hP1, hP2, @use_all r12 10 k1008.ora rfl, e8t, @use_all r12 7 kW.ora rfl, eW, decide_true, List.length_map]
            simp only [F1, bodyRes, one, ains, appG, clsOf, abin, aint, aun, dnext, rowsOf, loadObj, cellsOf, ofCells, bnd, hmerge, Nat.reduceBEq, Nat.reduceAdd, reduceIte, Nat.reduceEqDiff, Nat.reduceLeDiff, Int.reduceEq, reduceCtorEq, Int.reduceBEq, Int.reduceBNe, Int.reduceLT, Int.reduceNeg, fn1060_res, fn1060_keep]
    · have hv20' : (v.length : Int) > 20 := by omega
      simp only [fn1060_body, c1060, D0, ains, appG, clsOf, abin, aint, aun, dnext, rowsOf, loadObj, cellsOf, ofCells, bnd, hmerge, Nat.reduceBEq, Nat.reduceAdd, reduceIte, Nat.reduceEqDiff, Nat.reduceLeDiff, Int.reduceEq, reduceCtorEq, Int.reduceBEq, Int.reduceBNe, Int.reduceLT, Int.reduceNeg, @use_all r12 6 k1003.ora rfl, e1003, hf, hv20', @use_all r12 7 kW.ora rfl, eW, decide_true]
      simp only [F1, bodyRes, one, ains, appG, clsOf, abin, aint, aun, dnext, rowsOf, loadObj, cellsOf, ofCells, bnd, hmerge, Nat.reduceBEq, Nat.reduceAdd, reduceIte, Nat.reduceEqDiff, Nat.reduceLeDiff, Int.reduceEq, reduceCtorEq, Int.reduceBEq, Int.reduceBNe, Int.reduceLT, Int.reduceNeg, fn1060_res, fn1060_keep]
end Go.Proofs.Abs
