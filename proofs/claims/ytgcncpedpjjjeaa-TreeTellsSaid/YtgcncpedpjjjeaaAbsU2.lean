/- A part of a proof: the text that states the row tells what is proved. No condition is laid on anything. -/
import Derived.Test.YtgcncpedpjjjeaaAbsU1
set_option linter.all false
set_option linter.constructorNameAsVariable false
set_option linter.defProp false
set_option linter.unusedVariables false
set_option linter.unusedSimpArgs false
set_option maxRecDepth 100000
set_option maxHeartbeats 16000000
namespace Go.Proofs.Abs
open Go
/-! 73: caesuraref11.Ends. -/
theorem run73 (t : List Nd) (l : List Int) (lst : List Nat) (hw : WfT t) (hb : begs t = some lst) (hl : l.length ≤ 1000000) (ht : t.length ≤ 40000) : cwp y7 73 [] [(AV.list 5 (List.map eNd t)), (AV.list 1 (List.map (fun x => [AV.int .i64 x]) (l)))] [] (fun r H => r = .list 1 (outR t l (l.length + 1) t.length) ∧ H = []) := by
  refine run_fn (fn := fn73) rfl rfl ?_
  obtain ⟨N, hN⟩ : ∃ N, N = l.length + 1 := ⟨_, rfl⟩
  have w1 : IntKind.i64.wrap ((l.length : Int) + 1) = (N : Int) := by rw [hN]; exact wrapp (j := l.length) (by omega)
  rw [← hN]
  simp only [fn73_body, c73, mach, dat2, wanted, putd, eset, eget, AX.ev, ains, params, Nat.reduceBEq, Nat.reduceAdd, reduceIte, Nat.reduceEqDiff, slots, dnext, clsOf, abin, aint, aun, agetl, foldMin, Nat.reduceLeDiff, List.isEmpty, Int.reduceEq, argsOf, St.add, hadd, hget, fget, hset, fset, cellsOf, loadObj, ofCells, reduceCtorEq, partsOfA, afill, Int.reduceBEq, Int.reduceBNe, Int.reduceLT, Int.reduceNeg, partsOf, setRows, rowsOf, hmerge, hpop, bnd, w1]
  refine lg_rule (fun k e H => e = [(0, (AV.list 5 (List.map eNd t))), (1, (AV.list 1 (List.map (fun x => [AV.int .i64 x]) (l)))), (4, .own [0] 0), (5, .int .i64 (N : Int)), (6, .own [5] k), (7, .int .i64 k)] ∧ (∃ F, H = [F] ∧ fget F [5] = some (.row true true 87 1 (outR t l N k))) ∧ k ≤ t.length) t.length ?_ ?_
  · exact ⟨rfl, ⟨_, rfl, rfl⟩, by omega⟩
  rintro k e H ⟨rfl, ⟨F, rfl, hF⟩, hk⟩
  simp only [mach, dat2, wanted, putd, eset, eget, AX.ev, ains, params, Nat.reduceBEq, Nat.reduceAdd, reduceIte, Nat.reduceEqDiff, slots, dnext, clsOf, abin, aint, aun, agetl, foldMin, Nat.reduceLeDiff, List.isEmpty, Int.reduceEq, argsOf, St.add, hadd, hget, fget, hset, fset, cellsOf, loadObj, ofCells, reduceCtorEq, partsOfA, afill, Int.reduceBEq, Int.reduceBNe, Int.reduceLT, Int.reduceNeg, partsOf, setRows, rowsOf, hmerge, hpop, bnd]
  by_cases h : k < t.length
  · have h' : (k : Int) < (t.length : Int) := by omega
    have hpk := wrapp (j := k) (by omega)
    have hm24 : 0 ≤ (N : Int) ∧ (N : Int) * ((24 : Nat) : Int) ≤ 140737488355328 := by omega
    have hm1 : 0 ≤ (N : Int) ∧ (N : Int) * ((1 : Nat) : Int) ≤ 140737488355328 := by omega
    have hc0 := cellsI_zero N k
    simp only [mach, dat2, wanted, putd, eset, eget, AX.ev, ains, params, Nat.reduceBEq, Nat.reduceAdd, reduceIte, Nat.reduceEqDiff, slots, dnext, clsOf, abin, aint, aun, agetl, foldMin, Nat.reduceLeDiff, List.isEmpty, Int.reduceEq, argsOf, St.add, hadd, hget, fget, hset, fset, cellsOf, loadObj, ofCells, reduceCtorEq, partsOfA, afill, Int.reduceBEq, Int.reduceBNe, Int.reduceLT, Int.reduceNeg, partsOf, setRows, rowsOf, hmerge, hpop, bnd, h', hm24, hc0, decide_true, Int.toNat_natCast]
    refine lg_rule (fun i e H => e = [(0, (AV.list 5 (List.map eNd t))), (1, (AV.list 1 (List.map (fun x => [AV.int .i64 x]) (l)))), (4, .own [0] 0), (5, .int .i64 (N : Int)), (6, .own [5] k), (7, .int .i64 k), (8, .own [7, k, 5] N), (9, .int .i64 i)] ∧ RI t l N k F i H ∧ i ≤ N) N ?_ ?_
    · exact ⟨rfl, ⟨_, true, rfl, by simp [fget], by omega, by simp [fget], fun i' hi' => by omega⟩, by omega⟩
    rintro i e H ⟨rfl, hRI, hi⟩
    obtain ⟨G, fl, rfl, hG1, hG2, hG3, hG4⟩ := hRI
    simp only [mach, dat2, wanted, putd, eset, eget, AX.ev, ains, params, Nat.reduceBEq, Nat.reduceAdd, reduceIte, Nat.reduceEqDiff, slots, dnext, clsOf, abin, aint, aun, agetl, foldMin, Nat.reduceLeDiff, List.isEmpty, Int.reduceEq, argsOf, St.add, hadd, hget, fget, hset, fset, cellsOf, loadObj, ofCells, reduceCtorEq, partsOfA, afill, Int.reduceBEq, Int.reduceBNe, Int.reduceLT, Int.reduceNeg, partsOf, setRows, rowsOf, hmerge, hpop, bnd]
    by_cases h2 : i < N
    · have h2' : (i : Int) < (N : Int) := by omega
      have hpi := wrapp (j := i) (by omega)
      have hg := map_get (f := eNd) h default
      have hsl := (hw.all _ (getD_mem h)).set.len
      have hci := cellsI_get (k := k) h2
      have hci2 := cellsI_succ_get (k := k) h2
      have hcs := cellsI_set N k i
      unfold Bid at hci2 hcs
      have hfs : ∀ x, fget (fset G [7, k, 5] x) [7, k, 5] = some x := fun x => by rw [fget_fset]; simp [hG1]
      have hfs5 : ∀ x, fget (fset G [7, k, 5] x) [5] = none := fun x => by rw [fget_fset, if_neg (by simp)]; exact hG3
      have hbr := brow_rep N
      have bs := fun f j v => brow_set N f j v
      have hstep := fun fb f hf => RI.step (t := t) (l := l) (N := N) (k := k) (i := i) (F := F) (G := G) (fl := fl) (fb := fb) (f := f) hG1 hG3 hG4 hf
      obtain ⟨hle, hcut⟩ := begs_cut hb k h
      have hne : t[k] = t.getD k default := by
        rw [List.getD_eq_getElem?_getD, List.getElem?_eq_getElem h]
        rfl
      rw [hne] at hcut
      generalize hx : t.getD k default = x at hg hsl hcut
      obtain ⟨kk, a, b, c, z⟩ := x
      simp only at hsl
      simp only [mach, dat2, wanted, putd, eset, eget, AX.ev, ains, params, Nat.reduceBEq, Nat.reduceAdd, reduceIte, Nat.reduceEqDiff, slots, dnext, clsOf, abin, aint, aun, agetl, foldMin, Nat.reduceLeDiff, List.isEmpty, Int.reduceEq, argsOf, St.add, hadd, hget, fget, hset, fset, cellsOf, loadObj, ofCells, reduceCtorEq, partsOfA, afill, Int.reduceBEq, Int.reduceBNe, Int.reduceLT, Int.reduceNeg, partsOf, setRows, rowsOf, hmerge, hpop, bnd, h2', hm1, hG1, hci, hcs, cellsI_len, hbr, hfs, hfs5, hg, eNd, eSet, Bool.and_false, decide_true, Int.natCast_nonneg, Int.toNat_natCast]
      by_cases k1 : kk = 1
      · subst k1
        simp only [mach, dat2, wanted, putd, eset, eget, AX.ev, ains, params, Nat.reduceBEq, Nat.reduceAdd, reduceIte, Nat.reduceEqDiff, slots, dnext, clsOf, abin, aint, aun, agetl, foldMin, Nat.reduceLeDiff, List.isEmpty, Int.reduceEq, argsOf, St.add, hadd, hget, fget, hset, fset, cellsOf, loadObj, ofCells, reduceCtorEq, partsOfA, afill, Int.reduceBEq, Int.reduceBNe, Int.reduceLT, Int.reduceNeg, partsOf, setRows, rowsOf, hmerge, hpop, bnd, hfs, hfs5, hci2, cellsI_len, brow_len, brow_get _ h2, bs, h2', hpi, Bool.and_false, Int.natCast_nonneg, Int.toNat_natCast]
        exact .inl ⟨h2, hstep _ _ fun j hj => Ek_empty (by rw [hx]) i j, h2⟩
      have k1' : (kk == 1) = false := by simpa using k1
      by_cases k2 : kk = 2
      · subst k2
        by_cases hil : i < l.length
        · have hil' : (i : Int) < (l.length : Int) := by omega
          have hi1 : ((i + 1 : Nat) : Int) < (N : Int) := by omega
          have hgl := map_get (f := fun x : Int => [AV.int .i64 x]) (l := l) (j := i) hil 0
          simp only [mach, dat2, wanted, putd, eset, eget, AX.ev, ains, params, Nat.reduceBEq, Nat.reduceAdd, reduceIte, Nat.reduceEqDiff, slots, dnext, clsOf, abin, aint, aun, agetl, foldMin, Nat.reduceLeDiff, List.isEmpty, Int.reduceEq, argsOf, St.add, hadd, hget, fget, hset, fset, cellsOf, loadObj, ofCells, reduceCtorEq, partsOfA, afill, Int.reduceBEq, Int.reduceBNe, Int.reduceLT, Int.reduceNeg, partsOf, setRows, rowsOf, hmerge, hpop, bnd, hfs, hfs5, hci2, cellsI_len, brow_len, brow_get _ h2, bs, h2', hpi, Bool.and_false, Int.natCast_nonneg, Int.toNat_natCast, @cg59 y7 rfl, @dcg59 y7 rfl, hsl, hil', hi1, hgl, hg, eNd, eSet, brow_get _ (show i + 1 < N by omega), lrc_x, apx, apart, apart1, needs, decide_true]
          refine .inl ⟨h2, hstep _ _ fun j hj => ?_, h2⟩
          have := Ek_one (t := t) (l := l) (k := k) (by rw [hx]) i j
          rw [hx] at this
          exact this
        · have hil' : ¬ (i : Int) < (l.length : Int) := by omega
          simp only [mach, dat2, wanted, putd, eset, eget, AX.ev, ains, params, Nat.reduceBEq, Nat.reduceAdd, reduceIte, Nat.reduceEqDiff, slots, dnext, clsOf, abin, aint, aun, agetl, foldMin, Nat.reduceLeDiff, List.isEmpty, Int.reduceEq, argsOf, St.add, hadd, hget, fget, hset, fset, cellsOf, loadObj, ofCells, reduceCtorEq, partsOfA, afill, Int.reduceBEq, Int.reduceBNe, Int.reduceLT, Int.reduceNeg, partsOf, setRows, rowsOf, hmerge, hpop, bnd, hfs, hfs5, hci2, cellsI_len, brow_len, brow_get _ h2, bs, h2', hpi, Bool.and_false, Int.natCast_nonneg, Int.toNat_natCast, hil', decide_false]
          exact .inl ⟨h2, hstep _ _ fun j hj => (Ek_oneout (by rw [hx]) (by omega)).symm, h2⟩
      have k2' : (kk == 2) = false := by simpa using k2
      by_cases k3 : kk = 3
      · subst k3
        simp only [mach, dat2, wanted, putd, eset, eget, AX.ev, ains, params, Nat.reduceBEq, Nat.reduceAdd, reduceIte, Nat.reduceEqDiff, slots, dnext, clsOf, abin, aint, aun, agetl, foldMin, Nat.reduceLeDiff, List.isEmpty, Int.reduceEq, argsOf, St.add, hadd, hget, fget, hset, fset, cellsOf, loadObj, ofCells, reduceCtorEq, partsOfA, afill, Int.reduceBEq, Int.reduceBNe, Int.reduceLT, Int.reduceNeg, partsOf, setRows, rowsOf, hmerge, hpop, bnd, hfs, hfs5, hci2, cellsI_len, brow_len, brow_get _ h2, bs, h2', hpi, Bool.and_false, Int.natCast_nonneg, Int.toNat_natCast]
        have hab : ∃ a' b' : Nat, a = a' ∧ b = b' ∧ a' < k ∧ b' < k := by
          cases hcut with
          | fork hf c2 hb0 c1 ha hn2 hg0 =>
            simp only at ha hb0
            have := (begs_cut hb (k - 1) (by omega)).1
            exact ⟨lst.getD (k - 1) 0 - 1, k - 1, by omega, by omega, by omega, by omega⟩
          | star hf hk5 => simp only at hk5; omega
          | leaf hf hk5 => simp [isFork] at hf
        obtain ⟨a', b', rfl, rfl, ha', hb'⟩ := hab
        have hai : (a' : Int) < (k : Int) := by omega
        have hbi : (b' : Int) < (k : Int) := by omega
        have oa := outR_get (t := t) (l := l) (N := N) ha'
        have ob := outR_get (t := t) (l := l) (N := N) hb'
        have ma := mrows_get (Ek t l a') h2
        refine lg_rule (fun c e H => e = [(0, (AV.list 5 (List.map eNd t))), (1, (AV.list 1 (List.map (fun x => [AV.int .i64 x]) (l)))), (4, .own [0] 0), (5, .int .i64 (N : Int)), (6, .own [5] k), (7, .int .i64 k), (8, .own [7, k, 5] N), (9, .int .i64 i), (40, .int .i64 3), (10, .int .i64 (i + c : Nat))] ∧ (∃ fb f, H = [[([7, k, 8, i, 6], .row true fb 4 1 (brow N f))], fset G [7, k, 5] (.row true false 86 1 (cellsI N k (i + 1))), F] ∧ ∀ j, j < N → f j = catG t l a' b' i c j) ∧ i + c ≤ N) (N - i) ?_ ?_
        · exact ⟨rfl, ⟨true, _, rfl, fun j hj => rfl⟩, by omega⟩
        rintro m e H ⟨rfl, ⟨fb, f, rfl, hf⟩, hmN⟩
        simp only [mach, dat2, wanted, putd, eset, eget, AX.ev, ains, params, Nat.reduceBEq, Nat.reduceAdd, reduceIte, Nat.reduceEqDiff, slots, dnext, clsOf, abin, aint, aun, agetl, foldMin, Nat.reduceLeDiff, List.isEmpty, Int.reduceEq, argsOf, St.add, hadd, hget, fget, hset, fset, cellsOf, loadObj, ofCells, reduceCtorEq, partsOfA, afill, Int.reduceBEq, Int.reduceBNe, Int.reduceLT, Int.reduceNeg, partsOf, setRows, rowsOf, hmerge, hpop, bnd]
        by_cases hm : i + m < N
        · have hm' : ((i + m : Nat) : Int) < (N : Int) := by omega
          have hpm : IntKind.i64.wrap (((i + m : Nat) : Int) + 1) = ((i + (m + 1) : Nat) : Int) := wrapp (j := i + m) (by omega)
          have bam := brow_get (Ek t l a' i) hm
          have mb := mrows_get (Ek t l b') hm
          simp only [mach, dat2, wanted, putd, eset, eget, AX.ev, ains, params, Nat.reduceBEq, Nat.reduceAdd, reduceIte, Nat.reduceEqDiff, slots, dnext, clsOf, abin, aint, aun, agetl, foldMin, Nat.reduceLeDiff, List.isEmpty, Int.reduceEq, argsOf, St.add, hadd, hget, fget, hset, fset, cellsOf, loadObj, ofCells, reduceCtorEq, partsOfA, afill, Int.reduceBEq, Int.reduceBNe, Int.reduceLT, Int.reduceNeg, partsOf, setRows, rowsOf, hmerge, hpop, bnd, hF, hfs, hfs5, hci2, cellsI_len, brow_len, outR_len, bs, h2', Bool.and_false, Int.natCast_nonneg, Int.toNat_natCast, hg, eNd, eSet, hm', decide_true]
          refine lg_rule (fun d e H => e = [(0, (AV.list 5 (List.map eNd t))), (1, (AV.list 1 (List.map (fun x => [AV.int .i64 x]) (l)))), (4, .own [0] 0), (5, .int .i64 (N : Int)), (6, .own [5] k), (7, .int .i64 k), (8, .own [7, k, 5] N), (9, .int .i64 i), (40, .int .i64 3), (10, .int .i64 (i + m : Nat)), (11, .int .i64 (i + m + d : Nat))] ∧ (∃ fb f, H = [] :: [[([7, k, 8, i, 6], .row true fb 4 1 (brow N f))], fset G [7, k, 5] (.row true false 86 1 (cellsI N k (i + 1))), F] ∧ ∀ j, j < N → f j = if j < i + m + d then catG t l a' b' i (m + 1) j else catG t l a' b' i m j) ∧ i + m + d ≤ N) (N - (i + m)) ?_ ?_
          · refine ⟨rfl, ⟨fb, f, rfl, fun j hj => ?_⟩, by omega⟩
            rw [hf j hj]
            split
            · rw [catG_succ, Ek_lt (t := t) (l := l) (k := b') (i := i + m) (j := j) (by omega), Bool.and_false, Bool.or_false]
            · rfl
          rintro d e H ⟨rfl, ⟨fb, f, rfl, hf⟩, hd⟩
          simp only [mach, dat2, wanted, putd, eset, eget, AX.ev, ains, params, Nat.reduceBEq, Nat.reduceAdd, reduceIte, Nat.reduceEqDiff, slots, dnext, clsOf, abin, aint, aun, agetl, foldMin, Nat.reduceLeDiff, List.isEmpty, Int.reduceEq, argsOf, St.add, hadd, hget, fget, hset, fset, cellsOf, loadObj, ofCells, reduceCtorEq, partsOfA, afill, Int.reduceBEq, Int.reduceBNe, Int.reduceLT, Int.reduceNeg, partsOf, setRows, rowsOf, hmerge, hpop, bnd]
          by_cases hdN : i + m + d < N
          · have hdN' : ((i + m + d : Nat) : Int) < (N : Int) := by omega
            have hpd : IntKind.i64.wrap (((i + m + d : Nat) : Int) + 1) = ((i + m + (d + 1) : Nat) : Int) := wrapp (j := i + m + d) (by omega)
            have bfj := brow_get f hdN
            have bbj := brow_get (Ek t l b' (i + m)) hdN
            have hcs2 := catG_succ (t := t) (l := l) a' b' i m
            by_cases c1 : Ek t l a' i (i + m) = true
            · have fin : ∀ v, v = catG t l a' b' i (m + 1) (i + m + d) → ∀ j, j < N → fupd f (i + m + d) v j = if j < i + m + (d + 1) then catG t l a' b' i (m + 1) j else catG t l a' b' i m j := fun v hv j hj => by
                unfold fupd
                by_cases e : j = i + m + d
                · subst e; rw [if_pos rfl, hv, if_pos (by omega)]
                · rw [if_neg e, hf j hj]
                  by_cases e2 : j < i + m + d
                  · rw [if_pos e2, if_pos (by omega)]
                  · rw [if_neg e2, if_neg (by omega)]
              have hfj := hf (i + m + d) hdN
              rw [if_neg (by omega)] at hfj
              clear hf
              by_cases c2 : f (i + m + d) = true
              · simp only [mach, dat2, wanted, putd, eset, eget, AX.ev, ains, params, Nat.reduceBEq, Nat.reduceAdd, reduceIte, Nat.reduceEqDiff, slots, dnext, clsOf, abin, aint, aun, agetl, foldMin, Nat.reduceLeDiff, List.isEmpty, Int.reduceEq, argsOf, St.add, hadd, hget, fget, hset, fset, cellsOf, loadObj, ofCells, reduceCtorEq, partsOfA, afill, Int.reduceBEq, Int.reduceBNe, Int.reduceLT, Int.reduceNeg, partsOf, setRows, rowsOf, hmerge, hpop, bnd, hF, hfs, hfs5, hci2, cellsI_len, brow_len, outR_len, bs, h2', Bool.and_false, Int.natCast_nonneg, Int.toNat_natCast, hg, eNd, eSet, hdN', hpd, hai, hbi, oa, ob, ma, mb, bam, bbj, bfj, c1, c2, lrc_x, apx, apart, apart1, needs, decide_true]
                exact .inl ⟨by omega, ⟨_, _, rfl, fin _ (by rw [hcs2, ← hfj, c2]; rfl)⟩, by omega⟩
              · have c2' : f (i + m + d) = false := by simpa using c2
                simp only [mach, dat2, wanted, putd, eset, eget, AX.ev, ains, params, Nat.reduceBEq, Nat.reduceAdd, reduceIte, Nat.reduceEqDiff, slots, dnext, clsOf, abin, aint, aun, agetl, foldMin, Nat.reduceLeDiff, List.isEmpty, Int.reduceEq, argsOf, St.add, hadd, hget, fget, hset, fset, cellsOf, loadObj, ofCells, reduceCtorEq, partsOfA, afill, Int.reduceBEq, Int.reduceBNe, Int.reduceLT, Int.reduceNeg, partsOf, setRows, rowsOf, hmerge, hpop, bnd, hF, hfs, hfs5, hci2, cellsI_len, brow_len, outR_len, bs, h2', Bool.and_false, Int.natCast_nonneg, Int.toNat_natCast, hg, eNd, eSet, hdN', hpd, hai, hbi, oa, ob, ma, mb, bam, bbj, bfj, c1, c2', lrc_x, apx, apart, apart1, needs, decide_true]
                exact .inl ⟨by omega, ⟨_, _, rfl, fin _ (by rw [hcs2, ← hfj, c2', c1]; simp)⟩, by omega⟩
            · have c1' : Ek t l a' i (i + m) = false := by simpa using c1
              simp only [mach, dat2, wanted, putd, eset, eget, AX.ev, ains, params, Nat.reduceBEq, Nat.reduceAdd, reduceIte, Nat.reduceEqDiff, slots, dnext, clsOf, abin, aint, aun, agetl, foldMin, Nat.reduceLeDiff, List.isEmpty, Int.reduceEq, argsOf, St.add, hadd, hget, fget, hset, fset, cellsOf, loadObj, ofCells, reduceCtorEq, partsOfA, afill, Int.reduceBEq, Int.reduceBNe, Int.reduceLT, Int.reduceNeg, partsOf, setRows, rowsOf, hmerge, hpop, bnd, hF, hfs, hfs5, hci2, cellsI_len, brow_len, outR_len, bs, h2', Bool.and_false, Int.natCast_nonneg, Int.toNat_natCast, hg, eNd, eSet, hdN', hai, oa, ma, bam, c1', decide_true]
              refine .inr ⟨by simp, ?_⟩
              simp only [mach, dat2, wanted, putd, eset, eget, AX.ev, ains, params, Nat.reduceBEq, Nat.reduceAdd, reduceIte, Nat.reduceEqDiff, slots, dnext, clsOf, abin, aint, aun, agetl, foldMin, Nat.reduceLeDiff, List.isEmpty, Int.reduceEq, argsOf, St.add, hadd, hget, fget, hset, fset, cellsOf, loadObj, ofCells, reduceCtorEq, partsOfA, afill, Int.reduceBEq, Int.reduceBNe, Int.reduceLT, Int.reduceNeg, partsOf, setRows, rowsOf, hmerge, hpop, bnd, hpm]
              refine .inl ⟨by omega, ⟨_, _, rfl, fun j hj => ?_⟩, by omega⟩
              rw [hf j hj]
              split
              · rfl
              · rw [hcs2, c1', Bool.false_and, Bool.or_false]
          · have hdN' : ¬ ((i + m + d : Nat) : Int) < (N : Int) := by omega
            simp only [mach, dat2, wanted, putd, eset, eget, AX.ev, ains, params, Nat.reduceBEq, Nat.reduceAdd, reduceIte, Nat.reduceEqDiff, slots, dnext, clsOf, abin, aint, aun, agetl, foldMin, Nat.reduceLeDiff, List.isEmpty, Int.reduceEq, argsOf, St.add, hadd, hget, fget, hset, fset, cellsOf, loadObj, ofCells, reduceCtorEq, partsOfA, afill, Int.reduceBEq, Int.reduceBNe, Int.reduceLT, Int.reduceNeg, partsOf, setRows, rowsOf, hmerge, hpop, bnd, hdN', decide_false]
            refine .inr ⟨by simp, ?_⟩
            simp only [mach, dat2, wanted, putd, eset, eget, AX.ev, ains, params, Nat.reduceBEq, Nat.reduceAdd, reduceIte, Nat.reduceEqDiff, slots, dnext, clsOf, abin, aint, aun, agetl, foldMin, Nat.reduceLeDiff, List.isEmpty, Int.reduceEq, argsOf, St.add, hadd, hget, fget, hset, fset, cellsOf, loadObj, ofCells, reduceCtorEq, partsOfA, afill, Int.reduceBEq, Int.reduceBNe, Int.reduceLT, Int.reduceNeg, partsOf, setRows, rowsOf, hmerge, hpop, bnd, hpm]
            refine .inl ⟨by omega, ⟨_, _, rfl, fun j hj => ?_⟩, by omega⟩
            rw [hf j hj, if_pos (by omega)]
        · have hm' : ¬ ((i + m : Nat) : Int) < (N : Int) := by omega
          have hme : m = N - i := by omega
          subst hme
          simp only [mach, dat2, wanted, putd, eset, eget, AX.ev, ains, params, Nat.reduceBEq, Nat.reduceAdd, reduceIte, Nat.reduceEqDiff, slots, dnext, clsOf, abin, aint, aun, agetl, foldMin, Nat.reduceLeDiff, List.isEmpty, Int.reduceEq, argsOf, St.add, hadd, hget, fget, hset, fset, cellsOf, loadObj, ofCells, reduceCtorEq, partsOfA, afill, Int.reduceBEq, Int.reduceBNe, Int.reduceLT, Int.reduceNeg, partsOf, setRows, rowsOf, hmerge, hpop, bnd, hm', decide_false]
          refine .inr ⟨by simp, ?_⟩
          simp only [mach, dat2, wanted, putd, eset, eget, AX.ev, ains, params, Nat.reduceBEq, Nat.reduceAdd, reduceIte, Nat.reduceEqDiff, slots, dnext, clsOf, abin, aint, aun, agetl, foldMin, Nat.reduceLeDiff, List.isEmpty, Int.reduceEq, argsOf, St.add, hadd, hget, fget, hset, fset, cellsOf, loadObj, ofCells, reduceCtorEq, partsOfA, afill, Int.reduceBEq, Int.reduceBNe, Int.reduceLT, Int.reduceNeg, partsOf, setRows, rowsOf, hmerge, hpop, bnd, hpi]
          exact .inl ⟨h2, hstep _ _ fun j hj => by rw [hf j hj]; exact Ek_cat (by rw [hx]) (by rw [hx]) (by rw [hx]) ha' hb' h2 hj, h2⟩
      have k3' : (kk == 3) = false := by simpa using k3
      by_cases k4 : kk = 4
      · subst k4
        simp only [mach, dat2, wanted, putd, eset, eget, AX.ev, ains, params, Nat.reduceBEq, Nat.reduceAdd, reduceIte, Nat.reduceEqDiff, slots, dnext, clsOf, abin, aint, aun, agetl, foldMin, Nat.reduceLeDiff, List.isEmpty, Int.reduceEq, argsOf, St.add, hadd, hget, fget, hset, fset, cellsOf, loadObj, ofCells, reduceCtorEq, partsOfA, afill, Int.reduceBEq, Int.reduceBNe, Int.reduceLT, Int.reduceNeg, partsOf, setRows, rowsOf, hmerge, hpop, bnd, hfs, hfs5, hci2, cellsI_len, brow_len, brow_get _ h2, bs, h2', hpi, Bool.and_false, Int.natCast_nonneg, Int.toNat_natCast]
        have hab : ∃ a' b' : Nat, a = a' ∧ b = b' ∧ a' < k ∧ b' < k := by
          cases hcut with
          | fork hf c2 hb0 c1 ha hn2 hg0 =>
            simp only at ha hb0
            have := (begs_cut hb (k - 1) (by omega)).1
            exact ⟨lst.getD (k - 1) 0 - 1, k - 1, by omega, by omega, by omega, by omega⟩
          | star hf hk5 => simp only at hk5; omega
          | leaf hf hk5 => simp [isFork] at hf
        obtain ⟨a', b', rfl, rfl, ha', hb'⟩ := hab
        have hai : (a' : Int) < (k : Int) := by omega
        have hbi : (b' : Int) < (k : Int) := by omega
        have oa := outR_get (t := t) (l := l) (N := N) ha'
        have ob := outR_get (t := t) (l := l) (N := N) hb'
        have ma := mrows_get (Ek t l a') h2
        have mb := mrows_get (Ek t l b') h2
        refine lg_rule (fun d e H => e = [(0, (AV.list 5 (List.map eNd t))), (1, (AV.list 1 (List.map (fun x => [AV.int .i64 x]) (l)))), (4, .own [0] 0), (5, .int .i64 (N : Int)), (6, .own [5] k), (7, .int .i64 k), (8, .own [7, k, 5] N), (9, .int .i64 i), (40, .int .i64 4), (12, .int .i64 (i + d : Nat))] ∧ (∃ fb f, H = [[([7, k, 8, i, 6], .row true fb 4 1 (brow N f))], fset G [7, k, 5] (.row true false 86 1 (cellsI N k (i + 1))), F] ∧ ∀ j, j < N → f j = (decide (j < i + d) && Ek t l k i j)) ∧ i + d ≤ N) (N - i) ?_ ?_
        · exact ⟨rfl, ⟨true, _, rfl, fun j hj => by
            by_cases hji : j < i + 0
            · rw [Ek_lt (by omega), Bool.and_false]
            · rw [decide_eq_false hji, Bool.false_and]⟩, by omega⟩
        rintro d e H ⟨rfl, ⟨fb, f, rfl, hf⟩, hd⟩
        simp only [mach, dat2, wanted, putd, eset, eget, AX.ev, ains, params, Nat.reduceBEq, Nat.reduceAdd, reduceIte, Nat.reduceEqDiff, slots, dnext, clsOf, abin, aint, aun, agetl, foldMin, Nat.reduceLeDiff, List.isEmpty, Int.reduceEq, argsOf, St.add, hadd, hget, fget, hset, fset, cellsOf, loadObj, ofCells, reduceCtorEq, partsOfA, afill, Int.reduceBEq, Int.reduceBNe, Int.reduceLT, Int.reduceNeg, partsOf, setRows, rowsOf, hmerge, hpop, bnd]
        by_cases hdN : i + d < N
        · have hdN' : ((i + d : Nat) : Int) < (N : Int) := by omega
          have hpd : IntKind.i64.wrap (((i + d : Nat) : Int) + 1) = ((i + (d + 1) : Nat) : Int) := wrapp (j := i + d) (by omega)
          have ba := brow_get (Ek t l a' i) hdN
          have bb' := brow_get (Ek t l b' i) hdN
          have bfj := brow_get f hdN
          have hE := Ek_alt (t := t) (l := l) (k := k) (by rw [hx]) (a := a') (b := b') (by rw [hx]) (by rw [hx]) ha' hb' i (i + d)
          have fin : ∀ v, v = Ek t l k i (i + d) → ∀ j, j < N → fupd f (i + d) v j = (decide (j < i + (d + 1)) && Ek t l k i j) := fun v hv j hj => by
            unfold fupd
            by_cases e : j = i + d
            · subst e; rw [if_pos rfl, hv, decide_eq_true (by omega), Bool.true_and]
            · rw [if_neg e, hf j hj]
              by_cases e2 : j < i + d
              · rw [decide_eq_true e2, decide_eq_true (show j < i + (d + 1) by omega)]
              · rw [decide_eq_false e2, decide_eq_false (show ¬ j < i + (d + 1) by omega)]
          clear hf
          by_cases c1 : Ek t l a' i (i + d) = true
          · simp only [mach, dat2, wanted, putd, eset, eget, AX.ev, ains, params, Nat.reduceBEq, Nat.reduceAdd, reduceIte, Nat.reduceEqDiff, slots, dnext, clsOf, abin, aint, aun, agetl, foldMin, Nat.reduceLeDiff, List.isEmpty, Int.reduceEq, argsOf, St.add, hadd, hget, fget, hset, fset, cellsOf, loadObj, ofCells, reduceCtorEq, partsOfA, afill, Int.reduceBEq, Int.reduceBNe, Int.reduceLT, Int.reduceNeg, partsOf, setRows, rowsOf, hmerge, hpop, bnd, hF, hfs, hfs5, hci2, cellsI_len, brow_len, outR_len, bs, h2', Bool.and_false, Int.natCast_nonneg, Int.toNat_natCast, hg, eNd, eSet, hdN', hpd, hai, hbi, oa, ob, ma, mb, ba, bb', bfj, c1, lrc_x, apx, apart, apart1, needs, decide_true]
            exact .inl ⟨by omega, ⟨_, _, rfl, fin _ (by rw [hE, c1]; rfl)⟩, by omega⟩
          · have c1' : Ek t l a' i (i + d) = false := by simpa using c1
            simp only [mach, dat2, wanted, putd, eset, eget, AX.ev, ains, params, Nat.reduceBEq, Nat.reduceAdd, reduceIte, Nat.reduceEqDiff, slots, dnext, clsOf, abin, aint, aun, agetl, foldMin, Nat.reduceLeDiff, List.isEmpty, Int.reduceEq, argsOf, St.add, hadd, hget, fget, hset, fset, cellsOf, loadObj, ofCells, reduceCtorEq, partsOfA, afill, Int.reduceBEq, Int.reduceBNe, Int.reduceLT, Int.reduceNeg, partsOf, setRows, rowsOf, hmerge, hpop, bnd, hF, hfs, hfs5, hci2, cellsI_len, brow_len, outR_len, bs, h2', Bool.and_false, Int.natCast_nonneg, Int.toNat_natCast, hg, eNd, eSet, hdN', hpd, hai, hbi, oa, ob, ma, mb, ba, bb', bfj, c1', lrc_x, apx, apart, apart1, needs, decide_true]
            exact .inl ⟨by omega, ⟨_, _, rfl, fin _ (by rw [hE, c1', Bool.false_or])⟩, by omega⟩
        · have hdN' : ¬ ((i + d : Nat) : Int) < (N : Int) := by omega
          simp only [mach, dat2, wanted, putd, eset, eget, AX.ev, ains, params, Nat.reduceBEq, Nat.reduceAdd, reduceIte, Nat.reduceEqDiff, slots, dnext, clsOf, abin, aint, aun, agetl, foldMin, Nat.reduceLeDiff, List.isEmpty, Int.reduceEq, argsOf, St.add, hadd, hget, fget, hset, fset, cellsOf, loadObj, ofCells, reduceCtorEq, partsOfA, afill, Int.reduceBEq, Int.reduceBNe, Int.reduceLT, Int.reduceNeg, partsOf, setRows, rowsOf, hmerge, hpop, bnd, hdN', decide_false]
          refine .inr ⟨by simp, ?_⟩
          simp only [mach, dat2, wanted, putd, eset, eget, AX.ev, ains, params, Nat.reduceBEq, Nat.reduceAdd, reduceIte, Nat.reduceEqDiff, slots, dnext, clsOf, abin, aint, aun, agetl, foldMin, Nat.reduceLeDiff, List.isEmpty, Int.reduceEq, argsOf, St.add, hadd, hget, fget, hset, fset, cellsOf, loadObj, ofCells, reduceCtorEq, partsOfA, afill, Int.reduceBEq, Int.reduceBNe, Int.reduceLT, Int.reduceNeg, partsOf, setRows, rowsOf, hmerge, hpop, bnd, hpi]
          exact .inl ⟨h2, hstep _ _ fun j hj => by rw [hf j hj, decide_eq_true (by omega), Bool.true_and], h2⟩
      have k4' : (kk == 4) = false := by simpa using k4
      by_cases k5 : kk = 5
      · subst k5
        simp only [mach, dat2, wanted, putd, eset, eget, AX.ev, ains, params, Nat.reduceBEq, Nat.reduceAdd, reduceIte, Nat.reduceEqDiff, slots, dnext, clsOf, abin, aint, aun, agetl, foldMin, Nat.reduceLeDiff, List.isEmpty, Int.reduceEq, argsOf, St.add, hadd, hget, fget, hset, fset, cellsOf, loadObj, ofCells, reduceCtorEq, partsOfA, afill, Int.reduceBEq, Int.reduceBNe, Int.reduceLT, Int.reduceNeg, partsOf, setRows, rowsOf, hmerge, hpop, bnd, hfs, hfs5, hci2, cellsI_len, brow_len, brow_get _ h2, bs, h2', hpi, Bool.and_false, Int.natCast_nonneg, Int.toNat_natCast]
        have hab : ∃ a' : Nat, a = a' ∧ a' < k := by
          cases hcut with
          | fork hf => simp [isFork] at hf
          | leaf hf hk5 => exact absurd rfl hk5
          | star hf hk5 c1 ha hb0 hn2 hg0 =>
            simp only at ha
            exact ⟨k - 1, by omega, by omega⟩
        obtain ⟨a', rfl, ha'⟩ := hab
        have hai : (a' : Int) < (k : Int) := by omega
        have oa := outR_get (t := t) (l := l) (N := N) ha'
        refine lg_rule (fun c e H => e = [(0, (AV.list 5 (List.map eNd t))), (1, (AV.list 1 (List.map (fun x => [AV.int .i64 x]) (l)))), (4, .own [0] 0), (5, .int .i64 (N : Int)), (6, .own [5] k), (7, .int .i64 k), (8, .own [7, k, 5] N), (9, .int .i64 i), (40, .int .i64 5), (13, .int .i64 (i + c : Nat))] ∧ (∃ fb f, H = [[([7, k, 8, i, 6], .row true fb 4 1 (brow N f))], fset G [7, k, 5] (.row true false 86 1 (cellsI N k (i + 1))), F] ∧ ∀ j, j < N → f j = starG t l a' i c j) ∧ i + c ≤ N) (N - i) ?_ ?_
        · exact ⟨rfl, ⟨false, _, rfl, fun j hj => by simp [fupd, starG]⟩, by omega⟩
        rintro m e H ⟨rfl, ⟨fb, f, rfl, hf⟩, hmN⟩
        simp only [mach, dat2, wanted, putd, eset, eget, AX.ev, ains, params, Nat.reduceBEq, Nat.reduceAdd, reduceIte, Nat.reduceEqDiff, slots, dnext, clsOf, abin, aint, aun, agetl, foldMin, Nat.reduceLeDiff, List.isEmpty, Int.reduceEq, argsOf, St.add, hadd, hget, fget, hset, fset, cellsOf, loadObj, ofCells, reduceCtorEq, partsOfA, afill, Int.reduceBEq, Int.reduceBNe, Int.reduceLT, Int.reduceNeg, partsOf, setRows, rowsOf, hmerge, hpop, bnd]
        by_cases hm : i + m < N
        · have hm' : ((i + m : Nat) : Int) < (N : Int) := by omega
          have hpm : IntKind.i64.wrap (((i + m : Nat) : Int) + 1) = ((i + (m + 1) : Nat) : Int) := wrapp (j := i + m) (by omega)
          have mam := mrows_get (Ek t l a') hm
          simp only [mach, dat2, wanted, putd, eset, eget, AX.ev, ains, params, Nat.reduceBEq, Nat.reduceAdd, reduceIte, Nat.reduceEqDiff, slots, dnext, clsOf, abin, aint, aun, agetl, foldMin, Nat.reduceLeDiff, List.isEmpty, Int.reduceEq, argsOf, St.add, hadd, hget, fget, hset, fset, cellsOf, loadObj, ofCells, reduceCtorEq, partsOfA, afill, Int.reduceBEq, Int.reduceBNe, Int.reduceLT, Int.reduceNeg, partsOf, setRows, rowsOf, hmerge, hpop, bnd, hF, hfs, hfs5, hci2, cellsI_len, brow_len, outR_len, bs, h2', Bool.and_false, Int.natCast_nonneg, Int.toNat_natCast, hg, eNd, eSet, hm', decide_true]
          refine lg_rule (fun d e H => e = [(0, (AV.list 5 (List.map eNd t))), (1, (AV.list 1 (List.map (fun x => [AV.int .i64 x]) (l)))), (4, .own [0] 0), (5, .int .i64 (N : Int)), (6, .own [5] k), (7, .int .i64 k), (8, .own [7, k, 5] N), (9, .int .i64 i), (40, .int .i64 5), (13, .int .i64 (i + m : Nat)), (14, .int .i64 (i + m + d : Nat))] ∧ (∃ fb f, H = [] :: [[([7, k, 8, i, 6], .row true fb 4 1 (brow N f))], fset G [7, k, 5] (.row true false 86 1 (cellsI N k (i + 1))), F] ∧ ∀ j, j < N → f j = if j < i + m + d then starG t l a' i (m + 1) j else starG t l a' i m j) ∧ i + m + d ≤ N) (N - (i + m)) ?_ ?_
          · refine ⟨rfl, ⟨fb, f, rfl, fun j hj => ?_⟩, by omega⟩
            rw [hf j hj]
            split
            · rw [starG, Ek_lt (t := t) (l := l) (k := a') (i := i + m) (j := j) (by omega), Bool.and_false, Bool.or_false]
            · rfl
          rintro d e H ⟨rfl, ⟨fb, f, rfl, hf⟩, hd⟩
          simp only [mach, dat2, wanted, putd, eset, eget, AX.ev, ains, params, Nat.reduceBEq, Nat.reduceAdd, reduceIte, Nat.reduceEqDiff, slots, dnext, clsOf, abin, aint, aun, agetl, foldMin, Nat.reduceLeDiff, List.isEmpty, Int.reduceEq, argsOf, St.add, hadd, hget, fget, hset, fset, cellsOf, loadObj, ofCells, reduceCtorEq, partsOfA, afill, Int.reduceBEq, Int.reduceBNe, Int.reduceLT, Int.reduceNeg, partsOf, setRows, rowsOf, hmerge, hpop, bnd]
          by_cases hdN : i + m + d < N
          · have hdN' : ((i + m + d : Nat) : Int) < (N : Int) := by omega
            have hpd : IntKind.i64.wrap (((i + m + d : Nat) : Int) + 1) = ((i + m + (d + 1) : Nat) : Int) := wrapp (j := i + m + d) (by omega)
            have bfj := brow_get f hdN
            have bfm := brow_get f hm
            have baj := brow_get (Ek t l a' (i + m)) hdN
            have hfm : f (i + m) = starG t l a' i m (i + m) := by
              rw [hf (i + m) hm]
              split
              · rw [starG]; cases starG t l a' i m (i + m) <;> simp
              · rfl
            by_cases c1 : f (i + m) = true
            · have c1s : starG t l a' i m (i + m) = true := by rw [← hfm]; exact c1
              have fin : ∀ v, v = starG t l a' i (m + 1) (i + m + d) → ∀ j, j < N → fupd f (i + m + d) v j = if j < i + m + (d + 1) then starG t l a' i (m + 1) j else starG t l a' i m j := fun v hv j hj => by
                unfold fupd
                by_cases e : j = i + m + d
                · subst e; rw [if_pos rfl, hv, if_pos (by omega)]
                · rw [if_neg e, hf j hj]
                  by_cases e2 : j < i + m + d
                  · rw [if_pos e2, if_pos (by omega)]
                  · rw [if_neg e2, if_neg (by omega)]
              have hfj := hf (i + m + d) hdN
              rw [if_neg (by omega)] at hfj
              clear hf
              by_cases c2 : f (i + m + d) = true
              · simp only [mach, dat2, wanted, putd, eset, eget, AX.ev, ains, params, Nat.reduceBEq, Nat.reduceAdd, reduceIte, Nat.reduceEqDiff, slots, dnext, clsOf, abin, aint, aun, agetl, foldMin, Nat.reduceLeDiff, List.isEmpty, Int.reduceEq, argsOf, St.add, hadd, hget, fget, hset, fset, cellsOf, loadObj, ofCells, reduceCtorEq, partsOfA, afill, Int.reduceBEq, Int.reduceBNe, Int.reduceLT, Int.reduceNeg, partsOf, setRows, rowsOf, hmerge, hpop, bnd, hF, hfs, hfs5, hci2, cellsI_len, brow_len, outR_len, bs, h2', Bool.and_false, Int.natCast_nonneg, Int.toNat_natCast, hg, eNd, eSet, hm', hdN', hpd, hai, oa, mam, baj, bfj, bfm, c1, c2, lrc_x, apx, apart, apart1, needs, decide_true]
                exact .inl ⟨by omega, ⟨_, _, rfl, fin _ (by rw [starG, ← hfj, c2]; rfl)⟩, by omega⟩
              · have c2' : f (i + m + d) = false := by simpa using c2
                simp only [mach, dat2, wanted, putd, eset, eget, AX.ev, ains, params, Nat.reduceBEq, Nat.reduceAdd, reduceIte, Nat.reduceEqDiff, slots, dnext, clsOf, abin, aint, aun, agetl, foldMin, Nat.reduceLeDiff, List.isEmpty, Int.reduceEq, argsOf, St.add, hadd, hget, fget, hset, fset, cellsOf, loadObj, ofCells, reduceCtorEq, partsOfA, afill, Int.reduceBEq, Int.reduceBNe, Int.reduceLT, Int.reduceNeg, partsOf, setRows, rowsOf, hmerge, hpop, bnd, hF, hfs, hfs5, hci2, cellsI_len, brow_len, outR_len, bs, h2', Bool.and_false, Int.natCast_nonneg, Int.toNat_natCast, hg, eNd, eSet, hm', hdN', hpd, hai, oa, mam, baj, bfj, bfm, c1, c2', lrc_x, apx, apart, apart1, needs, decide_true]
                exact .inl ⟨by omega, ⟨_, _, rfl, fin _ (by rw [starG, ← hfj, c2', c1s]; simp)⟩, by omega⟩
            · have c1' : f (i + m) = false := by simpa using c1
              have c1s : starG t l a' i m (i + m) = false := by rw [← hfm]; exact c1'
              simp only [mach, dat2, wanted, putd, eset, eget, AX.ev, ains, params, Nat.reduceBEq, Nat.reduceAdd, reduceIte, Nat.reduceEqDiff, slots, dnext, clsOf, abin, aint, aun, agetl, foldMin, Nat.reduceLeDiff, List.isEmpty, Int.reduceEq, argsOf, St.add, hadd, hget, fget, hset, fset, cellsOf, loadObj, ofCells, reduceCtorEq, partsOfA, afill, Int.reduceBEq, Int.reduceBNe, Int.reduceLT, Int.reduceNeg, partsOf, setRows, rowsOf, hmerge, hpop, bnd, hF, hfs, hfs5, hci2, cellsI_len, brow_len, outR_len, bs, h2', Bool.and_false, Int.natCast_nonneg, Int.toNat_natCast, hg, eNd, eSet, hm', hdN', bfm, c1', decide_true]
              refine .inr ⟨by simp, ?_⟩
              simp only [mach, dat2, wanted, putd, eset, eget, AX.ev, ains, params, Nat.reduceBEq, Nat.reduceAdd, reduceIte, Nat.reduceEqDiff, slots, dnext, clsOf, abin, aint, aun, agetl, foldMin, Nat.reduceLeDiff, List.isEmpty, Int.reduceEq, argsOf, St.add, hadd, hget, fget, hset, fset, cellsOf, loadObj, ofCells, reduceCtorEq, partsOfA, afill, Int.reduceBEq, Int.reduceBNe, Int.reduceLT, Int.reduceNeg, partsOf, setRows, rowsOf, hmerge, hpop, bnd, hpm]
              refine .inl ⟨by omega, ⟨_, _, rfl, fun j hj => ?_⟩, by omega⟩
              rw [hf j hj]
              split
              · rfl
              · rw [starG, c1s, Bool.false_and, Bool.or_false]
          · have hdN' : ¬ ((i + m + d : Nat) : Int) < (N : Int) := by omega
            simp only [mach, dat2, wanted, putd, eset, eget, AX.ev, ains, params, Nat.reduceBEq, Nat.reduceAdd, reduceIte, Nat.reduceEqDiff, slots, dnext, clsOf, abin, aint, aun, agetl, foldMin, Nat.reduceLeDiff, List.isEmpty, Int.reduceEq, argsOf, St.add, hadd, hget, fget, hset, fset, cellsOf, loadObj, ofCells, reduceCtorEq, partsOfA, afill, Int.reduceBEq, Int.reduceBNe, Int.reduceLT, Int.reduceNeg, partsOf, setRows, rowsOf, hmerge, hpop, bnd, hdN', decide_false]
            refine .inr ⟨by simp, ?_⟩
            simp only [mach, dat2, wanted, putd, eset, eget, AX.ev, ains, params, Nat.reduceBEq, Nat.reduceAdd, reduceIte, Nat.reduceEqDiff, slots, dnext, clsOf, abin, aint, aun, agetl, foldMin, Nat.reduceLeDiff, List.isEmpty, Int.reduceEq, argsOf, St.add, hadd, hget, fget, hset, fset, cellsOf, loadObj, ofCells, reduceCtorEq, partsOfA, afill, Int.reduceBEq, Int.reduceBNe, Int.reduceLT, Int.reduceNeg, partsOf, setRows, rowsOf, hmerge, hpop, bnd, hpm]
            refine .inl ⟨by omega, ⟨_, _, rfl, fun j hj => ?_⟩, by omega⟩
            rw [hf j hj, if_pos (by omega)]
        · have hm' : ¬ ((i + m : Nat) : Int) < (N : Int) := by omega
          have hme : m = N - i := by omega
          subst hme
          simp only [mach, dat2, wanted, putd, eset, eget, AX.ev, ains, params, Nat.reduceBEq, Nat.reduceAdd, reduceIte, Nat.reduceEqDiff, slots, dnext, clsOf, abin, aint, aun, agetl, foldMin, Nat.reduceLeDiff, List.isEmpty, Int.reduceEq, argsOf, St.add, hadd, hget, fget, hset, fset, cellsOf, loadObj, ofCells, reduceCtorEq, partsOfA, afill, Int.reduceBEq, Int.reduceBNe, Int.reduceLT, Int.reduceNeg, partsOf, setRows, rowsOf, hmerge, hpop, bnd, hm', decide_false]
          refine .inr ⟨by simp, ?_⟩
          simp only [mach, dat2, wanted, putd, eset, eget, AX.ev, ains, params, Nat.reduceBEq, Nat.reduceAdd, reduceIte, Nat.reduceEqDiff, slots, dnext, clsOf, abin, aint, aun, agetl, foldMin, Nat.reduceLeDiff, List.isEmpty, Int.reduceEq, argsOf, St.add, hadd, hget, fget, hset, fset, cellsOf, loadObj, ofCells, reduceCtorEq, partsOfA, afill, Int.reduceBEq, Int.reduceBNe, Int.reduceLT, Int.reduceNeg, partsOf, setRows, rowsOf, hmerge, hpop, bnd, hpi]
          exact .inl ⟨h2, hstep _ _ fun j hj => by rw [hf j hj]; exact Ek_star (by rw [hx]) (by rw [hx]) ha' h2 hj, h2⟩
      have k5' : (kk == 5) = false := by simpa using k5
      simp only [mach, dat2, wanted, putd, eset, eget, AX.ev, ains, params, Nat.reduceBEq, Nat.reduceAdd, reduceIte, Nat.reduceEqDiff, slots, dnext, clsOf, abin, aint, aun, agetl, foldMin, Nat.reduceLeDiff, List.isEmpty, Int.reduceEq, argsOf, St.add, hadd, hget, fget, hset, fset, cellsOf, loadObj, ofCells, reduceCtorEq, partsOfA, afill, Int.reduceBEq, Int.reduceBNe, Int.reduceLT, Int.reduceNeg, partsOf, setRows, rowsOf, hmerge, hpop, bnd, hfs, hfs5, hci2, cellsI_len, brow_len, brow_get _ h2, bs, h2', hpi, Bool.and_false, Int.natCast_nonneg, Int.toNat_natCast, k1', k2', k3', k4', k5']
      exact .inl ⟨h2, hstep _ _ fun j hj => (Ek_other (by rw [hx]; exact k1) (by rw [hx]; exact k2) (by rw [hx]; exact k3) (by rw [hx]; exact k4) (by rw [hx]; exact k5) i j).symm, h2⟩
    · have h2' : ¬ (i : Int) < (N : Int) := by omega
      have hiN : i = N := by omega
      subst hiN
      obtain ⟨G', hfz, hG5⟩ := RI.froz (F := F) hG1 (by omega) hG2 hG3 hG4
      have hcap : (k + 1) * 24 ≤ 140737488355328 := by omega
      simp only [mach, dat2, wanted, putd, eset, eget, AX.ev, ains, params, Nat.reduceBEq, Nat.reduceAdd, reduceIte, Nat.reduceEqDiff, slots, dnext, clsOf, abin, aint, aun, agetl, foldMin, Nat.reduceLeDiff, List.isEmpty, Int.reduceEq, argsOf, St.add, hadd, hget, fget, hset, fset, cellsOf, loadObj, ofCells, reduceCtorEq, partsOfA, afill, Int.reduceBEq, Int.reduceBNe, Int.reduceLT, Int.reduceNeg, partsOf, setRows, rowsOf, hmerge, hpop, bnd, h2', decide_false]
      refine .inr ⟨by simp, ?_⟩
      simp only [mach, dat2, wanted, putd, eset, eget, AX.ev, ains, params, Nat.reduceBEq, Nat.reduceAdd, reduceIte, Nat.reduceEqDiff, slots, dnext, clsOf, abin, aint, aun, agetl, foldMin, Nat.reduceLeDiff, List.isEmpty, Int.reduceEq, argsOf, St.add, hadd, hget, fget, hset, fset, cellsOf, loadObj, ofCells, reduceCtorEq, partsOfA, afill, Int.reduceBEq, Int.reduceBNe, Int.reduceLT, Int.reduceNeg, partsOf, setRows, rowsOf, hmerge, hpop, bnd, hfz, hF, hG5, hcap, outR_len, outR_succ, hpk]
      refine .inl ⟨h, ⟨_, rfl, ?_⟩, h⟩
      rw [List.cons_append, fget_cons, if_neg (by simp), fget_append, hG5]
      simp [fget_fset, hF]
  · have h' : ¬ (k : Int) < (t.length : Int) := by omega
    have hk2 : k = t.length := by omega
    subst hk2
    simp only [mach, dat2, wanted, putd, eset, eget, AX.ev, ains, params, Nat.reduceBEq, Nat.reduceAdd, reduceIte, Nat.reduceEqDiff, slots, dnext, clsOf, abin, aint, aun, agetl, foldMin, Nat.reduceLeDiff, List.isEmpty, Int.reduceEq, argsOf, St.add, hadd, hget, fget, hset, fset, cellsOf, loadObj, ofCells, reduceCtorEq, partsOfA, afill, Int.reduceBEq, Int.reduceBNe, Int.reduceLT, Int.reduceNeg, partsOf, setRows, rowsOf, hmerge, hpop, bnd, h', decide_false]
    refine .inr ⟨by simp, ?_⟩
    simp only [bodyRes, resOf, one, hpop, hmerge, ob_some, endr, ne_eq, not_false_eq_true, not_true_eq_false, false_or, or_false, dat2, wanted, putd, eset, eget, AX.ev, ains, params, Nat.reduceBEq, Nat.reduceAdd, reduceIte, Nat.reduceEqDiff, slots, dnext, clsOf, abin, aint, aun, agetl, foldMin, Nat.reduceLeDiff, List.isEmpty, Int.reduceEq, argsOf, St.add, hadd, hget, fget, hset, fset, cellsOf, loadObj, ofCells, reduceCtorEq, partsOfA, afill, Int.reduceBEq, Int.reduceBNe, Int.reduceLT, Int.reduceNeg, partsOf, setRows, rowsOf, hmerge, hpop, bnd, fn73_res, fn73_keep, fz, fzd, hF, outR_len]
end Go.Proofs.Abs
