/- A part of a proof: the text that states the row tells what is proved. No condition is laid on anything. -/
import Derived.Test.YtligpalonlliaaaGreatAbsZ5
set_option linter.all false
set_option linter.constructorNameAsVariable false
set_option linter.defProp false
set_option linter.unusedVariables false
set_option linter.unusedSimpArgs false
set_option maxRecDepth 100000
set_option maxHeartbeats 16000000
namespace Go.Proofs.Abs
open Go
/-! 1006: refine.Parts. -/
/-- Where a part's ranges lie: by the operation that laid them. -/
def kfP (n i : Nat) : Nat := if i + 1 < n then 35 else 25
def stObj (l : List R2) : AObj := .row true true 55 2 (List.map (fun x => [AV.int .i64 x.1, AV.int .i64 x.2]) l)
theorem step_new {F : Fr} {fl : Bool} {z p zr : List Int} {G j q K : Nat} {hi : Int} (hK : kfP z.length j = K) (hq : p.getD j 0 = (q : Int)) (hqG : q < G) (hfi : firI p j q = none) (hhi : hiA z j = hi)
    (hR : fget F [19] = some (.row true fl 45 1 (cellsP 24 (kfP z.length) z p G j))) (hF10 : fget F [10] = some (.row false true 3 1 (List.map (fun x => [AV.int .i64 x]) zr)))
    (hO : ∀ q i, q < G → firI p j q = some i → fget F [24, i, kfP z.length i] = some (.row true true 55 2 (List.map (fun x => [AV.int .i64 x.1, AV.int .i64 x.2]) (rngU z p j q)))) :
    fget (([24, j, K], AObj.row true true 55 2 [[AV.int .i64 (z.getD j 0), AV.int .i64 hi]]) :: fset F [19] (.row true (fl && false) 45 1 ((cellsP 24 (kfP z.length) z p G j).set q [.own [24, j, K] 1]))) [19] = some (.row true (fl && false) 45 1 (cellsP 24 (kfP z.length) z p G (j + 1))) ∧
    fget (([24, j, K], AObj.row true true 55 2 [[AV.int .i64 (z.getD j 0), AV.int .i64 hi]]) :: fset F [19] (.row true (fl && false) 45 1 ((cellsP 24 (kfP z.length) z p G j).set q [.own [24, j, K] 1]))) [10] = some (.row false true 3 1 (List.map (fun x => [AV.int .i64 x]) zr)) ∧
    ∀ q' i, q' < G → firI p (j + 1) q' = some i → fget (([24, j, K], AObj.row true true 55 2 [[AV.int .i64 (z.getD j 0), AV.int .i64 hi]]) :: fset F [19] (.row true (fl && false) 45 1 ((cellsP 24 (kfP z.length) z p G j).set q [.own [24, j, K] 1]))) [24, i, kfP z.length i] = some (.row true true 55 2 (List.map (fun x => [AV.int .i64 x.1, AV.int .i64 x.2]) (rngU z p (j + 1) q'))) := by
  subst hK
  have hcn := cellsP_next (B := 24) (K := kfP z.length) (z := z) hqG hq
  rw [hfi] at hcn
  simp only at hcn
  rw [hcn]
  refine ⟨?_, ?_, fun q' i hq' hf => ?_⟩
  · simp [fget, fget_fset, hR]
  · simp [fget, fget_fset, hF10]
  · rw [firI_next] at hf
    rw [rngU_next]
    cases hfj : firI p j q' with
    | some i' =>
      rw [hfj] at hf
      simp only [Option.some.injEq] at hf
      subst hf
      have hlt := (firI_some hfj).1
      have hne : ¬ p.getD j 0 = (q' : Int) := fun e => by
        have : q' = q := by omega
        subst this
        rw [hfi] at hfj
        cases hfj
      rw [if_neg hne, List.append_nil]
      have hji : ¬ j = i' := by omega
      simp [fget, fget_fset, hji, hO q' i' hq' hfj]
    | none =>
      rw [hfj] at hf
      simp only at hf
      by_cases e : p.getD j 0 = (q' : Int)
      · rw [if_pos e] at hf
        simp only [Option.some.injEq] at hf
        subst hf
        rw [if_pos e, firI_none (z := z) hfj, hhi]
        simp [fget]
      · rw [if_neg e] at hf; cases hf
theorem step_old {F : Fr} {fl : Bool} {z p zr : List Int} {G j q i0 : Nat} {hi : Int} (hq : p.getD j 0 = (q : Int)) (hqG : q < G) (hfi : firI p j q = some i0) (hhi : hiA z j = hi)
    (hR : fget F [19] = some (.row true fl 45 1 (cellsP 24 (kfP z.length) z p G j))) (hF10 : fget F [10] = some (.row false true 3 1 (List.map (fun x => [AV.int .i64 x]) zr)))
    (hO : ∀ q i, q < G → firI p j q = some i → fget F [24, i, kfP z.length i] = some (.row true true 55 2 (List.map (fun x => [AV.int .i64 x.1, AV.int .i64 x.2]) (rngU z p j q)))) :
    fget (fset (fset F [24, i0, kfP z.length i0] (.row true true 55 2 (List.map (fun x => [AV.int .i64 x.1, AV.int .i64 x.2]) (rngU z p j q) ++ [[AV.int .i64 (z.getD j 0), AV.int .i64 hi]]))) [19] (.row true (fl && false) 45 1 ((cellsP 24 (kfP z.length) z p G j).set q [.own [24, i0, kfP z.length i0] ((rngU z p j q).length + 1)]))) [19] = some (.row true (fl && false) 45 1 (cellsP 24 (kfP z.length) z p G (j + 1))) ∧
    fget (fset (fset F [24, i0, kfP z.length i0] (.row true true 55 2 (List.map (fun x => [AV.int .i64 x.1, AV.int .i64 x.2]) (rngU z p j q) ++ [[AV.int .i64 (z.getD j 0), AV.int .i64 hi]]))) [19] (.row true (fl && false) 45 1 ((cellsP 24 (kfP z.length) z p G j).set q [.own [24, i0, kfP z.length i0] ((rngU z p j q).length + 1)]))) [10] = some (.row false true 3 1 (List.map (fun x => [AV.int .i64 x]) zr)) ∧
    ∀ q' i, q' < G → firI p (j + 1) q' = some i → fget (fset (fset F [24, i0, kfP z.length i0] (.row true true 55 2 (List.map (fun x => [AV.int .i64 x.1, AV.int .i64 x.2]) (rngU z p j q) ++ [[AV.int .i64 (z.getD j 0), AV.int .i64 hi]]))) [19] (.row true (fl && false) 45 1 ((cellsP 24 (kfP z.length) z p G j).set q [.own [24, i0, kfP z.length i0] ((rngU z p j q).length + 1)]))) [24, i, kfP z.length i] = some (.row true true 55 2 (List.map (fun x => [AV.int .i64 x.1, AV.int .i64 x.2]) (rngU z p (j + 1) q'))) := by
  have hcn := cellsP_next (B := 24) (K := kfP z.length) (z := z) hqG hq
  rw [hfi] at hcn
  simp only at hcn
  rw [hcn]
  refine ⟨?_, ?_, fun q' i hq' hf => ?_⟩
  · simp [fget_fset, hR]
  · simp [fget_fset, hF10]
  · rw [firI_next] at hf
    rw [rngU_next]
    cases hfj : firI p j q' with
    | some i' =>
      rw [hfj] at hf
      simp only [Option.some.injEq] at hf
      subst hf
      have hOi := hO q' i' hq' hfj
      by_cases e : p.getD j 0 = (q' : Int)
      · have hqq : q' = q := by omega
        subst hqq
        rw [hfi] at hfj
        simp only [Option.some.injEq] at hfj
        subst hfj
        rw [if_pos e, hhi]
        simp [fget_fset, hOi]
      · rw [if_neg e, List.append_nil]
        have hii : ¬ i0 = i' := fun e2 => by
          subst e2
          have a := (firI_some hfi).2
          have b := (firI_some hfj).2
          rw [a] at b
          exact e (by rw [hq]; exact b)
        simp [fget_fset, hii, hOi]
    | none =>
      rw [hfj] at hf
      simp only at hf
      by_cases e : p.getD j 0 = (q' : Int)
      · have hqq : q' = q := by omega
        subst hqq
        rw [hfi] at hfj
        cases hfj
      · rw [if_neg e] at hf; cases hf
theorem firI_ex {p : List Int} {q : Nat} (ok : PlOK p) (hq : q < cntP p) : ∃ i, firI p p.length q = some i := by
  have hm : (q : Int) ∈ p := ok.all q (by have := maxL_int ok; unfold cntP at hq; omega)
  obtain ⟨i, hi, e⟩ := List.getElem_of_mem hm
  cases h : firI p p.length q with
  | some i => exact ⟨i, rfl⟩
  | none =>
    unfold firI at h
    rw [List.find?_eq_none] at h
    have := h i (List.mem_range.2 hi)
    rw [getD_int hi, e] at this
    simp at this
theorem tail6 (z p : List Int) (LS v5 : AV) (m : Nat) (F : Fr) (fl : Bool) (ok : PlOK p) (hlen : p.length = z.length) (hz : z.length ≤ 3000)
    (hR : fget F [19] = some (.row true fl 45 1 (cellsP 24 (kfP z.length) z p (cntP p) p.length)))
    (hO : ∀ q i, q < cntP p → firI p p.length q = some i → fget F [24, i, kfP z.length i] = some (.row true true 55 2 (List.map (fun x => [AV.int .i64 x.1, AV.int .i64 x.2]) (rngU z p p.length q)))) :
    run r5 c1006_6 [] (fun x s => ob (bodyRes fn1006 x s) fun r => r.1 = .tuple [(AV.list 1 (List.map (fun s => [(AV.list 2 (List.map (fun x => [AV.int .i64 x.1, AV.int .i64 x.2]) (s)))]) (if decide (cntP p ≤ 256) = true then (List.range (cntP p)).map (fun q => ofV (rngP z p q)) else []))), .bool (decide (cntP p ≤ 256))] ∧ r.2 = [])
      { env := [(0, LS), (2, .own [0] 0), (3, .bool false), (4, (AV.list 1 (List.map (fun x => [AV.int .i64 x]) (z)))), (5, v5), (25, LS), (26, .int .i64 m), (27, .int .i64 m), (8, .own [19] (cntP p)), (40, v5), (41, .int .i64 p.length), (42, .int .i64 p.length)],
        heap := [F], p := [], k := 25 } := by
  have hex := @firI_ex p
  have hGl := cntP_le ok
  have hrp : ∀ q, rngP z p q = rngU z p p.length q := fun q => by unfold rngP; rw [hlen]
  generalize hG : cntP p = G at hR hO hGl hex ⊢
  have hcl := cellsP_length 24 (kfP z.length) z p G p.length
  by_cases h256 : G ≤ 256
  · have h1 : ¬ (G : Int) > 256 := by omega
    have d1 : decide (G ≤ 256) = true := by simpa using h256
    rw [d1]
    simp only [if_true]
    simp only [c1006_6, D0, ains, appG, clsOf, abin, aint, aun, dnext, rowsOf, loadObj, cellsOf, ofCells, bnd, hmerge, Nat.reduceBEq, Nat.reduceAdd, reduceIte, Nat.reduceEqDiff, Nat.reduceLeDiff, Int.reduceEq, reduceCtorEq, Int.reduceBEq, Int.reduceBNe, Int.reduceLT, Int.reduceNeg, hR, hcl, h1, decide_false]
    refine lg_rule (fun j e H => j ≤ G ∧ ∃ F', e = [(0, LS), (2, .own [0] 0), (3, .bool false), (4, (AV.list 1 (List.map (fun x => [AV.int .i64 x]) (z)))), (5, v5), (25, LS), (26, .int .i64 m), (27, .int .i64 m), (8, .own [19] G), (40, v5), (41, .int .i64 p.length), (42, .int .i64 p.length), (12, .own [28] j), (80, .own [19] G), (81, .int .i64 G), (82, .int .i64 j)] ∧ H = [F'] ∧
      fget F' [19] = some (.row true fl 45 1 (cellsP 24 (kfP z.length) z p G p.length)) ∧
      fget F' [28] = some (.row true true 46 1 (List.map (fun s => [(AV.list 2 (List.map (fun x => [AV.int .i64 x.1, AV.int .i64 x.2]) (s)))]) ((List.range j).map (fun q => ofV (rngU z p p.length q))))) ∧
      (∀ q i, j ≤ q → q < G → firI p p.length q = some i → fget F' [24, i, kfP z.length i] = some (.row true true 55 2 (List.map (fun x => [AV.int .i64 x.1, AV.int .i64 x.2]) (rngU z p p.length q))))) G ?_ ?_
    · refine ⟨by simp, _, rfl, rfl, ?_, ?_, ?_⟩
      · simp [fget, hR]
      · simp [fget]
      · intro q i _ hq hf; simp [fget, hO q i hq hf]
    rintro j e H ⟨hj, F', rfl, rfl, hR', hS', hO'⟩
    by_cases h : j < G
    · have h' : (j : Int) < (G : Int) := by omega
      have hp := wrapp (j := j) (by omega)
      obtain ⟨i, hi⟩ := hex ok h
      have hcg := cellsP_get 24 (kfP z.length) z p (j := p.length) h
      rw [hi] at hcg
      simp only at hcg
      have hOi := hO' j i (Nat.le_refl _) h hi
      have hrl := rngU_length z p p.length j
      have hf28 : ∀ o, fget (fset F' [24, i, kfP z.length i] o) [28] = some (.row true true 46 1 (List.map (fun s => [(AV.list 2 (List.map (fun x => [AV.int .i64 x.1, AV.int .i64 x.2]) (s)))]) ((List.range j).map (fun q => ofV (rngU z p p.length q))))) := fun o => by rw [fget_fset]; simp [hS']
      have hrl6 : (rngU z p p.length j).length ≤ 1000000 := by omega
      have hcap : (j + 1) * 24 ≤ 140737488355328 := by omega
      have hll : (List.map (fun s : List R2 => [(AV.list 2 (List.map (fun x => [AV.int .i64 x.1, AV.int .i64 x.2]) (s)))]) ((List.range j).map (fun q => ofV (rngU z p p.length q)))).length = j := by simp
      simp only [c1006_5, D0, ains, appG, clsOf, abin, aint, aun, dnext, rowsOf, loadObj, cellsOf, ofCells, bnd, hmerge, Nat.reduceBEq, Nat.reduceAdd, reduceIte, Nat.reduceEqDiff, Nat.reduceLeDiff, Int.reduceEq, reduceCtorEq, Int.reduceBEq, Int.reduceBNe, Int.reduceLT, Int.reduceNeg, h', h, hp, hR', hcl, hcg, hOi, hf28, hll, hcap, @use_all r5 28 k48.ora rfl, e48 _ hrl6, fz, fzd, List.length_map, decide_true, Int.natCast_nonneg, Int.toNat_natCast]
      refine .inl ⟨h, _, rfl, ?_, ?_, ?_⟩
      · simp [fget_fset, hR']
      · simp [fget_fset, hS', List.range_succ]
      · intro q i' hq hq2 hf
        have hii : ¬ i = i' := fun e => by
          subst e
          have a := (firI_some hi).2
          have b := (firI_some hf).2
          omega
        simp [fget_fset, hii, hO' q i' (by omega) hq2 hf]
    · have h' : ¬ (j : Int) < (G : Int) := by omega
      have hjl : j = G := by omega
      subst hjl
      simp only [D0, ains, appG, clsOf, abin, aint, aun, dnext, rowsOf, loadObj, cellsOf, ofCells, bnd, hmerge, Nat.reduceBEq, Nat.reduceAdd, reduceIte, Nat.reduceEqDiff, Nat.reduceLeDiff, Int.reduceEq, reduceCtorEq, Int.reduceBEq, Int.reduceBNe, Int.reduceLT, Int.reduceNeg, h', decide_false]
      refine .inr ⟨by simp, ?_⟩
      have hll : (List.map (fun s : List R2 => [(AV.list 2 (List.map (fun x => [AV.int .i64 x.1, AV.int .i64 x.2]) (s)))]) ((List.range j).map (fun q => ofV (rngU z p p.length q)))).length = j := by simp
      simp only [F1, bodyRes, one, ains, appG, clsOf, abin, aint, aun, dnext, rowsOf, loadObj, cellsOf, ofCells, bnd, hmerge, Nat.reduceBEq, Nat.reduceAdd, reduceIte, Nat.reduceEqDiff, Nat.reduceLeDiff, Int.reduceEq, reduceCtorEq, Int.reduceBEq, Int.reduceBNe, Int.reduceLT, Int.reduceNeg, fn1006_res, fn1006_keep, fz, fzd, fzd.fzcells, hS', hll, hrp]
  · have h1 : (G : Int) > 256 := by omega
    have d1 : decide (G ≤ 256) = false := by simpa using h256
    rw [d1]
    simp only [Bool.false_eq_true, if_false]
    simp only [c1006_6, D0, ains, appG, clsOf, abin, aint, aun, dnext, rowsOf, loadObj, cellsOf, ofCells, bnd, hmerge, Nat.reduceBEq, Nat.reduceAdd, reduceIte, Nat.reduceEqDiff, Nat.reduceLeDiff, Int.reduceEq, reduceCtorEq, Int.reduceBEq, Int.reduceBNe, Int.reduceLT, Int.reduceNeg, hR, hcl, h1, decide_true]
    simp only [F1, bodyRes, one, ains, appG, clsOf, abin, aint, aun, dnext, rowsOf, loadObj, cellsOf, ofCells, bnd, hmerge, Nat.reduceBEq, Nat.reduceAdd, reduceIte, Nat.reduceEqDiff, Nat.reduceLeDiff, Int.reduceEq, reduceCtorEq, Int.reduceBEq, Int.reduceBNe, Int.reduceLT, Int.reduceNeg, fn1006_res, fn1006_keep, fz, fzd, fzd.fzcells, List.map_nil]
theorem parts_tail (z p zr : List Int) (LS : AV) (m : Nat) (v5 : AV) (hv5 : v5 = (AV.list 1 (List.map (fun x => [AV.int .i64 x]) (p))) ∨ (v5 = .own [10] p.length ∧ zr = p)) (ok : PlOK p) (hlen : p.length = z.length) (hz : z.length ≤ 3000) :
    run r5 c1006_4 [Kt.seq c1006_6] (fun x s => ob (bodyRes fn1006 x s) fun r => r.1 = .tuple [(AV.list 1 (List.map (fun s => [(AV.list 2 (List.map (fun x => [AV.int .i64 x.1, AV.int .i64 x.2]) (s)))]) (if decide (cntP p ≤ 256) = true then (List.range (cntP p)).map (fun q => ofV (rngP z p q)) else []))), .bool (decide (cntP p ≤ 256))] ∧ r.2 = [])
      { env := [(0, LS), (2, .own [0] 0), (3, .bool false), (4, (AV.list 1 (List.map (fun x => [AV.int .i64 x]) (z)))), (5, v5), (25, LS), (26, .int .i64 m), (27, .int .i64 m), (8, .own [19] (cntP p))],
        heap := [[([19], .row true true 45 1 (List.replicate (cntP p) [.nils])), ([10], .row false true 3 1 (List.map (fun x => [AV.int .i64 x]) zr)), ([0], .row true true 46 1 [])]], p := [], k := 21 } := by
  have hGl := cntP_le ok
  generalize hG : cntP p = G at hGl
  rcases hv5 with rfl | ⟨rfl, rfl⟩
  · simp only [c1006_4, D0, ains, appG, clsOf, abin, aint, aun, dnext, rowsOf, loadObj, cellsOf, ofCells, bnd, hmerge, Nat.reduceBEq, Nat.reduceAdd, reduceIte, Nat.reduceEqDiff, Nat.reduceLeDiff, Int.reduceEq, reduceCtorEq, Int.reduceBEq, Int.reduceBNe, Int.reduceLT, Int.reduceNeg]
    refine lg_rule (fun j e H => j ≤ p.length ∧ ∃ F fl, e = [(0, LS), (2, .own [0] 0), (3, .bool false), (4, (AV.list 1 (List.map (fun x => [AV.int .i64 x]) (z)))), (5, (AV.list 1 (List.map (fun x => [AV.int .i64 x]) (p)))), (25, LS), (26, .int .i64 m), (27, .int .i64 m), (8, .own [19] G), (40, (AV.list 1 (List.map (fun x => [AV.int .i64 x]) (p)))), (41, .int .i64 p.length), (42, .int .i64 j)] ∧ H = [F] ∧
      fget F [19] = some (.row true fl 45 1 (cellsP 24 (kfP z.length) z p G j)) ∧ fget F [10] = some (.row false true 3 1 (List.map (fun x => [AV.int .i64 x]) zr)) ∧
      (∀ q i, q < G → firI p j q = some i → fget F [24, i, kfP z.length i] = some (.row true true 55 2 (List.map (fun x => [AV.int .i64 x.1, AV.int .i64 x.2]) (rngU z p j q))))) p.length ?_ ?_
    · refine ⟨by simp, _, true, rfl, rfl, ?_, rfl, ?_⟩
      · rw [cellsP_zero]; rfl
      · intro q i _ h; exact absurd (firI_some h).1 (by omega)
    rintro j e H ⟨hj, F, fl, rfl, rfl, hR, hF10, hO⟩
    by_cases h : j < p.length
    · have h' : (j : Int) < (p.length : Int) := by omega
      have hp := wrapp (j := j) (by omega)
      have hgp := getI h
      have hmem : p.getD j 0 ∈ p := by rw [getD_int h]; exact List.getElem_mem h
      have hnn := ok.nn _ hmem
      have hmx := maxL_ge hmem
      obtain ⟨q, hq⟩ := Int.eq_ofNat_of_zero_le hnn
      have hqG : q < G := by rw [← hG]; unfold cntP; omega
      have hqG' : (q : Int) < (G : Int) := by omega
      have hgz := getI (l := z) (j := j) (by omega)
      have hcl := cellsP_length 24 (kfP z.length) z p G j
      have hcg := cellsP_get 24 (kfP z.length) z p (j := j) hqG
      have hcn := cellsP_next (B := 24) (K := kfP z.length) (z := z) hqG hq
      have hrn := rngU_next z p j
      have hrl := rngU_length z p j q
      have hcap : ((rngU z p j q).length + 1) * 16 ≤ 140737488355328 := by omega
      have hcap1 : (0 + 1) * 16 ≤ 140737488355328 := by omega
      rw [hq] at hgp
      by_cases hn1 : j + 1 < z.length
      · have hn1' : ((j + 1 : Nat) : Int) < (z.length : Int) := by omega
        have hgz1 := getI hn1
        have hKF : kfP z.length j = 35 := by unfold kfP; rw [if_pos hn1]
        have hhi : hiA z j = prevV (z.getD (j + 1) 0) := by unfold hiA; rw [if_pos hn1]
        cases hfi : firI p j q with
        | none =>
          rw [hfi] at hcg hcn
          simp only at hcg hcn
          simp only [D0, ains, appG, clsOf, abin, aint, aun, dnext, rowsOf, loadObj, cellsOf, ofCells, bnd, hmerge, Nat.reduceBEq, Nat.reduceAdd, reduceIte, Nat.reduceEqDiff, Nat.reduceLeDiff, Int.reduceEq, reduceCtorEq, Int.reduceBEq, Int.reduceBNe, Int.reduceLT, Int.reduceNeg, c1006_2, c1006_3, @use_all r5 27 k91.ora rfl, e91, h', hgp, hgz, hp, hn1', hgz1, hR, hqG', hqG, hcl, hcg, hcap1, lrc_x, apx, apart, apart1, needs, decide_true, Int.natCast_nonneg, Int.toNat_natCast, List.length_map, Nat.reduceLT]
          obtain ⟨s1, s2, s3⟩ := step_new hKF hq hqG hfi hhi hR hF10 hO
          exact .inl ⟨h, h, _, _, rfl, s1, s2, s3⟩
        | some i =>
          rw [hfi] at hcg hcn
          simp only at hcg hcn
          have hOi := hO q i hqG hfi
          have hf19 : ∀ o, fget (fset F [24, i, kfP z.length i] o) [19] = some (.row true fl 45 1 (cellsP 24 (kfP z.length) z p G j)) := fun o => by rw [fget_fset]; simp [hR]
          simp only [D0, ains, appG, clsOf, abin, aint, aun, dnext, rowsOf, loadObj, cellsOf, ofCells, bnd, hmerge, Nat.reduceBEq, Nat.reduceAdd, reduceIte, Nat.reduceEqDiff, Nat.reduceLeDiff, Int.reduceEq, reduceCtorEq, Int.reduceBEq, Int.reduceBNe, Int.reduceLT, Int.reduceNeg, c1006_2, c1006_3, @use_all r5 27 k91.ora rfl, e91, h', hgp, hgz, hp, hn1', hgz1, hR, hf19, hOi, hqG', hqG, hcl, hcg, hcap, lrc_x, apx, apart, apart1, needs, decide_true, Int.natCast_nonneg, Int.toNat_natCast, List.length_map, Nat.reduceLT]
          obtain ⟨s1, s2, s3⟩ := step_old hq hqG hfi hhi hR hF10 hO
          exact .inl ⟨h, h, _, _, rfl, s1, s2, s3⟩
      · have hn1' : ¬ ((j + 1 : Nat) : Int) < (z.length : Int) := by omega
        have hKF : kfP z.length j = 25 := by unfold kfP; rw [if_neg hn1]
        have hhi : hiA z j = 1114111 := by unfold hiA; rw [if_neg hn1]
        cases hfi : firI p j q with
        | none =>
          rw [hfi] at hcg hcn
          simp only at hcg hcn
          simp only [D0, ains, appG, clsOf, abin, aint, aun, dnext, rowsOf, loadObj, cellsOf, ofCells, bnd, hmerge, Nat.reduceBEq, Nat.reduceAdd, reduceIte, Nat.reduceEqDiff, Nat.reduceLeDiff, Int.reduceEq, reduceCtorEq, Int.reduceBEq, Int.reduceBNe, Int.reduceLT, Int.reduceNeg, c1006_2, c1006_3, h', hgp, hgz, hp, hn1', hR, hqG', hqG, hcl, hcg, hcap1, lrc_x, apx, apart, apart1, needs, decide_true, decide_false, Int.natCast_nonneg, Int.toNat_natCast, List.length_map, Nat.reduceLT]
          obtain ⟨s1, s2, s3⟩ := step_new hKF hq hqG hfi hhi hR hF10 hO
          exact .inl ⟨h, h, _, _, rfl, s1, s2, s3⟩
        | some i =>
          rw [hfi] at hcg hcn
          simp only at hcg hcn
          have hOi := hO q i hqG hfi
          have hf19 : ∀ o, fget (fset F [24, i, kfP z.length i] o) [19] = some (.row true fl 45 1 (cellsP 24 (kfP z.length) z p G j)) := fun o => by rw [fget_fset]; simp [hR]
          simp only [D0, ains, appG, clsOf, abin, aint, aun, dnext, rowsOf, loadObj, cellsOf, ofCells, bnd, hmerge, Nat.reduceBEq, Nat.reduceAdd, reduceIte, Nat.reduceEqDiff, Nat.reduceLeDiff, Int.reduceEq, reduceCtorEq, Int.reduceBEq, Int.reduceBNe, Int.reduceLT, Int.reduceNeg, c1006_2, c1006_3, h', hgp, hgz, hp, hn1', hR, hf19, hOi, hqG', hqG, hcl, hcg, hcap, lrc_x, apx, apart, apart1, needs, decide_true, decide_false, Int.natCast_nonneg, Int.toNat_natCast, List.length_map, Nat.reduceLT]
          obtain ⟨s1, s2, s3⟩ := step_old hq hqG hfi hhi hR hF10 hO
          exact .inl ⟨h, h, _, _, rfl, s1, s2, s3⟩
    · have h' : ¬ (j : Int) < (p.length : Int) := by omega
      have hjl : j = p.length := by omega
      subst hjl
      simp only [D0, ains, appG, clsOf, abin, aint, aun, dnext, rowsOf, loadObj, cellsOf, ofCells, bnd, hmerge, Nat.reduceBEq, Nat.reduceAdd, reduceIte, Nat.reduceEqDiff, Nat.reduceLeDiff, Int.reduceEq, reduceCtorEq, Int.reduceBEq, Int.reduceBNe, Int.reduceLT, Int.reduceNeg, h', decide_false]
      refine .inr ⟨by simp, ?_⟩
      have ht := tail6 z p LS ((AV.list 1 (List.map (fun x => [AV.int .i64 x]) (p)))) m F fl ok hlen hz (by rw [hG]; exact hR) (by rw [hG]; exact hO)
      rw [hG] at ht
      exact ht
  · simp only [c1006_4, D0, ains, appG, clsOf, abin, aint, aun, dnext, rowsOf, loadObj, cellsOf, ofCells, bnd, hmerge, Nat.reduceBEq, Nat.reduceAdd, reduceIte, Nat.reduceEqDiff, Nat.reduceLeDiff, Int.reduceEq, reduceCtorEq, Int.reduceBEq, Int.reduceBNe, Int.reduceLT, Int.reduceNeg]
    refine lg_rule (fun j e H => j ≤ zr.length ∧ ∃ F fl, e = [(0, LS), (2, .own [0] 0), (3, .bool false), (4, (AV.list 1 (List.map (fun x => [AV.int .i64 x]) (z)))), (5, .own [10] zr.length), (25, LS), (26, .int .i64 m), (27, .int .i64 m), (8, .own [19] G), (40, .own [10] zr.length), (41, .int .i64 zr.length), (42, .int .i64 j)] ∧ H = [F] ∧
      fget F [19] = some (.row true fl 45 1 (cellsP 24 (kfP z.length) z zr G j)) ∧ fget F [10] = some (.row false true 3 1 (List.map (fun x => [AV.int .i64 x]) zr)) ∧
      (∀ q i, q < G → firI zr j q = some i → fget F [24, i, kfP z.length i] = some (.row true true 55 2 (List.map (fun x => [AV.int .i64 x.1, AV.int .i64 x.2]) (rngU z zr j q))))) zr.length ?_ ?_
    · refine ⟨by simp, _, true, rfl, rfl, ?_, rfl, ?_⟩
      · rw [cellsP_zero]; rfl
      · intro q i _ h; exact absurd (firI_some h).1 (by omega)
    rintro j e H ⟨hj, F, fl, rfl, rfl, hR, hF10, hO⟩
    by_cases h : j < zr.length
    · have h' : (j : Int) < (zr.length : Int) := by omega
      have hp := wrapp (j := j) (by omega)
      have hgp := getI h
      have hmem : zr.getD j 0 ∈ zr := by rw [getD_int h]; exact List.getElem_mem h
      have hnn := ok.nn _ hmem
      have hmx := maxL_ge hmem
      obtain ⟨q, hq⟩ := Int.eq_ofNat_of_zero_le hnn
      have hqG : q < G := by rw [← hG]; unfold cntP; omega
      have hqG' : (q : Int) < (G : Int) := by omega
      have hgz := getI (l := z) (j := j) (by omega)
      have hcl := cellsP_length 24 (kfP z.length) z zr G j
      have hcg := cellsP_get 24 (kfP z.length) z zr (j := j) hqG
      have hcn := cellsP_next (B := 24) (K := kfP z.length) (z := z) hqG hq
      have hrn := rngU_next z zr j
      have hrl := rngU_length z zr j q
      have hcap : ((rngU z zr j q).length + 1) * 16 ≤ 140737488355328 := by omega
      have hcap1 : (0 + 1) * 16 ≤ 140737488355328 := by omega
      rw [hq] at hgp
      by_cases hn1 : j + 1 < z.length
      · have hn1' : ((j + 1 : Nat) : Int) < (z.length : Int) := by omega
        have hgz1 := getI hn1
        have hKF : kfP z.length j = 35 := by unfold kfP; rw [if_pos hn1]
        have hhi : hiA z j = prevV (z.getD (j + 1) 0) := by unfold hiA; rw [if_pos hn1]
        cases hfi : firI zr j q with
        | none =>
          rw [hfi] at hcg hcn
          simp only at hcg hcn
          simp only [D0, ains, appG, clsOf, abin, aint, aun, dnext, rowsOf, loadObj, cellsOf, ofCells, bnd, hmerge, Nat.reduceBEq, Nat.reduceAdd, reduceIte, Nat.reduceEqDiff, Nat.reduceLeDiff, Int.reduceEq, reduceCtorEq, Int.reduceBEq, Int.reduceBNe, Int.reduceLT, Int.reduceNeg, c1006_2, c1006_3, @use_all r5 27 k91.ora rfl, e91, h', hgp, hgz, hp, hn1', hgz1, hR, hqG', hqG, hcl, hcg, hcap1, hF10, lrc_x, apx, apart, apart1, needs, decide_true, Int.natCast_nonneg, Int.toNat_natCast, List.length_map, Nat.reduceLT]
          obtain ⟨s1, s2, s3⟩ := step_new hKF hq hqG hfi hhi hR hF10 hO
          exact .inl ⟨h, h, _, _, rfl, s1, s2, s3⟩
        | some i =>
          rw [hfi] at hcg hcn
          simp only at hcg hcn
          have hOi := hO q i hqG hfi
          have hf19 : ∀ o, fget (fset F [24, i, kfP z.length i] o) [19] = some (.row true fl 45 1 (cellsP 24 (kfP z.length) z zr G j)) := fun o => by rw [fget_fset]; simp [hR]
          simp only [D0, ains, appG, clsOf, abin, aint, aun, dnext, rowsOf, loadObj, cellsOf, ofCells, bnd, hmerge, Nat.reduceBEq, Nat.reduceAdd, reduceIte, Nat.reduceEqDiff, Nat.reduceLeDiff, Int.reduceEq, reduceCtorEq, Int.reduceBEq, Int.reduceBNe, Int.reduceLT, Int.reduceNeg, c1006_2, c1006_3, @use_all r5 27 k91.ora rfl, e91, h', hgp, hgz, hp, hn1', hgz1, hR, hf19, hOi, hqG', hqG, hcl, hcg, hcap, hF10, lrc_x, apx, apart, apart1, needs, decide_true, Int.natCast_nonneg, Int.toNat_natCast, List.length_map, Nat.reduceLT]
          obtain ⟨s1, s2, s3⟩ := step_old hq hqG hfi hhi hR hF10 hO
          exact .inl ⟨h, h, _, _, rfl, s1, s2, s3⟩
      · have hn1' : ¬ ((j + 1 : Nat) : Int) < (z.length : Int) := by omega
        have hKF : kfP z.length j = 25 := by unfold kfP; rw [if_neg hn1]
        have hhi : hiA z j = 1114111 := by unfold hiA; rw [if_neg hn1]
        cases hfi : firI zr j q with
        | none =>
          rw [hfi] at hcg hcn
          simp only at hcg hcn
          simp only [D0, ains, appG, clsOf, abin, aint, aun, dnext, rowsOf, loadObj, cellsOf, ofCells, bnd, hmerge, Nat.reduceBEq, Nat.reduceAdd, reduceIte, Nat.reduceEqDiff, Nat.reduceLeDiff, Int.reduceEq, reduceCtorEq, Int.reduceBEq, Int.reduceBNe, Int.reduceLT, Int.reduceNeg, c1006_2, c1006_3, h', hgp, hgz, hp, hn1', hR, hqG', hqG, hcl, hcg, hcap1, hF10, lrc_x, apx, apart, apart1, needs, decide_true, decide_false, Int.natCast_nonneg, Int.toNat_natCast, List.length_map, Nat.reduceLT]
          obtain ⟨s1, s2, s3⟩ := step_new hKF hq hqG hfi hhi hR hF10 hO
          exact .inl ⟨h, h, _, _, rfl, s1, s2, s3⟩
        | some i =>
          rw [hfi] at hcg hcn
          simp only at hcg hcn
          have hOi := hO q i hqG hfi
          have hf19 : ∀ o, fget (fset F [24, i, kfP z.length i] o) [19] = some (.row true fl 45 1 (cellsP 24 (kfP z.length) z zr G j)) := fun o => by rw [fget_fset]; simp [hR]
          simp only [D0, ains, appG, clsOf, abin, aint, aun, dnext, rowsOf, loadObj, cellsOf, ofCells, bnd, hmerge, Nat.reduceBEq, Nat.reduceAdd, reduceIte, Nat.reduceEqDiff, Nat.reduceLeDiff, Int.reduceEq, reduceCtorEq, Int.reduceBEq, Int.reduceBNe, Int.reduceLT, Int.reduceNeg, c1006_2, c1006_3, h', hgp, hgz, hp, hn1', hR, hf19, hOi, hqG', hqG, hcl, hcg, hcap, hF10, lrc_x, apx, apart, apart1, needs, decide_true, decide_false, Int.natCast_nonneg, Int.toNat_natCast, List.length_map, Nat.reduceLT]
          obtain ⟨s1, s2, s3⟩ := step_old hq hqG hfi hhi hR hF10 hO
          exact .inl ⟨h, h, _, _, rfl, s1, s2, s3⟩
    · have h' : ¬ (j : Int) < (zr.length : Int) := by omega
      have hjl : j = zr.length := by omega
      subst hjl
      simp only [D0, ains, appG, clsOf, abin, aint, aun, dnext, rowsOf, loadObj, cellsOf, ofCells, bnd, hmerge, Nat.reduceBEq, Nat.reduceAdd, reduceIte, Nat.reduceEqDiff, Nat.reduceLeDiff, Int.reduceEq, reduceCtorEq, Int.reduceBEq, Int.reduceBNe, Int.reduceLT, Int.reduceNeg, h', decide_false]
      refine .inr ⟨by simp, ?_⟩
      have ht := tail6 z zr LS (.own [10] zr.length) m F fl ok hlen hz (by rw [hG]; exact hR) (by rw [hG]; exact hO)
      rw [hG] at ht
      exact ht
theorem run1006 (l : List (List R2)) (h0 : l.length ≤ 1000) (hl : lenS l ≤ 1000) (hl9 : ∀ s ∈ l, s.length ≤ 1000000) : cwp r5 8 [] [(AV.list 1 (List.map (fun s => [(AV.list 2 (List.map (fun x => [AV.int .i64 x.1, AV.int .i64 x.2]) (s)))]) (l)))] [] (fun r H => r = .tuple [(AV.list 1 (List.map (fun s => [(AV.list 2 (List.map (fun x => [AV.int .i64 x.1, AV.int .i64 x.2]) (s)))]) (partsV l))), .bool (partsB l)] ∧ H = []) := by
  refine run_fn (fn := fn1006) rfl rfl ?_
  have h06 : l.length ≤ 1000000 := by omega
  have hl63 : ∀ s ∈ l, s.length ≤ 9223372036854775807 := fun s hs => by have := hl9 s hs; omega
  cases gs : l.all goodS with
  | false =>
    have hb : partsB l = false := by simp [partsB, gs]
    have hv : partsV l = [] := by simp [partsV, hb]
    simp only [fn1006_body, c1006, c1006_7, D0, ains, appG, clsOf, abin, aint, aun, dnext, rowsOf, loadObj, cellsOf, ofCells, bnd, hmerge, Nat.reduceBEq, Nat.reduceAdd, reduceIte, Nat.reduceEqDiff, Nat.reduceLeDiff, Int.reduceEq, reduceCtorEq, Int.reduceBEq, Int.reduceBNe, Int.reduceLT, Int.reduceNeg, @use_all r5 23 k1017.ora rfl, e1017 l ⟨h06, hl63⟩, gs]
    simp only [F1, bodyRes, one, ains, appG, clsOf, abin, aint, aun, dnext, rowsOf, loadObj, cellsOf, ofCells, bnd, hmerge, Nat.reduceBEq, Nat.reduceAdd, reduceIte, Nat.reduceEqDiff, Nat.reduceLeDiff, Int.reduceEq, reduceCtorEq, Int.reduceBEq, Int.reduceBNe, Int.reduceLT, Int.reduceNeg, fn1006_res, fn1006_keep, fz, fzd, fzd.fzcells, hb, hv, List.map_nil]
  | true =>
    have hg : ∀ s ∈ l, goodS s = true := List.all_eq_true.1 gs
    have hn := startsL_length l.flatten
    rw [flatS_len] at hn
    have hz0 : 0 < (startsL l.flatten).length := by
      have : (0 : Int) ∈ startsL l.flatten := (startsL_mem _ _).2 (by simp [cutsA])
      exact List.length_pos_of_mem this
    have hpB : partsB l = decide (cntP (placeL (startsL l.flatten) l) ≤ 256) := by simp [partsB, gs]
    have hpV : partsV l = if decide (cntP (placeL (startsL l.flatten) l) ≤ 256) = true then (List.range (cntP (placeL (startsL l.flatten) l))).map (fun q => ofV (rngP (startsL l.flatten) (placeL (startsL l.flatten) l) q)) else [] := by unfold partsV; rw [hpB]
    rw [hpB, hpV]
    clear hpB hpV
    simp only [fn1006_body, c1006, c1006_7, D0, ains, appG, clsOf, abin, aint, aun, dnext, rowsOf, loadObj, cellsOf, ofCells, bnd, hmerge, Nat.reduceBEq, Nat.reduceAdd, reduceIte, Nat.reduceEqDiff, Nat.reduceLeDiff, Int.reduceEq, reduceCtorEq, Int.reduceBEq, Int.reduceBNe, Int.reduceLT, Int.reduceNeg, @use_all r5 23 k1017.ora rfl, e1017 l ⟨h06, hl63⟩, gs, @use_all r5 24 k1018.ora rfl, e1018 l ⟨h0, hl⟩]
    generalize startsL l.flatten = z at hn hz0 ⊢
    have hmk : ((z.length : Nat) : Int) * ((8 : Nat) : Int) ≤ 140737488355328 := by omega
    have hm0 := repI_map z.length
    simp only [D0, ains, appG, clsOf, abin, aint, aun, dnext, rowsOf, loadObj, cellsOf, ofCells, bnd, hmerge, Nat.reduceBEq, Nat.reduceAdd, reduceIte, Nat.reduceEqDiff, Nat.reduceLeDiff, Int.reduceEq, reduceCtorEq, Int.reduceBEq, Int.reduceBNe, Int.reduceLT, Int.reduceNeg, hmk, hm0, Int.natCast_nonneg, Int.toNat_natCast, c1006_1]
    refine lg_rule (fun j e H => j ≤ l.length ∧ ∃ v5 b, e = [(0, (AV.list 1 (List.map (fun s => [(AV.list 2 (List.map (fun x => [AV.int .i64 x.1, AV.int .i64 x.2]) (s)))]) (l)))), (2, .own [0] 0), (3, .bool false), (4, (AV.list 1 (List.map (fun x => [AV.int .i64 x]) (z)))), (5, v5), (25, (AV.list 1 (List.map (fun s => [(AV.list 2 (List.map (fun x => [AV.int .i64 x.1, AV.int .i64 x.2]) (s)))]) (l)))), (26, .int .i64 l.length), (27, .int .i64 j)] ∧
      H = [[([10], .row b true 3 1 (List.map (fun x => [AV.int .i64 x]) (List.replicate z.length 0))), ([0], .row true true 46 1 [])]] ∧ ((j = 0 ∧ v5 = .own [10] z.length ∧ b = true) ∨ (0 < j ∧ v5 = (AV.list 1 (List.map (fun x => [AV.int .i64 x]) (placeL z (l.take j)))) ∧ b = false))) l.length ?_ ?_
    · exact ⟨by simp, _, _, rfl, rfl, .inl ⟨rfl, rfl, rfl⟩⟩
    rintro j e H ⟨hj, v5, b, rfl, rfl, hcase⟩
    by_cases h : j < l.length
    · have h' : (j : Int) < (l.length : Int) := by omega
      have hp := wrapp (j := j) (by omega)
      have hgl := map_get (f := fun s : List R2 => [(AV.list 2 (List.map (fun x => [AV.int .i64 x.1, AV.int .i64 x.2]) (s)))]) h []
      have hsl := hl9 _ (getD_memL h)
      have hsg := hg _ (getD_memL h)
      have hpn := placeL_snoc z (l.take j) (l.getD j [])
      rw [← takeL_snoc h] at hpn
      generalize l.getD j [] = s at hgl hsl hsg hpn
      have hpl := placeL_length z (l.take j)
      have hz5 : (placeL z (l.take j)).length ≤ 100000 := by omega
      rcases hcase with ⟨rfl, rfl, rfl⟩ | ⟨hj0, rfl, rfl⟩
      · have hP : placeL z (l.take 0) = List.replicate z.length 0 := rfl
        rw [hP] at hpn hpl hz5
        have hrl : (List.replicate z.length (0 : Int)).length = z.length := by simp
        simp only [D0, ains, appG, clsOf, abin, aint, aun, dnext, rowsOf, loadObj, cellsOf, ofCells, bnd, hmerge, Nat.reduceBEq, Nat.reduceAdd, reduceIte, Nat.reduceEqDiff, Nat.reduceLeDiff, Int.reduceEq, reduceCtorEq, Int.reduceBEq, Int.reduceBNe, Int.reduceLT, Int.reduceNeg, @use_all r5 25 k1019.ora rfl, e1019 (List.replicate z.length 0) z s ⟨hz5, hpl, hsl, hsg⟩, h', hgl, hp, hrl, fz, fzd, decide_true, Int.natCast_nonneg, Int.toNat_natCast, List.length_map]
        simp only [F1, bodyRes, one, ains, appG, clsOf, abin, aint, aun, dnext, rowsOf, loadObj, cellsOf, ofCells, bnd, hmerge, Nat.reduceBEq, Nat.reduceAdd, reduceIte, Nat.reduceEqDiff, Nat.reduceLeDiff, Int.reduceEq, reduceCtorEq, Int.reduceBEq, Int.reduceBNe, Int.reduceLT, Int.reduceNeg]
        rw [hpn]
        exact ⟨h, h, _, _, rfl, rfl, by omega, rfl, rfl⟩
      · simp only [D0, ains, appG, clsOf, abin, aint, aun, dnext, rowsOf, loadObj, cellsOf, ofCells, bnd, hmerge, Nat.reduceBEq, Nat.reduceAdd, reduceIte, Nat.reduceEqDiff, Nat.reduceLeDiff, Int.reduceEq, reduceCtorEq, Int.reduceBEq, Int.reduceBNe, Int.reduceLT, Int.reduceNeg, @use_all r5 25 k1019.ora rfl, e1019 (placeL z (l.take j)) z s ⟨hz5, hpl, hsl, hsg⟩, h', hgl, hp, fz, fzd, decide_true, Int.natCast_nonneg, Int.toNat_natCast, List.length_map]
        simp only [F1, bodyRes, one, ains, appG, clsOf, abin, aint, aun, dnext, rowsOf, loadObj, cellsOf, ofCells, bnd, hmerge, Nat.reduceBEq, Nat.reduceAdd, reduceIte, Nat.reduceEqDiff, Nat.reduceLeDiff, Int.reduceEq, reduceCtorEq, Int.reduceBEq, Int.reduceBNe, Int.reduceLT, Int.reduceNeg]
        rw [hpn]
        exact ⟨h, h, _, _, rfl, rfl, by omega, rfl, rfl⟩
    · have h' : ¬ (j : Int) < (l.length : Int) := by omega
      have hjl : j = l.length := by omega
      subst hjl
      rw [List.take_length] at hcase
      simp only [D0, ains, appG, clsOf, abin, aint, aun, dnext, rowsOf, loadObj, cellsOf, ofCells, bnd, hmerge, Nat.reduceBEq, Nat.reduceAdd, reduceIte, Nat.reduceEqDiff, Nat.reduceLeDiff, Int.reduceEq, reduceCtorEq, Int.reduceBEq, Int.reduceBNe, Int.reduceLT, Int.reduceNeg, h', decide_false]
      refine .inr ⟨by simp, ?_⟩
      have hpl := placeL_length z l
      have hok := placeL_ok hz0 l
      have hG := cntP_int hok (by omega)
      have hGl := cntP_le hok
      have hG0 : (0 : Int) ≤ ((cntP (placeL z l) : Nat) : Int) := by omega
      have hG24 : ((cntP (placeL z l) : Nat) : Int) * ((24 : Nat) : Int) ≤ 140737488355328 := by omega
      rcases hcase with ⟨hl0, rfl, rfl⟩ | ⟨hj0, rfl, rfl⟩
      · have hl00 : l = [] := List.eq_nil_of_length_eq_zero hl0
        have hP : placeL z l = List.replicate z.length 0 := by rw [hl00]; rfl
        rw [hP] at hpl hok hG hG0 hG24 hGl ⊢
        have hrl : (List.replicate z.length (0 : Int)).length = z.length := by simp
        simp only [D0, ains, appG, clsOf, abin, aint, aun, dnext, rowsOf, loadObj, cellsOf, ofCells, bnd, hmerge, Nat.reduceBEq, Nat.reduceAdd, reduceIte, Nat.reduceEqDiff, Nat.reduceLeDiff, Int.reduceEq, reduceCtorEq, Int.reduceBEq, Int.reduceBNe, Int.reduceLT, Int.reduceNeg, @use_all r5 26 k1020.ora rfl, e1020 (List.replicate z.length 0) ⟨hok.ne, by omega⟩, hrl, hG, hG0, hG24, Int.natCast_nonneg, Int.toNat_natCast, fz, fzd, List.length_map]
        have := parts_tail z (List.replicate z.length 0) (List.replicate z.length 0) (AV.list 1 (List.map (fun s => [(AV.list 2 (List.map (fun x => [AV.int .i64 x.1, AV.int .i64 x.2]) (s)))]) (l))) l.length _ (.inr ⟨rfl, rfl⟩) hok hpl (by omega)
        rw [hpl] at this
        exact this
      · simp only [D0, ains, appG, clsOf, abin, aint, aun, dnext, rowsOf, loadObj, cellsOf, ofCells, bnd, hmerge, Nat.reduceBEq, Nat.reduceAdd, reduceIte, Nat.reduceEqDiff, Nat.reduceLeDiff, Int.reduceEq, reduceCtorEq, Int.reduceBEq, Int.reduceBNe, Int.reduceLT, Int.reduceNeg, @use_all r5 26 k1020.ora rfl, e1020 (placeL z l) ⟨hok.ne, by omega⟩, hG, hG0, hG24, Int.natCast_nonneg, Int.toNat_natCast, fz, fzd]
        have := parts_tail z (placeL z l) (List.replicate z.length 0) (AV.list 1 (List.map (fun s => [(AV.list 2 (List.map (fun x => [AV.int .i64 x.1, AV.int .i64 x.2]) (s)))]) (l))) l.length (AV.list 1 (List.map (fun x => [AV.int .i64 x]) (placeL z l))) (.inl rfl) hok hpl (by omega)
        exact this
noncomputable def k1006 : Kon ((List (List (Int × Int)))) := ⟨fun x => x.length ≤ 1000 ∧ lenS x ≤ 1000 ∧ ∀ s ∈ x, s.length ≤ 1000000, fun x => [(AV.list 1 (List.map (fun s => [(AV.list 2 (List.map (fun x => [AV.int .i64 x.1, AV.int .i64 x.2]) (s)))]) (x)))], fun x => .tuple [(AV.list 1 (List.map (fun s => [(AV.list 2 (List.map (fun x => [AV.int .i64 x.1, AV.int .i64 x.2]) (s)))]) (partsV x))), .bool (partsB x)]⟩
theorem e1006 (l : List (List (Int × Int))) (hd : l.length ≤ 1000 ∧ lenS l ≤ 1000 ∧ ∀ s ∈ l, s.length ≤ 1000000) (q0 : Id) (H0 : Heap) : k1006.ora q0 ([(AV.list 1 (List.map (fun s => [(AV.list 2 (List.map (fun x => [AV.int .i64 x.1, AV.int .i64 x.2]) (s)))]) (l)))]) H0 = some (.tuple [(AV.list 1 (List.map (fun s => [(AV.list 2 (List.map (fun x => [AV.int .i64 x.1, AV.int .i64 x.2]) (s)))]) (partsV l))), .bool (partsB l)], H0) := k1006.eq (setsInj) (l) hd q0 H0
theorem ook1006 : OraOK Tryz.prog (8 % 100000) k1006.ora := k1006.ok orders r5_ok (fun x hd => by simp [k1006, PU]) (fun x hd => by simp [k1006, PU]) (fun x hd => run1006 x hd.1 hd.2.1 hd.2.2)

noncomputable def r6 : FT := upd (r5) 8 k1006.ora
theorem r6_ok : FTOK Tryz.prog r6 := upd_ok2 (f := 8) (r5_ok) ook1006

end Go.Proofs.Abs
