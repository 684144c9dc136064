/- A part of a proof: the text that states the row tells what is proved. No condition is laid on anything. -/
import Derived.Test.YtgcncpedpjjjeaaAbsU3
import Derived.Test.YtgcncpedpjjjeaaAbsS3
set_option linter.all false
set_option linter.constructorNameAsVariable false
set_option linter.defProp false
set_option linter.unusedVariables false
set_option linter.unusedSimpArgs false
set_option maxRecDepth 100000
set_option maxHeartbeats 16000000
namespace Go.Proofs.Abs
open Go
/-! 3: caesuralaw11.TreeTells. -/
theorem sm_nil : SmS [] := ⟨⟨by simp, by simp⟩, by simp⟩
theorem sm_pairT {k : Int} (hk : k = 3 ∨ k = 4) {a b : List Nd} (ha : SmS a) (hb : SmS b) : SmS (pairT k a b) := by
  unfold pairT
  split
  · rename_i h
    simp only [pairB, Bool.and_eq_true] at h
    exact sm_join hk ha hb h.1.1 h.1.2
  · exact sm_nil
theorem sm_starTT {a : List Nd} (ha : SmS a) : SmS (starTT a) := by
  unfold starTT
  split
  · rename_i h
    simp only [starB, Bool.and_eq_true] at h
    exact sm_star ha h.1
  · exact sm_nil
theorem sm_leaf (k : Int) : SmS (leafT k) := wf_of (by simp [leafT]) fun n hn => by
  simp only [leafT, List.mem_singleton] at hn
  subst hn
  exact ⟨⟨by unfold I64; simp only; split <;> omega, by unfold I64; simp only; omega, by unfold I64; simp only; omega, ⟨by simp, by simp⟩, by show (0 : Nat) ≤ 9223372036854775807; omega⟩, by simp⟩
theorem pair_pos (k : Int) (a b : List Nd) : decide (((pairT k a b).length : Int) > 0) = pairB a b := by
  unfold pairT
  by_cases h : pairB a b = true
  · rw [if_pos h, h, joinT_len]
    simp only [decide_eq_true_eq]; omega
  · rw [if_neg h]
    simp at h
    simp [h]
theorem star_pos (a : List Nd) : decide (((starTT a).length : Int) > 0) = starB a := by
  unfold starTT
  by_cases h : starB a = true
  · rw [if_pos h, h, starT_len]
    simp only [decide_eq_true_eq]; omega
  · rw [if_neg h]
    simp at h
    simp [h]
theorem one_pos (s : List (Int × Int)) (z : ByteArray) : decide (((oneT s z).length : Int) > 0) = oneB s := by
  unfold oneT
  by_cases h : oneB s = true
  · rw [if_pos h, h]; rfl
  · rw [if_neg h]
    simp at h
    simp [h]
theorem one_set {s : List (Int × Int)} {z : ByteArray} (hs : s.length ≤ 600) : ∀ n ∈ oneT s z, n.set.length ≤ 600 := by
  intro n hn
  unfold oneT at hn
  split at hn
  · simp only [List.mem_singleton] at hn
    subst hn; exact hs
  · simp at hn
theorem one_len (s : List (Int × Int)) (z : ByteArray) : (oneT s z).length ≤ 9223372036854775807 := by
  unfold oneT
  split <;> simp
theorem prtA_sm {t : List Nd} (h : SmS t) : SmS (partA t) := by
  unfold partA
  split
  · rw [mov_zero]
    exact sm_subS h (fun n hn => List.mem_of_mem_take hn) (by simp; omega)
  · exact ⟨⟨by simp, by simp⟩, by simp⟩
theorem prtB_sm {t : List Nd} (h : SmS t) : SmS (partB t) := by
  unfold partB
  split
  · rename_i hc
    rw [Bool.and_eq_true] at hc
    obtain ⟨l, hl, h1, h2, h3, hcut⟩ := good_last hc.1
    have hsm := good_sm h hc.1
    have ha : (lastN t).a.toNat ≤ 100000 := by
      have := (hsm.all _ (getD_mem (t := t) (j := t.length - 1) (by omega))).a
      have e : t.getD (t.length - 1) default = lastN t := rfl
      rw [e] at this
      cases hcut with
      | fork hk c2 hb c1 ha hn hg =>
        have := (begs_cut hl (t.length - 1 - 1) (by omega)).1
        omega
      | star _ _ c1 ha => omega
      | leaf hf => rw [hc.2] at hf; cases hf
    refine sm_mov (sm_subS h (fun n hn => List.mem_of_mem_take (List.mem_of_mem_drop hn)) (by simp; omega)) (sm_sub hsm (fun n hn => List.mem_of_mem_take (List.mem_of_mem_drop hn)) (by simp; omega)) (by omega)
  · exact ⟨⟨by simp, by simp⟩, by simp⟩
theorem run3 (a b : List Nd) (s : List (Int × Int)) (r : List Int) (kd : Int) (wa : WfT a) (wb : WfT b) : cwp y9 3 [] [(AV.list 5 (List.map eNd a)), (AV.list 5 (List.map eNd b)), .agg [(AV.list 2 (List.map (fun x => [AV.int .i64 x.1, AV.int .i64 x.2]) (s))), (AV.list 1 (List.map (fun x => [AV.int .i64 x]) (r))), .int .i64 kd]] [] (fun v H => v = .bool true ∧ H = []) := by
  refine run_fn (fn := fn3) rfl rfl ?_
  by_cases l1 : large a = true
  · simp only [fn3_body, c3, mach, dat2, wanted, putd, eset, eget, AX.ev, ains, params, Nat.reduceBEq, Nat.reduceAdd, reduceIte, Nat.reduceEqDiff, slots, dnext, clsOf, abin, aint, aun, agetl, foldMin, Nat.reduceLeDiff, List.isEmpty, Int.reduceEq, argsOf, St.add, hadd, hget, fget, hset, fset, cellsOf, loadObj, ofCells, reduceCtorEq, partsOfA, afill, Int.reduceBEq, Int.reduceBNe, Int.reduceLT, Int.reduceNeg, partsOf, setRows, rowsOf, hmerge, hpop, bnd, @cg16 y9 rfl, @dcg16 y9 rfl, @cg17 y9 rfl, @dcg17 y9 rfl, wa, l1]
    simp only [bodyRes, resOf, one, hpop, hmerge, ob_some, endr, ne_eq, not_false_eq_true, not_true_eq_false, false_or, or_false, dat2, wanted, putd, eset, eget, AX.ev, ains, params, Nat.reduceBEq, Nat.reduceAdd, reduceIte, Nat.reduceEqDiff, slots, dnext, clsOf, abin, aint, aun, agetl, foldMin, Nat.reduceLeDiff, List.isEmpty, Int.reduceEq, argsOf, St.add, hadd, hget, fget, hset, fset, cellsOf, loadObj, ofCells, reduceCtorEq, partsOfA, afill, Int.reduceBEq, Int.reduceBNe, Int.reduceLT, Int.reduceNeg, partsOf, setRows, rowsOf, hmerge, hpop, bnd, fn3_res, fn3_keep]
  have l1' : large a = false := by simpa using l1
  by_cases l2 : large b = true
  · simp only [fn3_body, c3, mach, dat2, wanted, putd, eset, eget, AX.ev, ains, params, Nat.reduceBEq, Nat.reduceAdd, reduceIte, Nat.reduceEqDiff, slots, dnext, clsOf, abin, aint, aun, agetl, foldMin, Nat.reduceLeDiff, List.isEmpty, Int.reduceEq, argsOf, St.add, hadd, hget, fget, hset, fset, cellsOf, loadObj, ofCells, reduceCtorEq, partsOfA, afill, Int.reduceBEq, Int.reduceBNe, Int.reduceLT, Int.reduceNeg, partsOf, setRows, rowsOf, hmerge, hpop, bnd, @cg16 y9 rfl, @dcg16 y9 rfl, @cg17 y9 rfl, @dcg17 y9 rfl, wa, wb, l1', l2]
    simp only [bodyRes, resOf, one, hpop, hmerge, ob_some, endr, ne_eq, not_false_eq_true, not_true_eq_false, false_or, or_false, dat2, wanted, putd, eset, eget, AX.ev, ains, params, Nat.reduceBEq, Nat.reduceAdd, reduceIte, Nat.reduceEqDiff, slots, dnext, clsOf, abin, aint, aun, agetl, foldMin, Nat.reduceLeDiff, List.isEmpty, Int.reduceEq, argsOf, St.add, hadd, hget, fget, hset, fset, cellsOf, loadObj, ofCells, reduceCtorEq, partsOfA, afill, Int.reduceBEq, Int.reduceBNe, Int.reduceLT, Int.reduceNeg, partsOf, setRows, rowsOf, hmerge, hpop, bnd, fn3_res, fn3_keep]
  have l2' : large b = false := by simpa using l2
  by_cases l3 : s.length > 100
  · have l3' : (s.length : Int) > 100 := by omega
    simp only [fn3_body, c3, mach, dat2, wanted, putd, eset, eget, AX.ev, ains, params, Nat.reduceBEq, Nat.reduceAdd, reduceIte, Nat.reduceEqDiff, slots, dnext, clsOf, abin, aint, aun, agetl, foldMin, Nat.reduceLeDiff, List.isEmpty, Int.reduceEq, argsOf, St.add, hadd, hget, fget, hset, fset, cellsOf, loadObj, ofCells, reduceCtorEq, partsOfA, afill, Int.reduceBEq, Int.reduceBNe, Int.reduceLT, Int.reduceNeg, partsOf, setRows, rowsOf, hmerge, hpop, bnd, @cg16 y9 rfl, @dcg16 y9 rfl, @cg17 y9 rfl, @dcg17 y9 rfl, wa, wb, l1', l2', l3', decide_true]
    simp only [bodyRes, resOf, one, hpop, hmerge, ob_some, endr, ne_eq, not_false_eq_true, not_true_eq_false, false_or, or_false, dat2, wanted, putd, eset, eget, AX.ev, ains, params, Nat.reduceBEq, Nat.reduceAdd, reduceIte, Nat.reduceEqDiff, slots, dnext, clsOf, abin, aint, aun, agetl, foldMin, Nat.reduceLeDiff, List.isEmpty, Int.reduceEq, argsOf, St.add, hadd, hget, fget, hset, fset, cellsOf, loadObj, ofCells, reduceCtorEq, partsOfA, afill, Int.reduceBEq, Int.reduceBNe, Int.reduceLT, Int.reduceNeg, partsOf, setRows, rowsOf, hmerge, hpop, bnd, fn3_res, fn3_keep]
  have l3' : ¬ (s.length : Int) > 100 := by omega
  by_cases l4 : r.length > 12
  · have l4' : (r.length : Int) > 12 := by omega
    simp only [fn3_body, c3, mach, dat2, wanted, putd, eset, eget, AX.ev, ains, params, Nat.reduceBEq, Nat.reduceAdd, reduceIte, Nat.reduceEqDiff, slots, dnext, clsOf, abin, aint, aun, agetl, foldMin, Nat.reduceLeDiff, List.isEmpty, Int.reduceEq, argsOf, St.add, hadd, hget, fget, hset, fset, cellsOf, loadObj, ofCells, reduceCtorEq, partsOfA, afill, Int.reduceBEq, Int.reduceBNe, Int.reduceLT, Int.reduceNeg, partsOf, setRows, rowsOf, hmerge, hpop, bnd, @cg16 y9 rfl, @dcg16 y9 rfl, @cg17 y9 rfl, @dcg17 y9 rfl, wa, wb, l1', l2', l3', l4', decide_true, decide_false]
    simp only [bodyRes, resOf, one, hpop, hmerge, ob_some, endr, ne_eq, not_false_eq_true, not_true_eq_false, false_or, or_false, dat2, wanted, putd, eset, eget, AX.ev, ains, params, Nat.reduceBEq, Nat.reduceAdd, reduceIte, Nat.reduceEqDiff, slots, dnext, clsOf, abin, aint, aun, agetl, foldMin, Nat.reduceLeDiff, List.isEmpty, Int.reduceEq, argsOf, St.add, hadd, hget, fget, hset, fset, cellsOf, loadObj, ofCells, reduceCtorEq, partsOfA, afill, Int.reduceBEq, Int.reduceBNe, Int.reduceLT, Int.reduceNeg, partsOf, setRows, rowsOf, hmerge, hpop, bnd, fn3_res, fn3_keep]
  have l4' : ¬ (r.length : Int) > 12 := by omega
  have la := large_len l1'
  have lb := large_len l2'
  have m1 : a.length * r.length ≤ 600 * 12 := Nat.mul_le_mul la (by omega)
  have m2 : a.length * r.length * r.length ≤ 600 * 12 * 12 := Nat.mul_le_mul m1 (by omega)
  have e1 : IntKind.i64.wrap ((a.length : Int) * (r.length : Int)) = ((a.length * r.length : Nat) : Int) := by
    rw [← Int.natCast_mul]
    exact wrap64 (by omega) (by omega)
  have e2 : IntKind.i64.wrap (((a.length * r.length : Nat) : Int) * (r.length : Int)) = ((a.length * r.length * r.length : Nat) : Int) := by
    rw [← Int.natCast_mul]
    exact wrap64 (by omega) (by omega)
  by_cases l5 : ((a.length * r.length * r.length : Nat) : Int) > 20000
  · simp only [fn3_body, c3, mach, dat2, wanted, putd, eset, eget, AX.ev, ains, params, Nat.reduceBEq, Nat.reduceAdd, reduceIte, Nat.reduceEqDiff, slots, dnext, clsOf, abin, aint, aun, agetl, foldMin, Nat.reduceLeDiff, List.isEmpty, Int.reduceEq, argsOf, St.add, hadd, hget, fget, hset, fset, cellsOf, loadObj, ofCells, reduceCtorEq, partsOfA, afill, Int.reduceBEq, Int.reduceBNe, Int.reduceLT, Int.reduceNeg, partsOf, setRows, rowsOf, hmerge, hpop, bnd, @cg16 y9 rfl, @dcg16 y9 rfl, @cg17 y9 rfl, @dcg17 y9 rfl, wa, wb, l1', l2', l3', l4', e1, e2, l5, decide_true, decide_false]
    simp only [bodyRes, resOf, one, hpop, hmerge, ob_some, endr, ne_eq, not_false_eq_true, not_true_eq_false, false_or, or_false, dat2, wanted, putd, eset, eget, AX.ev, ains, params, Nat.reduceBEq, Nat.reduceAdd, reduceIte, Nat.reduceEqDiff, slots, dnext, clsOf, abin, aint, aun, agetl, foldMin, Nat.reduceLeDiff, List.isEmpty, Int.reduceEq, argsOf, St.add, hadd, hget, fget, hset, fset, cellsOf, loadObj, ofCells, reduceCtorEq, partsOfA, afill, Int.reduceBEq, Int.reduceBNe, Int.reduceLT, Int.reduceNeg, partsOf, setRows, rowsOf, hmerge, hpop, bnd, fn3_res, fn3_keep]
  have sa := large_set wa l1'
  have sb := large_set wb l2'
  have oa : (∀ n ∈ a, n.set.length ≤ 600) ∧ a.length ≤ 1000000 := ⟨sa.set, by omega⟩
  have ob : (∀ n ∈ b, n.set.length ≤ 600) ∧ b.length ≤ 1000000 := ⟨sb.set, by omega⟩
  have d : (SmS a ∧ SmS b) ∧ a.length ≤ 1000000 ∧ b.length ≤ 1000000 := ⟨⟨sa, sb⟩, by omega, by omega⟩
  have ds : SmS a ∧ a.length ≤ 1000000 := ⟨sa, by omega⟩
  have hs : s.length ≤ 600 := by omega
  have hcap : s.length * 16 ≤ 140737488355328 := by omega
  have dk : ∀ t, SmS t → (∀ n ∈ t, n.set.length ≤ 600) ∧ t.length ≤ 9223372036854775807 := fun t h => ⟨h.set, h.wf.len⟩
  have k3 := dk _ (sm_pairT (k := 3) (.inl rfl) sa sb)
  have k4 := dk _ (sm_pairT (k := 4) (.inr rfl) sa sb)
  have ks := dk _ (sm_starTT sa)
  have ko : ∀ z, (∀ n ∈ oneT s z, n.set.length ≤ 600) ∧ (oneT s z).length ≤ 9223372036854775807 := fun z => ⟨one_set hs, one_len s z⟩
  have kA := dk _ (prtA_sm sa)
  have kB := dk _ (prtB_sm sa)
  have ka := dk _ sa
  have kb := dk _ sb
  have kl := dk _ (sm_leaf kd)
  have dt : WfT a ∧ r.length ≤ 1000000 := ⟨wa, by omega⟩
  have p3 := pair_pos 3 a b
  have p4 := pair_pos 4 a b
  have ps := star_pos a
  have po := one_pos s
  have same := sameT_self
  have x1 := @cg18 y9 rfl a oa
  have x2 := @cg18 y9 rfl b ob
  have yp3 := fun u => @cg28 y9 rfl (pairT 3 a b) u k3
  have zp3 := fun u => @dcg28 y9 rfl (pairT 3 a b) u k3
  have yp4 := fun u => @cg28 y9 rfl (pairT 4 a b) u k4
  have zp4 := fun u => @dcg28 y9 rfl (pairT 4 a b) u k4
  have ys := fun u => @cg28 y9 rfl (starTT a) u ks
  have zs := fun u => @dcg28 y9 rfl (starTT a) u ks
  have yA := fun u => @cg28 y9 rfl (partA a) u kA
  have zA := fun u => @dcg28 y9 rfl (partA a) u kA
  have yB := fun u => @cg28 y9 rfl (partB a) u kB
  have zB := fun u => @dcg28 y9 rfl (partB a) u kB
  have ya := fun u => @cg28 y9 rfl a u ka
  have za := fun u => @dcg28 y9 rfl a u ka
  have yb := fun u => @cg28 y9 rfl b u kb
  have zb := fun u => @dcg28 y9 rfl b u kb
  have yl := fun u => @cg28 y9 rfl (leafT kd) u kl
  have zl := fun u => @dcg28 y9 rfl (leafT kd) u kl
  have yo := fun z u => @cg28 y9 rfl (oneT s z) u (ko z)
  have zo := fun z u => @dcg28 y9 rfl (oneT s z) u (ko z)
  clear m1 m2 dk
  simp (maxSteps := 2000000) only [fn3_body, c3, mach, dat2, wanted, putd, eset, eget, AX.ev, ains, params, Nat.reduceBEq, Nat.reduceAdd, reduceIte, Nat.reduceEqDiff, slots, dnext, clsOf, abin, aint, aun, agetl, foldMin, Nat.reduceLeDiff, List.isEmpty, Int.reduceEq, argsOf, St.add, hadd, hget, fget, hset, fset, cellsOf, loadObj, ofCells, reduceCtorEq, partsOfA, afill, Int.reduceBEq, Int.reduceBNe, Int.reduceLT, Int.reduceNeg, partsOf, setRows, rowsOf, hmerge, hpop, bnd, @cg16 y9 rfl, @dcg16 y9 rfl, @cg17 y9 rfl, @dcg17 y9 rfl, @cg19 y9 rfl, @dcg19 y9 rfl, @cg20 y9 rfl, @dcg20 y9 rfl, @cg21 y9 rfl, @dcg21 y9 rfl, @cg22 y9 rfl, @dcg22 y9 rfl, @cg23 y9 rfl, @dcg23 y9 rfl, @cg24 y9 rfl, @dcg24 y9 rfl, @cg25 y9 rfl, @dcg25 y9 rfl, @cg26 y9 rfl, @dcg26 y9 rfl, @cg27 y9 rfl, @dcg27 y9 rfl, @cg29 y9 rfl, @dcg29 y9 rfl, @cg30 y9 rfl, @dcg30 y9 rfl, @cg31 y9 rfl, @dcg31 y9 rfl, @cg32 y9 rfl, @dcg32 y9 rfl, @cg33 y9 rfl, @dcg33 y9 rfl, @cg34 y9 rfl, @dcg34 y9 rfl, @cg35 y9 rfl, @dcg35 y9 rfl, wa, wb, l1', l2', l3', l4', e1, e2, l5, d, ds, hs, hcap, dt, x1, x2, yp3, zp3, yp4, zp4, ys, zs, yA, zA, yB, zB, ya, za, yb, zb, yl, zl, yo, zo, p3, p4, ps, po, same, sa, sb, fz, fzd, fzd.fzcells, Nat.zero_add, decide_true, decide_false]
  simp only [bodyRes, resOf, one, hpop, hmerge, ob_some, endr, ne_eq, not_false_eq_true, not_true_eq_false, false_or, or_false, dat2, wanted, putd, eset, eget, AX.ev, ains, params, Nat.reduceBEq, Nat.reduceAdd, reduceIte, Nat.reduceEqDiff, slots, dnext, clsOf, abin, aint, aun, agetl, foldMin, Nat.reduceLeDiff, List.isEmpty, Int.reduceEq, argsOf, St.add, hadd, hget, fget, hset, fset, cellsOf, loadObj, ofCells, reduceCtorEq, partsOfA, afill, Int.reduceBEq, Int.reduceBNe, Int.reduceLT, Int.reduceNeg, partsOf, setRows, rowsOf, hmerge, hpop, bnd, fn3_res, fn3_keep]
end Go.Proofs.Abs
