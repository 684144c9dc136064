/- A part of a proof: the text that states the row tells what is proved. No condition is laid on anything. -/
import Derived.Test.YtgcncpedpjjjeaaAbsF8
set_option linter.all false
set_option linter.constructorNameAsVariable false
set_option linter.defProp false
set_option linter.unusedVariables false
set_option linter.unusedSimpArgs false
set_option maxRecDepth 100000
set_option maxHeartbeats 4000000
namespace Go.Proofs.Abs
open Go
/-! 28: caesurakeep.Tree. -/
theorem run28 (a b : List Nd) (ha : ∀ n ∈ a, n.set.length ≤ 600) (hla : a.length ≤ 9223372036854775807) : cwp y6 28 [] [(AV.list 5 (List.map eNd a)), (AV.list 5 (List.map eNd b))] [] (fun r H => r = .bool (sameT a b) ∧ H = []) := by
  refine run_fn (fn := fn28) rfl rfl ?_
  by_cases hl : a.length = b.length
  · have hl' : ((a.length : Int) != (b.length : Int)) = false := by simp [hl]
    simp only [fn28_body, c28, mach, dat2, wanted, putd, eset, eget, AX.ev, ains, params, Nat.reduceBEq, Nat.reduceAdd, reduceIte, Nat.reduceEqDiff, slots, dnext, clsOf, abin, aint, aun, agetl, foldMin, Nat.reduceLeDiff, List.isEmpty, Int.reduceEq, argsOf, St.add, hadd, hget, fget, hset, fset, cellsOf, loadObj, ofCells, reduceCtorEq, partsOfA, afill, Int.reduceBEq, Int.reduceBNe, Int.reduceLT, Int.reduceNeg, partsOf, setRows, rowsOf, hmerge, hpop, bnd, hl']
    refine lg_rule (fun j e H => e = [(0, (AV.list 5 (List.map eNd a))), (1, (AV.list 5 (List.map eNd b))), (4, .bool false), (5, .int .i64 j)] ∧ H = [[]] ∧ j ≤ a.length ∧ ∀ i, i < j → sameN (a.getD i default) (b.getD i default) = true) a.length ?_ ?_
    · exact ⟨rfl, rfl, by simp, by simp⟩
    rintro j e H ⟨rfl, rfl, hj, hi⟩
    simp only [mach, dat2, wanted, putd, eset, eget, AX.ev, ains, params, Nat.reduceBEq, Nat.reduceAdd, reduceIte, Nat.reduceEqDiff, slots, dnext, clsOf, abin, aint, aun, agetl, foldMin, Nat.reduceLeDiff, List.isEmpty, Int.reduceEq, argsOf, St.add, hadd, hget, fget, hset, fset, cellsOf, loadObj, ofCells, reduceCtorEq, partsOfA, afill, Int.reduceBEq, Int.reduceBNe, Int.reduceLT, Int.reduceNeg, partsOf, setRows, rowsOf, hmerge, hpop, bnd]
    by_cases h : j < a.length
    · have h' : (j : Int) < (a.length : Int) := by omega
      have hp := wrapp (j := j) (by omega)
      have hga := map_get (f := eNd) h default
      have hgb := map_get (f := eNd) (l := b) (j := j) (by omega) default
      have hsm := ha _ (getD_mem h)
      have bad : sameN (a.getD j default) (b.getD j default) = false → sameT a b = false := fun h1 => by
        unfold sameT
        rw [all_false h h1, Bool.and_false]
      have step : sameN (a.getD j default) (b.getD j default) = true → ∀ i, i < j + 1 → sameN (a.getD i default) (b.getD i default) = true := fun h1 i h2 => by
        by_cases e : i = j
        · rw [e]; exact h1
        · exact hi i (by omega)
      generalize a.getD j default = x at hga bad step hsm
      generalize b.getD j default = y at hgb bad step
      obtain ⟨k, p, q, c, z⟩ := x
      obtain ⟨k', p', q', c', z'⟩ := y
      simp only at hsm
      have hd : c.length ≤ 9223372036854775807 := by omega
      clear hi
      simp only [mach, dat2, wanted, putd, eset, eget, AX.ev, ains, params, Nat.reduceBEq, Nat.reduceAdd, reduceIte, Nat.reduceEqDiff, slots, dnext, clsOf, abin, aint, aun, agetl, foldMin, Nat.reduceLeDiff, List.isEmpty, Int.reduceEq, argsOf, St.add, hadd, hget, fget, hset, fset, cellsOf, loadObj, ofCells, reduceCtorEq, partsOfA, afill, Int.reduceBEq, Int.reduceBNe, Int.reduceLT, Int.reduceNeg, partsOf, setRows, rowsOf, hmerge, hpop, bnd, @cg63 y6 rfl, @dcg63 y6 rfl, hd, h', hga, hgb, eNd, eSet, hins, fins, idk, List.getLast?_cons_cons, List.getLast?_singleton, Option.getD_some, Option.isNone_none, Nat.reduceLT, lrc_x, apx, apart, apart1, needs, decide_true, Int.natCast_nonneg, Int.toNat_natCast]
      repeat' ((first | refine rw1_nsplit (fun h => ?_) (fun h => ?_) | refine rw1_split (fun h => ?_) (fun h => ?_) | refine dw1_nsplit (fun h => ?_) (fun h => ?_) | refine dw1_split (fun h => ?_) (fun h => ?_) | refine cg2_nsplit (fun h => ?_) (fun h => ?_) | refine cg2_split (fun h => ?_) (fun h => ?_)) <;> simp only [mach, dat2, wanted, putd, eset, eget, AX.ev, ains, params, Nat.reduceBEq, Nat.reduceAdd, reduceIte, Nat.reduceEqDiff, slots, dnext, clsOf, abin, aint, aun, agetl, foldMin, Nat.reduceLeDiff, List.isEmpty, Int.reduceEq, argsOf, St.add, hadd, hget, fget, hset, fset, cellsOf, loadObj, ofCells, reduceCtorEq, partsOfA, afill, Int.reduceBEq, Int.reduceBNe, Int.reduceLT, Int.reduceNeg, partsOf, setRows, rowsOf, hmerge, hpop, bnd, h, @cg63 y6 rfl, @dcg63 y6 rfl, hd, hp])
      all_goals simp only [bodyRes, resOf, one, hpop, hmerge, ob_some, endr, ne_eq, not_false_eq_true, not_true_eq_false, false_or, or_false, dat2, wanted, putd, eset, eget, AX.ev, ains, params, Nat.reduceBEq, Nat.reduceAdd, reduceIte, Nat.reduceEqDiff, slots, dnext, clsOf, abin, aint, aun, agetl, foldMin, Nat.reduceLeDiff, List.isEmpty, Int.reduceEq, argsOf, St.add, hadd, hget, fget, hset, fset, cellsOf, loadObj, ofCells, reduceCtorEq, partsOfA, afill, Int.reduceBEq, Int.reduceBNe, Int.reduceLT, Int.reduceNeg, partsOf, setRows, rowsOf, hmerge, hpop, bnd, fn28_res, fn28_keep]
      all_goals clear hga hgb hp ha hsm hd
      all_goals first | (rw [bad (by clear bad step; simp_all [sameN])]; done) | exact ⟨by omega, by omega, step (by clear bad step; simp_all [sameN])⟩
    · have h' : ¬ (j : Int) < (a.length : Int) := by omega
      have he : sameT a b = true := by
        unfold sameT
        rw [all_true fun i h1 => hi i (by omega)]
        simp [hl]
      simp only [mach, dat2, wanted, putd, eset, eget, AX.ev, ains, params, Nat.reduceBEq, Nat.reduceAdd, reduceIte, Nat.reduceEqDiff, slots, dnext, clsOf, abin, aint, aun, agetl, foldMin, Nat.reduceLeDiff, List.isEmpty, Int.reduceEq, argsOf, St.add, hadd, hget, fget, hset, fset, cellsOf, loadObj, ofCells, reduceCtorEq, partsOfA, afill, Int.reduceBEq, Int.reduceBNe, Int.reduceLT, Int.reduceNeg, partsOf, setRows, rowsOf, hmerge, hpop, bnd, h', decide_false]
      refine .inr ⟨by simp, ?_⟩
      simp only [bodyRes, resOf, one, hpop, hmerge, ob_some, endr, ne_eq, not_false_eq_true, not_true_eq_false, false_or, or_false, dat2, wanted, putd, eset, eget, AX.ev, ains, params, Nat.reduceBEq, Nat.reduceAdd, reduceIte, Nat.reduceEqDiff, slots, dnext, clsOf, abin, aint, aun, agetl, foldMin, Nat.reduceLeDiff, List.isEmpty, Int.reduceEq, argsOf, St.add, hadd, hget, fget, hset, fset, cellsOf, loadObj, ofCells, reduceCtorEq, partsOfA, afill, Int.reduceBEq, Int.reduceBNe, Int.reduceLT, Int.reduceNeg, partsOf, setRows, rowsOf, hmerge, hpop, bnd, fn28_res, fn28_keep, he]
  · have hl' : ((a.length : Int) != (b.length : Int)) = true := by
      simp only [bne_iff_ne, ne_eq]
      omega
    have he : sameT a b = false := by simp [sameT, hl]
    simp only [fn28_body, c28, mach, dat2, wanted, putd, eset, eget, AX.ev, ains, params, Nat.reduceBEq, Nat.reduceAdd, reduceIte, Nat.reduceEqDiff, slots, dnext, clsOf, abin, aint, aun, agetl, foldMin, Nat.reduceLeDiff, List.isEmpty, Int.reduceEq, argsOf, St.add, hadd, hget, fget, hset, fset, cellsOf, loadObj, ofCells, reduceCtorEq, partsOfA, afill, Int.reduceBEq, Int.reduceBNe, Int.reduceLT, Int.reduceNeg, partsOf, setRows, rowsOf, hmerge, hpop, bnd, hl']
    simp only [bodyRes, resOf, one, hpop, hmerge, ob_some, endr, ne_eq, not_false_eq_true, not_true_eq_false, false_or, or_false, dat2, wanted, putd, eset, eget, AX.ev, ains, params, Nat.reduceBEq, Nat.reduceAdd, reduceIte, Nat.reduceEqDiff, slots, dnext, clsOf, abin, aint, aun, agetl, foldMin, Nat.reduceLeDiff, List.isEmpty, Int.reduceEq, argsOf, St.add, hadd, hget, fget, hset, fset, cellsOf, loadObj, ofCells, reduceCtorEq, partsOfA, afill, Int.reduceBEq, Int.reduceBNe, Int.reduceLT, Int.reduceNeg, partsOf, setRows, rowsOf, hmerge, hpop, bnd, fn28_res, fn28_keep, he]
noncomputable def o28 : Id → List AV → Heap → Option (AV × Heap) := oraF (fun (x : List Nd × List Nd) => (∀ n ∈ (x.1), n.set.length ≤ 600) ∧ (x.1).length ≤ 9223372036854775807) (fun (x : List Nd × List Nd) => [(AV.list 5 (List.map eNd (x.1))), (AV.list 5 (List.map eNd (x.2)))]) (fun (x : List Nd × List Nd) => .bool (sameT (x.1) (x.2)))
theorem inj28 : ∀ x y : List Nd × List Nd, ((fun (x : List Nd × List Nd) => [(AV.list 5 (List.map eNd (x.1))), (AV.list 5 (List.map eNd (x.2)))] : List Nd × List Nd → List AV)) x = ((fun (x : List Nd × List Nd) => [(AV.list 5 (List.map eNd (x.1))), (AV.list 5 (List.map eNd (x.2)))] : List Nd × List Nd → List AV)) y → x = y := tree2Inj
theorem cg28 {ft : FT} (h : ft 28 = some (.ora o28)) (a : List Nd) (b : List Nd) (hd : (∀ n ∈ a, n.set.length ≤ 600) ∧ a.length ≤ 9223372036854775807) (q0 : Id) (H0 : Heap) (d0 : Option Nat) (r0 : List AIn) (k0 : Nat) (dr0 : List Nat) (ks0 : List Kt) (Q0 : Fin) (s0 : St) : cg ft 28 q0 ([(AV.list 5 (List.map eNd a)), (AV.list 5 (List.map eNd b))]) H0 d0 r0 k0 dr0 ks0 Q0 s0 = rg ft r0 k0 dr0 ks0 Q0 { s0 with env := putd s0.env d0 (.bool (sameT a b)), heap := H0, k := s0.k + 1 } := cg_has (dom := fun (x : List Nd × List Nd) => (∀ n ∈ (x.1), n.set.length ≤ 600) ∧ (x.1).length ≤ 9223372036854775807) (enc := fun (x : List Nd × List Nd) => [(AV.list 5 (List.map eNd (x.1))), (AV.list 5 (List.map eNd (x.2)))]) (out := fun (x : List Nd × List Nd) => .bool (sameT (x.1) (x.2))) (a := ((a, b) : List Nd × List Nd)) h inj28 hd q0 H0 d0 r0 k0 dr0 ks0 Q0 s0
theorem dcg28 {ft : FT} (h : ft 28 = some (.ora o28)) (a : List Nd) (b : List Nd) (hd : (∀ n ∈ a, n.set.length ≤ 600) ∧ a.length ≤ 9223372036854775807) (q0 : Id) (H0 : Heap) (i0 : AIn) (r0 : List AIn) (k0 : Nat) (l0 : List Rec) (dr0 : List Nat) (ks0 : List Kt) (Q0 : Fin) (s0 : St) : dcg ft 28 q0 ([(AV.list 5 (List.map eNd a)), (AV.list 5 (List.map eNd b))]) H0 i0 r0 k0 l0 dr0 ks0 Q0 s0 = dn ft (dnext (clsOf i0.i s0.env) (.bool (sameT a b)) s0 { s0 with heap := H0, k := s0.k + 1 }) i0 r0 k0 l0 dr0 ks0 Q0 s0 := dcg_has (dom := fun (x : List Nd × List Nd) => (∀ n ∈ (x.1), n.set.length ≤ 600) ∧ (x.1).length ≤ 9223372036854775807) (enc := fun (x : List Nd × List Nd) => [(AV.list 5 (List.map eNd (x.1))), (AV.list 5 (List.map eNd (x.2)))]) (out := fun (x : List Nd × List Nd) => .bool (sameT (x.1) (x.2))) (a := ((a, b) : List Nd × List Nd)) h inj28 hd q0 H0 i0 r0 k0 l0 dr0 ks0 Q0 s0
theorem ook28 : OraOK Try.prog 28 o28 := lift orders y6_ok (by decide) (fun x hd => by simp [pure_undef, pure_bool, pure_int, pure_str, pure_nils, pure_agg, pure_tuple, pure_setL, pure_treeL, pure_rowL, pureL_eNd, pure_nats]) (fun x hd => by simp [pure_undef, pure_bool, pure_int, pure_str, pure_nils, pure_agg, pure_tuple, pure_setL, pure_treeL, pure_rowL, pureL_eNd, pure_nats]) (fun x hd => cwp_run (run28 x.1 x.2 hd.1 hd.2))

noncomputable def y7 : FT := upd (y6) 28 o28
theorem y7_ok : FTOK Try.prog y7 := upd_ok (y6_ok) (by decide) ook28

end Go.Proofs.Abs
