/- A part of a proof: the text that states the row tells what is proved. No condition is laid on anything. -/
import Derived.Test.YtgcncpedpjjjeaaAbsF3
set_option linter.all false
set_option linter.constructorNameAsVariable false
set_option linter.defProp false
set_option linter.unusedVariables false
set_option linter.unusedSimpArgs false
set_option maxRecDepth 100000
set_option maxHeartbeats 4000000
namespace Go.Proofs.Abs
open Go
def k75 : Kon (N5 × N5) := ⟨fun x => (Nd.mk x.1.1 x.1.2.1 x.1.2.2.1 x.1.2.2.2.1 x.1.2.2.2.2).set.length ≤ 9223372036854775807, fun x => [AV.agg [AV.int .i64 x.1.1, AV.int .i64 x.1.2.1, AV.int .i64 x.1.2.2.1, (AV.list 2 (List.map (fun x => [AV.int .i64 x.1, AV.int .i64 x.2]) x.1.2.2.2.1)), AV.str x.1.2.2.2.2], AV.agg [AV.int .i64 x.2.1, AV.int .i64 x.2.2.1, AV.int .i64 x.2.2.2.1, (AV.list 2 (List.map (fun x => [AV.int .i64 x.1, AV.int .i64 x.2]) x.2.2.2.2.1)), AV.str x.2.2.2.2.2]], fun x => .bool (sameN (Nd.mk x.1.1 x.1.2.1 x.1.2.2.1 x.1.2.2.2.1 x.1.2.2.2.2) (Nd.mk x.2.1 x.2.2.1 x.2.2.2.1 x.2.2.2.2.1 x.2.2.2.2.2))⟩
theorem e75 (n : N5) (m : N5) (hd : (Nd.mk n.1 n.2.1 n.2.2.1 n.2.2.2.1 n.2.2.2.2).set.length ≤ 9223372036854775807) (q0 : Id) (H0 : Heap) : k75.ora q0 ([AV.agg [AV.int .i64 n.1, AV.int .i64 n.2.1, AV.int .i64 n.2.2.1, (AV.list 2 (List.map (fun x => [AV.int .i64 x.1, AV.int .i64 x.2]) n.2.2.2.1)), AV.str n.2.2.2.2], AV.agg [AV.int .i64 m.1, AV.int .i64 m.2.1, AV.int .i64 m.2.2.1, (AV.list 2 (List.map (fun x => [AV.int .i64 x.1, AV.int .i64 x.2]) m.2.2.2.1)), AV.str m.2.2.2.2]]) H0 = some (.bool (sameN (Nd.mk n.1 n.2.1 n.2.2.1 n.2.2.2.1 n.2.2.2.2) (Nd.mk m.1 m.2.1 m.2.2.1 m.2.2.2.1 m.2.2.2.2)), H0) := k75.eq (nd2Inj) (n, m) hd q0 H0
theorem ook75 : OraOK Try.prog (75 % 100000) k75.ora := k75.ok orders v4_ok (fun x hd => by simp [k75, PU]) (fun x hd => by simp [k75, PU]) (fun x hd => run75 ⟨x.1.1, x.1.2.1, x.1.2.2.1, x.1.2.2.2.1, x.1.2.2.2.2⟩ ⟨x.2.1, x.2.2.1, x.2.2.2.1, x.2.2.2.2.1, x.2.2.2.2.2⟩ hd)

noncomputable def v5 : FT := upd (v4) 75 k75.ora
theorem v5_ok : FTOK Try.prog v5 := upd_ok2 (f := 75) (v4_ok) ook75

/-! 74: slices.EqualFunc. -/
theorem run74 (a b : List Nd) (ha : ∀ n ∈ a, n.set.length ≤ 600) (hla : a.length ≤ 9223372036854775807) : cwp v5 74 [] [(AV.list 5 (List.map eNd a)), (AV.list 5 (List.map eNd b)), .func 75 []] [] (fun r H => r = .bool (sameT a b) ∧ H = []) := by
  refine run_fn (fn := fn74) rfl rfl ?_
  by_cases hl : a.length = b.length
  · have hl' : ((a.length : Int) != (b.length : Int)) = false := by simp [hl]
    simp only [fn74_body, c74, D0, ains, clsOf, abin, aint, aun, dnext, rowsOf, loadObj, cellsOf, ofCells, bnd, hmerge, Nat.reduceBEq, Nat.reduceAdd, reduceIte, Nat.reduceEqDiff, Nat.reduceLeDiff, Int.reduceEq, reduceCtorEq, Int.reduceBEq, Int.reduceBNe, Int.reduceLT, Int.reduceNeg, hl']
    refine lg_rule (fun j e H => e = [(0, (AV.list 5 (List.map eNd a))), (1, (AV.list 5 (List.map eNd b))), (2, .func 75 []), (6, .bool false), (15, (AV.list 5 (List.map eNd a))), (16, .int .i64 a.length), (17, .int .i64 j)] ∧ H = [[]] ∧ j ≤ a.length ∧ ∀ i, i < j → sameN (a.getD i default) (b.getD i default) = true) a.length ?_ ?_
    · exact ⟨rfl, rfl, by simp, by simp⟩
    rintro j e H ⟨rfl, rfl, hj, hi⟩
    simp only [D0, ains, clsOf, abin, aint, aun, dnext, rowsOf, loadObj, cellsOf, ofCells, bnd, hmerge, Nat.reduceBEq, Nat.reduceAdd, reduceIte, Nat.reduceEqDiff, Nat.reduceLeDiff, Int.reduceEq, reduceCtorEq, Int.reduceBEq, Int.reduceBNe, Int.reduceLT, Int.reduceNeg]
    by_cases h : j < a.length
    · have h' : (j : Int) < (a.length : Int) := by omega
      have hp := wrapp (j := j) (by omega)
      have hga := map_get (f := eNd) h default
      have hgb := map_get (f := eNd) (l := b) (j := j) (by omega) default
      have hsm := ha _ (getD_mem h)
      have bad : sameN (a.getD j default) (b.getD j default) = false → sameT a b = false := fun h1 => by
        unfold sameT
        rw [all_false h h1, Bool.and_false]
      have step : sameN (a.getD j default) (b.getD j default) = true → ∀ i, i < j + 1 → sameN (a.getD i default) (b.getD i default) = true := fun h1 i h2 => by
        by_cases e : i = j
        · rw [e]; exact h1
        · exact hi i (by omega)
      generalize a.getD j default = x at hga bad step hsm
      generalize b.getD j default = y at hgb bad step
      obtain ⟨k, p, q, c, z⟩ := x
      obtain ⟨k', p', q', c', z'⟩ := y
      have hd : (Nd.mk k p q c z).set.length ≤ 9223372036854775807 := by omega
      have cg := e75 (k, p, q, c, z) (k', p', q', c', z') hd
      have cu := @use_all v5 75 k75.ora rfl
      simp only at cg
      clear hi
      by_cases he : sameN ⟨k, p, q, c, z⟩ ⟨k', p', q', c', z'⟩ = true
      · have st := step he
        clear bad step
        simp only [D0, ains, clsOf, abin, aint, aun, dnext, rowsOf, loadObj, cellsOf, ofCells, bnd, hmerge, Nat.reduceBEq, Nat.reduceAdd, reduceIte, Nat.reduceEqDiff, Nat.reduceLeDiff, Int.reduceEq, reduceCtorEq, Int.reduceBEq, Int.reduceBNe, Int.reduceLT, Int.reduceNeg, h', hga, hgb, eNd, eSet, cg, cu, he, hp, rf_func, Nat.reduceLT, decide_true, Int.natCast_nonneg, Int.toNat_natCast]
        simp only [F1, bodyRes, one, ains, clsOf, abin, aint, aun, dnext, rowsOf, loadObj, cellsOf, ofCells, bnd, hmerge, Nat.reduceBEq, Nat.reduceAdd, reduceIte, Nat.reduceEqDiff, Nat.reduceLeDiff, Int.reduceEq, reduceCtorEq, Int.reduceBEq, Int.reduceBNe, Int.reduceLT, Int.reduceNeg]
        exact ⟨h, h, st⟩
      · have he' : sameN ⟨k, p, q, c, z⟩ ⟨k', p', q', c', z'⟩ = false := by simpa using he
        have bd := bad he'
        clear bad step
        simp only [D0, ains, clsOf, abin, aint, aun, dnext, rowsOf, loadObj, cellsOf, ofCells, bnd, hmerge, Nat.reduceBEq, Nat.reduceAdd, reduceIte, Nat.reduceEqDiff, Nat.reduceLeDiff, Int.reduceEq, reduceCtorEq, Int.reduceBEq, Int.reduceBNe, Int.reduceLT, Int.reduceNeg, h', hga, hgb, eNd, eSet, cg, cu, he', hp, rf_func, Nat.reduceLT, decide_true, Int.natCast_nonneg, Int.toNat_natCast]
        simp only [F1, bodyRes, one, ains, clsOf, abin, aint, aun, dnext, rowsOf, loadObj, cellsOf, ofCells, bnd, hmerge, Nat.reduceBEq, Nat.reduceAdd, reduceIte, Nat.reduceEqDiff, Nat.reduceLeDiff, Int.reduceEq, reduceCtorEq, Int.reduceBEq, Int.reduceBNe, Int.reduceLT, Int.reduceNeg, fn74_res, fn74_keep, bd]
    · have h' : ¬ (j : Int) < (a.length : Int) := by omega
      have he : sameT a b = true := by
        unfold sameT
        rw [all_true fun i h1 => hi i (by omega)]
        simp [hl]
      simp only [D0, ains, clsOf, abin, aint, aun, dnext, rowsOf, loadObj, cellsOf, ofCells, bnd, hmerge, Nat.reduceBEq, Nat.reduceAdd, reduceIte, Nat.reduceEqDiff, Nat.reduceLeDiff, Int.reduceEq, reduceCtorEq, Int.reduceBEq, Int.reduceBNe, Int.reduceLT, Int.reduceNeg, h', decide_false]
      refine .inr ⟨by simp, ?_⟩
      simp only [F1, bodyRes, one, ains, clsOf, abin, aint, aun, dnext, rowsOf, loadObj, cellsOf, ofCells, bnd, hmerge, Nat.reduceBEq, Nat.reduceAdd, reduceIte, Nat.reduceEqDiff, Nat.reduceLeDiff, Int.reduceEq, reduceCtorEq, Int.reduceBEq, Int.reduceBNe, Int.reduceLT, Int.reduceNeg, fn74_res, fn74_keep, he]
  · have hl' : ((a.length : Int) != (b.length : Int)) = true := by
      simp only [bne_iff_ne, ne_eq]
      omega
    have he : sameT a b = false := by simp [sameT, hl]
    simp only [fn74_body, c74, D0, ains, clsOf, abin, aint, aun, dnext, rowsOf, loadObj, cellsOf, ofCells, bnd, hmerge, Nat.reduceBEq, Nat.reduceAdd, reduceIte, Nat.reduceEqDiff, Nat.reduceLeDiff, Int.reduceEq, reduceCtorEq, Int.reduceBEq, Int.reduceBNe, Int.reduceLT, Int.reduceNeg, hl']
    simp only [F1, bodyRes, one, ains, clsOf, abin, aint, aun, dnext, rowsOf, loadObj, cellsOf, ofCells, bnd, hmerge, Nat.reduceBEq, Nat.reduceAdd, reduceIte, Nat.reduceEqDiff, Nat.reduceLeDiff, Int.reduceEq, reduceCtorEq, Int.reduceBEq, Int.reduceBNe, Int.reduceLT, Int.reduceNeg, fn74_res, fn74_keep, he]
theorem tree2FInj : ∀ x y : List Nd × List Nd, [(AV.list 5 (List.map eNd x.1)), (AV.list 5 (List.map eNd x.2)), AV.func 75 []] = [(AV.list 5 (List.map eNd y.1)), (AV.list 5 (List.map eNd y.2)), AV.func 75 []] → x = y := by
  rintro ⟨a, m⟩ ⟨b, n⟩ h
  simp only [List.cons.injEq, and_true] at h
  rw [eTree_inj (a := a) (b := b) h.1, eTree_inj (a := m) (b := n) h.2]
def k74 : Kon (List Nd × List Nd) := ⟨fun x => (∀ n ∈ x.1, n.set.length ≤ 600) ∧ x.1.length ≤ 9223372036854775807, fun x => [(AV.list 5 (List.map eNd x.1)), (AV.list 5 (List.map eNd x.2)), .func 75 []], fun x => .bool (sameT x.1 x.2)⟩
theorem e74 (a : List Nd) (b : List Nd) (hd : (∀ n ∈ a, n.set.length ≤ 600) ∧ a.length ≤ 9223372036854775807) (q0 : Id) (H0 : Heap) : k74.ora q0 ([(AV.list 5 (List.map eNd a)), (AV.list 5 (List.map eNd b)), .func 75 []]) H0 = some (.bool (sameT a b), H0) := k74.eq (tree2FInj) (a, b) hd q0 H0
theorem ook74 : OraOK Try.prog (74 % 100000) k74.ora := k74.ok orders v5_ok (fun x hd => by simp [k74, PU]) (fun x hd => by simp [k74, PU]) (fun x hd => run74 x.1 x.2 hd.1 hd.2)

noncomputable def v6 : FT := upd (v5) 74 k74.ora
theorem v6_ok : FTOK Try.prog v6 := upd_ok2 (f := 74) (v5_ok) ook74

theorem run33 (a b : List Nd) (ha : SmS a) : cwp v6 33 [] [(AV.list 5 (List.map eNd a)), (AV.list 5 (List.map eNd b))] [] (fun r H => r = .bool (sameT a b) ∧ H = []) := by
  refine run_fn (fn := fn33) rfl rfl ?_
  have hd : (∀ n ∈ a, n.set.length ≤ 600) ∧ a.length ≤ 9223372036854775807 := ⟨ha.set, ha.wf.len⟩
  have cg := e74 a b hd
  have cu := @use_all v6 74 k74.ora rfl
  simp only [fn33_body, c33, D0, ains, clsOf, abin, aint, aun, dnext, rowsOf, loadObj, cellsOf, ofCells, bnd, hmerge, Nat.reduceBEq, Nat.reduceAdd, reduceIte, Nat.reduceEqDiff, Nat.reduceLeDiff, Int.reduceEq, reduceCtorEq, Int.reduceBEq, Int.reduceBNe, Int.reduceLT, Int.reduceNeg, cg, cu]
  simp only [F1, bodyRes, one, ains, clsOf, abin, aint, aun, dnext, rowsOf, loadObj, cellsOf, ofCells, bnd, hmerge, Nat.reduceBEq, Nat.reduceAdd, reduceIte, Nat.reduceEqDiff, Nat.reduceLeDiff, Int.reduceEq, reduceCtorEq, Int.reduceBEq, Int.reduceBNe, Int.reduceLT, Int.reduceNeg, fn33_res, fn33_keep]
def k33 : Kon (List Nd × List Nd) := ⟨fun x => SmS x.1, fun x => [(AV.list 5 (List.map eNd x.1)), (AV.list 5 (List.map eNd x.2))], fun x => .bool (sameT x.1 x.2)⟩
theorem e33 (a : List Nd) (b : List Nd) (hd : SmS a) (q0 : Id) (H0 : Heap) : k33.ora q0 ([(AV.list 5 (List.map eNd a)), (AV.list 5 (List.map eNd b))]) H0 = some (.bool (sameT a b), H0) := k33.eq (tree2Inj) (a, b) hd q0 H0
theorem ook33 : OraOK Try.prog (33 % 100000) k33.ora := k33.ok orders v6_ok (fun x hd => by simp [k33, PU]) (fun x hd => by simp [k33, PU]) (fun x hd => run33 x.1 x.2 hd)

noncomputable def v7 : FT := upd (v6) 33 k33.ora
theorem v7_ok : FTOK Try.prog v7 := upd_ok2 (f := 33) (v6_ok) ook33

end Go.Proofs.Abs
