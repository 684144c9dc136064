/- A part of a proof: the text that states the row tells what is proved. No condition is laid on anything. -/
import Derived.Test.YtgcncpedpjjjeaaAbsF6
set_option linter.all false
set_option linter.constructorNameAsVariable false
set_option linter.defProp false
set_option linter.unusedVariables false
set_option linter.unusedSimpArgs false
set_option maxRecDepth 100000
set_option maxHeartbeats 4000000
namespace Go.Proofs.Abs
open Go
theorem eNd_snoc (L : List Nd) (k a b : Int) (c : List (Int × Int)) (z : ByteArray) : List.map eNd L ++ [[AV.int .i64 k, AV.int .i64 a, AV.int .i64 b, (AV.list 2 (List.map (fun x => [AV.int .i64 x.1, AV.int .i64 x.2]) (c))), AV.str z]] = List.map eNd (L ++ [⟨k, a, b, c, z⟩]) := by
  rw [List.map_append]; rfl
theorem take_snoc {t : List Nd} {j : Nat} (h : j < t.length) : t.take j ++ [t.getD j default] = t.take (j + 1) := by
  have e3 : t.getD j default = t[j] := by
    rw [List.getD_eq_getElem?_getD, List.getElem?_eq_getElem h]
    rfl
  rw [e3]; simp
/-! 18: caesurakeep.OwnTree. -/
theorem run18 (t : List Nd) (ht : ∀ n ∈ t, n.set.length ≤ 600) (hl : t.length ≤ 1000000) : cwp y1 18 [] [(AV.list 5 (List.map eNd t))] [] (fun r H => r = .list 5 (List.map eNd t) ∧ H = []) := by
  refine run_fn (fn := fn18) rfl rfl ?_
  simp only [fn18_body, c18, D0, ains, clsOf, abin, aint, aun, dnext, rowsOf, loadObj, cellsOf, ofCells, bnd, hmerge, Nat.reduceBEq, Nat.reduceAdd, reduceIte, Nat.reduceEqDiff, Nat.reduceLeDiff, Int.reduceEq, reduceCtorEq, Int.reduceBEq, Int.reduceBNe, Int.reduceLT, Int.reduceNeg]
  refine lg_rule (fun j e H => e = [(0, (AV.list 5 (List.map eNd t))), (2, .own [0] 0), (3, .own [1] j), (4, .int .i64 j)] ∧ H = [[([1], .row true true 48 5 (List.map eNd (t.take j))), ([0], .row true true 48 5 [])]] ∧ j ≤ t.length) t.length ?_ ?_
  · exact ⟨rfl, rfl, by simp⟩
  rintro j e H ⟨rfl, rfl, hj⟩
  simp only [D0, ains, clsOf, abin, aint, aun, dnext, rowsOf, loadObj, cellsOf, ofCells, bnd, hmerge, Nat.reduceBEq, Nat.reduceAdd, reduceIte, Nat.reduceEqDiff, Nat.reduceLeDiff, Int.reduceEq, reduceCtorEq, Int.reduceBEq, Int.reduceBNe, Int.reduceLT, Int.reduceNeg]
  by_cases h : j < t.length
  · have h' : (j : Int) < (t.length : Int) := by omega
    have hp := wrapp (j := j) (by omega)
    have hg := map_get (f := eNd) h default
    have hs := ht _ (getD_mem h)
    have hsn := take_snoc h
    have hlt : (t.take j).length = j := by simp; omega
    have hc2 : (j + 1) * 64 ≤ 140737488355328 := by omega
    generalize t.getD j default = n at hg hs hsn
    obtain ⟨k, a, b, c, z⟩ := n
    simp only at hs
    have hc1 : c.length * 16 ≤ 140737488355328 := by omega
    simp only [D0, ains, clsOf, abin, aint, aun, dnext, rowsOf, loadObj, cellsOf, ofCells, bnd, hmerge, Nat.reduceBEq, Nat.reduceAdd, reduceIte, Nat.reduceEqDiff, Nat.reduceLeDiff, Int.reduceEq, reduceCtorEq, Int.reduceBEq, Int.reduceBNe, Int.reduceLT, Int.reduceNeg, h', hg, eNd, eSet, hc1, hc2, hlt, fz, fzd, fzd.fzcells, eNd_snoc, hsn, hp, Nat.zero_add, decide_true, Int.natCast_nonneg, Int.toNat_natCast]
    simp only [F1, bodyRes, one, ains, clsOf, abin, aint, aun, dnext, rowsOf, loadObj, cellsOf, ofCells, bnd, hmerge, Nat.reduceBEq, Nat.reduceAdd, reduceIte, Nat.reduceEqDiff, Nat.reduceLeDiff, Int.reduceEq, reduceCtorEq, Int.reduceBEq, Int.reduceBNe, Int.reduceLT, Int.reduceNeg, eNd_snoc, hsn]
    exact ⟨h, h⟩
  · have h' : ¬ (j : Int) < (t.length : Int) := by omega
    have hj2 : j = t.length := by omega
    subst hj2
    simp only [D0, ains, clsOf, abin, aint, aun, dnext, rowsOf, loadObj, cellsOf, ofCells, bnd, hmerge, Nat.reduceBEq, Nat.reduceAdd, reduceIte, Nat.reduceEqDiff, Nat.reduceLeDiff, Int.reduceEq, reduceCtorEq, Int.reduceBEq, Int.reduceBNe, Int.reduceLT, Int.reduceNeg, h', decide_false]
    refine .inr ⟨by simp, ?_⟩
    simp only [F1, bodyRes, one, ains, clsOf, abin, aint, aun, dnext, rowsOf, loadObj, cellsOf, ofCells, bnd, hmerge, Nat.reduceBEq, Nat.reduceAdd, reduceIte, Nat.reduceEqDiff, Nat.reduceLeDiff, Int.reduceEq, reduceCtorEq, Int.reduceBEq, Int.reduceBNe, Int.reduceLT, Int.reduceNeg, fn18_res, fn18_keep, fz, fzd, List.take_length]
def k18 : Kon (List Nd) := ⟨fun x => (∀ n ∈ x, n.set.length ≤ 600) ∧ x.length ≤ 1000000, fun x => [(AV.list 5 (List.map eNd x))], fun x => .list 5 (List.map eNd x)⟩
theorem e18 (t : List Nd) (hd : (∀ n ∈ t, n.set.length ≤ 600) ∧ t.length ≤ 1000000) (q0 : Id) (H0 : Heap) : k18.ora q0 ([(AV.list 5 (List.map eNd t))]) H0 = some (.list 5 (List.map eNd t), H0) := k18.eq (treeInj) (t) hd q0 H0
theorem ook18 : OraOK Try.prog (18 % 100000) k18.ora := k18.ok orders y1_ok (fun x hd => by simp [k18, PU]) (fun x hd => by simp [k18, PU]) (fun x hd => run18 x hd.1 hd.2)

/-! 70: caesuraref11.Beneath. -/
def benT (t : List Nd) (p q : Nat) : List Nd := mov ((t.take (q + 1)).drop p) (-(p : Int))
theorem ben_step {t : List Nd} {p d : Nat} (h : p + d < t.length) : mov ((t.take (p + d)).drop p) (-(p : Int)) ++ [movN (t.getD (p + d) default) (-(p : Int))] = mov ((t.take (p + d + 1)).drop p) (-(p : Int)) := by
  rw [← take_snoc h, List.drop_append_of_le_length (by simp; omega)]
  simp [mov]
theorem body70 {ft : FT} (t : List Nd) (p q : Nat) (ht : SmT t) (hq : q < t.length) (hp : p ≤ q + 1) {Q : Fin} {X : St} (hX : X = { env := [(0, (AV.list 5 (List.map eNd t))), (1, .int .i64 p), (2, .int .i64 q)], heap := [[]], p := [], k := 0 })
    (hQ : ∀ e k, eget e 6 = .own [1] (benT t p q).length → Q .ret { env := e, heap := [[([1], .row true true 48 5 (List.map eNd (benT t p q))), ([0], .row true true 48 5 [])]], p := [], k := k }) : run ft c70 [] Q X := by
  subst hX
  have hl := ht.len
  simp only [c70, D0, ains, clsOf, abin, aint, aun, dnext, rowsOf, loadObj, cellsOf, ofCells, bnd, hmerge, Nat.reduceBEq, Nat.reduceAdd, reduceIte, Nat.reduceEqDiff, Nat.reduceLeDiff, Int.reduceEq, reduceCtorEq, Int.reduceBEq, Int.reduceBNe, Int.reduceLT, Int.reduceNeg]
  refine lg_rule (fun d e H => e = [(0, (AV.list 5 (List.map eNd t))), (1, .int .i64 p), (2, .int .i64 q), (6, .own [0] 0), (7, .own [1] d), (8, .int .i64 (p + d : Nat))] ∧ H = [[([1], .row true true 48 5 (List.map eNd (mov ((t.take (p + d)).drop p) (-(p : Int))))), ([0], .row true true 48 5 [])]] ∧ d ≤ q + 1 - p) (q + 1 - p) ?_ ?_
  · refine ⟨rfl, ?_, by omega⟩
    have : (t.take (p + 0)).drop p = [] := List.drop_eq_nil_of_le (by simp; omega)
    rw [this]; rfl
  rintro d e H ⟨rfl, rfl, hd⟩
  simp only [D0, ains, clsOf, abin, aint, aun, dnext, rowsOf, loadObj, cellsOf, ofCells, bnd, hmerge, Nat.reduceBEq, Nat.reduceAdd, reduceIte, Nat.reduceEqDiff, Nat.reduceLeDiff, Int.reduceEq, reduceCtorEq, Int.reduceBEq, Int.reduceBNe, Int.reduceLT, Int.reduceNeg]
  by_cases h : p + d ≤ q
  · have h' : ((p + d : Nat) : Int) ≤ (q : Int) := by omega
    have hpp : IntKind.i64.wrap (((p + d : Nat) : Int) + 1) = ((p + (d + 1) : Nat) : Int) := wrapp (j := p + d) (by omega)
    have hg := map_get (f := eNd) (l := t) (j := p + d) (by omega) default
    have hs := ht.all _ (getD_mem (t := t) (j := p + d) (by omega))
    have hsn := ben_step (t := t) (p := p) (d := d) (by omega)
    have hlt : (mov ((t.take (p + d)).drop p) (-(p : Int))).length = d := by rw [mov_len]; simp; omega
    have hc2 : (d + 1) * 64 ≤ 140737488355328 := by omega
    have hfin : d < q + 1 - p ∧ d + 1 ≤ q + 1 - p := by omega
    rw [show p + d + 1 = p + (d + 1) by omega] at hsn
    generalize t.getD (p + d) default = n at hg hs hsn
    obtain ⟨k, a, b, c, z⟩ := n
    obtain ⟨s1, s2, s3⟩ := hs
    simp only at s1 s2 s3
    have hc1 : c.length * 16 ≤ 140737488355328 := by omega
    have hwa : IntKind.i64.wrap (a - (p : Int)) = a + -(p : Int) := by rw [wrap64 (by omega) (by omega)]; omega
    have hwb : IntKind.i64.wrap (b - (p : Int)) = b + -(p : Int) := by rw [wrap64 (by omega) (by omega)]; omega
    by_cases hf : isFork ⟨k, a, b, c, z⟩ = true
    · have hk : k = 3 ∨ k = 4 := by simpa [isFork] using hf
      have hmv : movN ⟨k, a, b, c, z⟩ (-(p : Int)) = ⟨k, a + -(p : Int), b + -(p : Int), c, z⟩ := by unfold movN; rw [if_pos hf]
      rw [hmv] at hsn
      rcases hk with rfl | rfl <;> simp only [D0, ains, clsOf, abin, aint, aun, dnext, rowsOf, loadObj, cellsOf, ofCells, bnd, hmerge, Nat.reduceBEq, Nat.reduceAdd, reduceIte, Nat.reduceEqDiff, Nat.reduceLeDiff, Int.reduceEq, reduceCtorEq, Int.reduceBEq, Int.reduceBNe, Int.reduceLT, Int.reduceNeg, h', hg, eNd, eSet, hc1, hc2, hlt, hwa, hwb, fz, fzd, fzd.fzcells, eNd_snoc, hsn, hpp, Nat.zero_add, decide_true, Int.natCast_nonneg, Int.toNat_natCast]
      all_goals simp only [F1, bodyRes, one, ains, clsOf, abin, aint, aun, dnext, rowsOf, loadObj, cellsOf, ofCells, bnd, hmerge, Nat.reduceBEq, Nat.reduceAdd, reduceIte, Nat.reduceEqDiff, Nat.reduceLeDiff, Int.reduceEq, reduceCtorEq, Int.reduceBEq, Int.reduceBNe, Int.reduceLT, Int.reduceNeg, eNd_snoc, hsn]
      all_goals exact hfin
    · have hk3 : (k == 3) = false := by simp [isFork] at hf; simp [hf]
      have hk4 : (k == 4) = false := by simp [isFork] at hf; simp [hf]
      by_cases hk : k = 5
      · have hmv : movN ⟨k, a, b, c, z⟩ (-(p : Int)) = ⟨k, a + -(p : Int), b, c, z⟩ := by unfold movN; rw [if_neg hf, if_pos hk]
        rw [hmv] at hsn
        subst hk
        simp only [D0, ains, clsOf, abin, aint, aun, dnext, rowsOf, loadObj, cellsOf, ofCells, bnd, hmerge, Nat.reduceBEq, Nat.reduceAdd, reduceIte, Nat.reduceEqDiff, Nat.reduceLeDiff, Int.reduceEq, reduceCtorEq, Int.reduceBEq, Int.reduceBNe, Int.reduceLT, Int.reduceNeg, h', hg, eNd, eSet, hc1, hc2, hlt, hwa, fz, fzd, fzd.fzcells, eNd_snoc, hsn, hpp, Nat.zero_add, decide_true, Int.natCast_nonneg, Int.toNat_natCast]
        simp only [F1, bodyRes, one, ains, clsOf, abin, aint, aun, dnext, rowsOf, loadObj, cellsOf, ofCells, bnd, hmerge, Nat.reduceBEq, Nat.reduceAdd, reduceIte, Nat.reduceEqDiff, Nat.reduceLeDiff, Int.reduceEq, reduceCtorEq, Int.reduceBEq, Int.reduceBNe, Int.reduceLT, Int.reduceNeg, eNd_snoc, hsn]
        exact hfin
      · have hk5 : (k == 5) = false := by simpa using hk
        rw [movN_leaf (by simpa using hf) hk] at hsn
        simp only [D0, ains, clsOf, abin, aint, aun, dnext, rowsOf, loadObj, cellsOf, ofCells, bnd, hmerge, Nat.reduceBEq, Nat.reduceAdd, reduceIte, Nat.reduceEqDiff, Nat.reduceLeDiff, Int.reduceEq, reduceCtorEq, Int.reduceBEq, Int.reduceBNe, Int.reduceLT, Int.reduceNeg, h', hg, eNd, eSet, hc1, hc2, hlt, hk3, hk4, hk5, fz, fzd, fzd.fzcells, eNd_snoc, hsn, hpp, Nat.zero_add, decide_true, Int.natCast_nonneg, Int.toNat_natCast]
        simp only [F1, bodyRes, one, ains, clsOf, abin, aint, aun, dnext, rowsOf, loadObj, cellsOf, ofCells, bnd, hmerge, Nat.reduceBEq, Nat.reduceAdd, reduceIte, Nat.reduceEqDiff, Nat.reduceLeDiff, Int.reduceEq, reduceCtorEq, Int.reduceBEq, Int.reduceBNe, Int.reduceLT, Int.reduceNeg, eNd_snoc, hsn]
        exact hfin
  · have h' : ¬ ((p + d : Nat) : Int) ≤ (q : Int) := by omega
    have hd2 : p + d = q + 1 := by omega
    have hlt : (mov ((t.take (p + d)).drop p) (-(p : Int))).length = d := by rw [mov_len]; simp; omega
    simp only [D0, ains, clsOf, abin, aint, aun, dnext, rowsOf, loadObj, cellsOf, ofCells, bnd, hmerge, Nat.reduceBEq, Nat.reduceAdd, reduceIte, Nat.reduceEqDiff, Nat.reduceLeDiff, Int.reduceEq, reduceCtorEq, Int.reduceBEq, Int.reduceBNe, Int.reduceLT, Int.reduceNeg, h', decide_false]
    refine .inr ⟨by simp, ?_⟩
    have hr : benT t p q = mov ((t.take (p + d)).drop p) (-(p : Int)) := by unfold benT; rw [hd2]
    rw [← hr] at hlt ⊢
    refine hQ _ _ ?_
    simp only [D0, ains, clsOf, abin, aint, aun, dnext, rowsOf, loadObj, cellsOf, ofCells, bnd, hmerge, Nat.reduceBEq, Nat.reduceAdd, reduceIte, Nat.reduceEqDiff, Nat.reduceLeDiff, Int.reduceEq, reduceCtorEq, Int.reduceBEq, Int.reduceBNe, Int.reduceLT, Int.reduceNeg, hlt]
theorem run70 (t : List Nd) (p q : Nat) (ht : SmT t) (hq : q < t.length) (hp : p ≤ q + 1) : cwp y1 70 [] [(AV.list 5 (List.map eNd t)), .int .i64 p, .int .i64 q] [] (fun v H => ∃ id, v = .own id (List.map eNd (benT t p q)).length ∧ H = [[(id, .row true true 48 5 (List.map eNd (benT t p q)))]]) := by
  refine run_fn (fn := fn70) rfl rfl ?_
  refine body70 t p q ht hq hp rfl fun e k he => ?_
  simp only [F1, bodyRes, one, ains, clsOf, abin, aint, aun, dnext, rowsOf, loadObj, cellsOf, ofCells, bnd, hmerge, Nat.reduceBEq, Nat.reduceAdd, reduceIte, Nat.reduceEqDiff, Nat.reduceLeDiff, Int.reduceEq, reduceCtorEq, Int.reduceBEq, Int.reduceBNe, Int.reduceLT, Int.reduceNeg, fn70_res, fn70_keep, he]
  first | exact ⟨_, rfl, _, rfl, rfl⟩ | exact ⟨_, rfl, rfl⟩
def k70 : KonO (List Nd × Nat × Nat) := ⟨fun x => SmT x.1 ∧ x.2.2 < x.1.length ∧ x.2.1 ≤ x.2.2 + 1, fun x => [(AV.list 5 (List.map eNd x.1)), .int .i64 (x.2.1 : Int), .int .i64 (x.2.2 : Int)], 48, 5, fun x => (List.map eNd (benT x.1 x.2.1 x.2.2))⟩
theorem e70 (t : List Nd) (p : Nat) (q : Nat) (hd : SmT t ∧ q < t.length ∧ p ≤ q + 1) (q0 : Id) (H0 : Heap) : k70.ora q0 ([(AV.list 5 (List.map eNd t)), .int .i64 (p : Int), .int .i64 (q : Int)]) H0 = some (.own (q0 ++ [0]) ((List.map eNd (benT t p q))).length, hadd H0 (q0 ++ [0]) (.row true true 48 5 ((List.map eNd (benT t p q))))) := k70.eq (by dsimp only [k70]; rintro ⟨a, b, c⟩ ⟨a', b', c'⟩ h; simp only [List.cons.injEq, AV.int.injEq, and_true, true_and] at h; rw [eTree_inj (a := a) (b := a') h.1, show b = b' by omega, show c = c' by omega]) (t, p, q) hd q0 H0
theorem ook70 : OraOK Try.prog (70 % 100000) k70.ora := k70.ok orders y1_ok (fun x hd => by simp [k70, PU]) (fun x hd => by dsimp only [k70]; simp only [PU]) (fun x hd => run70 x.1 x.2.1 x.2.2 hd.1 hd.2.1 hd.2.2)

noncomputable def y2 : FT := upd (upd (y1) 18 k18.ora) 70 k70.ora
theorem y2_ok : FTOK Try.prog y2 := upd_ok2 (f := 70) (upd_ok2 (f := 18) (y1_ok) ook18) ook70

end Go.Proofs.Abs
