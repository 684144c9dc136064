/- A part of a proof: the text that states the row tells what is proved. No condition is laid on anything. -/
import Derived.Test.YtgcncpedpjjjeaaAbsT2
set_option linter.all false
set_option linter.constructorNameAsVariable false
set_option linter.defProp false
set_option linter.unusedVariables false
set_option linter.unusedSimpArgs false
set_option maxRecDepth 100000
set_option maxHeartbeats 4000000
namespace Go.Proofs.Abs
open Go
theorem fget_one {q : Id} (hq : q ≠ []) (k m : Nat) (o : AObj) : fget [(q ++ [k], o)] [m] = none := by
  have : ¬ (q ++ [k] = [m]) := fun e => by
    have := congrArg List.length e
    have h2 : q.length ≠ 0 := fun e2 => hq (List.length_eq_zero_iff.1 e2)
    simp at this
    exact hq this
  simp [fget, this]
theorem An.fr {t : List Nd} {l : List Int} {f : Nat} {args : List AV} {B : Bool} (h : ∀ (H0 : Heap), Bs t l H0 → ∀ es, Memo t l es → ∀ q : Id, q ≠ [] → cwp w0 f q args (hset H0 [6] (.map es)) (Ans t l H0 B))
    {H0 : Heap} (hb : Bs t l H0) {es : List (AV × AV)} (hm : Memo t l es) {q : Id} (hq : q ≠ []) {g : Fr} (h8 : fget g [8] = none) (h6 : fget g [6] = none)
    {d : Option Nat} {r : List AIn} {k : Nat} {drop : List Nat} {ks : List Kt} {Q : Fin} {s : St}
    (hk : ∀ es, Memo t l es → rg w0 r k drop ks Q { s with env := putd s.env d (.bool B), heap := g :: hset H0 [6] (.map es), k := s.k + 1 }) :
    cg w0 f q args (g :: hset H0 [6] (.map es)) d r k drop ks Q s := by
  have := h (g :: H0) (hb.cons h8 h6) es hm q hq
  rw [hset_cons h6] at this
  refine cg_use this ?_
  rintro v H' ⟨rfl, es', hm', rfl⟩
  rw [hset_cons h6]
  exact hk es' hm'
/-! 105: asks. -/
theorem run105 {t : List Nd} {l : List Int} {n i j : Nat} {k a b : Int} {c : List (Int × Int)} {z : ByteArray} (hx : t.getD n default = ⟨k, a, b, c, z⟩) (hc : c.length ≤ 9223372036854775807) (hij : i ≤ j) (hj : j ≤ l.length) (hl : l.length ≤ 1000000)
    (alt : k = 4 → ∃ a' b' : Nat, a = a' ∧ b = b' ∧ a' < n ∧ b' < n ∧ Tk t l a' i j ∧ Tk t l b' i j)
    (cat : k = 3 → ∃ a' b' : Nat, a = a' ∧ b = b' ∧ a' < n ∧ b' < n ∧ (∀ m, i ≤ m → m ≤ j → Tk t l a' i m) ∧ (∀ m, i ≤ m → m ≤ j → Tk t l b' m j))
    (star : k = 5 → ∃ a' : Nat, a = a' ∧ a' < n ∧ (∀ m, i + 1 ≤ m → m ≤ j → Tk t l a' i m) ∧ (∀ m, i + 1 ≤ m → m ≤ j → Tk t l n m j)) :
    ∀ (H0 : Heap), Bs t l H0 → ∀ es, Memo t l es → ∀ q : Id, q ≠ [] → cwp w0 105 q [.ref [8] 1 0 0, .agg [AV.int .i64 (Nd.kind ⟨k, a, b, c, z⟩), AV.int .i64 (Nd.a ⟨k, a, b, c, z⟩), AV.int .i64 (Nd.b ⟨k, a, b, c, z⟩), (AV.list 2 (List.map (fun x => [AV.int .i64 x.1, AV.int .i64 x.2]) (Nd.set ⟨k, a, b, c, z⟩))), AV.str (Nd.name ⟨k, a, b, c, z⟩)], .int .i64 n, .int .i64 i, .int .i64 j] (hset H0 [6] (.map es)) (Ans t l H0 (tk t l n i j)) := by
  intro H0 hb es hm q hq
  refine run_fn (fn := fn105) rfl rfl ?_
  have h86 := fget_one hq
  have hnq : ∀ k m, ¬ (q ++ [k] = [m]) := fun k m e => by
    have := congrArg List.length e
    simp at this
    exact hq this
  have g8 := fun es => hb.g8 es
  by_cases k1 : k = 1
  · subst k1
    have ht := tk_empty (t := t) (l := l) (n := n) (i := i) (j := j) (by rw [hx])
    have he : ((i : Int) == (j : Int)) = decide (i = j) := by rw [Bool.eq_iff_iff]; simp; omega
    simp only [fn105_body, c105, D0, ains, clsOf, abin, aint, aun, dnext, rowsOf, loadObj, cellsOf, ofCells, bnd, hmerge, Nat.reduceBEq, Nat.reduceAdd, reduceIte, Nat.reduceEqDiff, Nat.reduceLeDiff, Int.reduceEq, reduceCtorEq, Int.reduceBEq, Int.reduceBNe, Int.reduceLT, Int.reduceNeg, he]
    simp only [F1, bodyRes, one, ains, clsOf, abin, aint, aun, dnext, rowsOf, loadObj, cellsOf, ofCells, bnd, hmerge, Nat.reduceBEq, Nat.reduceAdd, reduceIte, Nat.reduceEqDiff, Nat.reduceLeDiff, Int.reduceEq, reduceCtorEq, Int.reduceBEq, Int.reduceBNe, Int.reduceLT, Int.reduceNeg, fn105_res, fn105_keep]
    exact ⟨by rw [ht], es, hm, rfl⟩
  have k1' : (k == 1) = false := by simpa using k1
  by_cases k2 : k = 2
  · subst k2
    have ht := tk_one (t := t) (l := l) (n := n) (i := i) (j := j) (by rw [hx])
    rw [hx] at ht
    have hp := wrapp (j := i) (by omega)
    by_cases e : j = i + 1
    · have e' : ((j : Int) == ((i + 1 : Nat) : Int)) = true := by simp [e]
      have hgl := map_get (f := fun x : Int => [AV.int .i64 x]) (l := l) (j := i) (by omega) 0
      simp only [fn105_body, c105, D0, ains, clsOf, abin, aint, aun, dnext, rowsOf, loadObj, cellsOf, ofCells, bnd, hmerge, Nat.reduceBEq, Nat.reduceAdd, reduceIte, Nat.reduceEqDiff, Nat.reduceLeDiff, Int.reduceEq, reduceCtorEq, Int.reduceBEq, Int.reduceBNe, Int.reduceLT, Int.reduceNeg, @use_all w0 58 k58.ora rfl, e58, hc, hp, e', h86, hnq, g8, hgl, Int.natCast_nonneg, Int.toNat_natCast]
      simp only [F1, bodyRes, one, ains, clsOf, abin, aint, aun, dnext, rowsOf, loadObj, cellsOf, ofCells, bnd, hmerge, Nat.reduceBEq, Nat.reduceAdd, reduceIte, Nat.reduceEqDiff, Nat.reduceLeDiff, Int.reduceEq, reduceCtorEq, Int.reduceBEq, Int.reduceBNe, Int.reduceLT, Int.reduceNeg, fn105_res, fn105_keep]
      exact ⟨by rw [ht]; simp [e], es, hm, rfl⟩
    · have e' : ((j : Int) == ((i + 1 : Nat) : Int)) = false := by simp only [beq_eq_false_iff_ne]; omega
      simp only [fn105_body, c105, D0, ains, clsOf, abin, aint, aun, dnext, rowsOf, loadObj, cellsOf, ofCells, bnd, hmerge, Nat.reduceBEq, Nat.reduceAdd, reduceIte, Nat.reduceEqDiff, Nat.reduceLeDiff, Int.reduceEq, reduceCtorEq, Int.reduceBEq, Int.reduceBNe, Int.reduceLT, Int.reduceNeg, @use_all w0 58 k58.ora rfl, e58, hp, e', h86, hnq, g8]
      simp only [F1, bodyRes, one, ains, clsOf, abin, aint, aun, dnext, rowsOf, loadObj, cellsOf, ofCells, bnd, hmerge, Nat.reduceBEq, Nat.reduceAdd, reduceIte, Nat.reduceEqDiff, Nat.reduceLeDiff, Int.reduceEq, reduceCtorEq, Int.reduceBEq, Int.reduceBNe, Int.reduceLT, Int.reduceNeg, fn105_res, fn105_keep]
      exact ⟨by rw [ht]; simp [e], es, hm, rfl⟩
  have k2' : (k == 2) = false := by simpa using k2
  by_cases k4 : k = 4
  · obtain ⟨a', b', rfl, rfl, h1, h2, i1, i2⟩ := alt k4
    subst k4
    have ht := tk_alt (t := t) (l := l) (n := n) (i := i) (j := j) (by rw [hx]) (a := a') (b := b') (by rw [hx]) (by rw [hx]) h1 h2
    simp only [fn105_body, c105, D0, ains, clsOf, abin, aint, aun, dnext, rowsOf, loadObj, cellsOf, ofCells, bnd, hmerge, Nat.reduceBEq, Nat.reduceAdd, reduceIte, Nat.reduceEqDiff, Nat.reduceLeDiff, Int.reduceEq, reduceCtorEq, Int.reduceBEq, Int.reduceBNe, Int.reduceLT, Int.reduceNeg, h86, hnq, g8]
    refine i1.fr hb hm ?_ ?_ ?_ fun es2 hm2 => ?_
    · simp
    · exact h86 _ _ _
    · exact h86 _ _ _
    by_cases c1 : tk t l a' i j = true
    · simp only [D0, ains, clsOf, abin, aint, aun, dnext, rowsOf, loadObj, cellsOf, ofCells, bnd, hmerge, Nat.reduceBEq, Nat.reduceAdd, reduceIte, Nat.reduceEqDiff, Nat.reduceLeDiff, Int.reduceEq, reduceCtorEq, Int.reduceBEq, Int.reduceBNe, Int.reduceLT, Int.reduceNeg, c1]
      simp only [F1, bodyRes, one, ains, clsOf, abin, aint, aun, dnext, rowsOf, loadObj, cellsOf, ofCells, bnd, hmerge, Nat.reduceBEq, Nat.reduceAdd, reduceIte, Nat.reduceEqDiff, Nat.reduceLeDiff, Int.reduceEq, reduceCtorEq, Int.reduceBEq, Int.reduceBNe, Int.reduceLT, Int.reduceNeg, fn105_res, fn105_keep]
      exact ⟨by rw [ht, c1]; rfl, es2, hm2, rfl⟩
    · have c1' : tk t l a' i j = false := by simpa using c1
      simp only [D0, ains, clsOf, abin, aint, aun, dnext, rowsOf, loadObj, cellsOf, ofCells, bnd, hmerge, Nat.reduceBEq, Nat.reduceAdd, reduceIte, Nat.reduceEqDiff, Nat.reduceLeDiff, Int.reduceEq, reduceCtorEq, Int.reduceBEq, Int.reduceBNe, Int.reduceLT, Int.reduceNeg, c1', h86, hnq, g8]
      refine i2.fr hb hm2 ?_ ?_ ?_ fun es3 hm3 => ?_
      · simp
      · exact h86 _ _ _
      · exact h86 _ _ _
      simp only [D0, ains, clsOf, abin, aint, aun, dnext, rowsOf, loadObj, cellsOf, ofCells, bnd, hmerge, Nat.reduceBEq, Nat.reduceAdd, reduceIte, Nat.reduceEqDiff, Nat.reduceLeDiff, Int.reduceEq, reduceCtorEq, Int.reduceBEq, Int.reduceBNe, Int.reduceLT, Int.reduceNeg]
      simp only [F1, bodyRes, one, ains, clsOf, abin, aint, aun, dnext, rowsOf, loadObj, cellsOf, ofCells, bnd, hmerge, Nat.reduceBEq, Nat.reduceAdd, reduceIte, Nat.reduceEqDiff, Nat.reduceLeDiff, Int.reduceEq, reduceCtorEq, Int.reduceBEq, Int.reduceBNe, Int.reduceLT, Int.reduceNeg, fn105_res, fn105_keep]
      exact ⟨by rw [ht, c1', Bool.false_or], es3, hm3, rfl⟩
  have k4' : (k == 4) = false := by simpa using k4
  by_cases k3 : k = 3
  · obtain ⟨a', b', rfl, rfl, h1, h2, i1, i2⟩ := cat k3
    subst k3
    have ht := tk_cat (t := t) (l := l) (n := n) (i := i) (j := j) (by rw [hx]) (a := a') (b := b') (by rw [hx]) (by rw [hx]) h1 h2
    simp only [fn105_body, c105, D0, ains, clsOf, abin, aint, aun, dnext, rowsOf, loadObj, cellsOf, ofCells, bnd, hmerge, Nat.reduceBEq, Nat.reduceAdd, reduceIte, Nat.reduceEqDiff, Nat.reduceLeDiff, Int.reduceEq, reduceCtorEq, Int.reduceBEq, Int.reduceBNe, Int.reduceLT, Int.reduceNeg, h86, hnq, g8]
    refine An.fr (run126 (by omega) i1 i2 (by omega)) hb hm ?_ ?_ ?_ fun es2 hm2 => ?_
    · simp
    · exact h86 _ _ _
    · exact h86 _ _ _
    simp only [D0, ains, clsOf, abin, aint, aun, dnext, rowsOf, loadObj, cellsOf, ofCells, bnd, hmerge, Nat.reduceBEq, Nat.reduceAdd, reduceIte, Nat.reduceEqDiff, Nat.reduceLeDiff, Int.reduceEq, reduceCtorEq, Int.reduceBEq, Int.reduceBNe, Int.reduceLT, Int.reduceNeg]
    simp only [F1, bodyRes, one, ains, clsOf, abin, aint, aun, dnext, rowsOf, loadObj, cellsOf, ofCells, bnd, hmerge, Nat.reduceBEq, Nat.reduceAdd, reduceIte, Nat.reduceEqDiff, Nat.reduceLeDiff, Int.reduceEq, reduceCtorEq, Int.reduceBEq, Int.reduceBNe, Int.reduceLT, Int.reduceNeg, fn105_res, fn105_keep]
    exact ⟨by rw [ht]; rfl, es2, hm2, rfl⟩
  have k3' : (k == 3) = false := by simpa using k3
  by_cases k5 : k = 5
  · obtain ⟨a', rfl, h1, i1, i2⟩ := star k5
    subst k5
    have ht := tk_star (t := t) (l := l) (n := n) (i := i) (j := j) (by rw [hx]) (a := a') (by rw [hx]) h1
    by_cases e : i = j
    · have e' : ((i : Int) == (j : Int)) = true := by simp [e]
      simp only [fn105_body, c105, D0, ains, clsOf, abin, aint, aun, dnext, rowsOf, loadObj, cellsOf, ofCells, bnd, hmerge, Nat.reduceBEq, Nat.reduceAdd, reduceIte, Nat.reduceEqDiff, Nat.reduceLeDiff, Int.reduceEq, reduceCtorEq, Int.reduceBEq, Int.reduceBNe, Int.reduceLT, Int.reduceNeg, e', h86, hnq, g8]
      simp only [F1, bodyRes, one, ains, clsOf, abin, aint, aun, dnext, rowsOf, loadObj, cellsOf, ofCells, bnd, hmerge, Nat.reduceBEq, Nat.reduceAdd, reduceIte, Nat.reduceEqDiff, Nat.reduceLeDiff, Int.reduceEq, reduceCtorEq, Int.reduceBEq, Int.reduceBNe, Int.reduceLT, Int.reduceNeg, fn105_res, fn105_keep]
      exact ⟨by rw [ht]; simp [e], es, hm, rfl⟩
    · have e' : ((i : Int) == (j : Int)) = false := by simp only [beq_eq_false_iff_ne]; omega
      have hp := wrapp (j := i) (by omega)
      simp only [fn105_body, c105, D0, ains, clsOf, abin, aint, aun, dnext, rowsOf, loadObj, cellsOf, ofCells, bnd, hmerge, Nat.reduceBEq, Nat.reduceAdd, reduceIte, Nat.reduceEqDiff, Nat.reduceLeDiff, Int.reduceEq, reduceCtorEq, Int.reduceBEq, Int.reduceBNe, Int.reduceLT, Int.reduceNeg, e', h86, hnq, g8, hp]
      refine An.fr (run126 (by omega) i1 i2 (by omega)) hb hm ?_ ?_ ?_ fun es2 hm2 => ?_
      · simp
      · exact h86 _ _ _
      · exact h86 _ _ _
      simp only [D0, ains, clsOf, abin, aint, aun, dnext, rowsOf, loadObj, cellsOf, ofCells, bnd, hmerge, Nat.reduceBEq, Nat.reduceAdd, reduceIte, Nat.reduceEqDiff, Nat.reduceLeDiff, Int.reduceEq, reduceCtorEq, Int.reduceBEq, Int.reduceBNe, Int.reduceLT, Int.reduceNeg]
      simp only [F1, bodyRes, one, ains, clsOf, abin, aint, aun, dnext, rowsOf, loadObj, cellsOf, ofCells, bnd, hmerge, Nat.reduceBEq, Nat.reduceAdd, reduceIte, Nat.reduceEqDiff, Nat.reduceLeDiff, Int.reduceEq, reduceCtorEq, Int.reduceBEq, Int.reduceBNe, Int.reduceLT, Int.reduceNeg, fn105_res, fn105_keep]
      refine ⟨?_, es2, hm2, rfl⟩
      rw [ht, decide_eq_false e, Bool.false_or]
      unfold spl
      rw [show j + 1 - (i + 1) = j - i by omega]
  have k5' : (k == 5) = false := by simpa using k5
  have ht := tk_other (t := t) (l := l) (n := n) (i := i) (j := j) (by rw [hx]; exact k1) (by rw [hx]; exact k2) (by rw [hx]; exact k3) (by rw [hx]; exact k4) (by rw [hx]; exact k5)
  simp only [fn105_body, c105, D0, ains, clsOf, abin, aint, aun, dnext, rowsOf, loadObj, cellsOf, ofCells, bnd, hmerge, Nat.reduceBEq, Nat.reduceAdd, reduceIte, Nat.reduceEqDiff, Nat.reduceLeDiff, Int.reduceEq, reduceCtorEq, Int.reduceBEq, Int.reduceBNe, Int.reduceLT, Int.reduceNeg, k1', k2', k3', k4', k5', h86, hnq, g8]
  simp only [F1, bodyRes, one, ains, clsOf, abin, aint, aun, dnext, rowsOf, loadObj, cellsOf, ofCells, bnd, hmerge, Nat.reduceBEq, Nat.reduceAdd, reduceIte, Nat.reduceEqDiff, Nat.reduceLeDiff, Int.reduceEq, reduceCtorEq, Int.reduceBEq, Int.reduceBNe, Int.reduceLT, Int.reduceNeg, fn105_res, fn105_keep]
  exact ⟨by rw [ht], es, hm, rfl⟩
end Go.Proofs.Abs
