/- A part of a proof: the text that states the row tells what is proved. No condition is laid on anything. -/
import Derived.Test.YtgcncpedpjjjeaaAbsT1
set_option linter.all false
set_option linter.constructorNameAsVariable false
set_option linter.defProp false
set_option linter.unusedVariables false
set_option linter.unusedSimpArgs false
set_option maxRecDepth 100000
set_option maxHeartbeats 4000000
namespace Go.Proofs.Abs
open Go
/-- What takes looks at. -/
structure Bs (t : List Nd) (l : List Int) (H0 : Heap) : Prop where
  h8 : hget H0 [8] = some (.box [(AV.list 5 (List.map eNd t)), (AV.list 1 (List.map (fun x => [AV.int .i64 x]) (l))), .map [6]])
  h6 : (hget H0 [6]).isSome = true
section
variable {t : List Nd} {l : List Int} {H0 : Heap}
theorem Bs.g6 (h : Bs t l H0) (es : List (AV × AV)) : hget (hset H0 [6] (.map es)) [6] = some (.map es) := by rw [hget_hset]; simp [h.h6]
theorem Bs.g8 (h : Bs t l H0) (es : List (AV × AV)) : hget (hset H0 [6] (.map es)) [8] = some (.box [(AV.list 5 (List.map eNd t)), (AV.list 1 (List.map (fun x => [AV.int .i64 x]) (l))), .map [6]]) := by rw [hget_hset]; simp [h.h8]
theorem Bs.cons (h : Bs t l H0) {g : Fr} (h8 : fget g [8] = none) (h6 : fget g [6] = none) : Bs t l (g :: H0) := ⟨by simp [hget, h8, h.h8], by simp [hget, h6, h.h6]⟩
theorem hset_cons {g : Fr} (h6 : fget g [6] = none) (x : AObj) : hset (g :: H0) [6] x = g :: hset H0 [6] x := by simp [hset, h6]
end
noncomputable def w0 : FT := upd (v7) 58 k58.ora
theorem w0_ok : FTOK Try.prog w0 := upd_ok2 (f := 58) (v7_ok) ook58

def Ans (t : List Nd) (l : List Int) (H0 : Heap) (b : Bool) (v : AV) (H : Heap) : Prop := v = .bool b ∧ ∃ es, Memo t l es ∧ H = hset H0 [6] (.map es)
def Tk (t : List Nd) (l : List Int) (n i j : Nat) : Prop := ∀ (H0 : Heap), Bs t l H0 → ∀ es, Memo t l es → ∀ q : Id, q ≠ [] →
  cwp w0 72 q [.ref [8] 1 0 0, .int .i64 n, .int .i64 i, .int .i64 j] (hset H0 [6] (.map es)) (Ans t l H0 (tk t l n i j))
theorem Tk.fr {t : List Nd} {l : List Int} {n i j : Nat} (h : Tk t l n i j) {H0 : Heap} (hb : Bs t l H0) {es : List (AV × AV)} (hm : Memo t l es) {q : Id} (hq : q ≠ []) {g : Fr} (h8 : fget g [8] = none) (h6 : fget g [6] = none)
    {d : Option Nat} {r : List AIn} {k : Nat} {drop : List Nat} {ks : List Kt} {Q : Fin} {s : St}
    (hk : ∀ es, Memo t l es → rg w0 r k drop ks Q { s with env := putd s.env d (.bool (tk t l n i j)), heap := g :: hset H0 [6] (.map es), k := s.k + 1 }) :
    cg w0 72 q [.ref [8] 1 0 0, .int .i64 n, .int .i64 i, .int .i64 j] (g :: hset H0 [6] (.map es)) d r k drop ks Q s := by
  have := h (g :: H0) (hb.cons h8 h6) es hm q hq
  rw [hset_cons h6] at this
  refine cg_use this ?_
  rintro v H' ⟨rfl, es', hm', rfl⟩
  rw [hset_cons h6]
  exact hk es' hm'
theorem Tk.fr2 {t : List Nd} {l : List Int} {n i j : Nat} (h : Tk t l n i j) {H0 : Heap} (hb : Bs t l H0) {es : List (AV × AV)} (hm : Memo t l es) {q : Id} (hq : q ≠ []) {g g2 : Fr} (h8 : fget g [8] = none) (h6 : fget g [6] = none) (h8' : fget g2 [8] = none) (h6' : fget g2 [6] = none)
    {d : Option Nat} {r : List AIn} {k : Nat} {drop : List Nat} {ks : List Kt} {Q : Fin} {s : St}
    (hk : ∀ es, Memo t l es → rg w0 r k drop ks Q { s with env := putd s.env d (.bool (tk t l n i j)), heap := g :: g2 :: hset H0 [6] (.map es), k := s.k + 1 }) :
    cg w0 72 q [.ref [8] 1 0 0, .int .i64 n, .int .i64 i, .int .i64 j] (g :: g2 :: hset H0 [6] (.map es)) d r k drop ks Q s := by
  have e : ∀ x, g :: g2 :: hset H0 [6] x = g :: hset (g2 :: H0) [6] x := fun x => by rw [hset_cons h6']
  rw [e]
  refine h.fr (hb.cons h8' h6') hm hq h8 h6 fun es2 hm2 => ?_
  rw [← e]
  exact hk es2 hm2
/-! 126: splits. -/
def spl (t : List Nd) (l : List Int) (a b fr i j : Nat) : Bool := (List.range (j + 1 - fr)).any fun d => tk t l a i (fr + d) && tk t l b (fr + d) j
theorem run126 {t : List Nd} {l : List Int} {a b fr i j : Nat} (hj : j ≤ 1000000) (h1 : ∀ k, fr ≤ k → k ≤ j → Tk t l a i k) (h2 : ∀ k, fr ≤ k → k ≤ j → Tk t l b k j) (hfr : fr ≤ j + 1) :
    ∀ (H0 : Heap), Bs t l H0 → ∀ es, Memo t l es → ∀ q : Id, q ≠ [] → cwp w0 126 q [.ref [8] 1 0 0, .int .i64 a, .int .i64 b, .int .i64 fr, .int .i64 i, .int .i64 j] (hset H0 [6] (.map es)) (Ans t l H0 (spl t l a b fr i j)) := by
  intro H0 hb es hm q hq
  refine run_fn (fn := fn126) rfl rfl ?_
  simp only [fn126_body, c126, D0, ains, clsOf, abin, aint, aun, dnext, rowsOf, loadObj, cellsOf, ofCells, bnd, hmerge, Nat.reduceBEq, Nat.reduceAdd, reduceIte, Nat.reduceEqDiff, Nat.reduceLeDiff, Int.reduceEq, reduceCtorEq, Int.reduceBEq, Int.reduceBNe, Int.reduceLT, Int.reduceNeg]
  refine lg_rule (fun d e H => e = [(0, .ref [8] 1 0 0), (1, .int .i64 a), (2, .int .i64 b), (3, .int .i64 fr), (4, .int .i64 i), (5, .int .i64 j), (12, .bool false), (13, .int .i64 (fr + d : Nat))] ∧
    (∃ es, Memo t l es ∧ H = [] :: hset H0 [6] (.map es)) ∧ d ≤ j + 1 - fr ∧ ∀ d', d' < d → (tk t l a i (fr + d') && tk t l b (fr + d') j) = false) (j + 1 - fr) ?_ ?_
  · exact ⟨rfl, ⟨es, hm, rfl⟩, by omega, by simp⟩
  rintro d e H ⟨rfl, ⟨es, hm, rfl⟩, hd, hi⟩
  simp only [D0, ains, clsOf, abin, aint, aun, dnext, rowsOf, loadObj, cellsOf, ofCells, bnd, hmerge, Nat.reduceBEq, Nat.reduceAdd, reduceIte, Nat.reduceEqDiff, Nat.reduceLeDiff, Int.reduceEq, reduceCtorEq, Int.reduceBEq, Int.reduceBNe, Int.reduceLT, Int.reduceNeg]
  by_cases h : fr + d ≤ j
  · have h' : ((fr + d : Nat) : Int) ≤ (j : Int) := by omega
    have hp : IntKind.i64.wrap (((fr + d : Nat) : Int) + 1) = ((fr + (d + 1) : Nat) : Int) := wrapp (j := fr + d) (by omega)
    simp only [D0, ains, clsOf, abin, aint, aun, dnext, rowsOf, loadObj, cellsOf, ofCells, bnd, hmerge, Nat.reduceBEq, Nat.reduceAdd, reduceIte, Nat.reduceEqDiff, Nat.reduceLeDiff, Int.reduceEq, reduceCtorEq, Int.reduceBEq, Int.reduceBNe, Int.reduceLT, Int.reduceNeg, h', decide_true]
    refine (h1 (fr + d) (by omega) h).fr2 hb hm ?_ ?_ ?_ ?_ ?_ fun es2 hm2 => ?_
    · simp
    · rfl
    · rfl
    · rfl
    · rfl
    by_cases c1 : tk t l a i (fr + d) = true
    · simp only [D0, ains, clsOf, abin, aint, aun, dnext, rowsOf, loadObj, cellsOf, ofCells, bnd, hmerge, Nat.reduceBEq, Nat.reduceAdd, reduceIte, Nat.reduceEqDiff, Nat.reduceLeDiff, Int.reduceEq, reduceCtorEq, Int.reduceBEq, Int.reduceBNe, Int.reduceLT, Int.reduceNeg, c1]
      refine (h2 (fr + d) (by omega) h).fr2 hb hm2 ?_ ?_ ?_ ?_ ?_ fun es3 hm3 => ?_
      · simp
      · rfl
      · rfl
      · rfl
      · rfl
      by_cases c2 : tk t l b (fr + d) j = true
      · have hs : spl t l a b fr i j = true := any_true (i := d) (by omega) (by rw [c1, c2]; rfl)
        simp only [D0, ains, clsOf, abin, aint, aun, dnext, rowsOf, loadObj, cellsOf, ofCells, bnd, hmerge, Nat.reduceBEq, Nat.reduceAdd, reduceIte, Nat.reduceEqDiff, Nat.reduceLeDiff, Int.reduceEq, reduceCtorEq, Int.reduceBEq, Int.reduceBNe, Int.reduceLT, Int.reduceNeg, c2]
        simp only [F1, bodyRes, one, ains, clsOf, abin, aint, aun, dnext, rowsOf, loadObj, cellsOf, ofCells, bnd, hmerge, Nat.reduceBEq, Nat.reduceAdd, reduceIte, Nat.reduceEqDiff, Nat.reduceLeDiff, Int.reduceEq, reduceCtorEq, Int.reduceBEq, Int.reduceBNe, Int.reduceLT, Int.reduceNeg, fn126_res, fn126_keep, hs]
        exact ⟨rfl, es3, hm3, rfl⟩
      · have c2' : tk t l b (fr + d) j = false := by simpa using c2
        simp only [D0, ains, clsOf, abin, aint, aun, dnext, rowsOf, loadObj, cellsOf, ofCells, bnd, hmerge, Nat.reduceBEq, Nat.reduceAdd, reduceIte, Nat.reduceEqDiff, Nat.reduceLeDiff, Int.reduceEq, reduceCtorEq, Int.reduceBEq, Int.reduceBNe, Int.reduceLT, Int.reduceNeg, c2', hp]
        simp only [F1, bodyRes, one, ains, clsOf, abin, aint, aun, dnext, rowsOf, loadObj, cellsOf, ofCells, bnd, hmerge, Nat.reduceBEq, Nat.reduceAdd, reduceIte, Nat.reduceEqDiff, Nat.reduceLeDiff, Int.reduceEq, reduceCtorEq, Int.reduceBEq, Int.reduceBNe, Int.reduceLT, Int.reduceNeg]
        refine ⟨by omega, ⟨es3, hm3, rfl⟩, by omega, fun d' hd' => ?_⟩
        by_cases e : d' = d
        · subst e; rw [c2', Bool.and_false]
        · exact hi d' (by omega)
    · have c1' : tk t l a i (fr + d) = false := by simpa using c1
      simp only [D0, ains, clsOf, abin, aint, aun, dnext, rowsOf, loadObj, cellsOf, ofCells, bnd, hmerge, Nat.reduceBEq, Nat.reduceAdd, reduceIte, Nat.reduceEqDiff, Nat.reduceLeDiff, Int.reduceEq, reduceCtorEq, Int.reduceBEq, Int.reduceBNe, Int.reduceLT, Int.reduceNeg, c1', hp]
      simp only [F1, bodyRes, one, ains, clsOf, abin, aint, aun, dnext, rowsOf, loadObj, cellsOf, ofCells, bnd, hmerge, Nat.reduceBEq, Nat.reduceAdd, reduceIte, Nat.reduceEqDiff, Nat.reduceLeDiff, Int.reduceEq, reduceCtorEq, Int.reduceBEq, Int.reduceBNe, Int.reduceLT, Int.reduceNeg]
      refine ⟨by omega, ⟨es2, hm2, rfl⟩, by omega, fun d' hd' => ?_⟩
      by_cases e : d' = d
      · subst e; rw [c1', Bool.false_and]
      · exact hi d' (by omega)
  · have h' : ¬ ((fr + d : Nat) : Int) ≤ (j : Int) := by omega
    have hs : spl t l a b fr i j = false := any_false fun d' hd' => hi d' (by omega)
    simp only [D0, ains, clsOf, abin, aint, aun, dnext, rowsOf, loadObj, cellsOf, ofCells, bnd, hmerge, Nat.reduceBEq, Nat.reduceAdd, reduceIte, Nat.reduceEqDiff, Nat.reduceLeDiff, Int.reduceEq, reduceCtorEq, Int.reduceBEq, Int.reduceBNe, Int.reduceLT, Int.reduceNeg, h', decide_false]
    refine .inr ⟨by simp, ?_⟩
    simp only [F1, bodyRes, one, ains, clsOf, abin, aint, aun, dnext, rowsOf, loadObj, cellsOf, ofCells, bnd, hmerge, Nat.reduceBEq, Nat.reduceAdd, reduceIte, Nat.reduceEqDiff, Nat.reduceLeDiff, Int.reduceEq, reduceCtorEq, Int.reduceBEq, Int.reduceBNe, Int.reduceLT, Int.reduceNeg, fn126_res, fn126_keep, hs]
    exact ⟨rfl, es, hm, rfl⟩
end Go.Proofs.Abs
