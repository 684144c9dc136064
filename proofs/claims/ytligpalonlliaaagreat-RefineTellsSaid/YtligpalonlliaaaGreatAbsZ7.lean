/- A part of a proof: the text that states the row tells what is proved. No condition is laid on anything. -/
import Derived.Test.YtligpalonlliaaaGreatAbsZ6
set_option linter.all false
set_option linter.constructorNameAsVariable false
set_option linter.defProp false
set_option linter.unusedVariables false
set_option linter.unusedSimpArgs false
set_option maxRecDepth 100000
set_option maxHeartbeats 16000000
namespace Go.Proofs.Abs
open Go
/-! 1014: caesurakeep.Sets. -/
theorem drop_getL {a : List (List R2)} {j : Nat} (h : j < a.length) : a.drop j = a.getD j [] :: a.drop (j + 1) := by
  rw [List.drop_eq_getElem_cons h]
  simp [List.getElem?_eq_getElem h]
theorem run1014 (a b : List (List R2)) (h0 : a.length ≤ 1000000) (ha : ∀ s ∈ a, s.length ≤ 9223372036854775807) : cwp r6 16 [] [(AV.list 1 (List.map (fun s => [(AV.list 2 (List.map (fun x => [AV.int .i64 x.1, AV.int .i64 x.2]) (s)))]) (a))), (AV.list 1 (List.map (fun s => [(AV.list 2 (List.map (fun x => [AV.int .i64 x.1, AV.int .i64 x.2]) (s)))]) (b)))] [] (fun r H => r = .bool (decide (a = b)) ∧ H = []) := by
  refine run_fn (fn := fn1014) rfl rfl ?_
  by_cases hl : a.length = b.length
  · have hl' : ((a.length : Int) != (b.length : Int)) = false := by simp [hl]
    simp only [fn1014_body, c1014, D0, ains, appG, clsOf, abin, aint, aun, dnext, rowsOf, loadObj, cellsOf, ofCells, bnd, hmerge, Nat.reduceBEq, Nat.reduceAdd, reduceIte, Nat.reduceEqDiff, Nat.reduceLeDiff, Int.reduceEq, reduceCtorEq, Int.reduceBEq, Int.reduceBNe, Int.reduceLT, Int.reduceNeg, hl']
    refine lg_rule (fun j e H => e = [(0, (AV.list 1 (List.map (fun s => [(AV.list 2 (List.map (fun x => [AV.int .i64 x.1, AV.int .i64 x.2]) (s)))]) (a)))), (1, (AV.list 1 (List.map (fun s => [(AV.list 2 (List.map (fun x => [AV.int .i64 x.1, AV.int .i64 x.2]) (s)))]) (b)))), (4, .bool false), (5, .int .i64 j)] ∧ H = [[]] ∧ j ≤ a.length ∧ ((a = b) ↔ (a.drop j = b.drop j))) a.length ?_ ?_
    · exact ⟨rfl, rfl, by simp, by simp⟩
    rintro j e H ⟨rfl, rfl, hj, hd⟩
    simp only [D0, ains, appG, clsOf, abin, aint, aun, dnext, rowsOf, loadObj, cellsOf, ofCells, bnd, hmerge, Nat.reduceBEq, Nat.reduceAdd, reduceIte, Nat.reduceEqDiff, Nat.reduceLeDiff, Int.reduceEq, reduceCtorEq, Int.reduceBEq, Int.reduceBNe, Int.reduceLT, Int.reduceNeg]
    by_cases h : j < a.length
    · have h' : (j : Int) < (a.length : Int) := by omega
      have hp := wrapp (j := j) (by omega)
      have hga := map_get (f := fun s : List R2 => [(AV.list 2 (List.map (fun x => [AV.int .i64 x.1, AV.int .i64 x.2]) (s)))]) h []
      have hgb := map_get (f := fun s : List R2 => [(AV.list 2 (List.map (fun x => [AV.int .i64 x.1, AV.int .i64 x.2]) (s)))]) (l := b) (j := j) (by omega) []
      have hla := ha _ (getD_memL h)
      rw [drop_getL h, drop_getL (a := b) (j := j) (by omega)] at hd
      generalize a.getD j [] = x at hga hla hd
      generalize b.getD j [] = y at hgb hd
      by_cases e : x = y
      · have e' : decide (x = y) = true := by simpa using e
        have hd2 : (a = b) ↔ (a.drop (j + 1) = b.drop (j + 1)) := by rw [hd, e]; simp
        simp only [D0, ains, appG, clsOf, abin, aint, aun, dnext, rowsOf, loadObj, cellsOf, ofCells, bnd, hmerge, Nat.reduceBEq, Nat.reduceAdd, reduceIte, Nat.reduceEqDiff, Nat.reduceLeDiff, Int.reduceEq, reduceCtorEq, Int.reduceBEq, Int.reduceBNe, Int.reduceLT, Int.reduceNeg, @use_all r6 22 k63.ora rfl, e63, h', hp, hga, hgb, hla, e', lrc_x, apx, apart, apart1, needs, decide_true, Int.natCast_nonneg, Int.toNat_natCast]
        simp only [F1, bodyRes, one, ains, appG, clsOf, abin, aint, aun, dnext, rowsOf, loadObj, cellsOf, ofCells, bnd, hmerge, Nat.reduceBEq, Nat.reduceAdd, reduceIte, Nat.reduceEqDiff, Nat.reduceLeDiff, Int.reduceEq, reduceCtorEq, Int.reduceBEq, Int.reduceBNe, Int.reduceLT, Int.reduceNeg]
        exact ⟨h, h, hd2⟩
      · have e' : decide (x = y) = false := by simpa using e
        have hn : decide (a = b) = false := by simp only [decide_eq_false_iff_not]; intro q; rw [hd] at q; simp only [List.cons.injEq] at q; exact e q.1
        simp only [D0, ains, appG, clsOf, abin, aint, aun, dnext, rowsOf, loadObj, cellsOf, ofCells, bnd, hmerge, Nat.reduceBEq, Nat.reduceAdd, reduceIte, Nat.reduceEqDiff, Nat.reduceLeDiff, Int.reduceEq, reduceCtorEq, Int.reduceBEq, Int.reduceBNe, Int.reduceLT, Int.reduceNeg, @use_all r6 22 k63.ora rfl, e63, h', hp, hga, hgb, hla, e', lrc_x, apx, apart, apart1, needs, decide_true, Int.natCast_nonneg, Int.toNat_natCast]
        simp only [F1, bodyRes, one, ains, appG, clsOf, abin, aint, aun, dnext, rowsOf, loadObj, cellsOf, ofCells, bnd, hmerge, Nat.reduceBEq, Nat.reduceAdd, reduceIte, Nat.reduceEqDiff, Nat.reduceLeDiff, Int.reduceEq, reduceCtorEq, Int.reduceBEq, Int.reduceBNe, Int.reduceLT, Int.reduceNeg, fn1014_res, fn1014_keep, hn]
    · have h' : ¬ (j : Int) < (a.length : Int) := by omega
      have hy : decide (a = b) = true := by
        simp only [decide_eq_true_eq]
        rw [hd, List.drop_eq_nil_of_le (by omega), List.drop_eq_nil_of_le (by omega)]
      simp only [D0, ains, appG, clsOf, abin, aint, aun, dnext, rowsOf, loadObj, cellsOf, ofCells, bnd, hmerge, Nat.reduceBEq, Nat.reduceAdd, reduceIte, Nat.reduceEqDiff, Nat.reduceLeDiff, Int.reduceEq, reduceCtorEq, Int.reduceBEq, Int.reduceBNe, Int.reduceLT, Int.reduceNeg, h', decide_false]
      refine .inr ⟨by simp, ?_⟩
      simp only [F1, bodyRes, one, ains, appG, clsOf, abin, aint, aun, dnext, rowsOf, loadObj, cellsOf, ofCells, bnd, hmerge, Nat.reduceBEq, Nat.reduceAdd, reduceIte, Nat.reduceEqDiff, Nat.reduceLeDiff, Int.reduceEq, reduceCtorEq, Int.reduceBEq, Int.reduceBNe, Int.reduceLT, Int.reduceNeg, fn1014_res, fn1014_keep, hy]
  · have hl' : ((a.length : Int) != (b.length : Int)) = true := by simp only [bne_iff_ne]; omega
    have hn : decide (a = b) = false := by simp only [decide_eq_false_iff_not]; intro q; exact hl (by rw [q])
    simp only [fn1014_body, c1014, D0, ains, appG, clsOf, abin, aint, aun, dnext, rowsOf, loadObj, cellsOf, ofCells, bnd, hmerge, Nat.reduceBEq, Nat.reduceAdd, reduceIte, Nat.reduceEqDiff, Nat.reduceLeDiff, Int.reduceEq, reduceCtorEq, Int.reduceBEq, Int.reduceBNe, Int.reduceLT, Int.reduceNeg, hl']
    simp only [F1, bodyRes, one, ains, appG, clsOf, abin, aint, aun, dnext, rowsOf, loadObj, cellsOf, ofCells, bnd, hmerge, Nat.reduceBEq, Nat.reduceAdd, reduceIte, Nat.reduceEqDiff, Nat.reduceLeDiff, Int.reduceEq, reduceCtorEq, Int.reduceBEq, Int.reduceBNe, Int.reduceLT, Int.reduceNeg, fn1014_res, fn1014_keep, hn]
theorem sets2Inj : ∀ x y : List (List R2) × List (List R2), [(AV.list 1 (List.map (fun s => [(AV.list 2 (List.map (fun x => [AV.int .i64 x.1, AV.int .i64 x.2]) (s)))]) (x.1))), (AV.list 1 (List.map (fun s => [(AV.list 2 (List.map (fun x => [AV.int .i64 x.1, AV.int .i64 x.2]) (s)))]) (x.2)))] = [(AV.list 1 (List.map (fun s => [(AV.list 2 (List.map (fun x => [AV.int .i64 x.1, AV.int .i64 x.2]) (s)))]) (y.1))), (AV.list 1 (List.map (fun s => [(AV.list 2 (List.map (fun x => [AV.int .i64 x.1, AV.int .i64 x.2]) (s)))]) (y.2)))] → x = y := by
  rintro ⟨a, m⟩ ⟨b, n⟩ h
  simp only [List.cons.injEq, and_true] at h
  rw [setsInj' (l := a) (m := b) h.1, setsInj' (l := m) (m := n) h.2]
noncomputable def k1014 : Kon ((List (List (Int × Int))) × (List (List (Int × Int)))) := ⟨fun x => x.1.length ≤ 1000000 ∧ ∀ s ∈ x.1, s.length ≤ 9223372036854775807, fun x => [(AV.list 1 (List.map (fun s => [(AV.list 2 (List.map (fun x => [AV.int .i64 x.1, AV.int .i64 x.2]) (s)))]) (x.1))), (AV.list 1 (List.map (fun s => [(AV.list 2 (List.map (fun x => [AV.int .i64 x.1, AV.int .i64 x.2]) (s)))]) (x.2)))], fun x => .bool (decide (x.1 = x.2))⟩
theorem e1014 (a : List (List (Int × Int))) (b : List (List (Int × Int))) (hd : a.length ≤ 1000000 ∧ ∀ s ∈ a, s.length ≤ 9223372036854775807) (q0 : Id) (H0 : Heap) : k1014.ora q0 ([(AV.list 1 (List.map (fun s => [(AV.list 2 (List.map (fun x => [AV.int .i64 x.1, AV.int .i64 x.2]) (s)))]) (a))), (AV.list 1 (List.map (fun s => [(AV.list 2 (List.map (fun x => [AV.int .i64 x.1, AV.int .i64 x.2]) (s)))]) (b)))]) H0 = some (.bool (decide (a = b)), H0) := k1014.eq (sets2Inj) (a, b) hd q0 H0
theorem ook1014 : OraOK Tryz.prog (16 % 100000) k1014.ora := k1014.ok orders r6_ok (fun x hd => by simp [k1014, PU]) (fun x hd => by simp [k1014, PU]) (fun x hd => run1014 x.1 x.2 hd.1 hd.2)

/-! 1012: refine.Within. -/
def wOne (s : List R2) (ps : List (List R2)) (j : Nat) : List Int := ((List.range j).filter fun i => decide (bothS s (ps.getD i []) = ps.getD i [])).map fun (i : Nat) => (i : Int)
def wOk (s : List R2) (ps : List (List R2)) (j : Nat) : Bool := (List.range j).all fun i => decide (bothS s (ps.getD i []) = ps.getD i []) || decide ((bothS s (ps.getD i [])).length = 0)
def withinB (l ps : List (List R2)) : Bool := l.all goodS && ps.all goodS && l.all fun s => wOk s ps ps.length
def withinV (l ps : List (List R2)) : List (List Int) := if withinB l ps then l.map fun s => wOne s ps ps.length else []
theorem wOne_next (s : List R2) (ps : List (List R2)) (j : Nat) : wOne s ps (j + 1) = wOne s ps j ++ if bothS s (ps.getD j []) = ps.getD j [] then [(j : Int)] else [] := by
  unfold wOne
  rw [List.range_succ, List.filter_append, List.map_append]
  congr 1
  by_cases h : bothS s (ps.getD j []) = ps.getD j []
  · rw [if_pos h, List.filter_cons_of_pos (by simpa using h)]; rfl
  · rw [if_neg h, List.filter_cons_of_neg (by simpa using h)]; rfl
theorem wOne_length (s : List R2) (ps : List (List R2)) (j : Nat) : (wOne s ps j).length ≤ j := by
  unfold wOne
  rw [List.length_map]
  exact Nat.le_trans (List.length_filter_le _ _) (by simp)
theorem wOk_next (s : List R2) (ps : List (List R2)) (j : Nat) : wOk s ps (j + 1) = (wOk s ps j && (decide (bothS s (ps.getD j []) = ps.getD j []) || decide ((bothS s (ps.getD j [])).length = 0))) := by
  unfold wOk
  rw [List.range_succ, List.all_append]
  simp
theorem wOk_false {s : List R2} {ps : List (List R2)} {j : Nat} (h : j < ps.length) (h1 : ¬ bothS s (ps.getD j []) = ps.getD j []) (h2 : ¬ (bothS s (ps.getD j [])).length = 0) : wOk s ps ps.length = false := by
  rw [Bool.eq_false_iff]
  intro k
  unfold wOk at k
  rw [List.all_eq_true] at k
  have := k j (List.mem_range.2 h)
  simp only [Bool.or_eq_true, decide_eq_true_eq] at this
  exact this.elim h1 h2
theorem run1012 (l ps : List (List R2)) (h0 : l.length ≤ 1000) (h1 : ps.length ≤ 1000) (hl : ∀ s ∈ l, s.length ≤ 400000) (hps : ∀ s ∈ ps, s.length ≤ 400000) :
    cwp r6 14 [] [(AV.list 1 (List.map (fun s => [(AV.list 2 (List.map (fun x => [AV.int .i64 x.1, AV.int .i64 x.2]) (s)))]) (l))), (AV.list 1 (List.map (fun s => [(AV.list 2 (List.map (fun x => [AV.int .i64 x.1, AV.int .i64 x.2]) (s)))]) (ps)))] [] (fun r H => r = .tuple [.list 1 (List.map (fun x => [(AV.list 1 (List.map (fun x => [AV.int .i64 x]) (x)))]) (withinV l ps)), .bool (withinB l ps)] ∧ H = []) := by
  refine run_fn (fn := fn1012) rfl rfl ?_
  have d1 : l.length ≤ 1000000 ∧ ∀ s ∈ l, s.length ≤ 9223372036854775807 := ⟨by omega, fun s hs => by have := hl s hs; omega⟩
  have d2 : ps.length ≤ 1000000 ∧ ∀ s ∈ ps, s.length ≤ 9223372036854775807 := ⟨by omega, fun s hs => by have := hps s hs; omega⟩
  cases g1 : l.all goodS with
  | false =>
    have hb : withinB l ps = false := by simp [withinB, g1]
    have hv : withinV l ps = [] := by simp [withinV, hb]
    simp only [fn1012_body, c1012, D0, ains, appG, clsOf, abin, aint, aun, dnext, rowsOf, loadObj, cellsOf, ofCells, bnd, hmerge, Nat.reduceBEq, Nat.reduceAdd, reduceIte, Nat.reduceEqDiff, Nat.reduceLeDiff, Int.reduceEq, reduceCtorEq, Int.reduceBEq, Int.reduceBNe, Int.reduceLT, Int.reduceNeg, @use_all r6 23 k1017.ora rfl, e1017 l d1, g1]
    simp only [F1, bodyRes, one, ains, appG, clsOf, abin, aint, aun, dnext, rowsOf, loadObj, cellsOf, ofCells, bnd, hmerge, Nat.reduceBEq, Nat.reduceAdd, reduceIte, Nat.reduceEqDiff, Nat.reduceLeDiff, Int.reduceEq, reduceCtorEq, Int.reduceBEq, Int.reduceBNe, Int.reduceLT, Int.reduceNeg, fn1012_res, fn1012_keep, fz, fzd, fzd.fzcells, hb, hv, List.map_nil]
  | true => cases g2 : ps.all goodS with
    | false =>
      have hb : withinB l ps = false := by simp [withinB, g2]
      have hv : withinV l ps = [] := by simp [withinV, hb]
      simp only [fn1012_body, c1012, D0, ains, appG, clsOf, abin, aint, aun, dnext, rowsOf, loadObj, cellsOf, ofCells, bnd, hmerge, Nat.reduceBEq, Nat.reduceAdd, reduceIte, Nat.reduceEqDiff, Nat.reduceLeDiff, Int.reduceEq, reduceCtorEq, Int.reduceBEq, Int.reduceBNe, Int.reduceLT, Int.reduceNeg, @use_all r6 23 k1017.ora rfl, e1017 l d1, e1017 ps d2, g1, g2]
      simp only [F1, bodyRes, one, ains, appG, clsOf, abin, aint, aun, dnext, rowsOf, loadObj, cellsOf, ofCells, bnd, hmerge, Nat.reduceBEq, Nat.reduceAdd, reduceIte, Nat.reduceEqDiff, Nat.reduceLeDiff, Int.reduceEq, reduceCtorEq, Int.reduceBEq, Int.reduceBNe, Int.reduceLT, Int.reduceNeg, fn1012_res, fn1012_keep, fz, fzd, fzd.fzcells, hb, hv, List.map_nil]
    | true =>
      have hbad : ∀ s ∈ l, wOk s ps ps.length = false → withinB l ps = false := fun s hs e => by
        unfold withinB
        rw [g1, g2]
        simp only [Bool.true_and]
        rw [Bool.eq_false_iff]
        intro k
        rw [List.all_eq_true] at k
        rw [k s hs] at e
        cases e
      simp only [fn1012_body, c1012, D0, ains, appG, clsOf, abin, aint, aun, dnext, rowsOf, loadObj, cellsOf, ofCells, bnd, hmerge, Nat.reduceBEq, Nat.reduceAdd, reduceIte, Nat.reduceEqDiff, Nat.reduceLeDiff, Int.reduceEq, reduceCtorEq, Int.reduceBEq, Int.reduceBNe, Int.reduceLT, Int.reduceNeg, @use_all r6 23 k1017.ora rfl, e1017 l d1, e1017 ps d2, g1, g2]
      refine lg_rule (fun j e H => e = [(0, (AV.list 1 (List.map (fun s => [(AV.list 2 (List.map (fun x => [AV.int .i64 x.1, AV.int .i64 x.2]) (s)))]) (l)))), (1, (AV.list 1 (List.map (fun s => [(AV.list 2 (List.map (fun x => [AV.int .i64 x.1, AV.int .i64 x.2]) (s)))]) (ps)))), (4, .own [0] 0), (5, .bool false), (6, .own [10] j), (22, (AV.list 1 (List.map (fun s => [(AV.list 2 (List.map (fun x => [AV.int .i64 x.1, AV.int .i64 x.2]) (s)))]) (l)))), (23, .int .i64 l.length), (24, .int .i64 j)] ∧
        H = [[([10], .row true true 56 1 (List.map (fun x => [(AV.list 1 (List.map (fun x => [AV.int .i64 x]) (x)))]) ((l.take j).map fun s => wOne s ps ps.length))), ([0], .row true true 56 1 [])]] ∧ j ≤ l.length ∧ (l.take j).all (fun s => wOk s ps ps.length) = true) l.length ?_ ?_
      · exact ⟨rfl, rfl, by simp, rfl⟩
      rintro j e H ⟨rfl, rfl, hj, hok⟩
      simp only [D0, ains, appG, clsOf, abin, aint, aun, dnext, rowsOf, loadObj, cellsOf, ofCells, bnd, hmerge, Nat.reduceBEq, Nat.reduceAdd, reduceIte, Nat.reduceEqDiff, Nat.reduceLeDiff, Int.reduceEq, reduceCtorEq, Int.reduceBEq, Int.reduceBNe, Int.reduceLT, Int.reduceNeg]
      by_cases h : j < l.length
      · have h' : (j : Int) < (l.length : Int) := by omega
        have hp := wrapp (j := j) (by omega)
        have hgl := map_get (f := fun s : List R2 => [(AV.list 2 (List.map (fun x => [AV.int .i64 x.1, AV.int .i64 x.2]) (s)))]) h []
        have hsl := hl _ (getD_memL h)
        have hsg := List.all_eq_true.1 g1 _ (getD_memL h)
        have hbs := hbad _ (getD_memL h)
        have htk : (l.take (j + 1)).map (fun s => wOne s ps ps.length) = (l.take j).map (fun s => wOne s ps ps.length) ++ [wOne (l.getD j []) ps ps.length] := by rw [takeL_snoc h]; simp
        have hok2 : wOk (l.getD j []) ps ps.length = true → (l.take (j + 1)).all (fun s => wOk s ps ps.length) = true := fun e => by rw [takeL_snoc h, List.all_append, hok]; simp only [List.all_cons, List.all_nil, Bool.and_true, Bool.true_and]; exact e
        have hlen : ((l.take j).map fun s => wOne s ps ps.length).length = j := by simp; omega
        generalize l.getD j [] = s at hgl hsl hsg hbs htk hok2
        generalize (l.take j).map (fun s => wOne s ps ps.length) = W at htk hlen ⊢
        simp only [D0, ains, appG, clsOf, abin, aint, aun, dnext, rowsOf, loadObj, cellsOf, ofCells, bnd, hmerge, Nat.reduceBEq, Nat.reduceAdd, reduceIte, Nat.reduceEqDiff, Nat.reduceLeDiff, Int.reduceEq, reduceCtorEq, Int.reduceBEq, Int.reduceBNe, Int.reduceLT, Int.reduceNeg, h', hgl, decide_true, Int.natCast_nonneg, Int.toNat_natCast]
        refine lg_rule (fun i e H => e = [(0, (AV.list 1 (List.map (fun s => [(AV.list 2 (List.map (fun x => [AV.int .i64 x.1, AV.int .i64 x.2]) (s)))]) (l)))), (1, (AV.list 1 (List.map (fun s => [(AV.list 2 (List.map (fun x => [AV.int .i64 x.1, AV.int .i64 x.2]) (s)))]) (ps)))), (4, .own [0] 0), (5, .bool false), (6, .own [10] j), (22, (AV.list 1 (List.map (fun s => [(AV.list 2 (List.map (fun x => [AV.int .i64 x.1, AV.int .i64 x.2]) (s)))]) (l)))), (23, .int .i64 l.length), (24, .int .i64 j), (8, (AV.list 2 (List.map (fun x => [AV.int .i64 x.1, AV.int .i64 x.2]) (s)))), (9, .own [14, j, 4] (wOne s ps i).length), (28, (AV.list 1 (List.map (fun s => [(AV.list 2 (List.map (fun x => [AV.int .i64 x.1, AV.int .i64 x.2]) (s)))]) (ps)))), (29, .int .i64 ps.length), (30, .int .i64 i)] ∧
          H = [[([14, j, 4], .row true true 3 1 (List.map (fun x => [AV.int .i64 x]) (wOne s ps i)))], [([10], .row true true 56 1 (List.map (fun x => [(AV.list 1 (List.map (fun x => [AV.int .i64 x]) (x)))]) W)), ([0], .row true true 56 1 [])]] ∧ i ≤ ps.length ∧ wOk s ps i = true) ps.length ?_ ?_
        · exact ⟨rfl, rfl, by simp, rfl⟩
        rintro i e H ⟨rfl, rfl, hi, hki⟩
        simp only [D0, ains, appG, clsOf, abin, aint, aun, dnext, rowsOf, loadObj, cellsOf, ofCells, bnd, hmerge, Nat.reduceBEq, Nat.reduceAdd, reduceIte, Nat.reduceEqDiff, Nat.reduceLeDiff, Int.reduceEq, reduceCtorEq, Int.reduceBEq, Int.reduceBNe, Int.reduceLT, Int.reduceNeg]
        by_cases k : i < ps.length
        · have k' : (i : Int) < (ps.length : Int) := by omega
          have hpi := wrapp (j := i) (by omega)
          have hgp := map_get (f := fun s : List R2 => [(AV.list 2 (List.map (fun x => [AV.int .i64 x.1, AV.int .i64 x.2]) (s)))]) k []
          have hpl := hps _ (getD_memL k)
          have hpg := List.all_eq_true.1 g2 _ (getD_memL k)
          have hwn := wOne_next s ps i
          have hwk := wOk_next s ps i
          have hwf := wOk_false (s := s) k
          have hwl := wOne_length s ps i
          rw [hki, Bool.true_and] at hwk
          generalize ps.getD i [] = q at hgp hpl hpg hwn hwk hwf
          have hbl := both_len s q
          have hb9 : (bothS s q).length ≤ 9223372036854775807 := by omega
          have hcap : ((wOne s ps i).length + 1) * 8 ≤ 140737488355328 := by omega
          by_cases e1 : bothS s q = q
          · have e1' : decide (bothS s q = q) = true := by simpa using e1
            rw [if_pos e1] at hwn
            rw [e1', Bool.true_or] at hwk
            simp only [D0, ains, appG, clsOf, abin, aint, aun, dnext, rowsOf, loadObj, cellsOf, ofCells, bnd, hmerge, Nat.reduceBEq, Nat.reduceAdd, reduceIte, Nat.reduceEqDiff, Nat.reduceLeDiff, Int.reduceEq, reduceCtorEq, Int.reduceBEq, Int.reduceBNe, Int.reduceLT, Int.reduceNeg, @use_all r6 38 k50.ora rfl, e50 s q ⟨hsl, hpl⟩, @use_all r6 39 k62.ora rfl, e62, k', hgp, hpi, hsg, hpg, hb9, e1', hcap, decide_true, Int.natCast_nonneg, Int.toNat_natCast, List.length_map]
            simp only [F1, bodyRes, one, ains, appG, clsOf, abin, aint, aun, dnext, rowsOf, loadObj, cellsOf, ofCells, bnd, hmerge, Nat.reduceBEq, Nat.reduceAdd, reduceIte, Nat.reduceEqDiff, Nat.reduceLeDiff, Int.reduceEq, reduceCtorEq, Int.reduceBEq, Int.reduceBNe, Int.reduceLT, Int.reduceNeg]
            rw [hwn]
            exact ⟨k, by simp, by simp, k, hwk⟩
          · have e1' : decide (bothS s q = q) = false := by simpa using e1
            rw [if_neg e1, List.append_nil] at hwn
            by_cases e2 : (bothS s q).length = 0
            · have e2' : ¬ ((bothS s q).length : Int) > 0 := by omega
              rw [e1', Bool.false_or] at hwk
              simp only [D0, ains, appG, clsOf, abin, aint, aun, dnext, rowsOf, loadObj, cellsOf, ofCells, bnd, hmerge, Nat.reduceBEq, Nat.reduceAdd, reduceIte, Nat.reduceEqDiff, Nat.reduceLeDiff, Int.reduceEq, reduceCtorEq, Int.reduceBEq, Int.reduceBNe, Int.reduceLT, Int.reduceNeg, @use_all r6 38 k50.ora rfl, e50 s q ⟨hsl, hpl⟩, @use_all r6 39 k62.ora rfl, e62, k', hgp, hpi, hsg, hpg, hb9, e1', e2', decide_true, decide_false, Int.natCast_nonneg, Int.toNat_natCast, List.length_map]
              simp only [F1, bodyRes, one, ains, appG, clsOf, abin, aint, aun, dnext, rowsOf, loadObj, cellsOf, ofCells, bnd, hmerge, Nat.reduceBEq, Nat.reduceAdd, reduceIte, Nat.reduceEqDiff, Nat.reduceLeDiff, Int.reduceEq, reduceCtorEq, Int.reduceBEq, Int.reduceBNe, Int.reduceLT, Int.reduceNeg]
              rw [hwn]
              have e2'' : decide ((bothS s q).length = 0) = true := by simpa using e2
              exact ⟨k, rfl, rfl, k, by rw [hwk, e2'']⟩
            · have e2' : ((bothS s q).length : Int) > 0 := by omega
              have hb := hbs (hwf e1 e2)
              have hv : withinV l ps = [] := by simp [withinV, hb]
              simp only [D0, ains, appG, clsOf, abin, aint, aun, dnext, rowsOf, loadObj, cellsOf, ofCells, bnd, hmerge, Nat.reduceBEq, Nat.reduceAdd, reduceIte, Nat.reduceEqDiff, Nat.reduceLeDiff, Int.reduceEq, reduceCtorEq, Int.reduceBEq, Int.reduceBNe, Int.reduceLT, Int.reduceNeg, @use_all r6 38 k50.ora rfl, e50 s q ⟨hsl, hpl⟩, @use_all r6 39 k62.ora rfl, e62, k', hgp, hpi, hsg, hpg, hb9, e1', e2', decide_true, Int.natCast_nonneg, Int.toNat_natCast, List.length_map]
              simp only [F1, bodyRes, one, ains, appG, clsOf, abin, aint, aun, dnext, rowsOf, loadObj, cellsOf, ofCells, bnd, hmerge, Nat.reduceBEq, Nat.reduceAdd, reduceIte, Nat.reduceEqDiff, Nat.reduceLeDiff, Int.reduceEq, reduceCtorEq, Int.reduceBEq, Int.reduceBNe, Int.reduceLT, Int.reduceNeg, fn1012_res, fn1012_keep, fz, fzd, fzd.fzcells, hb, hv, List.map_nil]
        · have k' : ¬ (i : Int) < (ps.length : Int) := by omega
          have hil : i = ps.length := by omega
          subst hil
          have hwl := wOne_length s ps ps.length
          have hcap : (j + 1) * 24 ≤ 140737488355328 := by omega
          have hW : (List.map (fun x : List Int => [(AV.list 1 (List.map (fun x => [AV.int .i64 x]) (x)))]) W).length = j := by simp [hlen]
          simp only [D0, ains, appG, clsOf, abin, aint, aun, dnext, rowsOf, loadObj, cellsOf, ofCells, bnd, hmerge, Nat.reduceBEq, Nat.reduceAdd, reduceIte, Nat.reduceEqDiff, Nat.reduceLeDiff, Int.reduceEq, reduceCtorEq, Int.reduceBEq, Int.reduceBNe, Int.reduceLT, Int.reduceNeg, k', decide_false]
          refine .inr ⟨by simp, ?_⟩
          simp only [D0, ains, appG, clsOf, abin, aint, aun, dnext, rowsOf, loadObj, cellsOf, ofCells, bnd, hmerge, Nat.reduceBEq, Nat.reduceAdd, reduceIte, Nat.reduceEqDiff, Nat.reduceLeDiff, Int.reduceEq, reduceCtorEq, Int.reduceBEq, Int.reduceBNe, Int.reduceLT, Int.reduceNeg, hp, hcap, hW, fz, fzd, List.length_map]
          simp only [F1, bodyRes, one, ains, appG, clsOf, abin, aint, aun, dnext, rowsOf, loadObj, cellsOf, ofCells, bnd, hmerge, Nat.reduceBEq, Nat.reduceAdd, reduceIte, Nat.reduceEqDiff, Nat.reduceLeDiff, Int.reduceEq, reduceCtorEq, Int.reduceBEq, Int.reduceBNe, Int.reduceLT, Int.reduceNeg]
          rw [htk]
          exact ⟨h, by simp, h, hok2 hki⟩
      · have h' : ¬ (j : Int) < (l.length : Int) := by omega
        have hjl : j = l.length := by omega
        subst hjl
        rw [List.take_length] at hok ⊢
        have hb : withinB l ps = true := by unfold withinB; rw [g1, g2, hok]; rfl
        have hv : withinV l ps = l.map fun s => wOne s ps ps.length := by simp [withinV, hb]
        have hW : (List.map (fun x : List Int => [(AV.list 1 (List.map (fun x => [AV.int .i64 x]) (x)))]) (l.map fun s => wOne s ps ps.length)).length = l.length := by simp
        simp only [D0, ains, appG, clsOf, abin, aint, aun, dnext, rowsOf, loadObj, cellsOf, ofCells, bnd, hmerge, Nat.reduceBEq, Nat.reduceAdd, reduceIte, Nat.reduceEqDiff, Nat.reduceLeDiff, Int.reduceEq, reduceCtorEq, Int.reduceBEq, Int.reduceBNe, Int.reduceLT, Int.reduceNeg, h', decide_false]
        refine .inr ⟨by simp, ?_⟩
        simp only [F1, bodyRes, one, ains, appG, clsOf, abin, aint, aun, dnext, rowsOf, loadObj, cellsOf, ofCells, bnd, hmerge, Nat.reduceBEq, Nat.reduceAdd, reduceIte, Nat.reduceEqDiff, Nat.reduceLeDiff, Int.reduceEq, reduceCtorEq, Int.reduceBEq, Int.reduceBNe, Int.reduceLT, Int.reduceNeg, fn1012_res, fn1012_keep, fz, fzd, fzd.fzcells, hb, hv, hW]
theorem pureLL (l : List (List Int)) : Pure (.list 1 (List.map (fun x => [(AV.list 1 (List.map (fun x => [AV.int .i64 x]) (x)))]) l)) := .list _ _ (pure_flat (by
  intro r hr a ha
  obtain ⟨s, _, rfl⟩ := List.mem_map.1 hr
  rw [List.mem_singleton.1 ha]
  exact pure_eRow s))
attribute [simp] pureLL
noncomputable def k1012 : Kon ((List (List (Int × Int))) × (List (List (Int × Int)))) := ⟨fun x => x.1.length ≤ 1000 ∧ x.2.length ≤ 1000 ∧ (∀ s ∈ x.1, s.length ≤ 400000) ∧ ∀ s ∈ x.2, s.length ≤ 400000, fun x => [(AV.list 1 (List.map (fun s => [(AV.list 2 (List.map (fun x => [AV.int .i64 x.1, AV.int .i64 x.2]) (s)))]) (x.1))), (AV.list 1 (List.map (fun s => [(AV.list 2 (List.map (fun x => [AV.int .i64 x.1, AV.int .i64 x.2]) (s)))]) (x.2)))], fun x => .tuple [.list 1 (List.map (fun y => [(AV.list 1 (List.map (fun x => [AV.int .i64 x]) (y)))]) (withinV x.1 x.2)), .bool (withinB x.1 x.2)]⟩
theorem e1012 (l : List (List (Int × Int))) (ps : List (List (Int × Int))) (hd : l.length ≤ 1000 ∧ ps.length ≤ 1000 ∧ (∀ s ∈ l, s.length ≤ 400000) ∧ ∀ s ∈ ps, s.length ≤ 400000) (q0 : Id) (H0 : Heap) : k1012.ora q0 ([(AV.list 1 (List.map (fun s => [(AV.list 2 (List.map (fun x => [AV.int .i64 x.1, AV.int .i64 x.2]) (s)))]) (l))), (AV.list 1 (List.map (fun s => [(AV.list 2 (List.map (fun x => [AV.int .i64 x.1, AV.int .i64 x.2]) (s)))]) (ps)))]) H0 = some (.tuple [.list 1 (List.map (fun y => [(AV.list 1 (List.map (fun x => [AV.int .i64 x]) (y)))]) (withinV l ps)), .bool (withinB l ps)], H0) := k1012.eq (sets2Inj) (l, ps) hd q0 H0
theorem ook1012 : OraOK Tryz.prog (14 % 100000) k1012.ora := k1012.ok orders r6_ok (fun x hd => by simp [k1012, PU]) (fun x hd => by simp [k1012, PU]) (fun x hd => run1012 x.1 x.2 hd.1 hd.2.1 hd.2.2.1 hd.2.2.2)

noncomputable def r7 : FT := upd (upd (r6) 16 k1014.ora) 14 k1012.ora
theorem r7_ok : FTOK Tryz.prog r7 := upd_ok2 (f := 14) (upd_ok2 (f := 16) (r6_ok) ook1014) ook1012

end Go.Proofs.Abs
