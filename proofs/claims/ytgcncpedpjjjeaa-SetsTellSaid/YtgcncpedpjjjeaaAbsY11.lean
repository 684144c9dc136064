/- A part of a proof: the text that states the row tells what is proved. No condition is laid on anything. -/
import Derived.Test.YtgcncpedpjjjeaaAbsY10
set_option linter.all false
set_option linter.constructorNameAsVariable false
set_option linter.defProp false
set_option linter.unusedVariables false
set_option linter.unusedSimpArgs false
set_option maxRecDepth 100000
set_option maxHeartbeats 16000000
namespace Go.Proofs.Abs
open Go
/-! 12: caesuralaw03.SetsHold. -/
theorem inS_bool {s t : List R2} {v : Int} (h : memS s v ↔ memS t v) : inS v s = inS v t := by rw [Bool.eq_iff_iff, inS_iff, inS_iff]; exact h
theorem has_union {a b : List R2} (ha : goodS a = true) (hb : goodS b = true) (v : Int) : hasS (unionS a b) v = (hasS a v || hasS b v) := by
  obtain ⟨_, g, m⟩ := union_good ha hb
  rw [hasS_iff, hasS_iff, hasS_iff, ha, hb, good_of g]
  cases iv : isS v with
  | false => simp
  | true =>
    simp only [Bool.true_and]
    rw [Bool.eq_iff_iff, Bool.or_eq_true, inS_iff, inS_iff, inS_iff]
    exact m v iv
theorem has_both {a b : List R2} (ha : goodS a = true) (hb : goodS b = true) (v : Int) : hasS (bothS a b) v = (hasS a v && hasS b v) := by
  obtain ⟨g, m⟩ := both_good ha hb
  rw [hasS_iff, hasS_iff, hasS_iff, ha, hb, good_of g]
  cases iv : isS v with
  | false => simp
  | true =>
    simp only [Bool.true_and]
    rw [Bool.eq_iff_iff, Bool.and_eq_true, inS_iff, inS_iff, inS_iff]
    exact m v
theorem has_not {a : List R2} (ha : goodS a = true) (v : Int) : hasS (notS a) v = (isS v && !hasS a v) := by
  obtain ⟨g, m⟩ := notS_good ha
  rw [hasS_iff, hasS_iff, ha, good_of g]
  cases iv : isS v with
  | false => simp
  | true =>
    simp only [Bool.true_and]
    have := m v iv
    rw [← inS_iff, ← inS_iff] at this
    cases e1 : inS v (notS a) <;> cases e2 : inS v a <;> simp_all
theorem has_inv {a : List R2} {v : Int} (h : hasS a v = true) : isS v = true := by
  rw [hasS_iff] at h
  simp only [Bool.and_eq_true] at h
  exact h.1.2
theorem size_not {a : List R2} (ha : goodS a = true) : sizeS (notS a) + sizeS a = 1112064 := by
  obtain ⟨g, m⟩ := notS_good ha
  have h := card_not (s := a) (t := notS a) 1114112 rfl m
  rw [sizeS_card ha 1114112 rfl, sizeS_card (good_of g) 1114112 rfl]
  exact h
theorem size_le {a : List R2} (ha : goodS a = true) : 0 ≤ sizeS a ∧ sizeS a ≤ 1112064 := by
  obtain ⟨g, m⟩ := notS_good ha
  have h := size_not ha
  have h1 := sizeS_card ha 1114112 rfl
  have h2 := sizeS_card (good_of g) 1114112 rfl
  omega
theorem size_union {a b : List R2} (ha : goodS a = true) (hb : goodS b = true) : sizeS (unionS a b) + sizeS (bothS a b) = sizeS a + sizeS b := by
  obtain ⟨_, g, m⟩ := union_good ha hb
  obtain ⟨g2, m2⟩ := both_good ha hb
  have h := card_union (a := a) (b := b) (d := unionS a b) (e := bothS a b) 1114112 m fun v _ => m2 v
  rw [sizeS_card ha 1114112 rfl, sizeS_card hb 1114112 rfl, sizeS_card (good_of g) 1114112 rfl, sizeS_card (good_of g2) 1114112 rfl]
  omega
/-- The ends of ranges, and what is beside them. -/
def endsS (l : List R2) : List Int := l.flatMap fun r => [r.1, r.2, r.1 - 1, r.2 + 1]
theorem endsS_snoc (l : List R2) (r : R2) : endsS (l ++ [r]) = endsS l ++ [r.1, r.2, r.1 - 1, r.2 + 1] := by simp [endsS]
theorem endsS_length (l : List R2) : (endsS l).length = 4 * l.length := by
  induction l with
  | nil => rfl
  | cons x l ih => simp only [endsS, List.flatMap_cons, List.length_append, List.length_cons, List.length_nil] at *; omega
theorem getI {l : List Int} {j : Nat} (h : j < l.length) : (List.map (fun x => [AV.int .i64 x]) l)[j]? = some [AV.int .i64 (l.getD j 0)] := by
  simp [List.getElem?_eq_getElem h]
theorem run12 (a b : List R2) (l : List Int) (wa : WfS a) (wb : WfS b) (wl : l.length ≤ 9223372036854775807) : cwp s6 12 [] [(AV.list 2 (List.map (fun x => [AV.int .i64 x.1, AV.int .i64 x.2]) (a))), (AV.list 2 (List.map (fun x => [AV.int .i64 x.1, AV.int .i64 x.2]) (b))), (AV.list 1 (List.map (fun x => [AV.int .i64 x]) (l)))] [] (fun r H => r = .bool true ∧ H = []) := by
  refine run_fn (fn := fn12) rfl rfl ?_
  have la := wa.len
  have lb := wb.len
  by_cases hl : big2 a b = true
  · simp only [fn12_body, c12, c12_6, D0, ains, clsOf, abin, aint, aun, dnext, rowsOf, loadObj, cellsOf, ofCells, bnd, hmerge, Nat.reduceBEq, Nat.reduceAdd, reduceIte, Nat.reduceEqDiff, Nat.reduceLeDiff, Int.reduceEq, reduceCtorEq, Int.reduceBEq, Int.reduceBNe, Int.reduceLT, Int.reduceNeg, @use_all s6 46 k46.ora rfl, e46, @use_all s6 47 kW.ora rfl, eW, hl]
    simp only [F1, bodyRes, one, ains, clsOf, abin, aint, aun, dnext, rowsOf, loadObj, cellsOf, ofCells, bnd, hmerge, Nat.reduceBEq, Nat.reduceAdd, reduceIte, Nat.reduceEqDiff, Nat.reduceLeDiff, Int.reduceEq, reduceCtorEq, Int.reduceBEq, Int.reduceBNe, Int.reduceLT, Int.reduceNeg, fn12_res, fn12_keep]
  have hl' : big2 a b = false := by simpa using hl
  cases ga : goodS a with
  | false =>
    simp only [fn12_body, c12, c12_6, D0, ains, clsOf, abin, aint, aun, dnext, rowsOf, loadObj, cellsOf, ofCells, bnd, hmerge, Nat.reduceBEq, Nat.reduceAdd, reduceIte, Nat.reduceEqDiff, Nat.reduceLeDiff, Int.reduceEq, reduceCtorEq, Int.reduceBEq, Int.reduceBNe, Int.reduceLT, Int.reduceNeg, @use_all s6 46 k46.ora rfl, e46, @use_all s6 57 k57.ora rfl, e57, la, lb, ga, @use_all s6 47 kW.ora rfl, eW, hl']
    simp only [F1, bodyRes, one, ains, clsOf, abin, aint, aun, dnext, rowsOf, loadObj, cellsOf, ofCells, bnd, hmerge, Nat.reduceBEq, Nat.reduceAdd, reduceIte, Nat.reduceEqDiff, Nat.reduceLeDiff, Int.reduceEq, reduceCtorEq, Int.reduceBEq, Int.reduceBNe, Int.reduceLT, Int.reduceNeg, fn12_res, fn12_keep]
  | true => cases gb : goodS b with
    | false =>
      simp only [fn12_body, c12, c12_6, D0, ains, clsOf, abin, aint, aun, dnext, rowsOf, loadObj, cellsOf, ofCells, bnd, hmerge, Nat.reduceBEq, Nat.reduceAdd, reduceIte, Nat.reduceEqDiff, Nat.reduceLeDiff, Int.reduceEq, reduceCtorEq, Int.reduceBEq, Int.reduceBNe, Int.reduceLT, Int.reduceNeg, @use_all s6 46 k46.ora rfl, e46, @use_all s6 57 k57.ora rfl, e57, la, lb, ga, gb, @use_all s6 47 kW.ora rfl, eW, hl']
      simp only [F1, bodyRes, one, ains, clsOf, abin, aint, aun, dnext, rowsOf, loadObj, cellsOf, ofCells, bnd, hmerge, Nat.reduceBEq, Nat.reduceAdd, reduceIte, Nat.reduceEqDiff, Nat.reduceLeDiff, Int.reduceEq, reduceCtorEq, Int.reduceBEq, Int.reduceBNe, Int.reduceLT, Int.reduceNeg, fn12_res, fn12_keep]
    | true =>
      by_cases hll : 100 < l.length
      · have hll' : (l.length : Int) > 100 := by omega
        simp only [fn12_body, c12, c12_6, D0, ains, clsOf, abin, aint, aun, dnext, rowsOf, loadObj, cellsOf, ofCells, bnd, hmerge, Nat.reduceBEq, Nat.reduceAdd, reduceIte, Nat.reduceEqDiff, Nat.reduceLeDiff, Int.reduceEq, reduceCtorEq, Int.reduceBEq, Int.reduceBNe, Int.reduceLT, Int.reduceNeg, @use_all s6 46 k46.ora rfl, e46, @use_all s6 57 k57.ora rfl, e57, la, lb, ga, gb, hll', decide_true, @use_all s6 47 kW.ora rfl, eW, hl']
        simp only [F1, bodyRes, one, ains, clsOf, abin, aint, aun, dnext, rowsOf, loadObj, cellsOf, ofCells, bnd, hmerge, Nat.reduceBEq, Nat.reduceAdd, reduceIte, Nat.reduceEqDiff, Nat.reduceLeDiff, Int.reduceEq, reduceCtorEq, Int.reduceBEq, Int.reduceBNe, Int.reduceLT, Int.reduceNeg, fn12_res, fn12_keep]
      have hll' : ¬ (l.length : Int) > 100 := by omega
      have hla6 : a.length ≤ 60 := by simp [big2] at hl'; omega
      have hlb6 : b.length ≤ 60 := by simp [big2] at hl'; omega
      have hla : a.length ≤ 400000 := by omega
      have hlb : b.length ≤ 400000 := by omega
      have ha6 : a.length ≤ 1000000 := by omega
      have lu := union_len ga gb
      have lm := both_len a b
      have li := not_len a
      have gu : goodS (unionS a b) = true := good_of (union_good ga gb).2.1
      have gm : goodS (bothS a b) = true := good_of (both_good ga gb).1
      have gi : goodS (notS a) = true := good_of (notS_good ga).1
      have h1 := not_not ga
      have hu5 : (unionS a b).length ≤ 9223372036854775807 := by omega
      have hm5 : (bothS a b).length ≤ 9223372036854775807 := by omega
      have hi5 : (notS a).length ≤ 9223372036854775807 := by omega
      have hi6 : (notS a).length ≤ 1000000 := by omega
      have hc1 : l.length * 8 ≤ 140737488355328 := by omega
      have hc2 : a.length * 16 ≤ 140737488355328 := by omega
      have hc3 : (a.length + b.length) * 16 ≤ 140737488355328 := by omega
      simp only [fn12_body, c12, c12_6, c12_5, c12_1, D0, ains, clsOf, abin, aint, aun, dnext, rowsOf, loadObj, cellsOf, ofCells, bnd, hmerge, Nat.reduceBEq, Nat.reduceAdd, reduceIte, Nat.reduceEqDiff, Nat.reduceLeDiff, Int.reduceEq, reduceCtorEq, Int.reduceBEq, Int.reduceBNe, Int.reduceLT, Int.reduceNeg, @use_all s6 46 k46.ora rfl, e46, @use_all s6 57 k57.ora rfl, e57, @use_all s6 56 k56.ora rfl, e56, @use_all s6 49 k49.ora rfl, e49, @use_all s6 50 k50.ora rfl, e50, @use_all s6 51 k51.ora rfl, e51, @use_all s6 62 k62.ora rfl, e62, la, lb, hla, hlb, ha6, ga, gb, gu, gm, gi, h1, hu5, hm5, hi5, hi6, hc1, hc2, hc3, hll', hl', decide_true, decide_false, Bool.and_self, List.length_map, eq_self, Nat.zero_add, List.nil_append]
      have gdc : ∀ r ∈ a ++ b, wholeS r = true := fun r hr => (List.mem_append.1 hr).elim (((gdL_iff _).1 ga).whole r) (((gdL_iff _).1 gb).whole r)
      have hcl : (a ++ b).length = a.length + b.length := List.length_append
      rw [← List.map_append, ← hcl]
      have hc120 : (a ++ b).length ≤ 120 := by omega
      generalize a ++ b = c at gdc hcl hc120 ⊢
      clear hcl
      refine lg_rule (fun j e H => e = [(0, (AV.list 2 (List.map (fun x => [AV.int .i64 x.1, AV.int .i64 x.2]) (a)))), (1, (AV.list 2 (List.map (fun x => [AV.int .i64 x.1, AV.int .i64 x.2]) (b)))), (2, (AV.list 1 (List.map (fun x => [AV.int .i64 x]) (l)))), (6, .bool false), (7, (AV.list 2 (List.map (fun x => [AV.int .i64 x.1, AV.int .i64 x.2]) (unionS a b)))), (8, .bool true), (9, (AV.list 2 (List.map (fun x => [AV.int .i64 x.1, AV.int .i64 x.2]) (bothS a b)))), (10, .bool true), (11, (AV.list 2 (List.map (fun x => [AV.int .i64 x.1, AV.int .i64 x.2]) (notS a)))), (12, .bool true), (13, (AV.list 2 (List.map (fun x => [AV.int .i64 x.1, AV.int .i64 x.2]) (a)))), (14, .bool true), (15, .own [84] (l ++ endsS (c.take j)).length), (16, .own [88] c.length), (17, .int .i64 j)] ∧
        H = [[([88], .row true true 70 2 (List.map (fun x => [AV.int .i64 x.1, AV.int .i64 x.2]) c)), ([84], .row true true 3 1 (List.map (fun x => [AV.int .i64 x]) (l ++ endsS (c.take j))))]] ∧ j ≤ c.length) c.length ?_ ?_
      · refine ⟨?_, ?_, by simp⟩ <;> simp [endsS]
      rintro j e H ⟨rfl, rfl, hj⟩
      simp only [D0, ains, clsOf, abin, aint, aun, dnext, rowsOf, loadObj, cellsOf, ofCells, bnd, hmerge, Nat.reduceBEq, Nat.reduceAdd, reduceIte, Nat.reduceEqDiff, Nat.reduceLeDiff, Int.reduceEq, reduceCtorEq, Int.reduceBEq, Int.reduceBNe, Int.reduceLT, Int.reduceNeg]
      by_cases h : j < c.length
      · have h' : (j : Int) < (c.length : Int) := by omega
        have hp := wrapp (j := j) (by omega)
        have hg := map_get (f := fun x : Int × Int => [AV.int .i64 x.1, AV.int .i64 x.2]) h (0, 0)
        have hw := gdc _ (getD_mem' h)
        have hs := endsS_snoc (c.take j) (c.getD j (0, 0))
        rw [← take_snoc h] at hs
        have hlen : (l ++ endsS (c.take j)).length ≤ 580 := by rw [List.length_append, endsS_length, List.length_take]; omega
        generalize c.getD j (0, 0) = r at hg hw hs
        rw [hs, ← List.append_assoc]
        generalize l ++ endsS (c.take j) = d at hlen ⊢
        obtain ⟨x, y⟩ := r
        obtain ⟨k1, k2, k3⟩ := wholeS_iff.1 hw
        have k1 := isS_iff.1 k1
        have k2 := isS_iff.1 k2
        simp only at k1 k2 k3
        have w1 : IntKind.i64.wrap (x - 1) = x - 1 := wrap64 (by omega) (by omega)
        have w2 : IntKind.i64.wrap (y + 1) = y + 1 := wrap64 (by omega) (by omega)
        have hcap : (d.length + 4) * 8 ≤ 140737488355328 := by omega
        simp only [c12_2, D0, ains, clsOf, abin, aint, aun, dnext, rowsOf, loadObj, cellsOf, ofCells, bnd, hmerge, Nat.reduceBEq, Nat.reduceAdd, reduceIte, Nat.reduceEqDiff, Nat.reduceLeDiff, Int.reduceEq, reduceCtorEq, Int.reduceBEq, Int.reduceBNe, Int.reduceLT, Int.reduceNeg, h', hg, hp, w1, w2, hcap, lrc_x, apx, apart, apart1, needs, decide_true, Int.natCast_nonneg, Int.toNat_natCast, List.length_map, Nat.reduceLT]
        simp only [F1, bodyRes, one, ains, clsOf, abin, aint, aun, dnext, rowsOf, loadObj, cellsOf, ofCells, bnd, hmerge, Nat.reduceBEq, Nat.reduceAdd, reduceIte, Nat.reduceEqDiff, Nat.reduceLeDiff, Int.reduceEq, reduceCtorEq, Int.reduceBEq, Int.reduceBNe, Int.reduceLT, Int.reduceNeg]
        refine ⟨h, ?_, ?_, h⟩ <;> simp [List.map_append]
      have h' : ¬ (j : Int) < (c.length : Int) := by omega
      have hjl : j = c.length := by omega
      subst hjl
      simp only [List.take_length, D0, ains, clsOf, abin, aint, aun, dnext, rowsOf, loadObj, cellsOf, ofCells, bnd, hmerge, Nat.reduceBEq, Nat.reduceAdd, reduceIte, Nat.reduceEqDiff, Nat.reduceLeDiff, Int.reduceEq, reduceCtorEq, Int.reduceBEq, Int.reduceBNe, Int.reduceLT, Int.reduceNeg, h', decide_false]
      refine .inr ⟨by simp, ?_⟩
      have hlen : (l ++ endsS c).length ≤ 580 := by rw [List.length_append, endsS_length]; omega
      generalize l ++ endsS c = d at hlen ⊢
      simp only [c12_4, D0, ains, clsOf, abin, aint, aun, dnext, rowsOf, loadObj, cellsOf, ofCells, bnd, hmerge, Nat.reduceBEq, Nat.reduceAdd, reduceIte, Nat.reduceEqDiff, Nat.reduceLeDiff, Int.reduceEq, reduceCtorEq, Int.reduceBEq, Int.reduceBNe, Int.reduceLT, Int.reduceNeg]
      refine lg_rule (fun j e H => e = [(0, (AV.list 2 (List.map (fun x => [AV.int .i64 x.1, AV.int .i64 x.2]) (a)))), (1, (AV.list 2 (List.map (fun x => [AV.int .i64 x.1, AV.int .i64 x.2]) (b)))), (2, (AV.list 1 (List.map (fun x => [AV.int .i64 x]) (l)))), (6, .bool false), (7, (AV.list 2 (List.map (fun x => [AV.int .i64 x.1, AV.int .i64 x.2]) (unionS a b)))), (8, .bool true), (9, (AV.list 2 (List.map (fun x => [AV.int .i64 x.1, AV.int .i64 x.2]) (bothS a b)))), (10, .bool true), (11, (AV.list 2 (List.map (fun x => [AV.int .i64 x.1, AV.int .i64 x.2]) (notS a)))), (12, .bool true), (13, (AV.list 2 (List.map (fun x => [AV.int .i64 x.1, AV.int .i64 x.2]) (a)))), (14, .bool true), (15, .own [84] d.length), (16, .own [88] c.length), (17, .int .i64 c.length), (18, .int .i64 j)] ∧
        H = [[([88], .row true true 70 2 (List.map (fun x => [AV.int .i64 x.1, AV.int .i64 x.2]) c)), ([84], .row true true 3 1 (List.map (fun x => [AV.int .i64 x]) d))]] ∧ j ≤ d.length) d.length ?_ ?_
      · exact ⟨rfl, rfl, by simp⟩
      rintro j e H ⟨rfl, rfl, hj⟩
      simp only [D0, ains, clsOf, abin, aint, aun, dnext, rowsOf, loadObj, cellsOf, ofCells, bnd, hmerge, Nat.reduceBEq, Nat.reduceAdd, reduceIte, Nat.reduceEqDiff, Nat.reduceLeDiff, Int.reduceEq, reduceCtorEq, Int.reduceBEq, Int.reduceBNe, Int.reduceLT, Int.reduceNeg]
      by_cases h : j < d.length
      · have h' : (j : Int) < (d.length : Int) := by omega
        have hp := wrapp (j := j) (by omega)
        have hg := getI h
        generalize d.getD j 0 = v at hg
        have hu := has_union ga gb v
        have hm := has_both ga gb v
        have hi := has_not ga v
        have ia := has_inv (a := a) (v := v)
        have ib := has_inv (a := b) (v := v)
        cases e1 : hasS a v <;> cases e2 : hasS b v <;> cases e3 : isS v <;> rw [e1] at hu hm hi ia <;> rw [e2] at hu hm ib <;> rw [e3] at hi ia ib <;>
          first
          | exact absurd (ia rfl) (by decide)
          | exact absurd (ib rfl) (by decide)
          | skip
        all_goals simp only [Bool.or_self, Bool.or_true, Bool.or_false, Bool.and_self, Bool.and_true, Bool.and_false, Bool.true_and, Bool.false_and, Bool.not_true, Bool.not_false, Bool.true_or, Bool.false_or] at hu hm hi
        all_goals simp only [c12_3, D0, ains, clsOf, abin, aint, aun, dnext, rowsOf, loadObj, cellsOf, ofCells, bnd, hmerge, Nat.reduceBEq, Nat.reduceAdd, reduceIte, Nat.reduceEqDiff, Nat.reduceLeDiff, Int.reduceEq, reduceCtorEq, Int.reduceBEq, Int.reduceBNe, Int.reduceLT, Int.reduceNeg, @use_all s6 58 k58.ora rfl, e58, @use_all s6 66 k66.ora rfl, e66, h', hg, hp, la, lb, hu5, hm5, hi5, e1, e2, e3, hu, hm, hi, bne_self_eq_false, decide_true, Int.natCast_nonneg, Int.toNat_natCast, List.length_map]
        all_goals simp only [F1, bodyRes, one, ains, clsOf, abin, aint, aun, dnext, rowsOf, loadObj, cellsOf, ofCells, bnd, hmerge, Nat.reduceBEq, Nat.reduceAdd, reduceIte, Nat.reduceEqDiff, Nat.reduceLeDiff, Int.reduceEq, reduceCtorEq, Int.reduceBEq, Int.reduceBNe, Int.reduceLT, Int.reduceNeg]
        all_goals exact ⟨h, h⟩
      have h' : ¬ (j : Int) < (d.length : Int) := by omega
      simp only [D0, ains, clsOf, abin, aint, aun, dnext, rowsOf, loadObj, cellsOf, ofCells, bnd, hmerge, Nat.reduceBEq, Nat.reduceAdd, reduceIte, Nat.reduceEqDiff, Nat.reduceLeDiff, Int.reduceEq, reduceCtorEq, Int.reduceBEq, Int.reduceBNe, Int.reduceLT, Int.reduceNeg, h', decide_false]
      refine .inr ⟨by simp, ?_⟩
      have s1 := size_le ga
      have s2 := size_le gb
      have s3 := size_le gu
      have s4 := size_le gm
      have s5 := size_le gi
      have q1 := size_union ga gb
      have q2 := size_not ga
      have w1 : IntKind.i64.wrap (sizeS (unionS a b) + sizeS (bothS a b)) = sizeS a + sizeS b := by rw [wrap64 (by omega) (by omega), q1]
      have w2 : IntKind.i64.wrap (sizeS a + sizeS b) = sizeS a + sizeS b := wrap64 (by omega) (by omega)
      have w3 : IntKind.i64.wrap (sizeS (notS a) + sizeS a) = 1112064 := by rw [wrap64 (by omega) (by omega), q2]
      have lu6 : (unionS a b).length ≤ 1000000 := by omega
      have lm6 : (bothS a b).length ≤ 1000000 := by omega
      have hb6 : b.length ≤ 1000000 := by omega
      simp only [D0, ains, clsOf, abin, aint, aun, dnext, rowsOf, loadObj, cellsOf, ofCells, bnd, hmerge, Nat.reduceBEq, Nat.reduceAdd, reduceIte, Nat.reduceEqDiff, Nat.reduceLeDiff, Int.reduceEq, reduceCtorEq, Int.reduceBEq, Int.reduceBNe, Int.reduceLT, Int.reduceNeg, @use_all s6 60 k60.ora rfl, e60, ha6, hb6, lu6, lm6, hi6, w1, w2, w3, beq_self_eq_true, @use_all s6 47 kW.ora rfl, eW]
      simp only [F1, bodyRes, one, ains, clsOf, abin, aint, aun, dnext, rowsOf, loadObj, cellsOf, ofCells, bnd, hmerge, Nat.reduceBEq, Nat.reduceAdd, reduceIte, Nat.reduceEqDiff, Nat.reduceLeDiff, Int.reduceEq, reduceCtorEq, Int.reduceBEq, Int.reduceBNe, Int.reduceLT, Int.reduceNeg, fn12_res, fn12_keep]
end Go.Proofs.Abs
