/- A part of a proof: the text that states the row tells what is proved. No condition is laid on anything. -/
import Derived.Test.YtligpalonlliaaaGreatAbsZ2
set_option linter.all false
set_option linter.constructorNameAsVariable false
set_option linter.defProp false
set_option linter.unusedVariables false
set_option linter.unusedSimpArgs false
set_option maxRecDepth 100000
set_option maxHeartbeats 16000000
namespace Go.Proofs.Abs
open Go
/-! 133, 117: cmp.Compare; 1020: slices.Max. -/
def cmpI (x y : Int) : Int := if x < y then -1 else if y < x then 1 else 0
theorem run133 (x : Int) : cwp s13 59 [] [.int .i64 x] [] (fun r H => r = .bool false ∧ H = []) := by
  refine run_fn (fn := fn133) rfl rfl ?_
  simp only [fn133_body, c133, D0, ains, appG, clsOf, abin, aint, aun, dnext, rowsOf, loadObj, cellsOf, ofCells, bnd, hmerge, Nat.reduceBEq, Nat.reduceAdd, reduceIte, Nat.reduceEqDiff, Nat.reduceLeDiff, Int.reduceEq, reduceCtorEq, Int.reduceBEq, Int.reduceBNe, Int.reduceLT, Int.reduceNeg, bne_self_eq_false]
  simp only [F1, bodyRes, one, ains, appG, clsOf, abin, aint, aun, dnext, rowsOf, loadObj, cellsOf, ofCells, bnd, hmerge, Nat.reduceBEq, Nat.reduceAdd, reduceIte, Nat.reduceEqDiff, Nat.reduceLeDiff, Int.reduceEq, reduceCtorEq, Int.reduceBEq, Int.reduceBNe, Int.reduceLT, Int.reduceNeg, fn133_res, fn133_keep]
noncomputable def k133 : Kon (Int) := ⟨fun _ => True, fun x => [.int .i64 x], fun _ => .bool false⟩
theorem e133 (v : Int) (q0 : Id) (H0 : Heap) : k133.ora q0 ([.int .i64 v]) H0 = some (.bool false, H0) := k133.eq (intInj) (v) trivial q0 H0
theorem ook133 : OraOK Tryz.prog (59 % 100000) k133.ora := k133.ok orders s13_ok (fun x hd => by simp [k133, PU]) (fun x hd => by simp [k133, PU]) (fun x hd => run133 x)

noncomputable def r2 : FT := upd (upd (r1) 24 k1018.ora) 59 k133.ora
theorem r2_ok : FTOK Tryz.prog r2 := upd_ok2 (f := 59) (upd_ok2 (f := 24) (r1_ok) ook1018) ook133

theorem run117 (x y : Int) : cwp r2 34 [] [.int .i64 x, .int .i64 y] [] (fun r H => r = .int .i64 (cmpI x y) ∧ H = []) := by
  refine run_fn (fn := fn117) rfl rfl ?_
  by_cases h : x < y
  · have e : cmpI x y = -1 := by simp [cmpI, h]
    simp only [fn117_body, c117, D0, ains, appG, clsOf, abin, aint, aun, dnext, rowsOf, loadObj, cellsOf, ofCells, bnd, hmerge, Nat.reduceBEq, Nat.reduceAdd, reduceIte, Nat.reduceEqDiff, Nat.reduceLeDiff, Int.reduceEq, reduceCtorEq, Int.reduceBEq, Int.reduceBNe, Int.reduceLT, Int.reduceNeg, @use_all r2 59 k133.ora rfl, e133, h, decide_true]
    simp only [F1, bodyRes, one, ains, appG, clsOf, abin, aint, aun, dnext, rowsOf, loadObj, cellsOf, ofCells, bnd, hmerge, Nat.reduceBEq, Nat.reduceAdd, reduceIte, Nat.reduceEqDiff, Nat.reduceLeDiff, Int.reduceEq, reduceCtorEq, Int.reduceBEq, Int.reduceBNe, Int.reduceLT, Int.reduceNeg, fn117_res, fn117_keep, e]
  · by_cases h2 : y < x
    · have e : cmpI x y = 1 := by simp [cmpI, h, h2]
      have h3 : x > y := h2
      simp only [fn117_body, c117, D0, ains, appG, clsOf, abin, aint, aun, dnext, rowsOf, loadObj, cellsOf, ofCells, bnd, hmerge, Nat.reduceBEq, Nat.reduceAdd, reduceIte, Nat.reduceEqDiff, Nat.reduceLeDiff, Int.reduceEq, reduceCtorEq, Int.reduceBEq, Int.reduceBNe, Int.reduceLT, Int.reduceNeg, @use_all r2 59 k133.ora rfl, e133, h, h3, decide_true, decide_false]
      simp only [F1, bodyRes, one, ains, appG, clsOf, abin, aint, aun, dnext, rowsOf, loadObj, cellsOf, ofCells, bnd, hmerge, Nat.reduceBEq, Nat.reduceAdd, reduceIte, Nat.reduceEqDiff, Nat.reduceLeDiff, Int.reduceEq, reduceCtorEq, Int.reduceBEq, Int.reduceBNe, Int.reduceLT, Int.reduceNeg, fn117_res, fn117_keep, e]
    · have e : cmpI x y = 0 := by simp [cmpI, h, h2]
      have h3 : ¬ x > y := h2
      simp only [fn117_body, c117, D0, ains, appG, clsOf, abin, aint, aun, dnext, rowsOf, loadObj, cellsOf, ofCells, bnd, hmerge, Nat.reduceBEq, Nat.reduceAdd, reduceIte, Nat.reduceEqDiff, Nat.reduceLeDiff, Int.reduceEq, reduceCtorEq, Int.reduceBEq, Int.reduceBNe, Int.reduceLT, Int.reduceNeg, @use_all r2 59 k133.ora rfl, e133, h, h3, decide_true, decide_false]
      simp only [F1, bodyRes, one, ains, appG, clsOf, abin, aint, aun, dnext, rowsOf, loadObj, cellsOf, ofCells, bnd, hmerge, Nat.reduceBEq, Nat.reduceAdd, reduceIte, Nat.reduceEqDiff, Nat.reduceLeDiff, Int.reduceEq, reduceCtorEq, Int.reduceBEq, Int.reduceBNe, Int.reduceLT, Int.reduceNeg, fn117_res, fn117_keep, e]
noncomputable def k117 : Kon (Int × Int) := ⟨fun _ => True, fun x => [.int .i64 x.1, .int .i64 x.2], fun x => .int .i64 (cmpI x.1 x.2)⟩
theorem e117 (a : Int) (b : Int) (q0 : Id) (H0 : Heap) : k117.ora q0 ([.int .i64 a, .int .i64 b]) H0 = some (.int .i64 (cmpI a b), H0) := k117.eq (int2Inj) (a, b) trivial q0 H0
theorem ook117 : OraOK Tryz.prog (34 % 100000) k117.ora := k117.ok orders r2_ok (fun x hd => by simp [k117, PU]) (fun x hd => by simp [k117, PU]) (fun x hd => run117 x.1 x.2)

noncomputable def r3 : FT := upd (r2) 34 k117.ora
theorem r3_ok : FTOK Tryz.prog r3 := upd_ok2 (f := 34) (r2_ok) ook117

def maxL (l : List Int) : Int := (l.drop 1).foldl mxI (l.getD 0 0)
def maxU (l : List Int) (j : Nat) : Int := ((l.take j).drop 1).foldl mxI (l.getD 0 0)
theorem maxU_next {l : List Int} {j : Nat} (h0 : 1 ≤ j) (h : j < l.length) : maxU l (j + 1) = mxI (maxU l j) (l.getD j 0) := by
  have hl : (l.take j).length = j := by simp; omega
  unfold maxU
  rw [takeI h, List.drop_append_of_le_length (by omega), List.foldl_append]
  rfl
theorem rowInj : ∀ a b : List Int, [(AV.list 1 (List.map (fun x => [AV.int .i64 x]) (a)))] = [(AV.list 1 (List.map (fun x => [AV.int .i64 x]) (b)))] → a = b := fun a b h => eRow_inj (a := a) (b := b) (by simp only [List.cons.injEq, and_true] at h; exact h)
theorem run1020 (l : List Int) (h0 : 0 < l.length) (hl : l.length ≤ 1000000) : cwp r3 26 [] [(AV.list 1 (List.map (fun x => [AV.int .i64 x]) (l)))] [] (fun r H => r = .int .i64 (maxL l) ∧ H = []) := by
  refine run_fn (fn := fn1020) rfl rfl ?_
  have n1 : ¬ (l.length : Int) < 1 := by omega
  have n2 : (0 : Int) < (l.length : Int) := by omega
  have hg0 := getI h0
  simp only [fn1020_body, c1020, D0, ains, appG, clsOf, abin, aint, aun, dnext, rowsOf, loadObj, cellsOf, ofCells, bnd, hmerge, Nat.reduceBEq, Nat.reduceAdd, reduceIte, Nat.reduceEqDiff, Nat.reduceLeDiff, Int.reduceEq, reduceCtorEq, Int.reduceBEq, Int.reduceBNe, Int.reduceLT, Int.reduceNeg, n1, n2, hg0, decide_false, decide_true, Int.toNat_zero, Int.le_refl]
  refine lg_rule (fun j e H => e = [(0, (AV.list 1 (List.map (fun x => [AV.int .i64 x]) (l)))), (2, .int .i64 0), (3, .int .i64 (maxU l (j + 1))), (4, .int .i64 ((j + 1 : Nat) : Int))] ∧ H = [[]] ∧ j + 1 ≤ l.length) l.length ?_ ?_
  · refine ⟨?_, rfl, by omega⟩
    have : maxU l (0 + 1) = l.getD 0 0 := by
      unfold maxU
      rw [takeI h0]
      rfl
    rw [this]
    rfl
  rintro j e H ⟨rfl, rfl, hj⟩
  simp only [D0, ains, appG, clsOf, abin, aint, aun, dnext, rowsOf, loadObj, cellsOf, ofCells, bnd, hmerge, Nat.reduceBEq, Nat.reduceAdd, reduceIte, Nat.reduceEqDiff, Nat.reduceLeDiff, Int.reduceEq, reduceCtorEq, Int.reduceBEq, Int.reduceBNe, Int.reduceLT, Int.reduceNeg]
  by_cases h : j + 1 < l.length
  · have h' : ((j + 1 : Nat) : Int) < (l.length : Int) := by omega
    have hp := wrapp (j := j + 1) (by omega)
    have hg := getI h
    have hn := maxU_next (l := l) (j := j + 1) (by omega) h
    simp only [D0, ains, appG, clsOf, abin, aint, aun, dnext, rowsOf, loadObj, cellsOf, ofCells, bnd, hmerge, Nat.reduceBEq, Nat.reduceAdd, reduceIte, Nat.reduceEqDiff, Nat.reduceLeDiff, Int.reduceEq, reduceCtorEq, Int.reduceBEq, Int.reduceBNe, Int.reduceLT, Int.reduceNeg, h', hg, hp, decide_true, Int.natCast_nonneg, Int.toNat_natCast]
    simp only [F1, bodyRes, one, ains, appG, clsOf, abin, aint, aun, dnext, rowsOf, loadObj, cellsOf, ofCells, bnd, hmerge, Nat.reduceBEq, Nat.reduceAdd, reduceIte, Nat.reduceEqDiff, Nat.reduceLeDiff, Int.reduceEq, reduceCtorEq, Int.reduceBEq, Int.reduceBNe, Int.reduceLT, Int.reduceNeg]
    rw [hn]
    exact ⟨by omega, rfl, h⟩
  · have h' : ¬ ((j + 1 : Nat) : Int) < (l.length : Int) := by omega
    have hjl : j + 1 = l.length := by omega
    have hm : maxU l (j + 1) = maxL l := by
      unfold maxU maxL
      rw [List.take_of_length_le (by omega)]
    simp only [D0, ains, appG, clsOf, abin, aint, aun, dnext, rowsOf, loadObj, cellsOf, ofCells, bnd, hmerge, Nat.reduceBEq, Nat.reduceAdd, reduceIte, Nat.reduceEqDiff, Nat.reduceLeDiff, Int.reduceEq, reduceCtorEq, Int.reduceBEq, Int.reduceBNe, Int.reduceLT, Int.reduceNeg, h', decide_false]
    refine .inr ⟨by simp, ?_⟩
    simp only [F1, bodyRes, one, ains, appG, clsOf, abin, aint, aun, dnext, rowsOf, loadObj, cellsOf, ofCells, bnd, hmerge, Nat.reduceBEq, Nat.reduceAdd, reduceIte, Nat.reduceEqDiff, Nat.reduceLeDiff, Int.reduceEq, reduceCtorEq, Int.reduceBEq, Int.reduceBNe, Int.reduceLT, Int.reduceNeg, fn1020_res, fn1020_keep, hm]
noncomputable def k1020 : Kon (List Int) := ⟨fun x => 0 < x.length ∧ x.length ≤ 1000000, fun x => [(AV.list 1 (List.map (fun x => [AV.int .i64 x]) (x)))], fun x => .int .i64 (maxL x)⟩
theorem e1020 (l : List Int) (hd : 0 < l.length ∧ l.length ≤ 1000000) (q0 : Id) (H0 : Heap) : k1020.ora q0 ([(AV.list 1 (List.map (fun x => [AV.int .i64 x]) (l)))]) H0 = some (.int .i64 (maxL l), H0) := k1020.eq (rowInj) (l) hd q0 H0
theorem ook1020 : OraOK Tryz.prog (26 % 100000) k1020.ora := k1020.ok orders r3_ok (fun x hd => by simp [k1020, PU]) (fun x hd => by simp [k1020, PU]) (fun x hd => run1020 x hd.1 hd.2)

/-! 1028: refine.within. -/
theorem wrapu64 {n : Int} (h1 : 0 ≤ n) (h2 : n ≤ 9223372036854775807) : IntKind.u64.wrap n = n := by
  simp only [IntKind.wrap, IntKind.bits, IntKind.signed]
  simp
  omega
theorem mid_eq {i j : Nat} (h : i + j ≤ 2000000) : ashift .shr .u64 (IntKind.u64.wrap (IntKind.i64.wrap ((i : Int) + (j : Int)))) 1 = some (.int .u64 (((i + j) / 2 : Nat) : Int)) := by
  rw [wrap64 (by omega) (by omega), wrapu64 (by omega) (by omega)]
  have e : ((i : Int) + (j : Int)).fdiv (2 ^ (min (1 : Int).toNat IntKind.u64.bits)) = (((i + j) / 2 : Nat) : Int) := by
    show ((i : Int) + (j : Int)).fdiv 2 = _
    rw [Int.fdiv_eq_ediv_of_nonneg _ (by omega)]
    omega
  unfold ashift
  rw [if_neg (by decide)]
  show some (AV.int .u64 (((i : Int) + (j : Int)).fdiv (2 ^ (min (1 : Int).toNat IntKind.u64.bits)))) = _
  rw [e]
theorem cmpI_lt {x y : Int} : cmpI x y < 0 ↔ x < y := by
  unfold cmpI
  split
  · omega
  · split <;> omega
theorem cmpI_eq {x y : Int} : cmpI x y = 0 ↔ x = y := by
  unfold cmpI
  split
  · omega
  · split <;> omega
theorem lo_up {s : List R2} (h : GdL s) {i j : Nat} (hij : i < j) (hj : j < s.length) : (s.getD i (0, 0)).2 < (s.getD j (0, 0)).1 := by
  rw [getD_eq (by omega), getD_eq hj]
  exact apartS_lt (List.pairwise_iff_getElem.1 h.apart i j (by omega) hj hij)
theorem lo_hi {s : List R2} (h : GdL s) {i : Nat} (hi : i < s.length) : (s.getD i (0, 0)).1 ≤ (s.getD i (0, 0)).2 := by
  rw [getD_eq hi]
  exact (wholeS_iff.1 (h.whole _ (List.getElem_mem hi))).2.2
/-- What the search by halves comes to. -/
theorem search_in {s : List R2} (h : GdL s) {v : Int} {i : Nat} (hi : i ≤ s.length) (hlo : ∀ k, k < i → (s.getD k (0, 0)).1 < v) (hhi : ∀ k, i ≤ k → k < s.length → v ≤ (s.getD k (0, 0)).1) :
    inS v s = ((decide (i < s.length) && decide ((s.getD i (0, 0)).1 = v)) || (decide (0 < i) && decide (v ≤ (s.getD (i - 1) (0, 0)).2))) := by
  rw [Bool.eq_iff_iff, inS_iff]
  simp only [Bool.or_eq_true, Bool.and_eq_true, decide_eq_true_eq]
  constructor
  · rintro ⟨r, hr, k1, k2⟩
    obtain ⟨k, hk, e⟩ := List.getElem_of_mem hr
    rw [← getD_eq hk] at e
    subst e
    rcases Int.lt_or_eq_of_le k1 with k3 | k3
    · right
      have hki : k < i := by
        rcases Nat.lt_or_ge k i with q | q
        · exact q
        · have := hhi k q hk; omega
      refine ⟨by omega, ?_⟩
      by_cases e : k = i - 1
      · rw [← e]; exact k2
      · have := lo_up h (i := k) (j := i - 1) (by omega) (by omega)
        have := hlo (i - 1) (by omega)
        omega
    · left
      have hik : i ≤ k := by
        rcases Nat.lt_or_ge k i with q | q
        · have := hlo k q; omega
        · exact q
      refine ⟨by omega, ?_⟩
      rcases Nat.lt_or_eq_of_le hik with q | q
      · have := hhi i (Nat.le_refl _) (by omega)
        have := lo_up h q hk
        have := lo_hi h (i := i) (by omega)
        omega
      · rw [q]; exact k3
  · rintro (⟨k1, k2⟩ | ⟨k1, k2⟩)
    · refine ⟨s.getD i (0, 0), ?_, by omega, ?_⟩
      · rw [getD_eq k1]; exact List.getElem_mem k1
      · have := lo_hi h k1; omega
    · have k3 : i - 1 < s.length := by omega
      refine ⟨s.getD (i - 1) (0, 0), ?_, ?_, k2⟩
      · rw [getD_eq k3]; exact List.getElem_mem k3
      · have := hlo (i - 1) (by omega); omega
theorem run1028 (s : List R2) (v : Int) (hs : s.length ≤ 1000000) (gs : goodS s = true) : cwp r3 50 [] [(AV.list 2 (List.map (fun x => [AV.int .i64 x.1, AV.int .i64 x.2]) (s))), .int .i64 v] [] (fun r H => r = .bool (inS v s) ∧ H = []) := by
  refine run_fn (fn := fn1028) rfl rfl ?_
  have hG := (gdL_iff _).1 gs
  simp only [fn1028_body, c1028, D0, ains, appG, clsOf, abin, aint, aun, dnext, rowsOf, loadObj, cellsOf, ofCells, bnd, hmerge, Nat.reduceBEq, Nat.reduceAdd, reduceIte, Nat.reduceEqDiff, Nat.reduceLeDiff, Int.reduceEq, reduceCtorEq, Int.reduceBEq, Int.reduceBNe, Int.reduceLT, Int.reduceNeg]
  refine cg_code (fn := fn1032) rfl rfl ?_
  simp only [fn1032_body, c1032, D0, ains, appG, clsOf, abin, aint, aun, dnext, rowsOf, loadObj, cellsOf, ofCells, bnd, hmerge, Nat.reduceBEq, Nat.reduceAdd, reduceIte, Nat.reduceEqDiff, Nat.reduceLeDiff, Int.reduceEq, reduceCtorEq, Int.reduceBEq, Int.reduceBNe, Int.reduceLT, Int.reduceNeg]
  refine lg_rule (fun r e H => ∃ i j : Nat, e = [(0, (AV.list 2 (List.map (fun x => [AV.int .i64 x.1, AV.int .i64 x.2]) (s)))), (1, .int .i64 v), (2, .func 66 []), (6, .int .i64 0), (7, .bool false), (8, .int .i64 s.length), (9, .int .i64 i), (10, .int .i64 j)] ∧ H = [[], []] ∧ i ≤ j ∧ j ≤ s.length ∧ r ≤ s.length ∧ j - i ≤ s.length - r ∧
    (∀ k, k < i → (s.getD k (0, 0)).1 < v) ∧ (∀ k, j ≤ k → k < s.length → v ≤ (s.getD k (0, 0)).1)) s.length ?_ ?_
  · exact ⟨0, s.length, rfl, rfl, by omega, by omega, by omega, by omega, by intro k hk; omega, by intro k h1 h2; omega⟩
  rintro r e H ⟨i, j, rfl, rfl, hij, hj, hr, hm, hlo, hhi⟩
  simp only [D0, ains, appG, clsOf, abin, aint, aun, dnext, rowsOf, loadObj, cellsOf, ofCells, bnd, hmerge, Nat.reduceBEq, Nat.reduceAdd, reduceIte, Nat.reduceEqDiff, Nat.reduceLeDiff, Int.reduceEq, reduceCtorEq, Int.reduceBEq, Int.reduceBNe, Int.reduceLT, Int.reduceNeg]
  by_cases h : i < j
  · have h' : (i : Int) < (j : Int) := by omega
    have hr' : r < s.length := by omega
    have hmid := mid_eq (i := i) (j := j) (by omega)
    have hk1 : i ≤ (i + j) / 2 := by omega
    have hk2 : (i + j) / 2 < j := by omega
    generalize (i + j) / 2 = k at hmid hk1 hk2
    have hw : IntKind.i64.wrap (k : Int) = (k : Int) := wrap64 (by omega) (by omega)
    have hp := wrapp (j := k) (by omega)
    have hks : (k : Int) < (s.length : Int) := by omega
    have hg := map_get (f := fun x : Int × Int => [AV.int .i64 x.1, AV.int .i64 x.2]) (l := s) (j := k) (by omega) (0, 0)
    have step1 : (s.getD k (0, 0)).1 < v → ∀ q, q < k + 1 → (s.getD q (0, 0)).1 < v := fun h1 q hq => by
      by_cases e : q = k
      · rw [e]; exact h1
      · have := lo_up hG (i := q) (j := k) (by omega) (by omega)
        have := lo_hi hG (i := q) (by omega)
        omega
    have step2 : ¬ (s.getD k (0, 0)).1 < v → ∀ q, k ≤ q → q < s.length → v ≤ (s.getD q (0, 0)).1 := fun h1 q hq hl => by
      by_cases e : q = k
      · rw [e]; omega
      · have := lo_up hG (i := k) (j := q) (by omega) hl
        have := lo_hi hG (i := k) (by omega)
        omega
    generalize s.getD k (0, 0) = x at hg step1 step2
    obtain ⟨a, b⟩ := x
    by_cases hc : a < v
    · have hc' : cmpI a v < 0 := cmpI_lt.2 hc
      simp only [D0, ains, appG, clsOf, abin, aint, aun, dnext, rowsOf, loadObj, cellsOf, ofCells, bnd, hmerge, Nat.reduceBEq, Nat.reduceAdd, reduceIte, Nat.reduceEqDiff, Nat.reduceLeDiff, Int.reduceEq, reduceCtorEq, Int.reduceBEq, Int.reduceBNe, Int.reduceLT, Int.reduceNeg, h', hmid, hw, hks, hg, rf_func, Nat.reduceLT, decide_true, Int.natCast_nonneg, Int.toNat_natCast]
      refine cg_code (fn := fn1033) rfl rfl ?_
      simp only [fn1033_body, c1033, D0, ains, appG, clsOf, abin, aint, aun, dnext, rowsOf, loadObj, cellsOf, ofCells, bnd, hmerge, Nat.reduceBEq, Nat.reduceAdd, reduceIte, Nat.reduceEqDiff, Nat.reduceLeDiff, Int.reduceEq, reduceCtorEq, Int.reduceBEq, Int.reduceBNe, Int.reduceLT, Int.reduceNeg, @use_all r3 34 k117.ora rfl, e117]
      simp only [F1, bodyRes, one, ains, appG, clsOf, abin, aint, aun, dnext, rowsOf, loadObj, cellsOf, ofCells, bnd, hmerge, Nat.reduceBEq, Nat.reduceAdd, reduceIte, Nat.reduceEqDiff, Nat.reduceLeDiff, Int.reduceEq, reduceCtorEq, Int.reduceBEq, Int.reduceBNe, Int.reduceLT, Int.reduceNeg, fn1033_res, fn1033_keep]
      simp only [D0, ains, appG, clsOf, abin, aint, aun, dnext, rowsOf, loadObj, cellsOf, ofCells, bnd, hmerge, Nat.reduceBEq, Nat.reduceAdd, reduceIte, Nat.reduceEqDiff, Nat.reduceLeDiff, Int.reduceEq, reduceCtorEq, Int.reduceBEq, Int.reduceBNe, Int.reduceLT, Int.reduceNeg, hc', hp, decide_true]
      simp only [F1, bodyRes, one, ains, appG, clsOf, abin, aint, aun, dnext, rowsOf, loadObj, cellsOf, ofCells, bnd, hmerge, Nat.reduceBEq, Nat.reduceAdd, reduceIte, Nat.reduceEqDiff, Nat.reduceLeDiff, Int.reduceEq, reduceCtorEq, Int.reduceBEq, Int.reduceBNe, Int.reduceLT, Int.reduceNeg]
      exact ⟨hr', k + 1, j, ⟨rfl, rfl⟩, by omega, hj, by omega, by omega, step1 hc, hhi⟩
    · have hc' : ¬ cmpI a v < 0 := fun q => hc (cmpI_lt.1 q)
      simp only [D0, ains, appG, clsOf, abin, aint, aun, dnext, rowsOf, loadObj, cellsOf, ofCells, bnd, hmerge, Nat.reduceBEq, Nat.reduceAdd, reduceIte, Nat.reduceEqDiff, Nat.reduceLeDiff, Int.reduceEq, reduceCtorEq, Int.reduceBEq, Int.reduceBNe, Int.reduceLT, Int.reduceNeg, h', hmid, hw, hks, hg, rf_func, Nat.reduceLT, decide_true, Int.natCast_nonneg, Int.toNat_natCast]
      refine cg_code (fn := fn1033) rfl rfl ?_
      simp only [fn1033_body, c1033, D0, ains, appG, clsOf, abin, aint, aun, dnext, rowsOf, loadObj, cellsOf, ofCells, bnd, hmerge, Nat.reduceBEq, Nat.reduceAdd, reduceIte, Nat.reduceEqDiff, Nat.reduceLeDiff, Int.reduceEq, reduceCtorEq, Int.reduceBEq, Int.reduceBNe, Int.reduceLT, Int.reduceNeg, @use_all r3 34 k117.ora rfl, e117]
      simp only [F1, bodyRes, one, ains, appG, clsOf, abin, aint, aun, dnext, rowsOf, loadObj, cellsOf, ofCells, bnd, hmerge, Nat.reduceBEq, Nat.reduceAdd, reduceIte, Nat.reduceEqDiff, Nat.reduceLeDiff, Int.reduceEq, reduceCtorEq, Int.reduceBEq, Int.reduceBNe, Int.reduceLT, Int.reduceNeg, fn1033_res, fn1033_keep]
      simp only [D0, ains, appG, clsOf, abin, aint, aun, dnext, rowsOf, loadObj, cellsOf, ofCells, bnd, hmerge, Nat.reduceBEq, Nat.reduceAdd, reduceIte, Nat.reduceEqDiff, Nat.reduceLeDiff, Int.reduceEq, reduceCtorEq, Int.reduceBEq, Int.reduceBNe, Int.reduceLT, Int.reduceNeg, hc', hp, decide_false]
      simp only [F1, bodyRes, one, ains, appG, clsOf, abin, aint, aun, dnext, rowsOf, loadObj, cellsOf, ofCells, bnd, hmerge, Nat.reduceBEq, Nat.reduceAdd, reduceIte, Nat.reduceEqDiff, Nat.reduceLeDiff, Int.reduceEq, reduceCtorEq, Int.reduceBEq, Int.reduceBNe, Int.reduceLT, Int.reduceNeg]
      exact ⟨hr', i, k, ⟨rfl, rfl⟩, by omega, by omega, by omega, by omega, hlo, step2 hc⟩
  · have h' : ¬ (i : Int) < (j : Int) := by omega
    have hjl : j = i := by omega
    subst hjl
    simp only [D0, ains, appG, clsOf, abin, aint, aun, dnext, rowsOf, loadObj, cellsOf, ofCells, bnd, hmerge, Nat.reduceBEq, Nat.reduceAdd, reduceIte, Nat.reduceEqDiff, Nat.reduceLeDiff, Int.reduceEq, reduceCtorEq, Int.reduceBEq, Int.reduceBNe, Int.reduceLT, Int.reduceNeg, h', decide_false]
    refine .inr ⟨by simp, ?_⟩
    have hres := search_in hG hj hlo hhi
    by_cases a1 : j < s.length
    · have a1' : (j : Int) < (s.length : Int) := by omega
      have hg := map_get (f := fun x : Int × Int => [AV.int .i64 x.1, AV.int .i64 x.2]) a1 (0, 0)
      generalize s.getD j (0, 0) = x at hg hres
      obtain ⟨a, b⟩ := x
      simp only [D0, ains, appG, clsOf, abin, aint, aun, dnext, rowsOf, loadObj, cellsOf, ofCells, bnd, hmerge, Nat.reduceBEq, Nat.reduceAdd, reduceIte, Nat.reduceEqDiff, Nat.reduceLeDiff, Int.reduceEq, reduceCtorEq, Int.reduceBEq, Int.reduceBNe, Int.reduceLT, Int.reduceNeg, a1', hg, rf_func, Nat.reduceLT, decide_true, Int.natCast_nonneg, Int.toNat_natCast]
      refine cg_code (fn := fn1033) rfl rfl ?_
      simp only [fn1033_body, c1033, D0, ains, appG, clsOf, abin, aint, aun, dnext, rowsOf, loadObj, cellsOf, ofCells, bnd, hmerge, Nat.reduceBEq, Nat.reduceAdd, reduceIte, Nat.reduceEqDiff, Nat.reduceLeDiff, Int.reduceEq, reduceCtorEq, Int.reduceBEq, Int.reduceBNe, Int.reduceLT, Int.reduceNeg, @use_all r3 34 k117.ora rfl, e117]
      simp only [F1, bodyRes, one, ains, appG, clsOf, abin, aint, aun, dnext, rowsOf, loadObj, cellsOf, ofCells, bnd, hmerge, Nat.reduceBEq, Nat.reduceAdd, reduceIte, Nat.reduceEqDiff, Nat.reduceLeDiff, Int.reduceEq, reduceCtorEq, Int.reduceBEq, Int.reduceBNe, Int.reduceLT, Int.reduceNeg, fn1033_res, fn1033_keep]
      by_cases a2 : a = v
      · have a2' : (cmpI a v == 0) = true := by simp [cmpI_eq.2 a2]
        have hres : inS v s = true := by rw [hres]; simp [a1, a2]
        simp only [D0, ains, appG, clsOf, abin, aint, aun, dnext, rowsOf, loadObj, cellsOf, ofCells, bnd, hmerge, Nat.reduceBEq, Nat.reduceAdd, reduceIte, Nat.reduceEqDiff, Nat.reduceLeDiff, Int.reduceEq, reduceCtorEq, Int.reduceBEq, Int.reduceBNe, Int.reduceLT, Int.reduceNeg, a2']
        simp only [F1, bodyRes, one, ains, appG, clsOf, abin, aint, aun, dnext, rowsOf, loadObj, cellsOf, ofCells, bnd, hmerge, Nat.reduceBEq, Nat.reduceAdd, reduceIte, Nat.reduceEqDiff, Nat.reduceLeDiff, Int.reduceEq, reduceCtorEq, Int.reduceBEq, Int.reduceBNe, Int.reduceLT, Int.reduceNeg, fn1032_res, fn1032_keep]
        simp only [D0, ains, appG, clsOf, abin, aint, aun, dnext, rowsOf, loadObj, cellsOf, ofCells, bnd, hmerge, Nat.reduceBEq, Nat.reduceAdd, reduceIte, Nat.reduceEqDiff, Nat.reduceLeDiff, Int.reduceEq, reduceCtorEq, Int.reduceBEq, Int.reduceBNe, Int.reduceLT, Int.reduceNeg]
        simp only [F1, bodyRes, one, ains, appG, clsOf, abin, aint, aun, dnext, rowsOf, loadObj, cellsOf, ofCells, bnd, hmerge, Nat.reduceBEq, Nat.reduceAdd, reduceIte, Nat.reduceEqDiff, Nat.reduceLeDiff, Int.reduceEq, reduceCtorEq, Int.reduceBEq, Int.reduceBNe, Int.reduceLT, Int.reduceNeg, fn1028_res, fn1028_keep, hres]
      · have a2' : (cmpI a v == 0) = false := by simp only [beq_eq_false_iff_ne]; exact fun q => a2 (cmpI_eq.1 q)
        by_cases a3 : 0 < j
        · have a3' : (j : Int) > 0 := by omega
          have hm1 := wrapm (j := j) a3 (by omega)
          have hk : ((j - 1 : Nat) : Int) < (s.length : Int) := by omega
          have hg2 := map_get (f := fun x : Int × Int => [AV.int .i64 x.1, AV.int .i64 x.2]) (l := s) (j := j - 1) (by omega) (0, 0)
          have hres : inS v s = decide (v ≤ (s.getD (j - 1) (0, 0)).2) := by rw [hres]; simp [a2, a3]
          generalize s.getD (j - 1) (0, 0) = y at hg2 hres
          obtain ⟨c, d⟩ := y
          simp only [D0, ains, appG, clsOf, abin, aint, aun, dnext, rowsOf, loadObj, cellsOf, ofCells, bnd, hmerge, Nat.reduceBEq, Nat.reduceAdd, reduceIte, Nat.reduceEqDiff, Nat.reduceLeDiff, Int.reduceEq, reduceCtorEq, Int.reduceBEq, Int.reduceBNe, Int.reduceLT, Int.reduceNeg, a2']
          simp only [F1, bodyRes, one, ains, appG, clsOf, abin, aint, aun, dnext, rowsOf, loadObj, cellsOf, ofCells, bnd, hmerge, Nat.reduceBEq, Nat.reduceAdd, reduceIte, Nat.reduceEqDiff, Nat.reduceLeDiff, Int.reduceEq, reduceCtorEq, Int.reduceBEq, Int.reduceBNe, Int.reduceLT, Int.reduceNeg, fn1032_res, fn1032_keep]
          simp only [D0, ains, appG, clsOf, abin, aint, aun, dnext, rowsOf, loadObj, cellsOf, ofCells, bnd, hmerge, Nat.reduceBEq, Nat.reduceAdd, reduceIte, Nat.reduceEqDiff, Nat.reduceLeDiff, Int.reduceEq, reduceCtorEq, Int.reduceBEq, Int.reduceBNe, Int.reduceLT, Int.reduceNeg, a3', hm1, hk, hg2, decide_true, Int.natCast_nonneg, Int.toNat_natCast]
          simp only [F1, bodyRes, one, ains, appG, clsOf, abin, aint, aun, dnext, rowsOf, loadObj, cellsOf, ofCells, bnd, hmerge, Nat.reduceBEq, Nat.reduceAdd, reduceIte, Nat.reduceEqDiff, Nat.reduceLeDiff, Int.reduceEq, reduceCtorEq, Int.reduceBEq, Int.reduceBNe, Int.reduceLT, Int.reduceNeg, fn1028_res, fn1028_keep, hres]
        · have a3' : ¬ (j : Int) > 0 := by omega
          have hres : inS v s = false := by rw [hres]; simp [a2, a3]
          simp only [D0, ains, appG, clsOf, abin, aint, aun, dnext, rowsOf, loadObj, cellsOf, ofCells, bnd, hmerge, Nat.reduceBEq, Nat.reduceAdd, reduceIte, Nat.reduceEqDiff, Nat.reduceLeDiff, Int.reduceEq, reduceCtorEq, Int.reduceBEq, Int.reduceBNe, Int.reduceLT, Int.reduceNeg, a2']
          simp only [F1, bodyRes, one, ains, appG, clsOf, abin, aint, aun, dnext, rowsOf, loadObj, cellsOf, ofCells, bnd, hmerge, Nat.reduceBEq, Nat.reduceAdd, reduceIte, Nat.reduceEqDiff, Nat.reduceLeDiff, Int.reduceEq, reduceCtorEq, Int.reduceBEq, Int.reduceBNe, Int.reduceLT, Int.reduceNeg, fn1032_res, fn1032_keep]
          simp only [D0, ains, appG, clsOf, abin, aint, aun, dnext, rowsOf, loadObj, cellsOf, ofCells, bnd, hmerge, Nat.reduceBEq, Nat.reduceAdd, reduceIte, Nat.reduceEqDiff, Nat.reduceLeDiff, Int.reduceEq, reduceCtorEq, Int.reduceBEq, Int.reduceBNe, Int.reduceLT, Int.reduceNeg, a3', decide_false]
          simp only [F1, bodyRes, one, ains, appG, clsOf, abin, aint, aun, dnext, rowsOf, loadObj, cellsOf, ofCells, bnd, hmerge, Nat.reduceBEq, Nat.reduceAdd, reduceIte, Nat.reduceEqDiff, Nat.reduceLeDiff, Int.reduceEq, reduceCtorEq, Int.reduceBEq, Int.reduceBNe, Int.reduceLT, Int.reduceNeg, fn1028_res, fn1028_keep, hres]
    · have a1' : ¬ (j : Int) < (s.length : Int) := by omega
      by_cases a3 : 0 < j
      · have a3' : (j : Int) > 0 := by omega
        have hm1 := wrapm (j := j) a3 (by omega)
        have hk : ((j - 1 : Nat) : Int) < (s.length : Int) := by omega
        have hg2 := map_get (f := fun x : Int × Int => [AV.int .i64 x.1, AV.int .i64 x.2]) (l := s) (j := j - 1) (by omega) (0, 0)
        have hres : inS v s = decide (v ≤ (s.getD (j - 1) (0, 0)).2) := by rw [hres]; simp [a1, a3]
        generalize s.getD (j - 1) (0, 0) = y at hg2 hres
        obtain ⟨c, d⟩ := y
        simp only [D0, ains, appG, clsOf, abin, aint, aun, dnext, rowsOf, loadObj, cellsOf, ofCells, bnd, hmerge, Nat.reduceBEq, Nat.reduceAdd, reduceIte, Nat.reduceEqDiff, Nat.reduceLeDiff, Int.reduceEq, reduceCtorEq, Int.reduceBEq, Int.reduceBNe, Int.reduceLT, Int.reduceNeg, a1', decide_false]
        simp only [F1, bodyRes, one, ains, appG, clsOf, abin, aint, aun, dnext, rowsOf, loadObj, cellsOf, ofCells, bnd, hmerge, Nat.reduceBEq, Nat.reduceAdd, reduceIte, Nat.reduceEqDiff, Nat.reduceLeDiff, Int.reduceEq, reduceCtorEq, Int.reduceBEq, Int.reduceBNe, Int.reduceLT, Int.reduceNeg, fn1032_res, fn1032_keep]
        simp only [D0, ains, appG, clsOf, abin, aint, aun, dnext, rowsOf, loadObj, cellsOf, ofCells, bnd, hmerge, Nat.reduceBEq, Nat.reduceAdd, reduceIte, Nat.reduceEqDiff, Nat.reduceLeDiff, Int.reduceEq, reduceCtorEq, Int.reduceBEq, Int.reduceBNe, Int.reduceLT, Int.reduceNeg, a3', hm1, hk, hg2, decide_true, Int.natCast_nonneg, Int.toNat_natCast]
        simp only [F1, bodyRes, one, ains, appG, clsOf, abin, aint, aun, dnext, rowsOf, loadObj, cellsOf, ofCells, bnd, hmerge, Nat.reduceBEq, Nat.reduceAdd, reduceIte, Nat.reduceEqDiff, Nat.reduceLeDiff, Int.reduceEq, reduceCtorEq, Int.reduceBEq, Int.reduceBNe, Int.reduceLT, Int.reduceNeg, fn1028_res, fn1028_keep, hres]
      · have a3' : ¬ (j : Int) > 0 := by omega
        have hres : inS v s = false := by rw [hres]; simp [a1, a3]
        simp only [D0, ains, appG, clsOf, abin, aint, aun, dnext, rowsOf, loadObj, cellsOf, ofCells, bnd, hmerge, Nat.reduceBEq, Nat.reduceAdd, reduceIte, Nat.reduceEqDiff, Nat.reduceLeDiff, Int.reduceEq, reduceCtorEq, Int.reduceBEq, Int.reduceBNe, Int.reduceLT, Int.reduceNeg, a1', decide_false]
        simp only [F1, bodyRes, one, ains, appG, clsOf, abin, aint, aun, dnext, rowsOf, loadObj, cellsOf, ofCells, bnd, hmerge, Nat.reduceBEq, Nat.reduceAdd, reduceIte, Nat.reduceEqDiff, Nat.reduceLeDiff, Int.reduceEq, reduceCtorEq, Int.reduceBEq, Int.reduceBNe, Int.reduceLT, Int.reduceNeg, fn1032_res, fn1032_keep]
        simp only [D0, ains, appG, clsOf, abin, aint, aun, dnext, rowsOf, loadObj, cellsOf, ofCells, bnd, hmerge, Nat.reduceBEq, Nat.reduceAdd, reduceIte, Nat.reduceEqDiff, Nat.reduceLeDiff, Int.reduceEq, reduceCtorEq, Int.reduceBEq, Int.reduceBNe, Int.reduceLT, Int.reduceNeg, a3', decide_false]
        simp only [F1, bodyRes, one, ains, appG, clsOf, abin, aint, aun, dnext, rowsOf, loadObj, cellsOf, ofCells, bnd, hmerge, Nat.reduceBEq, Nat.reduceAdd, reduceIte, Nat.reduceEqDiff, Nat.reduceLeDiff, Int.reduceEq, reduceCtorEq, Int.reduceBEq, Int.reduceBNe, Int.reduceLT, Int.reduceNeg, fn1028_res, fn1028_keep, hres]
noncomputable def k1028 : Kon ((List (Int × Int)) × Int) := ⟨fun x => x.1.length ≤ 1000000 ∧ goodS x.1 = true, fun x => [(AV.list 2 (List.map (fun x => [AV.int .i64 x.1, AV.int .i64 x.2]) (x.1))), .int .i64 x.2], fun x => .bool (inS x.2 x.1)⟩
theorem e1028 (s : List (Int × Int)) (v : Int) (hd : s.length ≤ 1000000 ∧ goodS s = true) (q0 : Id) (H0 : Heap) : k1028.ora q0 ([(AV.list 2 (List.map (fun x => [AV.int .i64 x.1, AV.int .i64 x.2]) (s))), .int .i64 v]) H0 = some (.bool (inS v s), H0) := k1028.eq (setIntInj) (s, v) hd q0 H0
theorem ook1028 : OraOK Tryz.prog (50 % 100000) k1028.ora := k1028.ok orders r3_ok (fun x hd => by simp [k1028, PU]) (fun x hd => by simp [k1028, PU]) (fun x hd => run1028 x.1 x.2 hd.1 hd.2)

end Go.Proofs.Abs
