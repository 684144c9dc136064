/- A part of a proof: the text that states the row tells what is proved. No condition is laid on anything. -/
import Derived.Test.YtgcncpedpjjjeaaAbsM14
set_option linter.all false
set_option linter.constructorNameAsVariable false
set_option linter.defProp false
set_option linter.unusedVariables false
set_option linter.unusedSimpArgs false
set_option maxRecDepth 100000
set_option maxHeartbeats 4000000
namespace Go.Proofs.Abs
open Go
/-! 82: caesuraref12.chain. -/
def hasStar (l : List Tr) : Bool := l.any fun t => decide (rk t = 5)
def keepF (s : Bool) (out : List Tr) (t : Tr) : List Tr := if t ∈ out ∨ (s = true ∧ rk t = 1) then out else out ++ [t]
theorem mem_noK {k : Int} {l : List Tr} {t : Tr} : t ∈ noK k l ↔ t ∈ l ∧ rk t ≠ k := by simp [noK, List.mem_filter]
theorem noK_app (k : Int) (l m : List Tr) : noK k (l ++ m) = noK k l ++ noK k m := by simp [noK]
theorem keepF_eq (s : Bool) : ∀ l : List Tr, l.foldl (keepF s) [] = if s then noK 1 (dedup l) else dedup l := by
  have key : ∀ l m : List Tr, l.foldl (keepF s) (if s then noK 1 (dedup m) else dedup m) = if s then noK 1 (dedup (m ++ l)) else dedup (m ++ l) := by
    intro l
    induction l with
    | nil => intro m; simp
    | cons t l ih =>
      intro m
      have e : keepF s (if s then noK 1 (dedup m) else dedup m) t = if s then noK 1 (dedup (m ++ [t])) else dedup (m ++ [t]) := by
        rw [dedup_snoc]
        unfold keepF
        cases s with
        | false => by_cases h : t ∈ dedup m <;> simp [h]
        | true =>
          by_cases h : t ∈ dedup m
          · by_cases h1 : rk t = 1
            · simp [h, h1]
            · simp [h, h1, mem_noK]
          · by_cases h1 : rk t = 1
            · simp [h, h1, noK_app, noK]
            · simp [h, h1, noK_app, mem_noK]
              simp [noK, h1]
      rw [List.foldl_cons, e, ih (m ++ [t]), List.append_assoc]
      rfl
  intro l
  have := key l []
  have e : (if s then noK 1 (dedup []) else dedup []) = ([] : List Tr) := by cases s <;> rfl
  rw [e, List.nil_append] at this
  exact this
theorem hasStar_dedup (l : List Tr) : hasStar (dedup l) = hasStar l := by
  unfold hasStar
  rw [Bool.eq_iff_iff, List.any_eq_true, List.any_eq_true]
  constructor
  · rintro ⟨t, h1, h2⟩; exact ⟨t, (dedup_mem l t).1 h1, h2⟩
  · rintro ⟨t, h1, h2⟩; exact ⟨t, (dedup_mem l t).2 h1, h2⟩
theorem onceT_eq (l : List Tr) : onceT l = l.foldl (keepF (hasStar l)) [] := by
  rw [keepF_eq, ← hasStar_dedup]
  rfl
theorem hasStar_snoc (l : List Tr) (t : Tr) : hasStar (l ++ [t]) = (hasStar l || decide (rk t = 5)) := by simp [hasStar]
theorem keepF_sub (s : Bool) (l : List Tr) : List.Sublist (l.foldl (keepF s) []) l := by
  rw [keepF_eq]
  split
  · exact List.filter_sublist.trans (dedup_sub l)
  · exact dedup_sub l
theorem keepF_snoc (s : Bool) (l : List Tr) (t : Tr) : (l ++ [t]).foldl (keepF s) [] = keepF s (l.foldl (keepF s) []) t := by rw [List.foldl_append]; rfl
theorem any_take {l : List Tr} {j : Nat} (h : j < l.length) (t : Tr) : decide (t ∈ l.take (j + 1)) = (decide (t ∈ l.take j) || decide (l.getD j default = t)) := by
  rw [take_snocT h, Bool.eq_iff_iff]
  simp only [decide_eq_true_eq, Bool.or_eq_true, List.mem_append, List.mem_singleton]
  exact or_congr Iff.rfl ⟨Eq.symm, Eq.symm⟩
theorem run82 (l : List Tr) (ho : ∀ t ∈ l, OkS t) (hl : l.length ≤ 100000) (hne : l ≠ []) : cwp q4 82 [] [(AV.list 1 (List.map eTr1 l))] [] (fun r H => r = (AV.list 5 (List.map eNd (encO (altLO (onceT l))))) ∧ H = []) := by
  refine run_fn (fn := fn82) rfl rfl ?_
  simp (maxSteps := 2000000) only [fn82_body, c82, D0, ains, clsOf, abin, aint, aun, dnext, rowsOf, loadObj, cellsOf, ofCells, bnd, hmerge, Nat.reduceBEq, Nat.reduceAdd, reduceIte, Nat.reduceEqDiff, Nat.reduceLeDiff, Int.reduceEq, reduceCtorEq, Int.reduceBEq, Int.reduceBNe, Int.reduceLT, Int.reduceNeg]
  refine lg_rule (fun j e H => e = [(0, (AV.list 1 (List.map eTr1 l))), (2, .own [0] 0), (3, .own [1] 0), (4, .bool (hasStar (l.take j))), (5, .int .i64 j)] ∧ H = [[([1], .row true true 23 1 []), ([0], .row true true 48 5 [])]] ∧ j ≤ l.length) l.length ?_ ?_
  · exact ⟨rfl, rfl, by simp⟩
  rintro j e H ⟨rfl, rfl, hj⟩
  simp only [D0, ains, clsOf, abin, aint, aun, dnext, rowsOf, loadObj, cellsOf, ofCells, bnd, hmerge, Nat.reduceBEq, Nat.reduceAdd, reduceIte, Nat.reduceEqDiff, Nat.reduceLeDiff, Int.reduceEq, reduceCtorEq, Int.reduceBEq, Int.reduceBNe, Int.reduceLT, Int.reduceNeg]
  by_cases h : j < l.length
  case pos =>
    have h' : (j : Int) < (l.length : Int) := by omega
    have hp := wrapp (j := j) (by omega)
    have hg := map_get (f := eTr1) h default
    have hok := ho _ (getD_memT h)
    have hsn := hasStar_snoc (l.take j) (l.getD j default)
    rw [← take_snocT h] at hsn
    generalize l.getD j default = x at hg hok hsn
    simp only [eTr1] at hg
    have nx := hok.ne
    have kx := lastN_enc x
    by_cases hs : hasStar (l.take j) = true
    · rw [hs] at hsn
      simp only [D0, ains, clsOf, abin, aint, aun, dnext, rowsOf, loadObj, cellsOf, ofCells, bnd, hmerge, Nat.reduceBEq, Nat.reduceAdd, reduceIte, Nat.reduceEqDiff, Nat.reduceLeDiff, Int.reduceEq, reduceCtorEq, Int.reduceBEq, Int.reduceBNe, Int.reduceLT, Int.reduceNeg, h', hs, hp]
      simp only [F1, bodyRes, one, ains, clsOf, abin, aint, aun, dnext, rowsOf, loadObj, cellsOf, ofCells, bnd, hmerge, Nat.reduceBEq, Nat.reduceAdd, reduceIte, Nat.reduceEqDiff, Nat.reduceLeDiff, Int.reduceEq, reduceCtorEq, Int.reduceBEq, Int.reduceBNe, Int.reduceLT, Int.reduceNeg, hsn]
      exact ⟨h, by omega⟩
    · have hs' : hasStar (l.take j) = false := by simpa using hs
      rw [hs', Bool.false_or] at hsn
      have e5 : (rk x == 5) = decide (rk x = 5) := by rw [Bool.eq_iff_iff]; simp
      simp only [D0, ains, clsOf, abin, aint, aun, dnext, rowsOf, loadObj, cellsOf, ofCells, bnd, hmerge, Nat.reduceBEq, Nat.reduceAdd, reduceIte, Nat.reduceEqDiff, Nat.reduceLeDiff, Int.reduceEq, reduceCtorEq, Int.reduceBEq, Int.reduceBNe, Int.reduceLT, Int.reduceNeg, @use_all q4 81 k81.ora rfl, e81, h', hs', hg, nx, kx, e5, hp, Int.natCast_nonneg, Int.toNat_natCast]
      simp only [F1, bodyRes, one, ains, clsOf, abin, aint, aun, dnext, rowsOf, loadObj, cellsOf, ofCells, bnd, hmerge, Nat.reduceBEq, Nat.reduceAdd, reduceIte, Nat.reduceEqDiff, Nat.reduceLeDiff, Int.reduceEq, reduceCtorEq, Int.reduceBEq, Int.reduceBNe, Int.reduceLT, Int.reduceNeg, hsn]
      exact ⟨h, by omega⟩
  have h' : ¬ (j : Int) < (l.length : Int) := by omega
  have hj2 : j = l.length := by omega
  subst hj2
  have hon := onceT_eq l
  simp only [D0, ains, clsOf, abin, aint, aun, dnext, rowsOf, loadObj, cellsOf, ofCells, bnd, hmerge, Nat.reduceBEq, Nat.reduceAdd, reduceIte, Nat.reduceEqDiff, Nat.reduceLeDiff, Int.reduceEq, reduceCtorEq, Int.reduceBEq, Int.reduceBNe, Int.reduceLT, Int.reduceNeg, h', decide_false, List.take_length]
  refine .inr ⟨by simp, ?_⟩
  generalize hasStar l = s at hon
  have hksub := keepF_sub s
  refine lg_rule (fun j e H => ∃ K, K = (l.take j).foldl (keepF s) [] ∧ e = [(0, (AV.list 1 (List.map eTr1 l))), (2, .own [0] 0), (3, .own [1] K.length), (4, .bool s), (5, .int .i64 l.length), (6, .int .i64 j)] ∧ H = [[([1], .row true true 23 1 (List.map eTr1 K)), ([0], .row true true 48 5 [])]] ∧ j ≤ l.length) l.length ?_ ?_
  · exact ⟨[], rfl, rfl, rfl, by simp⟩
  clear h h' hj
  rintro j e H ⟨K, hK, rfl, rfl, hj⟩
  have hKo : ∀ t ∈ K, OkS t := fun t ht => ho t (List.mem_of_mem_take ((hksub _).subset (hK ▸ ht)))
  have hKl : K.length ≤ 100000 := by
    have := (hksub (l.take j)).length_le
    rw [← hK] at this
    simp at this
    omega
  simp (maxSteps := 2000000) only [D0, ains, clsOf, abin, aint, aun, dnext, rowsOf, loadObj, cellsOf, ofCells, bnd, hmerge, Nat.reduceBEq, Nat.reduceAdd, reduceIte, Nat.reduceEqDiff, Nat.reduceLeDiff, Int.reduceEq, reduceCtorEq, Int.reduceBEq, Int.reduceBNe, Int.reduceLT, Int.reduceNeg]
  by_cases h : j < l.length
  case pos =>
    have h' : (j : Int) < (l.length : Int) := by omega
    have hp := wrapp (j := j) (by omega)
    have hg := map_get (f := eTr1) h default
    have hok := ho _ (getD_memT h)
    have hsn := keepF_snoc s (l.take j) (l.getD j default)
    rw [← take_snocT h, ← hK] at hsn
    generalize l.getD j default = x at hg hok hsn
    simp only [eTr1] at hg
    have nx := hok.ne
    have kx := lastN_enc x
    simp (maxSteps := 2000000) only [D0, ains, clsOf, abin, aint, aun, dnext, rowsOf, loadObj, cellsOf, ofCells, bnd, hmerge, Nat.reduceBEq, Nat.reduceAdd, reduceIte, Nat.reduceEqDiff, Nat.reduceLeDiff, Int.reduceEq, reduceCtorEq, Int.reduceBEq, Int.reduceBNe, Int.reduceLT, Int.reduceNeg, h']
    refine lg_rule (fun m e H => e = [(0, (AV.list 1 (List.map eTr1 l))), (2, .own [0] 0), (3, .own [1] K.length), (4, .bool s), (5, .int .i64 l.length), (6, .int .i64 j), (7, .bool (decide (x ∈ K.take m))), (8, .int .i64 m)] ∧ H = [[], [([1], .row true true 23 1 (List.map eTr1 K)), ([0], .row true true 48 5 [])]] ∧ m ≤ K.length) K.length ?_ ?_
    · exact ⟨by simp, rfl, by simp⟩
    rintro m e H ⟨rfl, rfl, hm⟩
    simp (maxSteps := 2000000) only [D0, ains, clsOf, abin, aint, aun, dnext, rowsOf, loadObj, cellsOf, ofCells, bnd, hmerge, Nat.reduceBEq, Nat.reduceAdd, reduceIte, Nat.reduceEqDiff, Nat.reduceLeDiff, Int.reduceEq, reduceCtorEq, Int.reduceBEq, Int.reduceBNe, Int.reduceLT, Int.reduceNeg]
    by_cases h2 : m < K.length
    · have h2' : (m : Int) < (K.length : Int) := by omega
      have hpm := wrapp (j := m) (by omega)
      have hgm := map_get (f := eTr1) h2 default
      have hok2 := hKo _ (getD_memT h2)
      have hat := any_take h2 x
      generalize K.getD m default = y at hgm hok2 hat
      simp only [eTr1] at hgm
      have hd : (∀ n ∈ enc y, n.set.length ≤ 600) ∧ (enc y).length ≤ 9223372036854775807 := ⟨hok2.sm.set, hok2.ne.2⟩
      have hsm := sameT_enc hok2 hok
      have e112' := e112 (enc y) (enc x) hd
      by_cases ha : x ∈ K.take m
      · rw [decide_eq_true ha, Bool.true_or] at hat
        simp only [D0, ains, clsOf, abin, aint, aun, dnext, rowsOf, loadObj, cellsOf, ofCells, bnd, hmerge, Nat.reduceBEq, Nat.reduceAdd, reduceIte, Nat.reduceEqDiff, Nat.reduceLeDiff, Int.reduceEq, reduceCtorEq, Int.reduceBEq, Int.reduceBNe, Int.reduceLT, Int.reduceNeg, h2', ha, hpm, lrc_x, apx, apart, apart1, needs, decide_true]
        simp only [F1, bodyRes, one, ains, clsOf, abin, aint, aun, dnext, rowsOf, loadObj, cellsOf, ofCells, bnd, hmerge, Nat.reduceBEq, Nat.reduceAdd, reduceIte, Nat.reduceEqDiff, Nat.reduceLeDiff, Int.reduceEq, reduceCtorEq, Int.reduceBEq, Int.reduceBNe, Int.reduceLT, Int.reduceNeg, hat]
        exact ⟨h2, by omega⟩
      · rw [decide_eq_false ha, Bool.false_or] at hat
        simp only [D0, ains, clsOf, abin, aint, aun, dnext, rowsOf, loadObj, cellsOf, ofCells, bnd, hmerge, Nat.reduceBEq, Nat.reduceAdd, reduceIte, Nat.reduceEqDiff, Nat.reduceLeDiff, Int.reduceEq, reduceCtorEq, Int.reduceBEq, Int.reduceBNe, Int.reduceLT, Int.reduceNeg, @use_all q4 112 k112.ora rfl, e112', hsm, h2', hg, hgm, ha, hpm, h', lrc_x, apx, apart, apart1, needs, decide_true, decide_false, Int.natCast_nonneg, Int.toNat_natCast, List.length_map]
        simp only [F1, bodyRes, one, ains, clsOf, abin, aint, aun, dnext, rowsOf, loadObj, cellsOf, ofCells, bnd, hmerge, Nat.reduceBEq, Nat.reduceAdd, reduceIte, Nat.reduceEqDiff, Nat.reduceLeDiff, Int.reduceEq, reduceCtorEq, Int.reduceBEq, Int.reduceBNe, Int.reduceLT, Int.reduceNeg, hat]
        exact ⟨h2, by omega⟩
    · have h2' : ¬ (m : Int) < (K.length : Int) := by omega
      have hm2 : m = K.length := by omega
      subst hm2
      simp only [D0, ains, clsOf, abin, aint, aun, dnext, rowsOf, loadObj, cellsOf, ofCells, bnd, hmerge, Nat.reduceBEq, Nat.reduceAdd, reduceIte, Nat.reduceEqDiff, Nat.reduceLeDiff, Int.reduceEq, reduceCtorEq, Int.reduceBEq, Int.reduceBNe, Int.reduceLT, Int.reduceNeg, h2', decide_false, List.take_length]
      refine .inr ⟨by simp, ?_⟩
      unfold keepF at hsn
      have hcap : (K.length + 1) * 24 ≤ 140737488355328 := by omega
      have he : List.map eTr1 K ++ [[AV.list 5 (List.map eNd (enc x))]] = List.map eTr1 (K ++ [x]) := by simp [eTr1]
      have e1 : (rk x != 1) = !decide (rk x = 1) := by rw [Bool.eq_iff_iff]; simp
      by_cases ha : x ∈ K
      · rw [if_pos (.inl ha)] at hsn
        simp only [D0, ains, clsOf, abin, aint, aun, dnext, rowsOf, loadObj, cellsOf, ofCells, bnd, hmerge, Nat.reduceBEq, Nat.reduceAdd, reduceIte, Nat.reduceEqDiff, Nat.reduceLeDiff, Int.reduceEq, reduceCtorEq, Int.reduceBEq, Int.reduceBNe, Int.reduceLT, Int.reduceNeg, ha, hp]
        simp only [F1, bodyRes, one, ains, clsOf, abin, aint, aun, dnext, rowsOf, loadObj, cellsOf, ofCells, bnd, hmerge, Nat.reduceBEq, Nat.reduceAdd, reduceIte, Nat.reduceEqDiff, Nat.reduceLeDiff, Int.reduceEq, reduceCtorEq, Int.reduceBEq, Int.reduceBNe, Int.reduceLT, Int.reduceNeg]
        exact ⟨h, K, hsn.symm, rfl, rfl, by omega⟩
      · cases s with
        | false =>
          rw [if_neg (by simp [ha])] at hsn
          simp only [D0, ains, clsOf, abin, aint, aun, dnext, rowsOf, loadObj, cellsOf, ofCells, bnd, hmerge, Nat.reduceBEq, Nat.reduceAdd, reduceIte, Nat.reduceEqDiff, Nat.reduceLeDiff, Int.reduceEq, reduceCtorEq, Int.reduceBEq, Int.reduceBNe, Int.reduceLT, Int.reduceNeg, ha, hp, hg, h', hcap, he, fz, fzd, Int.natCast_nonneg, Int.toNat_natCast]
          simp only [F1, bodyRes, one, ains, clsOf, abin, aint, aun, dnext, rowsOf, loadObj, cellsOf, ofCells, bnd, hmerge, Nat.reduceBEq, Nat.reduceAdd, reduceIte, Nat.reduceEqDiff, Nat.reduceLeDiff, Int.reduceEq, reduceCtorEq, Int.reduceBEq, Int.reduceBNe, Int.reduceLT, Int.reduceNeg]
          exact ⟨h, K ++ [x], hsn.symm, by simp, rfl, by omega⟩
        | true =>
          by_cases h1 : rk x = 1
          · rw [if_pos (.inr ⟨rfl, h1⟩)] at hsn
            simp only [D0, ains, clsOf, abin, aint, aun, dnext, rowsOf, loadObj, cellsOf, ofCells, bnd, hmerge, Nat.reduceBEq, Nat.reduceAdd, reduceIte, Nat.reduceEqDiff, Nat.reduceLeDiff, Int.reduceEq, reduceCtorEq, Int.reduceBEq, Int.reduceBNe, Int.reduceLT, Int.reduceNeg, @use_all q4 81 k81.ora rfl, e81, nx, kx, e1, h1, ha, hp, hg, h', Int.natCast_nonneg, Int.toNat_natCast]
            simp only [F1, bodyRes, one, ains, clsOf, abin, aint, aun, dnext, rowsOf, loadObj, cellsOf, ofCells, bnd, hmerge, Nat.reduceBEq, Nat.reduceAdd, reduceIte, Nat.reduceEqDiff, Nat.reduceLeDiff, Int.reduceEq, reduceCtorEq, Int.reduceBEq, Int.reduceBNe, Int.reduceLT, Int.reduceNeg]
            exact ⟨h, K, hsn.symm, rfl, rfl, by omega⟩
          · rw [if_neg (by simp [ha, h1])] at hsn
            simp only [D0, ains, clsOf, abin, aint, aun, dnext, rowsOf, loadObj, cellsOf, ofCells, bnd, hmerge, Nat.reduceBEq, Nat.reduceAdd, reduceIte, Nat.reduceEqDiff, Nat.reduceLeDiff, Int.reduceEq, reduceCtorEq, Int.reduceBEq, Int.reduceBNe, Int.reduceLT, Int.reduceNeg, @use_all q4 81 k81.ora rfl, e81, nx, kx, e1, h1, ha, hp, hg, h', hcap, he, fz, fzd, Int.natCast_nonneg, Int.toNat_natCast]
            simp only [F1, bodyRes, one, ains, clsOf, abin, aint, aun, dnext, rowsOf, loadObj, cellsOf, ofCells, bnd, hmerge, Nat.reduceBEq, Nat.reduceAdd, reduceIte, Nat.reduceEqDiff, Nat.reduceLeDiff, Int.reduceEq, reduceCtorEq, Int.reduceBEq, Int.reduceBNe, Int.reduceLT, Int.reduceNeg]
            exact ⟨h, K ++ [x], hsn.symm, by simp, rfl, by omega⟩
  have h' : ¬ (j : Int) < (l.length : Int) := by omega
  have hj2 : j = l.length := by omega
  subst hj2
  rw [List.take_length] at hK
  rw [← hK] at hon
  have hKne : K ≠ [] := by rw [← hon]; exact onceT_ne hne
  rw [hon]
  clear hK hon hksub
  simp only [D0, ains, clsOf, abin, aint, aun, dnext, rowsOf, loadObj, cellsOf, ofCells, bnd, hmerge, Nat.reduceBEq, Nat.reduceAdd, reduceIte, Nat.reduceEqDiff, Nat.reduceLeDiff, Int.reduceEq, reduceCtorEq, Int.reduceBEq, Int.reduceBNe, Int.reduceLT, Int.reduceNeg, h', decide_false]
  refine .inr ⟨by simp, ?_⟩
  cases K with
  | nil => exact absurd rfl hKne
  | cons x0 r =>
    have h0 := hKo x0 (by simp)
    have hrr : ∀ t ∈ r, OkS t := fun t ht => hKo t (by simp [ht])
    have hp0 : (0 : Int) < ((r.length + 1 : Nat) : Int) := by omega
    simp only [D0, ains, clsOf, abin, aint, aun, dnext, rowsOf, loadObj, cellsOf, ofCells, bnd, hmerge, Nat.reduceBEq, Nat.reduceAdd, reduceIte, Nat.reduceEqDiff, Nat.reduceLeDiff, Int.reduceEq, reduceCtorEq, Int.reduceBEq, Int.reduceBNe, Int.reduceLT, Int.reduceNeg, hp0, eTr1, Int.le_refl, Int.reduceToNat]
    refine lg_rule (fun j e H => ∃ o : Option Tr, e = [(0, (AV.list 1 (List.map eTr1 l))), (2, .own [0] 0), (3, .own [1] (r.length + 1)), (4, .bool s), (5, .int .i64 l.length), (6, .int .i64 l.length), (9, (AV.list 5 (List.map eNd (encO o)))), (10, .int .i64 (j + 1 : Nat))] ∧ H = [[([1], .row true true 23 1 ([(AV.list 5 (List.map eNd (enc x0)))] :: List.map eTr1 r)), ([0], .row true true 48 5 [])]] ∧ j ≤ r.length ∧ (∀ c, o = some c → OkS c) ∧ altsO x0 r = o.bind fun c => altsO c (r.drop j)) r.length ?_ ?_
    · exact ⟨some x0, rfl, rfl, by simp, fun c hc => by injection hc with hc; subst hc; exact h0, rfl⟩
    rintro j e H ⟨o, rfl, rfl, hj, hoo, hO⟩
    simp only [D0, ains, clsOf, abin, aint, aun, dnext, rowsOf, loadObj, cellsOf, ofCells, bnd, hmerge, Nat.reduceBEq, Nat.reduceAdd, reduceIte, Nat.reduceEqDiff, Nat.reduceLeDiff, Int.reduceEq, reduceCtorEq, Int.reduceBEq, Int.reduceBNe, Int.reduceLT, Int.reduceNeg]
    have hlr : r.length + 1 ≤ 100000 := by simpa using hKl
    cases o with
    | none =>
      have hn : altLO (x0 :: r) = none := hO
      have hz0 : decide (((0 : Nat) : Int) > 0) = false := rfl
      by_cases h : j < r.length
      · have h' : ((j + 1 : Nat) : Int) < ((r.length + 1 : Nat) : Int) := by omega
        simp only [D0, ains, clsOf, abin, aint, aun, dnext, rowsOf, loadObj, cellsOf, ofCells, bnd, hmerge, Nat.reduceBEq, Nat.reduceAdd, reduceIte, Nat.reduceEqDiff, Nat.reduceLeDiff, Int.reduceEq, reduceCtorEq, Int.reduceBEq, Int.reduceBNe, Int.reduceLT, Int.reduceNeg, h', encO, hz0]
        refine .inr ⟨by simp, ?_⟩
        simp only [F1, bodyRes, one, ains, clsOf, abin, aint, aun, dnext, rowsOf, loadObj, cellsOf, ofCells, bnd, hmerge, Nat.reduceBEq, Nat.reduceAdd, reduceIte, Nat.reduceEqDiff, Nat.reduceLeDiff, Int.reduceEq, reduceCtorEq, Int.reduceBEq, Int.reduceBNe, Int.reduceLT, Int.reduceNeg, fn82_res, fn82_keep, fz, fzd, fzd.fzcells, hn, encO]
      · have h' : ¬ ((j + 1 : Nat) : Int) < ((r.length + 1 : Nat) : Int) := by omega
        simp only [D0, ains, clsOf, abin, aint, aun, dnext, rowsOf, loadObj, cellsOf, ofCells, bnd, hmerge, Nat.reduceBEq, Nat.reduceAdd, reduceIte, Nat.reduceEqDiff, Nat.reduceLeDiff, Int.reduceEq, reduceCtorEq, Int.reduceBEq, Int.reduceBNe, Int.reduceLT, Int.reduceNeg, h', encO]
        refine .inr ⟨by simp, ?_⟩
        simp only [F1, bodyRes, one, ains, clsOf, abin, aint, aun, dnext, rowsOf, loadObj, cellsOf, ofCells, bnd, hmerge, Nat.reduceBEq, Nat.reduceAdd, reduceIte, Nat.reduceEqDiff, Nat.reduceLeDiff, Int.reduceEq, reduceCtorEq, Int.reduceBEq, Int.reduceBNe, Int.reduceLT, Int.reduceNeg, fn82_res, fn82_keep, fz, fzd, fzd.fzcells, hn, encO]
    | some c =>
      have hc := hoo c rfl
      have hln : decide (((enc c).length : Int) > 0) = true := by have := hc.ne; simp; omega
      by_cases h : j < r.length
      · have h' : ((j + 1 : Nat) : Int) < ((r.length + 1 : Nat) : Int) := by omega
        have hp := wrapp (j := j + 1) (by omega)
        have hg := map_get (f := eTr1) h default
        have hy := hrr _ (getD_memT h)
        have hst := altsO_step (c := c) h rfl
        generalize r.getD j default = y at hg hy hst
        simp only [eTr1] at hg
        obtain ⟨j1, j2⟩ := encO_join (k := 4) (.inr rfl) hc hy
        have hd : (SmS (enc c) ∧ SmS (enc y)) ∧ (enc c).length ≤ 1000000 ∧ (enc y).length ≤ 1000000 := ⟨⟨hc.sm, hy.sm⟩, by have := hc.len; omega, by have := hy.len; omega⟩
        simp only [D0, ains, clsOf, abin, aint, aun, dnext, rowsOf, loadObj, cellsOf, ofCells, bnd, hmerge, Nat.reduceBEq, Nat.reduceAdd, reduceIte, Nat.reduceEqDiff, Nat.reduceLeDiff, Int.reduceEq, reduceCtorEq, Int.reduceBEq, Int.reduceBNe, Int.reduceLT, Int.reduceNeg, @use_all q4 25 k25.ora rfl, e25, hd, j1, h', encO, hln, hp, hg, Int.natCast_nonneg, Int.toNat_natCast]
        simp only [F1, bodyRes, one, ains, clsOf, abin, aint, aun, dnext, rowsOf, loadObj, cellsOf, ofCells, bnd, hmerge, Nat.reduceBEq, Nat.reduceAdd, reduceIte, Nat.reduceEqDiff, Nat.reduceLeDiff, Int.reduceEq, reduceCtorEq, Int.reduceBEq, Int.reduceBNe, Int.reduceLT, Int.reduceNeg]
        exact ⟨h, _, rfl, h, fun d hd => ok_joinO hc hy hd, by rw [hO]; exact hst⟩
      · have h' : ¬ ((j + 1 : Nat) : Int) < ((r.length + 1 : Nat) : Int) := by omega
        have hj2 : j = r.length := by omega
        subst hj2
        rw [List.drop_length] at hO
        have hn : altLO (x0 :: r) = some c := hO
        simp only [D0, ains, clsOf, abin, aint, aun, dnext, rowsOf, loadObj, cellsOf, ofCells, bnd, hmerge, Nat.reduceBEq, Nat.reduceAdd, reduceIte, Nat.reduceEqDiff, Nat.reduceLeDiff, Int.reduceEq, reduceCtorEq, Int.reduceBEq, Int.reduceBNe, Int.reduceLT, Int.reduceNeg, h', encO]
        refine .inr ⟨by simp, ?_⟩
        simp only [F1, bodyRes, one, ains, clsOf, abin, aint, aun, dnext, rowsOf, loadObj, cellsOf, ofCells, bnd, hmerge, Nat.reduceBEq, Nat.reduceAdd, reduceIte, Nat.reduceEqDiff, Nat.reduceLeDiff, Int.reduceEq, reduceCtorEq, Int.reduceBEq, Int.reduceBNe, Int.reduceLT, Int.reduceNeg, fn82_res, fn82_keep, fz, fzd, fzd.fzcells, hn, encO]
noncomputable def k82 : Kon (List Tr) := ⟨fun x => (∀ t ∈ x, OkS t) ∧ x.length ≤ 100000 ∧ x ≠ [], fun x => [(AV.list 1 (List.map eTr1 x))], fun x => (AV.list 5 (List.map eNd (encO (altLO (onceT x)))))⟩
theorem e82 (l : List Tr) (hd : (∀ t ∈ l, OkS t) ∧ l.length ≤ 100000 ∧ l ≠ []) (q0 : Id) (H0 : Heap) : k82.ora q0 ([(AV.list 1 (List.map eTr1 l))]) H0 = some ((AV.list 5 (List.map eNd (encO (altLO (onceT l))))), H0) := k82.eqD (by dsimp only [k82]; intro l m hl hm h; simp only [List.cons.injEq, AV.list.injEq, and_true, true_and] at h; exact eTr1_inj hl.1 hm.1 h) (l) hd q0 H0
theorem ook82 : OraOK Try.prog (82 % 100000) k82.ora := k82.ok orders q4_ok (fun x hd => by simp [k82, PU, pure_eTr1]) (fun x hd => by simp [k82, PU]) (fun x hd => run82 x hd.1 hd.2.1 hd.2.2)

noncomputable def q5 : FT := upd (q4) 82 k82.ora
theorem q5_ok : FTOK Try.prog q5 := upd_ok2 (f := 82) (q4_ok) ook82

end Go.Proofs.Abs
