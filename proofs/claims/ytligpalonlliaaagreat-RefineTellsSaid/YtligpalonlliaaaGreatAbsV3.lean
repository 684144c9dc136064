/- A part of a proof: the text that states the row tells what is proved. No condition is laid on anything. -/
import Derived.Test.YtligpalonlliaaaGreatAbsV1
import Derived.Test.YtligpalonlliaaaGreatAbsV7
set_option linter.all false
set_option linter.constructorNameAsVariable false
set_option linter.defProp false
set_option linter.unusedVariables false
set_option linter.unusedSimpArgs false
namespace Go.Proofs.Abs
open Go
/-! ### The reference's parts: plain law -/
/-- How many parts the first places are of. -/
def seenN (p : List Int) : Nat → Nat
  | 0 => 0
  | i + 1 => if p.getD i 0 = (seenN p i : Int) then seenN p i + 1 else seenN p i
structure FstOK (p : List Int) : Prop where
  ne : 0 < p.length
  nn : ∀ i, i < p.length → 0 ≤ p.getD i 0
  first : ∀ i q : Nat, i < p.length → p.getD i 0 = ((q + 1 : Nat) : Int) → ∃ j, j < i ∧ p.getD j 0 = (q : Int)
theorem seen_ok {p : List Int} (h : FstOK p) : ∀ i, i ≤ p.length → (∀ j, j < i → p.getD j 0 < (seenN p i : Int)) ∧ (∀ q, q < seenN p i → ∃ j, j < i ∧ p.getD j 0 = (q : Int)) ∧ (i < p.length → p.getD i 0 ≤ (seenN p i : Int))
  | 0, _ => ⟨fun j hj => by omega, fun q hq => by simp [seenN] at hq, fun hi => by
      have h0 := h.nn 0 hi
      by_cases e : p.getD 0 0 = 0
      · simp [seenN]; simp at e; omega
      · obtain ⟨j, hj, _⟩ := h.first 0 ((p.getD 0 0).toNat - 1) hi (by omega)
        omega⟩
  | i + 1, hi => by
    obtain ⟨a, b, c⟩ := seen_ok h i (by omega)
    have c := c (by omega)
    have A : ∀ j, j < i + 1 → p.getD j 0 < (seenN p (i + 1) : Int) := fun j hj => by
      unfold seenN
      by_cases e : j = i
      · subst e
        split <;> omega
      · have := a j (by omega)
        split <;> omega
    have B : ∀ q, q < seenN p (i + 1) → ∃ j, j < i + 1 ∧ p.getD j 0 = (q : Int) := fun q hq => by
      unfold seenN at hq
      split at hq
      · rename_i e
        by_cases k : q = seenN p i
        · exact ⟨i, by omega, by rw [e, k]⟩
        · obtain ⟨j, hj, ej⟩ := b q (by omega)
          exact ⟨j, by omega, ej⟩
      · obtain ⟨j, hj, ej⟩ := b q hq
        exact ⟨j, by omega, ej⟩
    refine ⟨A, B, fun hl => ?_⟩
    have h0 := h.nn (i + 1) hl
    by_cases e : p.getD (i + 1) 0 = 0
    · omega
    · obtain ⟨j, hj, ej⟩ := h.first (i + 1) ((p.getD (i + 1) 0).toNat - 1) hl (by omega)
      have := A j hj
      omega
theorem fst_place {z : List Int} (hz : 0 < z.length) (l : List (List R2)) : FstOK (placeL z l) := by
  have ok := placeL_ok hz l
  have hl := placeL_length z l
  exact ⟨ok.ne, fun i hi => ok.nn _ (by rw [getD_int hi]; exact List.getElem_mem _), fun i q hi h => placeL_first z l (by omega) h⟩
theorem seen_le {p : List Int} (h : PlOK p) (hf : FstOK p) {i : Nat} (hi : i ≤ p.length) : seenN p i ≤ cntP p := by
  rcases Nat.eq_zero_or_pos (seenN p i) with e | e
  · omega
  · obtain ⟨j, hj, ej⟩ := (seen_ok hf i hi).2.1 (seenN p i - 1) (by omega)
    have := maxL_ge (l := p) (v := p.getD j 0) (by rw [getD_int (by omega)]; exact List.getElem_mem _)
    unfold cntP
    omega
theorem seen_all {p : List Int} (h : PlOK p) (hf : FstOK p) : seenN p p.length = cntP p := by
  have h1 := seen_le h hf (Nat.le_refl _)
  obtain ⟨j, hj, ej⟩ := List.getElem_of_mem (maxL_mem h.ne)
  have h2 := (seen_ok hf p.length (Nat.le_refl _)).1 j hj
  rw [getD_int hj, ej] at h2
  have := (maxL_int h).1
  unfold cntP at h1 ⊢
  omega
def inM (p : List Int) (n m k : Nat) : List Bool := (List.range n).map fun t => decide (t < k) && decide (p.getD t 0 = (m : Int))
def doM (p : List Int) (n m k : Nat) : List Bool := (List.range n).map fun t => decide (p.getD t 0 < (m : Int)) || (decide (t < k) && decide (p.getD t 0 = (m : Int)))
def mskQ (p : List Int) (n q : Nat) : List Bool := (List.range n).map fun t => decide (p.getD t 0 = (q : Int))
def doneM (p : List Int) (n m : Nat) : List Bool := (List.range n).map fun t => decide (p.getD t 0 < (m : Int))
def rPU (z p : List Int) (m : Nat) : List (List R2) := (List.range m).map fun q => buildL z (mskQ p z.length q)
theorem rPU_next (z p : List Int) (m : Nat) : rPU z p (m + 1) = rPU z p m ++ [buildL z (mskQ p z.length m)] := by simp [rPU, List.range_succ]
theorem bools_ext {a b : List Bool} (h : a.length = b.length) (k : ∀ i, i < a.length → a.getD i false = b.getD i false) : a = b := by
  apply List.ext_getElem h
  intro i h1 h2
  have := k i h1
  simpa [List.getElem?_eq_getElem h1, List.getElem?_eq_getElem h2] using this
theorem range_getB {f : Nat → Bool} {n i : Nat} (h : i < n) : ((List.range n).map f).getD i false = f i := by simp [h]
theorem inM_start {p : List Int} {n m i : Nat} (h : ∀ t, t < i → p.getD t 0 < (m : Int)) : inM p n m i = List.replicate n false := by
  unfold inM
  apply bools_ext (by simp)
  intro t ht
  simp only [List.length_map, List.length_range] at ht
  rw [range_getB ht]
  have : (List.replicate n false).getD t false = false := by simp [ht]
  rw [this]
  by_cases k : t < i
  · have := h t k
    have e : ¬ p.getD t 0 = (m : Int) := by omega
    simp only [e, decide_false, Bool.and_false]
  · simp [k]
theorem inM_end {p : List Int} {n m : Nat} : inM p n m n = mskQ p n m := by
  unfold inM mskQ
  apply List.map_congr_left
  intro t ht
  have := List.mem_range.1 ht
  simp [this]
theorem doM_start {p : List Int} {n m i : Nat} (h : ∀ t, t < i → p.getD t 0 < (m : Int)) : doM p n m i = doneM p n m := by
  unfold doM doneM
  apply List.map_congr_left
  intro t ht
  by_cases k : t < i
  · have := h t k
    have e : ¬ p.getD t 0 = (m : Int) := by omega
    simp only [e, decide_false, Bool.and_false, Bool.or_false]
  · simp [k]
theorem doM_end {p : List Int} {n m : Nat} : doM p n m n = doneM p n (m + 1) := by
  unfold doM doneM
  apply List.map_congr_left
  intro t ht
  have := List.mem_range.1 ht
  simp only [this, decide_true, Bool.true_and]
  rw [← Bool.decide_or]
  apply decide_eq_decide.2
  omega
theorem inM_set {p : List Int} {n m k : Nat} (h : k < n) : (inM p n m k).set k (decide (p.getD k 0 = (m : Int))) = inM p n m (k + 1) := by
  unfold inM
  apply bools_ext (by simp)
  intro t ht
  simp only [List.length_set, List.length_map, List.length_range] at ht
  rw [range_getB ht]
  by_cases e : t = k
  · subst e
    simp [ht]
  · have : ((List.map (fun t => decide (t < k) && decide (p.getD t 0 = (m : Int))) (List.range n)).set k (decide (p.getD k 0 = (m : Int)))).getD t false = (List.map (fun t => decide (t < k) && decide (p.getD t 0 = (m : Int))) (List.range n)).getD t false := by
      simp only [List.getD_eq_getElem?_getD]
      rw [List.getElem?_set_ne (fun k' => e k'.symm)]
    rw [this, range_getB ht]
    have : (t < k) = (t < k + 1) := propext ⟨fun _ => by omega, fun _ => by omega⟩
    simp only [this]
theorem doM_get {p : List Int} {n m k : Nat} (h : k < n) : (doM p n m k).getD k false = decide (p.getD k 0 < (m : Int)) := by
  unfold doM
  rw [range_getB h]
  simp
theorem doM_set {p : List Int} {n m k : Nat} (h : k < n) : (doM p n m k).set k (decide (p.getD k 0 < (m : Int)) || decide (p.getD k 0 = (m : Int))) = doM p n m (k + 1) := by
  unfold doM
  apply bools_ext (by simp)
  intro t ht
  simp only [List.length_set, List.length_map, List.length_range] at ht
  rw [range_getB ht]
  by_cases e : t = k
  · subst e
    simp [ht]
  · have : ((List.map (fun t => decide (p.getD t 0 < (m : Int)) || (decide (t < k) && decide (p.getD t 0 = (m : Int)))) (List.range n)).set k (decide (p.getD k 0 < (m : Int)) || decide (p.getD k 0 = (m : Int)))).getD t false = (List.map (fun t => decide (p.getD t 0 < (m : Int)) || (decide (t < k) && decide (p.getD t 0 = (m : Int)))) (List.range n)).getD t false := by
      simp only [List.getD_eq_getElem?_getD]
      rw [List.getElem?_set_ne (fun k' => e k'.symm)]
    rw [this, range_getB ht]
    have : (t < k) = (t < k + 1) := propext ⟨fun _ => by omega, fun _ => by omega⟩
    simp only [this]
theorem doneM_get {p : List Int} {n m k : Nat} (h : k < n) : (doneM p n m).getD k false = decide (p.getD k 0 < (m : Int)) := by
  unfold doneM
  rw [range_getB h]
theorem inM_length (p : List Int) (n m k : Nat) : (inM p n m k).length = n := by simp [inM]
theorem doM_length (p : List Int) (n m k : Nat) : (doM p n m k).length = n := by simp [doM]
theorem doneM_length (p : List Int) (n m : Nat) : (doneM p n m).length = n := by simp [doneM]
theorem mskQ_length (p : List Int) (n m : Nat) : (mskQ p n m).length = n := by simp [mskQ]
theorem part_build {z p : List Int} (h : Grid z) (q : Nat) : buildL z (mskQ p z.length q) = ofV (rngP z p q) := by
  obtain ⟨g, m⟩ := part_ok (p := p) h q
  have hrow : ∀ i, i < z.length → InSt z i (z.getD i 0) := fun i hi => ⟨Int.le_refl _, fun k => h.lt (Nat.lt_succ_self i) k⟩
  have hb : ∀ i, i < z.length → ∀ v, isS v = true → InSt z i v → inS v (ofV (rngP z p q)) = decide (p.getD i 0 = (q : Int)) := fun i hi v hv hin => by
    rw [Bool.eq_iff_iff, inS_iff, m v i hv hi hin, decide_eq_true_eq]
  obtain ⟨b1, b2⟩ := build_ok h (P := fun v => inS v (ofV (rngP z p q))) (m := mskQ p z.length q) (fun i hi v hv hin => by
    rw [hb i hi v hv hin, hb i hi _ (h.is hi) (hrow i hi)]) fun i hi => by
      rw [hb i hi _ (h.is hi) (hrow i hi)]
      unfold mskQ
      exact range_getB hi
  exact gdL_ext b1 g fun v hv => by rw [b2 v hv, inS_iff]
theorem rPU_parts {l : List (List R2)} (hb : partsB l = true) : rPU (startsL l.flatten) (placeL (startsL l.flatten) l) (cntP (placeL (startsL l.flatten) l)) = partsV l := by
  have hall : ∀ s ∈ l, goodS s = true := by
    unfold partsB at hb
    simp only [Bool.and_eq_true] at hb
    exact List.all_eq_true.1 hb.1
  unfold rPU partsV
  rw [if_pos hb]
  apply List.map_congr_left
  intro q _
  exact part_build (stt_of hall).g q
end Go.Proofs.Abs

set_option linter.all false
set_option linter.constructorNameAsVariable false
set_option linter.defProp false
set_option linter.unusedVariables false
set_option linter.unusedSimpArgs false
set_option maxRecDepth 100000
set_option maxHeartbeats 16000000
namespace Go.Proofs.Abs
open Go
/-! 1007: caesuraref04.Parts. -/
noncomputable def kS : Kon (List (List (Int × Int))) := ⟨fun x => x.length ≤ 1000 ∧ lenS x ≤ 1000, fun x => [(AV.list 1 (List.map (fun s => [(AV.list 2 (List.map (fun x => [AV.int .i64 x.1, AV.int .i64 x.2]) (s)))]) (x)))], fun x => (AV.list 1 (List.map (fun x => [AV.int .i64 x]) (startsL x.flatten)))⟩
theorem eS (l : List (List (Int × Int))) (hd : l.length ≤ 1000 ∧ lenS l ≤ 1000) (q0 : Id) (H0 : Heap) : kS.ora q0 [(AV.list 1 (List.map (fun s => [(AV.list 2 (List.map (fun x => [AV.int .i64 x.1, AV.int .i64 x.2]) (s)))]) (l)))] H0 = some ((AV.list 1 (List.map (fun x => [AV.int .i64 x]) (startsL l.flatten))), H0) := kS.eq setsInj l hd q0 H0
theorem ookS : OraOK Tryz.prog (29 % 100000) kS.ora := kS.ok orders s11_ok (fun x hd => by simp [kS, PU]) (fun x hd => by simp [kS, PU]) (fun x hd => run121 x hd.1 hd.2)
noncomputable def r11 : FT := upd r10 29 kS.ora
theorem r11_ok : FTOK Tryz.prog r11 := upd_ok2 (f := 29) r10_ok ookS
def sameQ (l : List (List R2)) (x y : Int) (n : Nat) : Bool := (l.take n).all fun s => inS x s == inS y s
theorem sameQ_next {l : List (List R2)} {x y : Int} {n : Nat} (h : n < l.length) : sameQ l x y (n + 1) = (sameQ l x y n && (inS x (l.getD n []) == inS y (l.getD n []))) := by
  unfold sameQ
  rw [takeL_snoc h, List.all_append]
  simp
theorem sameQ_all {l : List (List R2)} {x y : Int} : sameQ l x y l.length = true ↔ ∀ s ∈ l, inS x s = inS y s := by
  unfold sameQ
  rw [List.take_length, List.all_eq_true]
  simp only [beq_iff_eq]
theorem sameQ_stop {l : List (List R2)} {x y : Int} {n : Nat} (h : sameQ l x y n = false) : sameQ l x y l.length = false := by
  rw [Bool.eq_false_iff] at h ⊢
  intro k
  apply h
  unfold sameQ
  rw [List.all_eq_true]
  intro s hs
  have := sameQ_all.1 k s (List.mem_of_mem_take hs)
  simp [this]
theorem doneM_zero {p : List Int} (h : FstOK p) : doneM p p.length 0 = List.replicate p.length false := by
  unfold doneM
  apply bools_ext (by simp)
  intro t ht
  simp only [List.length_map, List.length_range] at ht
  rw [range_getB ht]
  have := h.nn t ht
  have e : ¬ p.getD t 0 < ((0 : Nat) : Int) := by omega
  simp only [e, decide_false]
  simp [ht]
theorem run1007 (l : List (List R2)) (h0 : l.length ≤ 1000) (hl : lenS l ≤ 1000) (hl9 : ∀ s ∈ l, s.length ≤ 1000000) : cwp r11 9 [] [(AV.list 1 (List.map (fun s => [(AV.list 2 (List.map (fun x => [AV.int .i64 x.1, AV.int .i64 x.2]) (s)))]) (l)))] [] (fun r H => r = .tuple [(AV.list 1 (List.map (fun s => [(AV.list 2 (List.map (fun x => [AV.int .i64 x.1, AV.int .i64 x.2]) (s)))]) (partsV l))), .bool (partsB l)] ∧ H = []) := by
  refine run_fn (fn := fn1007) rfl rfl ?_
  simp only [fn1007_body, c1007, D0, ains, appG, clsOf, abin, aint, aun, dnext, rowsOf, loadObj, cellsOf, ofCells, bnd, hmerge, Nat.reduceBEq, Nat.reduceAdd, reduceIte, Nat.reduceEqDiff, Nat.reduceLeDiff, Int.reduceEq, reduceCtorEq, Int.reduceBEq, Int.reduceBNe, Int.reduceLT, Int.reduceNeg]
  refine lg_rule (fun j e H => e = [(0, (AV.list 1 (List.map (fun s => [(AV.list 2 (List.map (fun x => [AV.int .i64 x.1, AV.int .i64 x.2]) (s)))]) (l)))), (2, .own [0] 0), (3, .bool false), (4, .int .i64 j)] ∧ H = [[([0], .row true true 46 1 [])]] ∧ j ≤ l.length ∧ ∀ i, i < j → goodS (l.getD i []) = true) l.length ?_ ?_
  · exact ⟨rfl, rfl, by simp, fun i hi => by omega⟩
  rintro j e H ⟨rfl, rfl, hj, hgd⟩
  simp only [D0, ains, appG, clsOf, abin, aint, aun, dnext, rowsOf, loadObj, cellsOf, ofCells, bnd, hmerge, Nat.reduceBEq, Nat.reduceAdd, reduceIte, Nat.reduceEqDiff, Nat.reduceLeDiff, Int.reduceEq, reduceCtorEq, Int.reduceBEq, Int.reduceBNe, Int.reduceLT, Int.reduceNeg]
  by_cases h : j < l.length
  · have h' : (j : Int) < (l.length : Int) := by omega
    have hp := wrapp (j := j) (by omega)
    have hg := map_get (f := fun s : List R2 => [(AV.list 2 (List.map (fun x => [AV.int .i64 x.1, AV.int .i64 x.2]) (s)))]) h []
    have hs9 : (l.getD j []).length ≤ 9223372036854775807 := by have := hl9 _ (getD_memL h); omega
    have hgj : goodS (l.getD j []) = true → ∀ i, i < j + 1 → goodS (l.getD i []) = true := fun e i hi => by
      by_cases k : i = j
      · rw [k]; exact e
      · exact hgd i (by omega)
    have hbad : goodS (l.getD j []) = false → partsB l = false := fun e => by
      rw [Bool.eq_false_iff]
      intro k
      unfold partsB at k
      simp only [Bool.and_eq_true, List.all_eq_true] at k
      rw [k.1 _ (getD_memL h)] at e
      cases e
    generalize l.getD j [] = s at hg hs9 hgj hbad
    cases gs : goodS s with
    | true =>
      simp only [D0, ains, appG, clsOf, abin, aint, aun, dnext, rowsOf, loadObj, cellsOf, ofCells, bnd, hmerge, Nat.reduceBEq, Nat.reduceAdd, reduceIte, Nat.reduceEqDiff, Nat.reduceLeDiff, Int.reduceEq, reduceCtorEq, Int.reduceBEq, Int.reduceBNe, Int.reduceLT, Int.reduceNeg, h', hg, hp, hs9, @use_all r11 19 k57.ora rfl, e57, gs, decide_true, Int.natCast_nonneg, Int.toNat_natCast, List.length_map]
      simp only [F1, bodyRes, one, ains, appG, clsOf, abin, aint, aun, dnext, rowsOf, loadObj, cellsOf, ofCells, bnd, hmerge, Nat.reduceBEq, Nat.reduceAdd, reduceIte, Nat.reduceEqDiff, Nat.reduceLeDiff, Int.reduceEq, reduceCtorEq, Int.reduceBEq, Int.reduceBNe, Int.reduceLT, Int.reduceNeg]
      exact ⟨h, h, hgj gs⟩
    | false =>
      have hb := hbad gs
      have hv : partsV l = [] := by simp [partsV, hb]
      simp only [D0, ains, appG, clsOf, abin, aint, aun, dnext, rowsOf, loadObj, cellsOf, ofCells, bnd, hmerge, Nat.reduceBEq, Nat.reduceAdd, reduceIte, Nat.reduceEqDiff, Nat.reduceLeDiff, Int.reduceEq, reduceCtorEq, Int.reduceBEq, Int.reduceBNe, Int.reduceLT, Int.reduceNeg, h', hg, hp, hs9, @use_all r11 19 k57.ora rfl, e57, gs, decide_true, Int.natCast_nonneg, Int.toNat_natCast, List.length_map]
      simp only [F1, bodyRes, one, ains, appG, clsOf, abin, aint, aun, dnext, rowsOf, loadObj, cellsOf, ofCells, bnd, hmerge, Nat.reduceBEq, Nat.reduceAdd, reduceIte, Nat.reduceEqDiff, Nat.reduceLeDiff, Int.reduceEq, reduceCtorEq, Int.reduceBEq, Int.reduceBNe, Int.reduceLT, Int.reduceNeg, fn1007_res, fn1007_keep, fz, fzd, fzd.fzcells, hb, hv, List.map_nil]
  · have h' : ¬ (j : Int) < (l.length : Int) := by omega
    have hjl : j = l.length := by omega
    have hall : ∀ s ∈ l, goodS s = true := fun s hs => by
      obtain ⟨i, hi, rfl⟩ := List.getElem_of_mem hs
      have := hgd i (by omega)
      simpa [List.getElem?_eq_getElem hi] using this
    simp only [D0, ains, appG, clsOf, abin, aint, aun, dnext, rowsOf, loadObj, cellsOf, ofCells, bnd, hmerge, Nat.reduceBEq, Nat.reduceAdd, reduceIte, Nat.reduceEqDiff, Nat.reduceLeDiff, Int.reduceEq, reduceCtorEq, Int.reduceBEq, Int.reduceBNe, Int.reduceLT, Int.reduceNeg, h', decide_false]
    refine .inr ⟨by simp, ?_⟩
    have hzl := startsL_len l
    have hG := (stt_of hall).g
    obtain ⟨z0, _⟩ := hG.pos
    have hok := placeL_ok z0 l
    have hf := fst_place z0 l
    have hpl := placeL_length (startsL l.flatten) l
    have hsame := same_place (startsL l.flatten) l
    have hpB : partsB l = decide (cntP (placeL (startsL l.flatten) l) ≤ 256) := by unfold partsB; rw [List.all_eq_true.2 hall, Bool.true_and]
    have hpV := rPU_parts (l := l)
    have hz2 : (((startsL l.flatten).length : Nat) : Int) * ((1 : Nat) : Int) ≤ 140737488355328 := by omega
    have hm0 := rep_map (startsL l.flatten).length
    have hd0 := doneM_zero hf
    rw [hpl] at hd0
    rw [← hd0] at hm0
    simp only [c1007_4, D0, ains, appG, clsOf, abin, aint, aun, dnext, rowsOf, loadObj, cellsOf, ofCells, bnd, hmerge, Nat.reduceBEq, Nat.reduceAdd, reduceIte, Nat.reduceEqDiff, Nat.reduceLeDiff, Int.reduceEq, reduceCtorEq, Int.reduceBEq, Int.reduceBNe, Int.reduceLT, Int.reduceNeg, @use_all r11 29 kS.ora rfl, eS l ⟨h0, hl⟩, hz2, hm0, Int.natCast_nonneg, Int.toNat_natCast, List.length_map]
    generalize startsL l.flatten = z at *
    generalize placeL z l = p at *
    clear hgd h h' hz2 hm0 hd0
    refine lg_rule (fun i e H => e = [(0, (AV.list 1 (List.map (fun s => [(AV.list 2 (List.map (fun x => [AV.int .i64 x.1, AV.int .i64 x.2]) (s)))]) (l)))), (2, .own [0] 0), (3, .bool false), (4, .int .i64 j), (5, (AV.list 1 (List.map (fun x => [AV.int .i64 x]) (z)))), (6, .own [9] z.length), (7, .own [11] (seenN p i)), (8, .int .i64 i)] ∧
      H = [[([11], .row true true 46 1 (List.map (fun s => [(AV.list 2 (List.map (fun x => [AV.int .i64 x.1, AV.int .i64 x.2]) (s)))]) (rPU z p (seenN p i)))), ([9], .row true true 4 1 (List.map (fun x => [AV.bool x]) (doneM p z.length (seenN p i)))), ([0], .row true true 46 1 [])]] ∧ i ≤ z.length ∧ seenN p i ≤ 256) z.length ?_ ?_
    · exact ⟨rfl, rfl, by simp, by simp [seenN]⟩
    rintro i e H ⟨rfl, rfl, hi, hm⟩
    simp only [D0, ains, appG, clsOf, abin, aint, aun, dnext, rowsOf, loadObj, cellsOf, ofCells, bnd, hmerge, Nat.reduceBEq, Nat.reduceAdd, reduceIte, Nat.reduceEqDiff, Nat.reduceLeDiff, Int.reduceEq, reduceCtorEq, Int.reduceBEq, Int.reduceBNe, Int.reduceLT, Int.reduceNeg]
    by_cases h : i < z.length
    · have h' : (i : Int) < (z.length : Int) := by omega
      have hp := wrapp (j := i) (by omega)
      obtain ⟨sA, _, sC⟩ := seen_ok hf i (by omega)
      have sC := sC (by omega)
      have hnx : seenN p (i + 1) = if p.getD i 0 = (seenN p i : Int) then seenN p i + 1 else seenN p i := rfl
      have hle := seen_le hok hf (i := i + 1) (by omega)
      have hgd := doneM_get (p := p) (n := z.length) (m := seenN p i) h
      have hdl := doneM_length p z.length (seenN p i)
      have hb := getB (l := doneM p z.length (seenN p i)) (j := i) (by omega)
      rw [hgd] at hb
      generalize hmm : seenN p i = m at *
      by_cases hd : p.getD i 0 < (m : Int)
      · have hd' : decide (p.getD i 0 < (m : Int)) = true := by simpa using hd
        have hne : ¬ p.getD i 0 = (m : Int) := by omega
        rw [if_neg hne] at hnx
        rw [hd'] at hb
        simp only [D0, ains, appG, clsOf, abin, aint, aun, dnext, rowsOf, loadObj, cellsOf, ofCells, bnd, hmerge, Nat.reduceBEq, Nat.reduceAdd, reduceIte, Nat.reduceEqDiff, Nat.reduceLeDiff, Int.reduceEq, reduceCtorEq, Int.reduceBEq, Int.reduceBNe, Int.reduceLT, Int.reduceNeg, h', h, hdl, hb, hp, decide_true, Int.natCast_nonneg, Int.toNat_natCast, List.length_map]
        simp only [F1, bodyRes, one, ains, appG, clsOf, abin, aint, aun, dnext, rowsOf, loadObj, cellsOf, ofCells, bnd, hmerge, Nat.reduceBEq, Nat.reduceAdd, reduceIte, Nat.reduceEqDiff, Nat.reduceLeDiff, Int.reduceEq, reduceCtorEq, Int.reduceBEq, Int.reduceBNe, Int.reduceLT, Int.reduceNeg]
        rw [hnx]
        exact ⟨rfl, ⟨rfl, rfl⟩, h, hm⟩
      · have hd' : decide (p.getD i 0 < (m : Int)) = false := by simpa using hd
        have heq : p.getD i 0 = (m : Int) := by omega
        rw [if_pos heq] at hnx
        rw [hd'] at hb
        have hz2 : ((z.length : Nat) : Int) * ((1 : Nat) : Int) ≤ 140737488355328 := by omega
        have hm0 := rep_map z.length
        rw [← inM_start (n := z.length) sA] at hm0
        simp only [c1007_3, D0, ains, appG, clsOf, abin, aint, aun, dnext, rowsOf, loadObj, cellsOf, ofCells, bnd, hmerge, Nat.reduceBEq, Nat.reduceAdd, reduceIte, Nat.reduceEqDiff, Nat.reduceLeDiff, Int.reduceEq, reduceCtorEq, Int.reduceBEq, Int.reduceBNe, Int.reduceLT, Int.reduceNeg, h', h, hdl, hb, hp, hz2, hm0, decide_true, Int.natCast_nonneg, Int.toNat_natCast, List.length_map]
        rw [← doM_start (n := z.length) sA]
        refine lg_rule (fun r e H => ∃ k, k = i + r ∧ e = [(0, (AV.list 1 (List.map (fun s => [(AV.list 2 (List.map (fun x => [AV.int .i64 x.1, AV.int .i64 x.2]) (s)))]) (l)))), (2, .own [0] 0), (3, .bool false), (4, .int .i64 j), (5, (AV.list 1 (List.map (fun x => [AV.int .i64 x]) (z)))), (6, .own [9] z.length), (7, .own [11] m), (8, .int .i64 i), (9, .own [13, i, 10] z.length), (10, .int .i64 k)] ∧
          H = [[([13, i, 10], .row true true 4 1 (List.map (fun x => [AV.bool x]) (inM p z.length m k)))], [([11], .row true true 46 1 (List.map (fun s => [(AV.list 2 (List.map (fun x => [AV.int .i64 x.1, AV.int .i64 x.2]) (s)))]) (rPU z p m))), ([9], .row true true 4 1 (List.map (fun x => [AV.bool x]) (doM p z.length m k))), ([0], .row true true 46 1 [])]] ∧ k ≤ z.length) (z.length - i) ?_ ?_
        · exact ⟨i, rfl, rfl, rfl, by omega⟩
        rintro r e H ⟨k, hkr, rfl, rfl, hk⟩
        simp only [D0, ains, appG, clsOf, abin, aint, aun, dnext, rowsOf, loadObj, cellsOf, ofCells, bnd, hmerge, Nat.reduceBEq, Nat.reduceAdd, reduceIte, Nat.reduceEqDiff, Nat.reduceLeDiff, Int.reduceEq, reduceCtorEq, Int.reduceBEq, Int.reduceBNe, Int.reduceLT, Int.reduceNeg]
        by_cases hkl : k < z.length
        · have hkl' : (k : Int) < (z.length : Int) := by omega
          have hpk := wrapp (j := k) (by omega)
          have hgi := getI h
          have hgk := getI hkl
          have hx := hG.is h
          have hy := hG.is hkl
          have hdg := doM_get (p := p) (m := m) hkl
          have hdk := getB (l := doM p z.length m k) (j := k) (by rw [doM_length]; exact hkl)
          rw [hdg] at hdk
          have hdl2 := doM_length p z.length m k
          have hil2 := inM_length p z.length m k
          have hik := getB (l := inM p z.length m k) (j := k) (by omega)
          have hds := doM_set (p := p) (m := m) hkl
          have his := inM_set (p := p) (m := m) hkl
          have hsm := hsame i k h hkl
          rw [heq] at hsm
          generalize z.getD i 0 = x at hgi hx hsm
          generalize z.getD k 0 = y at hgk hy hsm
          simp only [c1007_2, D0, ains, appG, clsOf, abin, aint, aun, dnext, rowsOf, loadObj, cellsOf, ofCells, bnd, hmerge, Nat.reduceBEq, Nat.reduceAdd, reduceIte, Nat.reduceEqDiff, Nat.reduceLeDiff, Int.reduceEq, reduceCtorEq, Int.reduceBEq, Int.reduceBNe, Int.reduceLT, Int.reduceNeg, hkl', decide_true]
          refine lg_rule (fun n e H => e = [(0, (AV.list 1 (List.map (fun s => [(AV.list 2 (List.map (fun x => [AV.int .i64 x.1, AV.int .i64 x.2]) (s)))]) (l)))), (2, .own [0] 0), (3, .bool false), (4, .int .i64 j), (5, (AV.list 1 (List.map (fun x => [AV.int .i64 x]) (z)))), (6, .own [9] z.length), (7, .own [11] m), (8, .int .i64 i), (9, .own [13, i, 10] z.length), (10, .int .i64 k), (11, .bool (sameQ l x y n)), (12, .int .i64 n)] ∧ H = [[], [([13, i, 10], .row true true 4 1 (List.map (fun x => [AV.bool x]) (inM p z.length m k)))], [([11], .row true true 46 1 (List.map (fun s => [(AV.list 2 (List.map (fun x => [AV.int .i64 x.1, AV.int .i64 x.2]) (s)))]) (rPU z p m))), ([9], .row true true 4 1 (List.map (fun x => [AV.bool x]) (doM p z.length m k))), ([0], .row true true 46 1 [])]] ∧ n ≤ l.length) l.length ?_ ?_
          · exact ⟨rfl, rfl, by simp⟩
          rintro n e H ⟨rfl, rfl, hn⟩
          simp only [D0, ains, appG, clsOf, abin, aint, aun, dnext, rowsOf, loadObj, cellsOf, ofCells, bnd, hmerge, Nat.reduceBEq, Nat.reduceAdd, reduceIte, Nat.reduceEqDiff, Nat.reduceLeDiff, Int.reduceEq, reduceCtorEq, Int.reduceBEq, Int.reduceBNe, Int.reduceLT, Int.reduceNeg]
          have hfin : sameQ l x y l.length = decide (p.getD k 0 = (m : Int)) := by
            rw [Bool.eq_iff_iff, sameQ_all, decide_eq_true_eq, ← hsm]
            exact ⟨fun q => q.symm, fun q => q.symm⟩
          by_cases hnl : n < l.length
          · have hnl' : (n : Int) < (l.length : Int) := by omega
            have hpn := wrapp (j := n) (by omega)
            cases hu : sameQ l x y n with
            | true =>
              have hgn := map_get (f := fun s : List R2 => [(AV.list 2 (List.map (fun x => [AV.int .i64 x.1, AV.int .i64 x.2]) (s)))]) hnl []
              have hsn := sameQ_next (x := x) (y := y) hnl
              have hs6 := hl9 _ (getD_memL hnl)
              have hsg := hall _ (getD_memL hnl)
              have hh1 : hasS (l.getD n []) x = inS x (l.getD n []) := by rw [hasS_iff, hsg, hx]; rfl
              have hh2 : hasS (l.getD n []) y = inS y (l.getD n []) := by rw [hasS_iff, hsg, hy]; rfl
              rw [hu, Bool.true_and] at hsn
              generalize l.getD n [] = s at hgn hsn hs6 hh1 hh2
              simp only [c1007_1, D0, ains, appG, clsOf, abin, aint, aun, dnext, rowsOf, loadObj, cellsOf, ofCells, bnd, hmerge, Nat.reduceBEq, Nat.reduceAdd, reduceIte, Nat.reduceEqDiff, Nat.reduceLeDiff, Int.reduceEq, reduceCtorEq, Int.reduceBEq, Int.reduceBNe, Int.reduceLT, Int.reduceNeg, hnl', h', hkl', hpn, hgn, hgi, hgk, @use_all r11 30 k59.ora rfl, e59, hs6, hh1, hh2, decide_true, Int.natCast_nonneg, Int.toNat_natCast, List.length_map]
              simp only [F1, bodyRes, one, ains, appG, clsOf, abin, aint, aun, dnext, rowsOf, loadObj, cellsOf, ofCells, bnd, hmerge, Nat.reduceBEq, Nat.reduceAdd, reduceIte, Nat.reduceEqDiff, Nat.reduceLeDiff, Int.reduceEq, reduceCtorEq, Int.reduceBEq, Int.reduceBNe, Int.reduceLT, Int.reduceNeg]
              exact ⟨hnl, by rw [hsn], hnl⟩
            | false =>
              have hst := sameQ_stop hu
              rw [hst] at hfin
              have c2 : decide (p.getD k 0 = (m : Int)) = false := hfin.symm
              simp only [D0, ains, appG, clsOf, abin, aint, aun, dnext, rowsOf, loadObj, cellsOf, ofCells, bnd, hmerge, Nat.reduceBEq, Nat.reduceAdd, reduceIte, Nat.reduceEqDiff, Nat.reduceLeDiff, Int.reduceEq, reduceCtorEq, Int.reduceBEq, Int.reduceBNe, Int.reduceLT, Int.reduceNeg, hnl', decide_true]
              refine .inr ⟨by simp, ?_⟩
              by_cases c : p.getD k 0 < (m : Int)
              · have c1 : decide (p.getD k 0 < (m : Int)) = true := decide_eq_true c
                have hds2 : (doM p z.length m k).set k true = doM p z.length m (k + 1) := by rw [c1, c2] at hds; exact hds
                rw [c1] at hdk
                rw [c2] at his
                simp only [D0, ains, appG, clsOf, abin, aint, aun, dnext, rowsOf, loadObj, cellsOf, ofCells, bnd, hmerge, Nat.reduceBEq, Nat.reduceAdd, reduceIte, Nat.reduceEqDiff, Nat.reduceLeDiff, Int.reduceEq, reduceCtorEq, Int.reduceBEq, Int.reduceBNe, Int.reduceLT, Int.reduceNeg, hpk, hkl', hkl, hdk, hdl2, hil2, hik, decide_true, Int.natCast_nonneg, Int.toNat_natCast, List.length_map]
                simp only [F1, bodyRes, one, ains, appG, clsOf, abin, aint, aun, dnext, rowsOf, loadObj, cellsOf, ofCells, bnd, hmerge, Nat.reduceBEq, Nat.reduceAdd, reduceIte, Nat.reduceEqDiff, Nat.reduceLeDiff, Int.reduceEq, reduceCtorEq, Int.reduceBEq, Int.reduceBNe, Int.reduceLT, Int.reduceNeg]
                rw [set_map, set_map, his, hds2]
                exact ⟨by omega, k + 1, by omega, rfl, ⟨rfl, rfl⟩, hkl⟩
              · have c1 : decide (p.getD k 0 < (m : Int)) = false := decide_eq_false c
                have hds2 : (doM p z.length m k).set k false = doM p z.length m (k + 1) := by rw [c1, c2] at hds; exact hds
                rw [c1] at hdk
                rw [c2] at his
                simp only [D0, ains, appG, clsOf, abin, aint, aun, dnext, rowsOf, loadObj, cellsOf, ofCells, bnd, hmerge, Nat.reduceBEq, Nat.reduceAdd, reduceIte, Nat.reduceEqDiff, Nat.reduceLeDiff, Int.reduceEq, reduceCtorEq, Int.reduceBEq, Int.reduceBNe, Int.reduceLT, Int.reduceNeg, hpk, hkl', hkl, hdk, hdl2, hil2, hik, decide_true, Int.natCast_nonneg, Int.toNat_natCast, List.length_map]
                simp only [F1, bodyRes, one, ains, appG, clsOf, abin, aint, aun, dnext, rowsOf, loadObj, cellsOf, ofCells, bnd, hmerge, Nat.reduceBEq, Nat.reduceAdd, reduceIte, Nat.reduceEqDiff, Nat.reduceLeDiff, Int.reduceEq, reduceCtorEq, Int.reduceBEq, Int.reduceBNe, Int.reduceLT, Int.reduceNeg]
                rw [set_map, set_map, his, hds2]
                exact ⟨by omega, k + 1, by omega, rfl, ⟨rfl, rfl⟩, hkl⟩
          · have hnl' : ¬ (n : Int) < (l.length : Int) := by omega
            have hne : n = l.length := by omega
            rw [hne]
            simp only [hfin, D0, ains, appG, clsOf, abin, aint, aun, dnext, rowsOf, loadObj, cellsOf, ofCells, bnd, hmerge, Nat.reduceBEq, Nat.reduceAdd, reduceIte, Nat.reduceEqDiff, Nat.reduceLeDiff, Int.reduceEq, reduceCtorEq, Int.reduceBEq, Int.reduceBNe, Int.reduceLT, Int.reduceNeg, Int.lt_irrefl, decide_false]
            refine .inr ⟨by simp, ?_⟩
            by_cases c : p.getD k 0 < (m : Int)
            · have c2 : decide (p.getD k 0 = (m : Int)) = false := decide_eq_false (by omega)
              rw [c2]
              have c1 : decide (p.getD k 0 < (m : Int)) = true := decide_eq_true c
              have hds2 : (doM p z.length m k).set k true = doM p z.length m (k + 1) := by rw [c1, c2] at hds; exact hds
              rw [c1] at hdk
              rw [c2] at his
              simp only [D0, ains, appG, clsOf, abin, aint, aun, dnext, rowsOf, loadObj, cellsOf, ofCells, bnd, hmerge, Nat.reduceBEq, Nat.reduceAdd, reduceIte, Nat.reduceEqDiff, Nat.reduceLeDiff, Int.reduceEq, reduceCtorEq, Int.reduceBEq, Int.reduceBNe, Int.reduceLT, Int.reduceNeg, hpk, hkl', hkl, hdk, hdl2, hil2, hik, decide_true, Int.natCast_nonneg, Int.toNat_natCast, List.length_map]
              simp only [F1, bodyRes, one, ains, appG, clsOf, abin, aint, aun, dnext, rowsOf, loadObj, cellsOf, ofCells, bnd, hmerge, Nat.reduceBEq, Nat.reduceAdd, reduceIte, Nat.reduceEqDiff, Nat.reduceLeDiff, Int.reduceEq, reduceCtorEq, Int.reduceBEq, Int.reduceBNe, Int.reduceLT, Int.reduceNeg]
              rw [set_map, set_map, his, hds2]
              exact ⟨by omega, k + 1, by omega, rfl, ⟨rfl, rfl⟩, hkl⟩
            · by_cases c' : p.getD k 0 = (m : Int)
              · have c2 : decide (p.getD k 0 = (m : Int)) = true := decide_eq_true c'
                rw [c2]
                have c1 : decide (p.getD k 0 < (m : Int)) = false := decide_eq_false c
                have hds2 : (doM p z.length m k).set k true = doM p z.length m (k + 1) := by rw [c1, c2] at hds; exact hds
                rw [c1] at hdk
                rw [c2] at his
                simp only [D0, ains, appG, clsOf, abin, aint, aun, dnext, rowsOf, loadObj, cellsOf, ofCells, bnd, hmerge, Nat.reduceBEq, Nat.reduceAdd, reduceIte, Nat.reduceEqDiff, Nat.reduceLeDiff, Int.reduceEq, reduceCtorEq, Int.reduceBEq, Int.reduceBNe, Int.reduceLT, Int.reduceNeg, hpk, hkl', hkl, hdk, hdl2, hil2, hik, decide_true, Int.natCast_nonneg, Int.toNat_natCast, List.length_map]
                simp only [F1, bodyRes, one, ains, appG, clsOf, abin, aint, aun, dnext, rowsOf, loadObj, cellsOf, ofCells, bnd, hmerge, Nat.reduceBEq, Nat.reduceAdd, reduceIte, Nat.reduceEqDiff, Nat.reduceLeDiff, Int.reduceEq, reduceCtorEq, Int.reduceBEq, Int.reduceBNe, Int.reduceLT, Int.reduceNeg]
                rw [set_map, set_map, his, hds2]
                exact ⟨by omega, k + 1, by omega, rfl, ⟨rfl, rfl⟩, hkl⟩
              · have c2 : decide (p.getD k 0 = (m : Int)) = false := decide_eq_false c'
                rw [c2]
                have c1 : decide (p.getD k 0 < (m : Int)) = false := decide_eq_false c
                have hds2 : (doM p z.length m k).set k false = doM p z.length m (k + 1) := by rw [c1, c2] at hds; exact hds
                rw [c1] at hdk
                rw [c2] at his
                simp only [D0, ains, appG, clsOf, abin, aint, aun, dnext, rowsOf, loadObj, cellsOf, ofCells, bnd, hmerge, Nat.reduceBEq, Nat.reduceAdd, reduceIte, Nat.reduceEqDiff, Nat.reduceLeDiff, Int.reduceEq, reduceCtorEq, Int.reduceBEq, Int.reduceBNe, Int.reduceLT, Int.reduceNeg, hpk, hkl', hkl, hdk, hdl2, hil2, hik, decide_true, Int.natCast_nonneg, Int.toNat_natCast, List.length_map]
                simp only [F1, bodyRes, one, ains, appG, clsOf, abin, aint, aun, dnext, rowsOf, loadObj, cellsOf, ofCells, bnd, hmerge, Nat.reduceBEq, Nat.reduceAdd, reduceIte, Nat.reduceEqDiff, Nat.reduceLeDiff, Int.reduceEq, reduceCtorEq, Int.reduceBEq, Int.reduceBNe, Int.reduceLT, Int.reduceNeg]
                rw [set_map, set_map, his, hds2]
                exact ⟨by omega, k + 1, by omega, rfl, ⟨rfl, rfl⟩, hkl⟩
        · have hkl' : ¬ (k : Int) < (z.length : Int) := by omega
          have hkz : k = z.length := by omega
          rw [hkz, inM_end, doM_end]
          have hml := mskQ_length p z.length m
          have hml' : z.length ≤ (mskQ p z.length m).length := by omega
          have hz6 : z.length ≤ 1000000 := by omega
          have hrn := rPU_next z p m
          have hrl : (rPU z p m).length = m := by simp [rPU]
          have hll : (List.map (fun s : List R2 => [(AV.list 2 (List.map (fun x => [AV.int .i64 x.1, AV.int .i64 x.2]) (s)))]) (rPU z p m) ++ [[(AV.list 2 (List.map (fun x => [AV.int .i64 x.1, AV.int .i64 x.2]) (buildL z (mskQ p z.length m))))]]).length = m + 1 := by simp [rPU]
          have hcap : (m + 1) * 24 ≤ 140737488355328 := by omega
          simp only [D0, ains, appG, clsOf, abin, aint, aun, dnext, rowsOf, loadObj, cellsOf, ofCells, bnd, hmerge, Nat.reduceBEq, Nat.reduceAdd, reduceIte, Nat.reduceEqDiff, Nat.reduceLeDiff, Int.reduceEq, reduceCtorEq, Int.reduceBEq, Int.reduceBNe, Int.reduceLT, Int.reduceNeg, Int.lt_irrefl, decide_false]
          refine .inr ⟨by simp, ?_⟩
          by_cases hb : m + 1 ≤ 256
          · have hb' : ¬ ((m + 1 : Nat) : Int) > 256 := by omega
            simp only [D0, ains, appG, clsOf, abin, aint, aun, dnext, rowsOf, loadObj, cellsOf, ofCells, bnd, hmerge, Nat.reduceBEq, Nat.reduceAdd, reduceIte, Nat.reduceEqDiff, Nat.reduceLeDiff, Int.reduceEq, reduceCtorEq, Int.reduceBEq, Int.reduceBNe, Int.reduceLT, Int.reduceNeg, @use_all r11 31 k94.ora rfl, e94, hp, hz6, hml, hml', hrl, hll, hcap, hb', lrc_x, apx, apart, apart1, needs, fz, fzd, fzd.fzcells, decide_false, Nat.le_refl, List.length_map]
            simp only [F1, bodyRes, one, ains, appG, clsOf, abin, aint, aun, dnext, rowsOf, loadObj, cellsOf, ofCells, bnd, hmerge, Nat.reduceBEq, Nat.reduceAdd, reduceIte, Nat.reduceEqDiff, Nat.reduceLeDiff, Int.reduceEq, reduceCtorEq, Int.reduceBEq, Int.reduceBNe, Int.reduceLT, Int.reduceNeg]
            rw [hnx, hrn]
            exact ⟨rfl, ⟨by simp, rfl⟩, h, hb⟩
          · have hb' : ((m + 1 : Nat) : Int) > 256 := by omega
            have hbf : partsB l = false := by rw [hpB]; exact decide_eq_false (by omega)
            have hv : partsV l = [] := by simp [partsV, hbf]
            simp only [D0, ains, appG, clsOf, abin, aint, aun, dnext, rowsOf, loadObj, cellsOf, ofCells, bnd, hmerge, Nat.reduceBEq, Nat.reduceAdd, reduceIte, Nat.reduceEqDiff, Nat.reduceLeDiff, Int.reduceEq, reduceCtorEq, Int.reduceBEq, Int.reduceBNe, Int.reduceLT, Int.reduceNeg, @use_all r11 31 k94.ora rfl, e94, hp, hz6, hml, hml', hrl, hll, hcap, hb', lrc_x, apx, apart, apart1, needs, fz, fzd, fzd.fzcells, decide_true, Nat.le_refl, List.length_map]
            simp only [F1, bodyRes, one, ains, appG, clsOf, abin, aint, aun, dnext, rowsOf, loadObj, cellsOf, ofCells, bnd, hmerge, Nat.reduceBEq, Nat.reduceAdd, reduceIte, Nat.reduceEqDiff, Nat.reduceLeDiff, Int.reduceEq, reduceCtorEq, Int.reduceBEq, Int.reduceBNe, Int.reduceLT, Int.reduceNeg, fn1007_res, fn1007_keep, fz, fzd, fzd.fzcells, hbf, hv, List.map_nil]
    · have h' : ¬ (i : Int) < (z.length : Int) := by omega
      have hil : i = z.length := by omega
      have hall := seen_all hok hf
      rw [hpl, ← hil] at hall
      have hb : partsB l = true := by rw [hpB, ← hall]; simpa using hm
      have hv := hpV hb
      rw [← hall] at hv
      have hrl : (partsV l).length = seenN p i := by rw [← hv]; simp [rPU]
      simp only [D0, ains, appG, clsOf, abin, aint, aun, dnext, rowsOf, loadObj, cellsOf, ofCells, bnd, hmerge, Nat.reduceBEq, Nat.reduceAdd, reduceIte, Nat.reduceEqDiff, Nat.reduceLeDiff, Int.reduceEq, reduceCtorEq, Int.reduceBEq, Int.reduceBNe, Int.reduceLT, Int.reduceNeg, h', decide_false]
      refine .inr ⟨by simp, ?_⟩
      simp only [F1, bodyRes, one, ains, appG, clsOf, abin, aint, aun, dnext, rowsOf, loadObj, cellsOf, ofCells, bnd, hmerge, Nat.reduceBEq, Nat.reduceAdd, reduceIte, Nat.reduceEqDiff, Nat.reduceLeDiff, Int.reduceEq, reduceCtorEq, Int.reduceBEq, Int.reduceBNe, Int.reduceLT, Int.reduceNeg, fn1007_res, fn1007_keep, fz, fzd, fzd.fzcells, hb, hv, hrl, List.length_map]
noncomputable def k1007 : Kon ((List (List (Int × Int)))) := ⟨fun x => x.length ≤ 1000 ∧ lenS x ≤ 1000 ∧ ∀ s ∈ x, s.length ≤ 1000000, fun x => [(AV.list 1 (List.map (fun s => [(AV.list 2 (List.map (fun x => [AV.int .i64 x.1, AV.int .i64 x.2]) (s)))]) (x)))], fun x => .tuple [(AV.list 1 (List.map (fun s => [(AV.list 2 (List.map (fun x => [AV.int .i64 x.1, AV.int .i64 x.2]) (s)))]) (partsV x))), .bool (partsB x)]⟩
theorem e1007 (l : List (List (Int × Int))) (hd : l.length ≤ 1000 ∧ lenS l ≤ 1000 ∧ ∀ s ∈ l, s.length ≤ 1000000) (q0 : Id) (H0 : Heap) : k1007.ora q0 ([(AV.list 1 (List.map (fun s => [(AV.list 2 (List.map (fun x => [AV.int .i64 x.1, AV.int .i64 x.2]) (s)))]) (l)))]) H0 = some (.tuple [(AV.list 1 (List.map (fun s => [(AV.list 2 (List.map (fun x => [AV.int .i64 x.1, AV.int .i64 x.2]) (s)))]) (partsV l))), .bool (partsB l)], H0) := k1007.eq (setsInj) (l) hd q0 H0
theorem ook1007 : OraOK Tryz.prog (9 % 100000) k1007.ora := k1007.ok orders r11_ok (fun x hd => by simp [k1007, PU]) (fun x hd => by simp [k1007, PU]) (fun x hd => run1007 x hd.1 hd.2.1 hd.2.2)

noncomputable def r12 : FT := upd (r11) 9 k1007.ora
theorem r12_ok : FTOK Tryz.prog r12 := upd_ok2 (f := 9) (r11_ok) ook1007

end Go.Proofs.Abs
