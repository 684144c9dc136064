/- A part of a proof: the text that states the row tells what is proved. No condition is laid on anything. -/
import Derived.Test.YtgcncpedpjjjeaaAbsM1
set_option linter.all false
set_option linter.constructorNameAsVariable false
set_option linter.defProp false
set_option linter.unusedVariables false
set_option linter.unusedSimpArgs false
set_option maxRecDepth 100000
set_option maxHeartbeats 4000000
namespace Go.Proofs.Abs
open Go
/-! ### Searches in a row of one's own, where they are called -/
def Idx (p : Tr → Bool) (ts : List Tr) (m : Int) : Prop := (m = -1 ∧ ∀ x ∈ ts, p x = false) ∨ ∃ i : Nat, m = i ∧ i < ts.length ∧ p (ts.getD i default) = true ∧ ∀ k, k < i → p (ts.getD k default) = false
theorem getD_memT {ts : List Tr} {j : Nat} (h : j < ts.length) : ts.getD j default ∈ ts := by
  rw [List.getD_eq_getElem?_getD, List.getElem?_eq_getElem h]
  exact List.getElem_mem h
theorem mem_getD {ts : List Tr} {x : Tr} (h : x ∈ ts) : ∃ j, j < ts.length ∧ ts.getD j default = x := by
  obtain ⟨j, hj, e⟩ := List.getElem_of_mem h
  exact ⟨j, hj, by rw [List.getD_eq_getElem?_getD, List.getElem?_eq_getElem hj]; exact e⟩
section
variable {ft : FT} {H : Heap} {id : Id} {wr fl : Bool} {el : Nat} {ts : List Tr} {c : Nat} {caps : List AV} {p : Tr → Bool}
/-! 127: slices.IndexFunc. -/
theorem run127 (h127 : ft 127 = some (.code fn127)) (hH : hget H id = some (.row wr fl el 1 (List.map eTr1 ts))) (hl : ts.length ≤ 1000000) (hc : c < 100000)
    (hcl : ∀ t ∈ ts, ∀ q, cwp ft c q (.list 5 (List.map eNd (enc t)) :: caps) ([] :: [] :: H) (fun r H2 => r = .bool (p t) ∧ H2 = [] :: [] :: H)) (q : Id) :
    cwp ft 127 q [.own id ts.length, .func c caps] H (fun r H2 => (∃ m : Int, r = .int .i64 m ∧ Idx p ts m) ∧ H2 = H) := by
  refine run_fn (fn := fn127) h127 rfl ?_
  simp only [fn127_body, c127, D0, ains, clsOf, abin, aint, aun, dnext, rowsOf, loadObj, cellsOf, ofCells, bnd, hmerge, Nat.reduceBEq, Nat.reduceAdd, reduceIte, Nat.reduceEqDiff, Nat.reduceLeDiff, Int.reduceEq, reduceCtorEq, Int.reduceBEq, Int.reduceBNe, Int.reduceLT, Int.reduceNeg, hH]
  refine lg_rule (fun j e G => e = [(0, .own id ts.length), (1, .func c caps), (4, .int .i64 0), (7, .int .i64 ts.length), (8, .int .i64 j)] ∧ G = [] :: H ∧ j ≤ ts.length ∧ ∀ i, i < j → p (ts.getD i default) = false) ts.length ?_ ?_
  · exact ⟨rfl, rfl, by simp, by simp⟩
  rintro j e G ⟨rfl, rfl, hj, hi⟩
  simp only [D0, ains, clsOf, abin, aint, aun, dnext, rowsOf, loadObj, cellsOf, ofCells, bnd, hmerge, Nat.reduceBEq, Nat.reduceAdd, reduceIte, Nat.reduceEqDiff, Nat.reduceLeDiff, Int.reduceEq, reduceCtorEq, Int.reduceBEq, Int.reduceBNe, Int.reduceLT, Int.reduceNeg]
  by_cases h : j < ts.length
  · have h' : (j : Int) < (ts.length : Int) := by omega
    have hp := wrapp (j := j) (by omega)
    have hg := map_get (f := eTr1) h default
    have hm := getD_memT h
    have step : p (ts.getD j default) = false → ∀ i, i < j + 1 → p (ts.getD i default) = false := fun h1 i h2 => by
      by_cases e : i = j
      · rw [e]; exact h1
      · exact hi i (by omega)
    have yes : p (ts.getD j default) = true → Idx p ts j := fun h1 => .inr ⟨j, rfl, h, h1, hi⟩
    have hcl' := hcl _ hm
    clear hi hcl
    generalize ts.getD j default = x at hg step yes hm hcl'
    simp only [D0, ains, clsOf, abin, aint, aun, dnext, rowsOf, loadObj, cellsOf, ofCells, bnd, hmerge, Nat.reduceBEq, Nat.reduceAdd, reduceIte, Nat.reduceEqDiff, Nat.reduceLeDiff, Int.reduceEq, reduceCtorEq, Int.reduceBEq, Int.reduceBNe, Int.reduceLT, Int.reduceNeg, hH, h', hg, eTr1, rf_func, hc, decide_true, Int.natCast_nonneg, Int.toNat_natCast]
    refine cg_use (hcl' _) ?_
    rintro v H2 ⟨rfl, rfl⟩
    by_cases hpt : p x = true
    · have hy := yes hpt
      simp only [D0, ains, clsOf, abin, aint, aun, dnext, rowsOf, loadObj, cellsOf, ofCells, bnd, hmerge, Nat.reduceBEq, Nat.reduceAdd, reduceIte, Nat.reduceEqDiff, Nat.reduceLeDiff, Int.reduceEq, reduceCtorEq, Int.reduceBEq, Int.reduceBNe, Int.reduceLT, Int.reduceNeg, hpt]
      simp only [F1, bodyRes, one, ains, clsOf, abin, aint, aun, dnext, rowsOf, loadObj, cellsOf, ofCells, bnd, hmerge, Nat.reduceBEq, Nat.reduceAdd, reduceIte, Nat.reduceEqDiff, Nat.reduceLeDiff, Int.reduceEq, reduceCtorEq, Int.reduceBEq, Int.reduceBNe, Int.reduceLT, Int.reduceNeg, fn127_res, fn127_keep]
      exact ⟨_, rfl, hy⟩
    · have hpt' : p x = false := by simpa using hpt
      have st := step hpt'
      simp only [D0, ains, clsOf, abin, aint, aun, dnext, rowsOf, loadObj, cellsOf, ofCells, bnd, hmerge, Nat.reduceBEq, Nat.reduceAdd, reduceIte, Nat.reduceEqDiff, Nat.reduceLeDiff, Int.reduceEq, reduceCtorEq, Int.reduceBEq, Int.reduceBNe, Int.reduceLT, Int.reduceNeg, hpt', hp]
      simp only [F1, bodyRes, one, ains, clsOf, abin, aint, aun, dnext, rowsOf, loadObj, cellsOf, ofCells, bnd, hmerge, Nat.reduceBEq, Nat.reduceAdd, reduceIte, Nat.reduceEqDiff, Nat.reduceLeDiff, Int.reduceEq, reduceCtorEq, Int.reduceBEq, Int.reduceBNe, Int.reduceLT, Int.reduceNeg]
      exact ⟨h, h, st⟩
  · have h' : ¬ (j : Int) < (ts.length : Int) := by omega
    have he : Idx p ts (-1) := .inl ⟨rfl, fun x hx => by
      obtain ⟨k, hk, rfl⟩ := mem_getD hx
      exact hi k (by omega)⟩
    simp only [D0, ains, clsOf, abin, aint, aun, dnext, rowsOf, loadObj, cellsOf, ofCells, bnd, hmerge, Nat.reduceBEq, Nat.reduceAdd, reduceIte, Nat.reduceEqDiff, Nat.reduceLeDiff, Int.reduceEq, reduceCtorEq, Int.reduceBEq, Int.reduceBNe, Int.reduceLT, Int.reduceNeg, h', decide_false]
    refine .inr ⟨by simp, ?_⟩
    simp only [F1, bodyRes, one, ains, clsOf, abin, aint, aun, dnext, rowsOf, loadObj, cellsOf, ofCells, bnd, hmerge, Nat.reduceBEq, Nat.reduceAdd, reduceIte, Nat.reduceEqDiff, Nat.reduceLeDiff, Int.reduceEq, reduceCtorEq, Int.reduceBEq, Int.reduceBNe, Int.reduceLT, Int.reduceNeg, fn127_res, fn127_keep]
    exact ⟨_, rfl, he⟩
/-! 107: slices.ContainsFunc. -/
theorem run107 (h127 : ft 127 = some (.code fn127)) (h107 : ft 107 = some (.code fn107)) (hH : hget H id = some (.row wr fl el 1 (List.map eTr1 ts))) (hl : ts.length ≤ 1000000) (hc : c < 100000)
    (hcl : ∀ t ∈ ts, ∀ q, cwp ft c q (.list 5 (List.map eNd (enc t)) :: caps) ([] :: [] :: [] :: H) (fun r H2 => r = .bool (p t) ∧ H2 = [] :: [] :: [] :: H)) (q : Id) :
    cwp ft 107 q [.own id ts.length, .func c caps] H (fun r H2 => r = .bool (ts.any p) ∧ H2 = H) := by
  refine run_fn (fn := fn107) h107 rfl ?_
  simp only [fn107_body, c107, D0, ains, clsOf, abin, aint, aun, dnext, rowsOf, loadObj, cellsOf, ofCells, bnd, hmerge, Nat.reduceBEq, Nat.reduceAdd, reduceIte, Nat.reduceEqDiff, Nat.reduceLeDiff, Int.reduceEq, reduceCtorEq, Int.reduceBEq, Int.reduceBNe, Int.reduceLT, Int.reduceNeg]
  have hH' : hget ([] :: H) id = some (.row wr fl el 1 (List.map eTr1 ts)) := by simpa [hget, fget] using hH
  refine cg_use (run127 h127 hH' hl hc hcl _) ?_
  rintro v H2 ⟨⟨m, rfl, hm⟩, rfl⟩
  rcases hm with ⟨rfl, hall⟩ | ⟨i, rfl, hi, hpi, _⟩
  · have hneg : ¬ (-1 : Int) ≥ 0 := by decide
    have hr : ts.any p = false := by
      rw [List.any_eq_false]
      intro x hx
      simp [hall x hx]
    simp only [D0, ains, clsOf, abin, aint, aun, dnext, rowsOf, loadObj, cellsOf, ofCells, bnd, hmerge, Nat.reduceBEq, Nat.reduceAdd, reduceIte, Nat.reduceEqDiff, Nat.reduceLeDiff, Int.reduceEq, reduceCtorEq, Int.reduceBEq, Int.reduceBNe, Int.reduceLT, Int.reduceNeg, hneg, decide_false]
    simp only [F1, bodyRes, one, ains, clsOf, abin, aint, aun, dnext, rowsOf, loadObj, cellsOf, ofCells, bnd, hmerge, Nat.reduceBEq, Nat.reduceAdd, reduceIte, Nat.reduceEqDiff, Nat.reduceLeDiff, Int.reduceEq, reduceCtorEq, Int.reduceBEq, Int.reduceBNe, Int.reduceLT, Int.reduceNeg, fn107_res, fn107_keep, hr]
  · have hpos : (i : Int) ≥ 0 := by omega
    have hr : ts.any p = true := List.any_eq_true.2 ⟨_, getD_memT hi, hpi⟩
    simp only [D0, ains, clsOf, abin, aint, aun, dnext, rowsOf, loadObj, cellsOf, ofCells, bnd, hmerge, Nat.reduceBEq, Nat.reduceAdd, reduceIte, Nat.reduceEqDiff, Nat.reduceLeDiff, Int.reduceEq, reduceCtorEq, Int.reduceBEq, Int.reduceBNe, Int.reduceLT, Int.reduceNeg, hpos, decide_true]
    simp only [F1, bodyRes, one, ains, clsOf, abin, aint, aun, dnext, rowsOf, loadObj, cellsOf, ofCells, bnd, hmerge, Nat.reduceBEq, Nat.reduceAdd, reduceIte, Nat.reduceEqDiff, Nat.reduceLeDiff, Int.reduceEq, reduceCtorEq, Int.reduceBEq, Int.reduceBNe, Int.reduceLT, Int.reduceNeg, fn107_res, fn107_keep, hr]
/-! 128: slices.DeleteFunc. -/
theorem take_filter {f : Tr → Bool} {j : Nat} (h : j < ts.length) : (ts.take (j + 1)).filter f = (ts.take j).filter f ++ if f (ts.getD j default) then [ts.getD j default] else [] := by
  have e : ts.take (j + 1) = ts.take j ++ [ts.getD j default] := by
    rw [List.take_succ, List.getD_eq_getElem?_getD, List.getElem?_eq_getElem h]; rfl
  rw [e, List.filter_append]
  congr 1
  generalize ts.getD j default = y
  by_cases hf : f y = true
  · simp [hf]
  · simp [hf]
theorem run128 (h127 : ft 127 = some (.code fn127)) (h128 : ft 128 = some (.code fn128)) (hH : hget H id = some (.row true true 23 1 (List.map eTr1 ts))) (hl : ts.length ≤ 1000000) (hc : c < 100000) {q : Id} (hne : ¬ q ++ [0] = id)
    (K : Heap → Prop) (k0 : K H) (kp : ∀ G, K G → K ([] :: G)) (kf : ∀ G o, K G → K ([(q ++ [0], o)] :: G)) (kset : ∀ G o, K G → K (hset G id o))
    (hcl : ∀ t ∈ ts, ∀ G, K G → ∀ q, cwp ft c q (.list 5 (List.map eNd (enc t)) :: caps) G (fun r H2 => r = .bool (p t) ∧ H2 = G)) :
    cwp ft 128 q [.own id ts.length, .func c caps] H (fun r H2 => r = .list 1 (List.map eTr1 (ts.filter fun t => !p t)) ∧ ∃ o, H2 = hset H id o) := by
  refine run_fn (fn := fn128) h128 rfl ?_
  simp only [fn128_body, c128, D0, ains, clsOf, abin, aint, aun, dnext, rowsOf, loadObj, cellsOf, ofCells, bnd, hmerge, Nat.reduceBEq, Nat.reduceAdd, reduceIte, Nat.reduceEqDiff, Nat.reduceLeDiff, Int.reduceEq, reduceCtorEq, Int.reduceBEq, Int.reduceBNe, Int.reduceLT, Int.reduceNeg]
  have hH' : hget ([(q ++ [0], AObj.row true true 23 1 [])] :: H) id = some (.row true true 23 1 (List.map eTr1 ts)) := by simpa [hget, fget, hne] using hH
  refine cg_use (run127 (p := p) h127 hH' hl hc (fun t ht q' => hcl t ht _ (kp _ (kp _ (kf _ _ k0))) q') _) ?_
  rintro v H2 ⟨⟨m, rfl, hm⟩, rfl⟩
  rcases hm with ⟨rfl, hall⟩ | ⟨i, rfl, hi, hpi, hlt⟩
  · have hr : ts.filter (fun t => !p t) = ts := List.filter_eq_self.2 fun x hx => by simp [hall x hx]
    simp only [D0, ains, clsOf, abin, aint, aun, dnext, rowsOf, loadObj, cellsOf, ofCells, bnd, hmerge, Nat.reduceBEq, Nat.reduceAdd, reduceIte, Nat.reduceEqDiff, Nat.reduceLeDiff, Int.reduceEq, reduceCtorEq, Int.reduceBEq, Int.reduceBNe, Int.reduceLT, Int.reduceNeg]
    simp only [F1, bodyRes, one, ains, clsOf, abin, aint, aun, dnext, rowsOf, loadObj, cellsOf, ofCells, bnd, hmerge, Nat.reduceBEq, Nat.reduceAdd, reduceIte, Nat.reduceEqDiff, Nat.reduceLeDiff, Int.reduceEq, reduceCtorEq, Int.reduceBEq, Int.reduceBNe, Int.reduceLT, Int.reduceNeg, fn128_res, fn128_keep, fz, fzd, hH, hne, hr]
    exact ⟨_, rfl⟩
  · have hne1 : ((i : Int) == -1) = false := by simp only [beq_eq_false_iff_ne]; omega
    have hp0 := wrapp (j := i) (by omega)
    have hself : hset H id (.row true true 23 1 (List.map eTr1 ts)) = H := hset_self hH
    simp only [D0, ains, clsOf, abin, aint, aun, dnext, rowsOf, loadObj, cellsOf, ofCells, bnd, hmerge, Nat.reduceBEq, Nat.reduceAdd, reduceIte, Nat.reduceEqDiff, Nat.reduceLeDiff, Int.reduceEq, reduceCtorEq, Int.reduceBEq, Int.reduceBNe, Int.reduceLT, Int.reduceNeg, hne1, hp0]
    refine lg_rule (fun j e G => ∃ (R : List Tr) (i' J : Nat), J = i + 1 + j ∧ e = [(0, .own id ts.length), (1, .func c caps), (4, .own (q ++ [0]) 0), (5, .int .i64 i'), (6, .int .i64 J)] ∧ G = [(q ++ [0], AObj.row true true 23 1 [])] :: hset H id (.row true true 23 1 (List.map eTr1 R)) ∧ R.length = ts.length ∧ i' < J ∧ J ≤ ts.length ∧ R.take i' = (ts.take J).filter (fun t => !p t) ∧ ∀ k, J ≤ k → R.getD k default = ts.getD k default) ts.length ?_ ?_
    · refine ⟨ts, i, i + 1, rfl, rfl, by rw [hself], rfl, by omega, by omega, ?_, fun _ _ => rfl⟩
      rw [take_filter hi, hpi]
      simp only [Bool.not_true, Bool.false_eq_true, if_false, List.append_nil]
      refine (List.filter_eq_self.2 fun x hx => ?_).symm
      obtain ⟨k, hk, e⟩ := List.getElem_of_mem hx
      have hk' : k < i := by simp at hk; omega
      have := hlt k hk'
      rw [List.getD_eq_getElem?_getD, List.getElem?_eq_getElem (by omega)] at this
      rw [List.getElem_take] at e
      rw [← e]
      simpa using this
    rintro j e G ⟨R, i', J, hJ, rfl, rfl, hRl, hi', hJl, htk, hrest⟩
    have hget' := hget_set hH (.row true true 23 1 (List.map eTr1 R))
    have hRle : R.length ≤ 1000000 := by omega
    simp only [D0, ains, clsOf, abin, aint, aun, dnext, rowsOf, loadObj, cellsOf, ofCells, bnd, hmerge, Nat.reduceBEq, Nat.reduceAdd, reduceIte, Nat.reduceEqDiff, Nat.reduceLeDiff, Int.reduceEq, reduceCtorEq, Int.reduceBEq, Int.reduceBNe, Int.reduceLT, Int.reduceNeg, hget', hRl, hne]
    by_cases h : J < ts.length
    · have h' : (J : Int) < (ts.length : Int) := by omega
      have hp := wrapp (j := J) (by omega)
      have hp2 := wrapp (j := i') (by omega)
      have hg := map_get (f := eTr1) (l := R) (j := J) (by omega) default
      rw [hrest J (Nat.le_refl _)] at hg
      have hm := getD_memT h
      have hcl' := hcl _ hm
      have hK : K ([] :: [(q ++ [0], AObj.row true true 23 1 [])] :: hset H id (.row true true 23 1 (List.map eTr1 R))) := kp _ (kf _ _ (kset _ _ k0))
      have hstep := take_filter (f := fun t => !p t) h
      have hi2 : (i' : Int) < (ts.length : Int) := by omega
      have hg2 := map_get (f := eTr1) (l := R) (j := i') (by omega) default
      simp only [eTr1] at hg hg2
      simp only [D0, ains, clsOf, abin, aint, aun, dnext, rowsOf, loadObj, cellsOf, ofCells, bnd, hmerge, Nat.reduceBEq, Nat.reduceAdd, reduceIte, Nat.reduceEqDiff, Nat.reduceLeDiff, Int.reduceEq, reduceCtorEq, Int.reduceBEq, Int.reduceBNe, Int.reduceLT, Int.reduceNeg, hget', hRl, hne, h', hg, rf_func, hc, decide_true, Int.natCast_nonneg, Int.toNat_natCast]
      refine cg_use (hcl' _ hK _) ?_
      rintro v H2 ⟨rfl, rfl⟩
      by_cases hpt : p (ts.getD J default) = true
      · simp only [D0, ains, clsOf, abin, aint, aun, dnext, rowsOf, loadObj, cellsOf, ofCells, bnd, hmerge, Nat.reduceBEq, Nat.reduceAdd, reduceIte, Nat.reduceEqDiff, Nat.reduceLeDiff, Int.reduceEq, reduceCtorEq, Int.reduceBEq, Int.reduceBNe, Int.reduceLT, Int.reduceNeg, hpt, hp]
        simp only [F1, bodyRes, one, ains, clsOf, abin, aint, aun, dnext, rowsOf, loadObj, cellsOf, ofCells, bnd, hmerge, Nat.reduceBEq, Nat.reduceAdd, reduceIte, Nat.reduceEqDiff, Nat.reduceLeDiff, Int.reduceEq, reduceCtorEq, Int.reduceBEq, Int.reduceBNe, Int.reduceLT, Int.reduceNeg]
        refine ⟨by omega, R, i', J + 1, by omega, ⟨rfl, rfl⟩, rfl, hRl, by omega, by omega, ?_, fun k hk => hrest k (by omega)⟩
        rw [hstep, htk, hpt]
        simp
      · have hpt' : p (ts.getD J default) = false := by simpa using hpt
        simp only [D0, ains, clsOf, abin, aint, aun, dnext, rowsOf, loadObj, cellsOf, ofCells, bnd, hmerge, Nat.reduceBEq, Nat.reduceAdd, reduceIte, Nat.reduceEqDiff, Nat.reduceLeDiff, Int.reduceEq, reduceCtorEq, Int.reduceBEq, Int.reduceBNe, Int.reduceLT, Int.reduceNeg, hpt', hp, hp2, hget', hRl, hne, hi2, hg2, Int.natCast_nonneg, Int.toNat_natCast, hset_hset]
        simp only [F1, bodyRes, one, ains, clsOf, abin, aint, aun, dnext, rowsOf, loadObj, cellsOf, ofCells, bnd, hmerge, Nat.reduceBEq, Nat.reduceAdd, reduceIte, Nat.reduceEqDiff, Nat.reduceLeDiff, Int.reduceEq, reduceCtorEq, Int.reduceBEq, Int.reduceBNe, Int.reduceLT, Int.reduceNeg]
        refine ⟨by omega, R.set i' (ts.getD J default), i' + 1, J + 1, by omega, ⟨rfl, rfl⟩, ?_, by simp [hRl], by omega, by omega, ?_, fun k hk => ?_⟩
        · rw [List.map_set]
          rfl
        · rw [hstep, hpt', ← htk]
          simp only [Bool.not_false, if_true]
          rw [List.take_succ, List.take_set_of_le (Nat.le_refl _)]
          congr 1
          rw [List.getElem?_set_self (by omega)]
          rfl
        · rw [List.getD_eq_getElem?_getD, List.getElem?_set_ne (by omega), ← List.getD_eq_getElem?_getD]
          exact hrest k (by omega)
    · have h' : ¬ (J : Int) < (ts.length : Int) := by omega
      have hJe : J = ts.length := by omega
      have hi2 : (i' : Int) < (ts.length : Int) := by omega
      have hi3 : i' < ts.length := by omega
      have hi4 : ¬ i' = ts.length := by omega
      have hle : i' ≤ ts.length := by omega
      have hlen : (List.take i' (List.map eTr1 R)).length = i' := by simp; omega
      have hlen2 : i' + (ts.length - i') = ts.length := by omega
      have hres : (List.take i' (List.map eTr1 R) ++ List.replicate (ts.length - i') [AV.list 5 []]).take i' = List.map eTr1 (ts.filter fun t => !p t) := by
        rw [List.take_append_of_le_length (by rw [hlen]; exact Nat.le_refl _), List.take_take, Nat.min_self, ← List.map_take, htk, hJe, List.take_length]
      have hg3 := hget_set hH (.row true true 23 1 (List.take i' (List.map eTr1 R) ++ List.replicate (ts.length - i') [AV.list 5 []]))
      simp only [D0, ains, clsOf, abin, aint, aun, dnext, rowsOf, loadObj, cellsOf, ofCells, bnd, hmerge, Nat.reduceBEq, Nat.reduceAdd, reduceIte, Nat.reduceEqDiff, Nat.reduceLeDiff, Int.reduceEq, reduceCtorEq, Int.reduceBEq, Int.reduceBNe, Int.reduceLT, Int.reduceNeg, h', decide_false]
      refine .inr ⟨by simp, ?_⟩
      simp only [D0, ains, clsOf, abin, aint, aun, dnext, rowsOf, loadObj, cellsOf, ofCells, bnd, hmerge, Nat.reduceBEq, Nat.reduceAdd, reduceIte, Nat.reduceEqDiff, Nat.reduceLeDiff, Int.reduceEq, reduceCtorEq, Int.reduceBEq, Int.reduceBNe, Int.reduceLT, Int.reduceNeg, hget', hRl, hne, hi2, hi3, Int.natCast_nonneg, Int.toNat_natCast, hset_hset]
      simp only [D0, ains, clsOf, abin, aint, aun, dnext, rowsOf, loadObj, cellsOf, ofCells, bnd, hmerge, Nat.reduceBEq, Nat.reduceAdd, reduceIte, Nat.reduceEqDiff, Nat.reduceLeDiff, Int.reduceEq, reduceCtorEq, Int.reduceBEq, Int.reduceBNe, Int.reduceLT, Int.reduceNeg, hg3, hne, List.length_append, hlen, List.length_replicate, hlen2, hi4, hle, Nat.zero_le, Nat.le_refl, Int.natCast_nonneg, Int.toNat_natCast, fz, fzd, hset_hset, hres]
      simp only [F1, bodyRes, one, ains, clsOf, abin, aint, aun, dnext, rowsOf, loadObj, cellsOf, ofCells, bnd, hmerge, Nat.reduceBEq, Nat.reduceAdd, reduceIte, Nat.reduceEqDiff, Nat.reduceLeDiff, Int.reduceEq, reduceCtorEq, Int.reduceBEq, Int.reduceBNe, Int.reduceLT, Int.reduceNeg, fn128_res, fn128_keep, fz, fzd]
      exact ⟨_, rfl⟩
end
end Go.Proofs.Abs
