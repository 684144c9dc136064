/- A part of a proof: the text that states the row tells what is proved. No condition is laid on anything. -/
import Derived.Test.YtgcncpedpjjjeaaAbsE5
set_option linter.all false
set_option linter.constructorNameAsVariable false
set_option linter.defProp false
set_option linter.unusedVariables false
set_option linter.unusedSimpArgs false
set_option maxRecDepth 100000
set_option maxHeartbeats 4000000
namespace Go.Proofs.Abs
open Go
theorem treeInj : ∀ a b : List Nd, [AV.list 5 (List.map eNd a)] = [AV.list 5 (List.map eNd b)] → a = b := by
  intro a b h
  simp only [List.cons.injEq, and_true] at h
  exact eTree_inj h
def k71 : Kon (List Nd) := ⟨fun x => WfT x ∧ x.length ≤ 40000, fun x => [(AV.list 5 (List.map eNd x))], fun x => .tuple [.list 1 (eNats (begL x)), .bool (begB x)]⟩
theorem e71 (t : List Nd) (hd : WfT t ∧ t.length ≤ 40000) (q0 : Id) (H0 : Heap) : k71.ora q0 ([(AV.list 5 (List.map eNd t))]) H0 = some (.tuple [.list 1 (eNats (begL t)), .bool (begB t)], H0) := k71.eq (treeInj) (t) hd q0 H0
theorem ook71 : OraOK Try.prog (71 % 100000) k71.ora := k71.ok orders t5_ok (fun x hd => by simp [k71, PU]) (fun x hd => by simp [k71, PU]) (fun x hd => run71 x hd.1 hd.2)

def k36 : Kon (List Nd) := ⟨fun x => WfT x ∧ x.length ≤ 40000, fun x => [(AV.list 5 (List.map eNd x))], fun x => .list 1 (eNats (begL x))⟩
theorem e36 (t : List Nd) (hd : WfT t ∧ t.length ≤ 40000) (q0 : Id) (H0 : Heap) : k36.ora q0 ([(AV.list 5 (List.map eNd t))]) H0 = some (.list 1 (eNats (begL t)), H0) := k36.eq (treeInj) (t) hd q0 H0
theorem ook36 : OraOK Try.prog (36 % 100000) k36.ora := k36.ok orders t5_ok (fun x hd => by simp [k36, PU]) (fun x hd => by simp [k36, PU]) (fun x hd => run36 x hd.1 hd.2)

noncomputable def t6 : FT := upd (upd (t5) 71 k71.ora) 36 k36.ora
theorem t6_ok : FTOK Try.prog t6 := upd_ok2 (f := 36) (upd_ok2 (f := 71) (t5_ok) ook71) ook36

theorem goodT_eq (t : List Nd) : goodT t = (decide (1 ≤ t.length) && decide (t.length ≤ 40000) && begB t && decide ((begL t).getD (t.length - 1) 0 = 0)) := by
  unfold goodT begB begL
  cases h : begs t with
  | none => simp
  | some l => simp
theorem begL_len {t : List Nd} (h : begB t = true) : (begL t).length = t.length := by
  unfold begB at h
  cases h2 : begs t with
  | none => simp [h2] at h
  | some l => rw [begL_some h2, begs_len h2]
theorem begL_no {t : List Nd} (h : begB t = false) : begL t = [] := by
  unfold begB at h
  cases h2 : begs t with
  | none => exact begL_none h2
  | some l => simp [h2] at h
/-! 29: tree.Good. -/
theorem run29 (t : List Nd) (hw : WfT t) : cwp t6 29 [] [eTree t] [] (fun r H => r = .bool (goodT t) ∧ H = []) := by
  refine run_fn (fn := fn29) rfl rfl ?_
  rw [goodT_eq]
  by_cases h1 : t.length < 1
  · have h1' : (t.length : Int) < 1 := by omega
    simp only [fn29_body, c29, eTree, eSet, D0, ains, clsOf, abin, aint, aun, dnext, rowsOf, loadObj, cellsOf, ofCells, bnd, hmerge, Nat.reduceBEq, Nat.reduceAdd, reduceIte, Nat.reduceEqDiff, Nat.reduceLeDiff, Int.reduceEq, reduceCtorEq, Int.reduceBEq, Int.reduceBNe, Int.reduceLT, Int.reduceNeg, h1', decide_true]
    simp only [F1, bodyRes, one, ains, clsOf, abin, aint, aun, dnext, rowsOf, loadObj, cellsOf, ofCells, bnd, hmerge, Nat.reduceBEq, Nat.reduceAdd, reduceIte, Nat.reduceEqDiff, Nat.reduceLeDiff, Int.reduceEq, reduceCtorEq, Int.reduceBEq, Int.reduceBNe, Int.reduceLT, Int.reduceNeg, fn29_res, fn29_keep]
    simp [show ¬ 1 ≤ t.length by omega]
  · have h1' : ¬ (t.length : Int) < 1 := by omega
    by_cases h2 : t.length ≤ 40000
    · have h2' : ¬ (t.length : Int) > 40000 := by omega
      have hd : WfT t ∧ t.length ≤ 40000 := ⟨hw, h2⟩
      have hm := wrapm (j := t.length) (by omega) (by omega)
      by_cases h3 : begB t = true
      · have hlen := begL_len h3
        have hlt : t.length - 1 < t.length := by omega
        have hg := eNats_get (l := begL t) (i := t.length - 1) (by omega)
        simp only [fn29_body, c29, eTree, eSet, @use_all t6 71 k71.ora rfl, e71, hd, D0, ains, clsOf, abin, aint, aun, dnext, rowsOf, loadObj, cellsOf, ofCells, bnd, hmerge, Nat.reduceBEq, Nat.reduceAdd, reduceIte, Nat.reduceEqDiff, Nat.reduceLeDiff, Int.reduceEq, reduceCtorEq, Int.reduceBEq, Int.reduceBNe, Int.reduceLT, Int.reduceNeg, h1', h2', decide_false, fz_list, h3, hm, hg, Int.natCast_nonneg, Int.toNat_natCast]
        simp only [F1, bodyRes, one, ains, clsOf, abin, aint, aun, dnext, rowsOf, loadObj, cellsOf, ofCells, bnd, hmerge, Nat.reduceBEq, Nat.reduceAdd, reduceIte, Nat.reduceEqDiff, Nat.reduceLeDiff, Int.reduceEq, reduceCtorEq, Int.reduceBEq, Int.reduceBNe, Int.reduceLT, Int.reduceNeg, fn29_res, fn29_keep]
        simp [show 1 ≤ t.length by omega, h2]
        rw [Bool.eq_iff_iff]; simp
      · have h3' : begB t = false := by simpa using h3
        simp only [fn29_body, c29, eTree, eSet, @use_all t6 71 k71.ora rfl, e71, hd, D0, ains, clsOf, abin, aint, aun, dnext, rowsOf, loadObj, cellsOf, ofCells, bnd, hmerge, Nat.reduceBEq, Nat.reduceAdd, reduceIte, Nat.reduceEqDiff, Nat.reduceLeDiff, Int.reduceEq, reduceCtorEq, Int.reduceBEq, Int.reduceBNe, Int.reduceLT, Int.reduceNeg, h1', h2', decide_false, fz_list, h3']
        simp only [F1, bodyRes, one, ains, clsOf, abin, aint, aun, dnext, rowsOf, loadObj, cellsOf, ofCells, bnd, hmerge, Nat.reduceBEq, Nat.reduceAdd, reduceIte, Nat.reduceEqDiff, Nat.reduceLeDiff, Int.reduceEq, reduceCtorEq, Int.reduceBEq, Int.reduceBNe, Int.reduceLT, Int.reduceNeg, fn29_res, fn29_keep]
        simp
    · have h2' : (t.length : Int) > 40000 := by omega
      simp only [fn29_body, c29, eTree, eSet, D0, ains, clsOf, abin, aint, aun, dnext, rowsOf, loadObj, cellsOf, ofCells, bnd, hmerge, Nat.reduceBEq, Nat.reduceAdd, reduceIte, Nat.reduceEqDiff, Nat.reduceLeDiff, Int.reduceEq, reduceCtorEq, Int.reduceBEq, Int.reduceBNe, Int.reduceLT, Int.reduceNeg, h1', h2', decide_true, decide_false]
      simp only [F1, bodyRes, one, ains, clsOf, abin, aint, aun, dnext, rowsOf, loadObj, cellsOf, ofCells, bnd, hmerge, Nat.reduceBEq, Nat.reduceAdd, reduceIte, Nat.reduceEqDiff, Nat.reduceLeDiff, Int.reduceEq, reduceCtorEq, Int.reduceBEq, Int.reduceBNe, Int.reduceLT, Int.reduceNeg, fn29_res, fn29_keep]
      simp [show ¬ t.length ≤ 40000 by omega]
/-! 30: caesuraref11.Good. -/
theorem run30 (t : List Nd) (hw : WfT t) : cwp t6 30 [] [eTree t] [] (fun r H => r = .bool (goodT t) ∧ H = []) := by
  refine run_fn (fn := fn30) rfl rfl ?_
  rw [goodT_eq]
  by_cases h1 : t.length < 1
  · have h1' : (t.length : Int) < 1 := by omega
    simp only [fn30_body, c30, eTree, eSet, D0, ains, clsOf, abin, aint, aun, dnext, rowsOf, loadObj, cellsOf, ofCells, bnd, hmerge, Nat.reduceBEq, Nat.reduceAdd, reduceIte, Nat.reduceEqDiff, Nat.reduceLeDiff, Int.reduceEq, reduceCtorEq, Int.reduceBEq, Int.reduceBNe, Int.reduceLT, Int.reduceNeg, h1', decide_true]
    simp only [F1, bodyRes, one, ains, clsOf, abin, aint, aun, dnext, rowsOf, loadObj, cellsOf, ofCells, bnd, hmerge, Nat.reduceBEq, Nat.reduceAdd, reduceIte, Nat.reduceEqDiff, Nat.reduceLeDiff, Int.reduceEq, reduceCtorEq, Int.reduceBEq, Int.reduceBNe, Int.reduceLT, Int.reduceNeg, fn30_res, fn30_keep]
    simp [show ¬ 1 ≤ t.length by omega]
  · have h1' : ¬ (t.length : Int) < 1 := by omega
    by_cases h2 : t.length ≤ 40000
    · have h2' : ¬ (t.length : Int) > 40000 := by omega
      have hd : WfT t ∧ t.length ≤ 40000 := ⟨hw, h2⟩
      have hm := wrapm (j := t.length) (by omega) (by omega)
      by_cases h3 : begB t = true
      · have hlen := begL_len h3
        have hg := eNats_get (l := begL t) (i := t.length - 1) (by omega)
        simp only [fn30_body, c30, eTree, eSet, @use_all t6 36 k36.ora rfl, e36, hd, D0, ains, clsOf, abin, aint, aun, dnext, rowsOf, loadObj, cellsOf, ofCells, bnd, hmerge, Nat.reduceBEq, Nat.reduceAdd, reduceIte, Nat.reduceEqDiff, Nat.reduceLeDiff, Int.reduceEq, reduceCtorEq, Int.reduceBEq, Int.reduceBNe, Int.reduceLT, Int.reduceNeg, h1', h2', decide_false, fz_list, hlen, hm, hg, Int.natCast_nonneg, Int.toNat_natCast]
        simp only [F1, bodyRes, one, ains, clsOf, abin, aint, aun, dnext, rowsOf, loadObj, cellsOf, ofCells, bnd, hmerge, Nat.reduceBEq, Nat.reduceAdd, reduceIte, Nat.reduceEqDiff, Nat.reduceLeDiff, Int.reduceEq, reduceCtorEq, Int.reduceBEq, Int.reduceBNe, Int.reduceLT, Int.reduceNeg, fn30_res, fn30_keep]
        simp [show 1 ≤ t.length by omega, h2, h3]
        rw [Bool.eq_iff_iff]; simp
      · have h3' : begB t = false := by simpa using h3
        have hne : (((0 : Nat) : Int) == (t.length : Int)) = false := by simp only [beq_eq_false_iff_ne]; omega
        simp only [fn30_body, c30, eTree, eSet, @use_all t6 36 k36.ora rfl, e36, hd, D0, ains, clsOf, abin, aint, aun, dnext, rowsOf, loadObj, cellsOf, ofCells, bnd, hmerge, Nat.reduceBEq, Nat.reduceAdd, reduceIte, Nat.reduceEqDiff, Nat.reduceLeDiff, Int.reduceEq, reduceCtorEq, Int.reduceBEq, Int.reduceBNe, Int.reduceLT, Int.reduceNeg, h1', h2', decide_false, fz_list, begL_no h3', eNats_nil, hne]
        simp only [F1, bodyRes, one, ains, clsOf, abin, aint, aun, dnext, rowsOf, loadObj, cellsOf, ofCells, bnd, hmerge, Nat.reduceBEq, Nat.reduceAdd, reduceIte, Nat.reduceEqDiff, Nat.reduceLeDiff, Int.reduceEq, reduceCtorEq, Int.reduceBEq, Int.reduceBNe, Int.reduceLT, Int.reduceNeg, fn30_res, fn30_keep]
        simp [h3']
    · have h2' : (t.length : Int) > 40000 := by omega
      simp only [fn30_body, c30, eTree, eSet, D0, ains, clsOf, abin, aint, aun, dnext, rowsOf, loadObj, cellsOf, ofCells, bnd, hmerge, Nat.reduceBEq, Nat.reduceAdd, reduceIte, Nat.reduceEqDiff, Nat.reduceLeDiff, Int.reduceEq, reduceCtorEq, Int.reduceBEq, Int.reduceBNe, Int.reduceLT, Int.reduceNeg, h1', h2', decide_true, decide_false]
      simp only [F1, bodyRes, one, ains, clsOf, abin, aint, aun, dnext, rowsOf, loadObj, cellsOf, ofCells, bnd, hmerge, Nat.reduceBEq, Nat.reduceAdd, reduceIte, Nat.reduceEqDiff, Nat.reduceLeDiff, Int.reduceEq, reduceCtorEq, Int.reduceBEq, Int.reduceBNe, Int.reduceLT, Int.reduceNeg, fn30_res, fn30_keep]
      simp [show ¬ t.length ≤ 40000 by omega]
/-! 16: caesurakeep.LargeTree. -/
def wNd (x : Nd) : Nat := 1 + min x.set.length 600 + min (x.name.size / 8) 600
def runL : Nat → List Nd → Nat
  | n, [] => n
  | n, x :: r => if n ≤ 600 then runL (n + wNd x) r else n
def large (t : List Nd) : Bool := decide (600 < runL 0 t)
theorem tdiv8 (n : Nat) : (n : Int).tdiv 8 = ((n / 8 : Nat) : Int) := rfl
theorem min600 (n : Nat) : (if (600 : Int) < (n : Int) then (600 : Int) else (n : Int)) = ((min n 600 : Nat) : Int) := by split <;> omega
theorem runL_step (n : Nat) (t : List Nd) (j : Nat) (h : j < t.length) (h2 : n ≤ 600) : runL n (t.drop j) = runL (n + wNd (t.getD j default)) (t.drop (j + 1)) := by
  rw [drop_cons h, runL, if_pos h2]
theorem runL_over (n : Nat) (l : List Nd) (h : ¬ n ≤ 600) : runL n l = n := by cases l <;> simp [runL, h]
theorem runL_ge : ∀ (t : List Nd) (n : Nat), 601 ≤ n + t.length → 601 ≤ runL n t
  | [], n, h => by simpa [runL] using h
  | x :: r, n, h => by
    unfold runL
    split
    · exact runL_ge r _ (by unfold wNd; simp at h ⊢; omega)
    · omega
theorem large_len {t : List Nd} (h : large t = false) : t.length ≤ 600 := by
  simp only [large, decide_eq_false_iff_not] at h
  by_cases h2 : t.length ≤ 600
  · exact h2
  · have := runL_ge t 0 (by omega)
    omega
theorem run16 (t : List Nd) (hw : WfT t) : cwp t6 16 [] [eTree t] [] (fun v H => v = .bool (large t) ∧ H = []) := by
  refine run_fn (fn := fn16) rfl rfl ?_
  simp only [fn16_body, c16, eTree, D0, ains, clsOf, abin, aint, aun, dnext, rowsOf, loadObj, cellsOf, ofCells, bnd, hmerge, Nat.reduceBEq, Nat.reduceAdd, reduceIte, Nat.reduceEqDiff, Nat.reduceLeDiff, Int.reduceEq, reduceCtorEq, Int.reduceBEq, Int.reduceBNe, Int.reduceLT, Int.reduceNeg]
  refine lg_rule (fun j e H => ∃ n : Nat, e = [(0, eTree t), (2, .bool false), (3, .int .i64 n), (4, .int .i64 j)] ∧ H = [[]] ∧ j ≤ t.length ∧ n ≤ 1801 ∧ runL n (t.drop j) = runL 0 t) t.length ?_ ?_
  · exact ⟨0, rfl, rfl, by simp, by simp, by simp⟩
  rintro j e H ⟨n, rfl, rfl, hj, hn, hr⟩
  have htl := hw.len
  simp only [eTree, D0, ains, clsOf, abin, aint, aun, dnext, rowsOf, loadObj, cellsOf, ofCells, bnd, hmerge, Nat.reduceBEq, Nat.reduceAdd, reduceIte, Nat.reduceEqDiff, Nat.reduceLeDiff, Int.reduceEq, reduceCtorEq, Int.reduceBEq, Int.reduceBNe, Int.reduceLT, Int.reduceNeg]
  by_cases h : j < t.length
  · have h' : (j : Int) < (t.length : Int) := by omega
    have hg := map_get (f := eNd) h default
    have hp := wrapp (j := j) (by omega)
    by_cases h2 : n ≤ 600
    · have h2' : (n : Int) ≤ 600 := by omega
      simp only [D0, ains, clsOf, abin, aint, aun, dnext, rowsOf, loadObj, cellsOf, ofCells, bnd, hmerge, Nat.reduceBEq, Nat.reduceAdd, reduceIte, Nat.reduceEqDiff, Nat.reduceLeDiff, Int.reduceEq, reduceCtorEq, Int.reduceBEq, Int.reduceBNe, Int.reduceLT, Int.reduceNeg, h', decide_true, h2', hg, eNd, eSet, Int.natCast_nonneg, Int.toNat_natCast]
      refine .inl ⟨h, n + wNd (t.getD j default), ?_, rfl, h, ?_, ?_⟩
      · have hb : (t.getD j default).name.size ≤ 9223372036854775807 := (hw.all _ (by
          rw [List.getD_eq_getElem?_getD, List.getElem?_eq_getElem h]
          exact List.getElem_mem h)).name
        simp (disch := omega) only [min600, tdiv8, wrap64]
        simp only [wNd]
        have e1 : (n : Int) + (1 + ((min (t.getD j default).set.length 600 : Nat) : Int) + ((min ((t.getD j default).name.size / 8) 600 : Nat) : Int)) = ((n + (1 + min (t.getD j default).set.length 600 + min ((t.getD j default).name.size / 8) 600) : Nat) : Int) := by omega
        have e2 : (j : Int) + 1 = ((j + 1 : Nat) : Int) := by omega
        simp only [e1, e2, and_self]
      · unfold wNd; omega
      · rw [← hr, runL_step n t j h h2]
    · have h2' : ¬ (n : Int) ≤ 600 := by omega
      simp only [D0, ains, clsOf, abin, aint, aun, dnext, rowsOf, loadObj, cellsOf, ofCells, bnd, hmerge, Nat.reduceBEq, Nat.reduceAdd, reduceIte, Nat.reduceEqDiff, Nat.reduceLeDiff, Int.reduceEq, reduceCtorEq, Int.reduceBEq, Int.reduceBNe, Int.reduceLT, Int.reduceNeg, h', decide_true, h2', decide_false]
      refine .inr ⟨by simp, ?_⟩
      simp only [F1, bodyRes, one, ains, clsOf, abin, aint, aun, dnext, rowsOf, loadObj, cellsOf, ofCells, bnd, hmerge, Nat.reduceBEq, Nat.reduceAdd, reduceIte, Nat.reduceEqDiff, Nat.reduceLeDiff, Int.reduceEq, reduceCtorEq, Int.reduceBEq, Int.reduceBNe, Int.reduceLT, Int.reduceNeg, fn16_res, fn16_keep]
      rw [runL_over n _ h2] at hr
      rw [large, ← hr]
      congr 2
      simp
      omega
  · have h' : ¬ (j : Int) < (t.length : Int) := by omega
    simp only [D0, ains, clsOf, abin, aint, aun, dnext, rowsOf, loadObj, cellsOf, ofCells, bnd, hmerge, Nat.reduceBEq, Nat.reduceAdd, reduceIte, Nat.reduceEqDiff, Nat.reduceLeDiff, Int.reduceEq, reduceCtorEq, Int.reduceBEq, Int.reduceBNe, Int.reduceLT, Int.reduceNeg, h', decide_false]
    refine .inr ⟨by simp, ?_⟩
    simp only [F1, bodyRes, one, ains, clsOf, abin, aint, aun, dnext, rowsOf, loadObj, cellsOf, ofCells, bnd, hmerge, Nat.reduceBEq, Nat.reduceAdd, reduceIte, Nat.reduceEqDiff, Nat.reduceLeDiff, Int.reduceEq, reduceCtorEq, Int.reduceBEq, Int.reduceBNe, Int.reduceLT, Int.reduceNeg, fn16_res, fn16_keep]
    have hz : t.drop j = [] := List.drop_eq_nil_of_le (by omega)
    rw [hz, runL] at hr
    rw [large, ← hr]
    congr 2
    simp
    omega
def k29 : Kon (List Nd) := ⟨fun x => WfT x, fun x => [(AV.list 5 (List.map eNd x))], fun x => .bool (goodT x)⟩
theorem e29 (t : List Nd) (hd : WfT t) (q0 : Id) (H0 : Heap) : k29.ora q0 ([(AV.list 5 (List.map eNd t))]) H0 = some (.bool (goodT t), H0) := k29.eq (treeInj) (t) hd q0 H0
theorem ook29 : OraOK Try.prog (29 % 100000) k29.ora := k29.ok orders t6_ok (fun x hd => by simp [k29, PU]) (fun x hd => by simp [k29, PU]) (fun x hd => run29 x hd)

def k30 : Kon (List Nd) := ⟨fun x => WfT x, fun x => [(AV.list 5 (List.map eNd x))], fun x => .bool (goodT x)⟩
theorem e30 (t : List Nd) (hd : WfT t) (q0 : Id) (H0 : Heap) : k30.ora q0 ([(AV.list 5 (List.map eNd t))]) H0 = some (.bool (goodT t), H0) := k30.eq (treeInj) (t) hd q0 H0
theorem ook30 : OraOK Try.prog (30 % 100000) k30.ora := k30.ok orders t6_ok (fun x hd => by simp [k30, PU]) (fun x hd => by simp [k30, PU]) (fun x hd => run30 x hd)

def k16 : Kon (List Nd) := ⟨fun x => WfT x, fun x => [(AV.list 5 (List.map eNd x))], fun x => .bool (large x)⟩
theorem e16 (t : List Nd) (hd : WfT t) (q0 : Id) (H0 : Heap) : k16.ora q0 ([(AV.list 5 (List.map eNd t))]) H0 = some (.bool (large t), H0) := k16.eq (treeInj) (t) hd q0 H0
theorem ook16 : OraOK Try.prog (16 % 100000) k16.ora := k16.ok orders t6_ok (fun x hd => by simp [k16, PU]) (fun x hd => by simp [k16, PU]) (fun x hd => run16 x hd)

noncomputable def t7 : FT := upd (upd (upd (t6) 29 k29.ora) 30 k30.ora) 16 k16.ora
theorem t7_ok : FTOK Try.prog t7 := upd_ok2 (f := 16) (upd_ok2 (f := 30) (upd_ok2 (f := 29) (t6_ok) ook29) ook30) ook16

end Go.Proofs.Abs
