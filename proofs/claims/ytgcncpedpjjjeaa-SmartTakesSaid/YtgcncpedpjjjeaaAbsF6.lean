/- A part of a proof: the text that states the row tells what is proved. No condition is laid on anything. -/
import Derived.Test.YtgcncpedpjjjeaaAbsF4
import Derived.Test.YtgcncpedpjjjeaaAbsS3
set_option linter.all false
set_option linter.constructorNameAsVariable false
set_option linter.defProp false
set_option linter.unusedVariables false
set_option linter.unusedSimpArgs false
set_option maxRecDepth 100000
set_option maxHeartbeats 4000000
namespace Go.Proofs.Abs
open Go
/-! 63: caesurakeep.Set. -/
theorem run63 (a b : List (Int × Int)) (ha : a.length ≤ 9223372036854775807) : cwp v7 63 [] [(AV.list 2 (List.map (fun x => [AV.int .i64 x.1, AV.int .i64 x.2]) (a))), (AV.list 2 (List.map (fun x => [AV.int .i64 x.1, AV.int .i64 x.2]) (b)))] [] (fun r H => r = .bool (decide (a = b)) ∧ H = []) := by
  refine run_fn (fn := fn63) rfl rfl ?_
  by_cases hl : a.length = b.length
  · have hl' : ((a.length : Int) != (b.length : Int)) = false := by simp [hl]
    simp only [fn63_body, c63, D0, ains, clsOf, abin, aint, aun, dnext, rowsOf, loadObj, cellsOf, ofCells, bnd, hmerge, Nat.reduceBEq, Nat.reduceAdd, reduceIte, Nat.reduceEqDiff, Nat.reduceLeDiff, Int.reduceEq, reduceCtorEq, Int.reduceBEq, Int.reduceBNe, Int.reduceLT, Int.reduceNeg, hl']
    refine lg_rule (fun j e H => e = [(0, (AV.list 2 (List.map (fun x => [AV.int .i64 x.1, AV.int .i64 x.2]) (a)))), (1, (AV.list 2 (List.map (fun x => [AV.int .i64 x.1, AV.int .i64 x.2]) (b)))), (4, .bool false), (5, .int .i64 j)] ∧ H = [[]] ∧ j ≤ a.length ∧ ∀ i, i < j → a.getD i (0, 0) = b.getD i (0, 0)) a.length ?_ ?_
    · exact ⟨rfl, rfl, by simp, by simp⟩
    rintro j e H ⟨rfl, rfl, hj, hi⟩
    simp only [D0, ains, clsOf, abin, aint, aun, dnext, rowsOf, loadObj, cellsOf, ofCells, bnd, hmerge, Nat.reduceBEq, Nat.reduceAdd, reduceIte, Nat.reduceEqDiff, Nat.reduceLeDiff, Int.reduceEq, reduceCtorEq, Int.reduceBEq, Int.reduceBNe, Int.reduceLT, Int.reduceNeg]
    by_cases h : j < a.length
    · have h' : (j : Int) < (a.length : Int) := by omega
      have hp := wrapp (j := j) (by omega)
      have hga := map_get (f := fun x : Int × Int => [AV.int .i64 x.1, AV.int .i64 x.2]) h (0, 0)
      have hgb := map_get (f := fun x : Int × Int => [AV.int .i64 x.1, AV.int .i64 x.2]) (l := b) (j := j) (by omega) (0, 0)
      have ne : a.getD j (0, 0) ≠ b.getD j (0, 0) → decide (a = b) = false := fun h1 => by
        rw [decide_eq_false_iff_not]
        intro e
        exact h1 (by rw [e])
      have step : a.getD j (0, 0) = b.getD j (0, 0) → ∀ i, i < j + 1 → a.getD i (0, 0) = b.getD i (0, 0) := fun h1 i h2 => by
        by_cases e : i = j
        · rw [e]; exact h1
        · exact hi i (by omega)
      generalize a.getD j (0, 0) = x at hga ne step
      generalize b.getD j (0, 0) = y at hgb ne step
      obtain ⟨x1, x2⟩ := x
      obtain ⟨y1, y2⟩ := y
      by_cases h1 : x1 = y1
      · by_cases h2 : x2 = y2
        · have st := step (by rw [h1, h2])
          clear ne step hi
          simp only [D0, ains, clsOf, abin, aint, aun, dnext, rowsOf, loadObj, cellsOf, ofCells, bnd, hmerge, Nat.reduceBEq, Nat.reduceAdd, reduceIte, Nat.reduceEqDiff, Nat.reduceLeDiff, Int.reduceEq, reduceCtorEq, Int.reduceBEq, Int.reduceBNe, Int.reduceLT, Int.reduceNeg, h', hga, hgb, abins, acells, h1, h2, hp, decide_true, Int.natCast_nonneg, Int.toNat_natCast]
          simp only [F1, bodyRes, one, ains, clsOf, abin, aint, aun, dnext, rowsOf, loadObj, cellsOf, ofCells, bnd, hmerge, Nat.reduceBEq, Nat.reduceAdd, reduceIte, Nat.reduceEqDiff, Nat.reduceLeDiff, Int.reduceEq, reduceCtorEq, Int.reduceBEq, Int.reduceBNe, Int.reduceLT, Int.reduceNeg]
          exact ⟨h, h, st⟩
        · have ne' := ne (by simp [h2])
          have h2' : (x2 == y2) = false := by simpa using h2
          clear ne step hi
          simp only [D0, ains, clsOf, abin, aint, aun, dnext, rowsOf, loadObj, cellsOf, ofCells, bnd, hmerge, Nat.reduceBEq, Nat.reduceAdd, reduceIte, Nat.reduceEqDiff, Nat.reduceLeDiff, Int.reduceEq, reduceCtorEq, Int.reduceBEq, Int.reduceBNe, Int.reduceLT, Int.reduceNeg, h', hga, hgb, abins, acells, h1, h2', decide_true, Int.natCast_nonneg, Int.toNat_natCast]
          simp only [F1, bodyRes, one, ains, clsOf, abin, aint, aun, dnext, rowsOf, loadObj, cellsOf, ofCells, bnd, hmerge, Nat.reduceBEq, Nat.reduceAdd, reduceIte, Nat.reduceEqDiff, Nat.reduceLeDiff, Int.reduceEq, reduceCtorEq, Int.reduceBEq, Int.reduceBNe, Int.reduceLT, Int.reduceNeg, fn63_res, fn63_keep, ne']
      · have ne' := ne (by simp [h1])
        have h1' : (x1 == y1) = false := by simpa using h1
        clear ne step hi
        simp only [D0, ains, clsOf, abin, aint, aun, dnext, rowsOf, loadObj, cellsOf, ofCells, bnd, hmerge, Nat.reduceBEq, Nat.reduceAdd, reduceIte, Nat.reduceEqDiff, Nat.reduceLeDiff, Int.reduceEq, reduceCtorEq, Int.reduceBEq, Int.reduceBNe, Int.reduceLT, Int.reduceNeg, h', hga, hgb, abins, acells, h1', decide_true, Int.natCast_nonneg, Int.toNat_natCast]
        simp only [F1, bodyRes, one, ains, clsOf, abin, aint, aun, dnext, rowsOf, loadObj, cellsOf, ofCells, bnd, hmerge, Nat.reduceBEq, Nat.reduceAdd, reduceIte, Nat.reduceEqDiff, Nat.reduceLeDiff, Int.reduceEq, reduceCtorEq, Int.reduceBEq, Int.reduceBNe, Int.reduceLT, Int.reduceNeg, fn63_res, fn63_keep, ne']
    · have h' : ¬ (j : Int) < (a.length : Int) := by omega
      have he : decide (a = b) = true := decide_eq_true (ext_getD (0, 0) hl fun i h1 => hi i (by omega))
      simp only [D0, ains, clsOf, abin, aint, aun, dnext, rowsOf, loadObj, cellsOf, ofCells, bnd, hmerge, Nat.reduceBEq, Nat.reduceAdd, reduceIte, Nat.reduceEqDiff, Nat.reduceLeDiff, Int.reduceEq, reduceCtorEq, Int.reduceBEq, Int.reduceBNe, Int.reduceLT, Int.reduceNeg, h', decide_false]
      refine .inr ⟨by simp, ?_⟩
      simp only [F1, bodyRes, one, ains, clsOf, abin, aint, aun, dnext, rowsOf, loadObj, cellsOf, ofCells, bnd, hmerge, Nat.reduceBEq, Nat.reduceAdd, reduceIte, Nat.reduceEqDiff, Nat.reduceLeDiff, Int.reduceEq, reduceCtorEq, Int.reduceBEq, Int.reduceBNe, Int.reduceLT, Int.reduceNeg, fn63_res, fn63_keep, he]
  · have hl' : ((a.length : Int) != (b.length : Int)) = true := by
      simp only [bne_iff_ne, ne_eq]
      omega
    have he : decide (a = b) = false := by
      rw [decide_eq_false_iff_not]
      intro e
      exact hl (by rw [e])
    simp only [fn63_body, c63, D0, ains, clsOf, abin, aint, aun, dnext, rowsOf, loadObj, cellsOf, ofCells, bnd, hmerge, Nat.reduceBEq, Nat.reduceAdd, reduceIte, Nat.reduceEqDiff, Nat.reduceLeDiff, Int.reduceEq, reduceCtorEq, Int.reduceBEq, Int.reduceBNe, Int.reduceLT, Int.reduceNeg, hl']
    simp only [F1, bodyRes, one, ains, clsOf, abin, aint, aun, dnext, rowsOf, loadObj, cellsOf, ofCells, bnd, hmerge, Nat.reduceBEq, Nat.reduceAdd, reduceIte, Nat.reduceEqDiff, Nat.reduceLeDiff, Int.reduceEq, reduceCtorEq, Int.reduceBEq, Int.reduceBNe, Int.reduceLT, Int.reduceNeg, fn63_res, fn63_keep, he]
def k63 : Kon ((List (Int × Int)) × (List (Int × Int))) := ⟨fun x => x.1.length ≤ 9223372036854775807, fun x => [(AV.list 2 (List.map (fun x => [AV.int .i64 x.1, AV.int .i64 x.2]) (x.1))), (AV.list 2 (List.map (fun x => [AV.int .i64 x.1, AV.int .i64 x.2]) (x.2)))], fun x => .bool (decide (x.1 = x.2))⟩
theorem e63 (a : List (Int × Int)) (b : List (Int × Int)) (hd : a.length ≤ 9223372036854775807) (q0 : Id) (H0 : Heap) : k63.ora q0 ([(AV.list 2 (List.map (fun x => [AV.int .i64 x.1, AV.int .i64 x.2]) (a))), (AV.list 2 (List.map (fun x => [AV.int .i64 x.1, AV.int .i64 x.2]) (b)))]) H0 = some (.bool (decide (a = b)), H0) := k63.eq (set2Inj) (a, b) hd q0 H0
theorem ook63 : OraOK Try.prog (63 % 100000) k63.ora := k63.ok orders v7_ok (fun x hd => by simp [k63, PU]) (fun x hd => by simp [k63, PU]) (fun x hd => run63 x.1 x.2 hd)

/-! 34: tree.Leaf. -/
def leafT (k : Int) : List Nd := [⟨if k = 1 then 1 else 0, 0, 0, [], ⟨#[]⟩⟩]
theorem run34 (k : Int) : cwp v7 34 [] [.int .i64 k] [] (fun r H => r = .list 5 (List.map eNd (leafT k)) ∧ H = []) := by
  refine run_fn (fn := fn34) rfl rfl ?_
  by_cases h : k = 1
  · have h' : (k != 1) = false := by simp [h]
    simp only [fn34_body, c34, D0, ains, clsOf, abin, aint, aun, dnext, rowsOf, loadObj, cellsOf, ofCells, bnd, hmerge, Nat.reduceBEq, Nat.reduceAdd, reduceIte, Nat.reduceEqDiff, Nat.reduceLeDiff, Int.reduceEq, reduceCtorEq, Int.reduceBEq, Int.reduceBNe, Int.reduceLT, Int.reduceNeg, h']
    simp only [F1, bodyRes, one, ains, clsOf, abin, aint, aun, dnext, rowsOf, loadObj, cellsOf, ofCells, bnd, hmerge, Nat.reduceBEq, Nat.reduceAdd, reduceIte, Nat.reduceEqDiff, Nat.reduceLeDiff, Int.reduceEq, reduceCtorEq, Int.reduceBEq, Int.reduceBNe, Int.reduceLT, Int.reduceNeg, fn34_res, fn34_keep, fz, fzd, leafT, h, eNd, eSet]
  · have h' : (k != 1) = true := by simp [h]
    simp only [fn34_body, c34, D0, ains, clsOf, abin, aint, aun, dnext, rowsOf, loadObj, cellsOf, ofCells, bnd, hmerge, Nat.reduceBEq, Nat.reduceAdd, reduceIte, Nat.reduceEqDiff, Nat.reduceLeDiff, Int.reduceEq, reduceCtorEq, Int.reduceBEq, Int.reduceBNe, Int.reduceLT, Int.reduceNeg, h']
    simp only [F1, bodyRes, one, ains, clsOf, abin, aint, aun, dnext, rowsOf, loadObj, cellsOf, ofCells, bnd, hmerge, Nat.reduceBEq, Nat.reduceAdd, reduceIte, Nat.reduceEqDiff, Nat.reduceLeDiff, Int.reduceEq, reduceCtorEq, Int.reduceBEq, Int.reduceBNe, Int.reduceLT, Int.reduceNeg, fn34_res, fn34_keep, fz, fzd, leafT, h, eNd, eSet]
def k34 : Kon (Int) := ⟨fun _ => True, fun x => [.int .i64 x], fun x => .list 5 (List.map eNd (leafT x))⟩
theorem e34 (k : Int) (q0 : Id) (H0 : Heap) : k34.ora q0 ([.int .i64 k]) H0 = some (.list 5 (List.map eNd (leafT k)), H0) := k34.eq (intInj) (k) trivial q0 H0
theorem ook34 : OraOK Try.prog (34 % 100000) k34.ora := k34.ok orders v7_ok (fun x hd => by simp [k34, PU]) (fun x hd => by simp [k34, PU]) (fun x hd => run34 x)

/-! 35: caesuraref11.Leaf. -/
theorem run35 (k : Int) : cwp v7 35 [] [.int .i64 k] [] (fun r H => r = .list 5 (List.map eNd (leafT k)) ∧ H = []) := by
  refine run_fn (fn := fn35) rfl rfl ?_
  by_cases h : k = 1
  · have h' : (k == 1) = true := by simp [h]
    simp only [fn35_body, c35, D0, ains, clsOf, abin, aint, aun, dnext, rowsOf, loadObj, cellsOf, ofCells, bnd, hmerge, Nat.reduceBEq, Nat.reduceAdd, reduceIte, Nat.reduceEqDiff, Nat.reduceLeDiff, Int.reduceEq, reduceCtorEq, Int.reduceBEq, Int.reduceBNe, Int.reduceLT, Int.reduceNeg, h']
    simp only [F1, bodyRes, one, ains, clsOf, abin, aint, aun, dnext, rowsOf, loadObj, cellsOf, ofCells, bnd, hmerge, Nat.reduceBEq, Nat.reduceAdd, reduceIte, Nat.reduceEqDiff, Nat.reduceLeDiff, Int.reduceEq, reduceCtorEq, Int.reduceBEq, Int.reduceBNe, Int.reduceLT, Int.reduceNeg, fn35_res, fn35_keep, fz, fzd, leafT, h, eNd, eSet]
  · have h' : (k == 1) = false := by simp [h]
    simp only [fn35_body, c35, D0, ains, clsOf, abin, aint, aun, dnext, rowsOf, loadObj, cellsOf, ofCells, bnd, hmerge, Nat.reduceBEq, Nat.reduceAdd, reduceIte, Nat.reduceEqDiff, Nat.reduceLeDiff, Int.reduceEq, reduceCtorEq, Int.reduceBEq, Int.reduceBNe, Int.reduceLT, Int.reduceNeg, h']
    simp only [F1, bodyRes, one, ains, clsOf, abin, aint, aun, dnext, rowsOf, loadObj, cellsOf, ofCells, bnd, hmerge, Nat.reduceBEq, Nat.reduceAdd, reduceIte, Nat.reduceEqDiff, Nat.reduceLeDiff, Int.reduceEq, reduceCtorEq, Int.reduceBEq, Int.reduceBNe, Int.reduceLT, Int.reduceNeg, fn35_res, fn35_keep, fz, fzd, leafT, h, eNd, eSet]
def k35 : Kon (Int) := ⟨fun _ => True, fun x => [.int .i64 x], fun x => .list 5 (List.map eNd (leafT x))⟩
theorem e35 (k : Int) (q0 : Id) (H0 : Heap) : k35.ora q0 ([.int .i64 k]) H0 = some (.list 5 (List.map eNd (leafT k)), H0) := k35.eq (intInj) (k) trivial q0 H0
theorem ook35 : OraOK Try.prog (35 % 100000) k35.ora := k35.ok orders v7_ok (fun x hd => by simp [k35, PU]) (fun x hd => by simp [k35, PU]) (fun x hd => run35 x)

/-! 27, 22: One. -/
def oneB (s : List (Int × Int)) : Bool := decide (0 < s.length) && goodS s
def oneT (s : List (Int × Int)) (z : ByteArray) : List Nd := if oneB s then [⟨2, 0, 0, s, z⟩] else []
theorem setStrInj : ∀ x y : List (Int × Int) × ByteArray, [(AV.list 2 (List.map (fun x => [AV.int .i64 x.1, AV.int .i64 x.2]) (x.1))), AV.str x.2] = [(AV.list 2 (List.map (fun x => [AV.int .i64 x.1, AV.int .i64 x.2]) (y.1))), AV.str y.2] → x = y := by
  rintro ⟨a, m⟩ ⟨b, n⟩ h
  simp only [List.cons.injEq, AV.str.injEq, and_true] at h
  rw [eSet_inj (a := a) (b := b) h.1, h.2]
theorem run22 (s : List (Int × Int)) (z : ByteArray) (hs : s.length ≤ 600) : cwp v7 22 [] [(AV.list 2 (List.map (fun x => [AV.int .i64 x.1, AV.int .i64 x.2]) (s))), .str z] [] (fun r H => r = .tuple [.list 5 (List.map eNd (oneT s z)), .bool (oneB s)] ∧ H = []) := by
  refine run_fn (fn := fn22) rfl rfl ?_
  have hs2 : s.length ≤ 9223372036854775807 := by omega
  by_cases h0 : s.length = 0
  · have h0' : ((s.length : Int) == 0) = true := by simp only [beq_iff_eq]; omega
    have hb : oneB s = false := by simp [oneB, h0]
    have hr : oneT s z = [] := by simp [oneT, hb]
    simp only [fn22_body, c22, D0, ains, clsOf, abin, aint, aun, dnext, rowsOf, loadObj, cellsOf, ofCells, bnd, hmerge, Nat.reduceBEq, Nat.reduceAdd, reduceIte, Nat.reduceEqDiff, Nat.reduceLeDiff, Int.reduceEq, reduceCtorEq, Int.reduceBEq, Int.reduceBNe, Int.reduceLT, Int.reduceNeg, h0']
    simp only [F1, bodyRes, one, ains, clsOf, abin, aint, aun, dnext, rowsOf, loadObj, cellsOf, ofCells, bnd, hmerge, Nat.reduceBEq, Nat.reduceAdd, reduceIte, Nat.reduceEqDiff, Nat.reduceLeDiff, Int.reduceEq, reduceCtorEq, Int.reduceBEq, Int.reduceBNe, Int.reduceLT, Int.reduceNeg, fn22_res, fn22_keep, fz, fzd, fzd.fzcells, hr, hb]
  · have h0' : ((s.length : Int) == 0) = false := by simp only [beq_eq_false_iff_ne]; omega
    by_cases g : goodS s = true
    · have hb : oneB s = true := by
        simp only [oneB, g, Bool.and_true, decide_eq_true_eq]; omega
      have hr : oneT s z = [⟨2, 0, 0, s, z⟩] := by simp [oneT, hb]
      simp only [fn22_body, c22, D0, ains, clsOf, abin, aint, aun, dnext, rowsOf, loadObj, cellsOf, ofCells, bnd, hmerge, Nat.reduceBEq, Nat.reduceAdd, reduceIte, Nat.reduceEqDiff, Nat.reduceLeDiff, Int.reduceEq, reduceCtorEq, Int.reduceBEq, Int.reduceBNe, Int.reduceLT, Int.reduceNeg, @use_all v7 56 k56.ora rfl, e56, @use_all v7 69 k69.ora rfl, e69, hs, hs2, h0', g, fz, fzd, fzd.fzcells]
      simp only [F1, bodyRes, one, ains, clsOf, abin, aint, aun, dnext, rowsOf, loadObj, cellsOf, ofCells, bnd, hmerge, Nat.reduceBEq, Nat.reduceAdd, reduceIte, Nat.reduceEqDiff, Nat.reduceLeDiff, Int.reduceEq, reduceCtorEq, Int.reduceBEq, Int.reduceBNe, Int.reduceLT, Int.reduceNeg, fn22_res, fn22_keep, fz, fzd, fzd.fzcells, hr, hb, eNd, eSet]
    · have g' : goodS s = false := by simpa using g
      have hb : oneB s = false := by simp [oneB, g']
      have hr : oneT s z = [] := by simp [oneT, hb]
      simp only [fn22_body, c22, D0, ains, clsOf, abin, aint, aun, dnext, rowsOf, loadObj, cellsOf, ofCells, bnd, hmerge, Nat.reduceBEq, Nat.reduceAdd, reduceIte, Nat.reduceEqDiff, Nat.reduceLeDiff, Int.reduceEq, reduceCtorEq, Int.reduceBEq, Int.reduceBNe, Int.reduceLT, Int.reduceNeg, @use_all v7 56 k56.ora rfl, e56, hs2, h0', g']
      simp only [F1, bodyRes, one, ains, clsOf, abin, aint, aun, dnext, rowsOf, loadObj, cellsOf, ofCells, bnd, hmerge, Nat.reduceBEq, Nat.reduceAdd, reduceIte, Nat.reduceEqDiff, Nat.reduceLeDiff, Int.reduceEq, reduceCtorEq, Int.reduceBEq, Int.reduceBNe, Int.reduceLT, Int.reduceNeg, fn22_res, fn22_keep, fz, fzd, fzd.fzcells, hr, hb]
def k22 : Kon ((List (Int × Int)) × ByteArray) := ⟨fun x => x.1.length ≤ 600, fun x => [(AV.list 2 (List.map (fun x => [AV.int .i64 x.1, AV.int .i64 x.2]) (x.1))), .str x.2], fun x => .tuple [.list 5 (List.map eNd (oneT x.1 x.2)), .bool (oneB x.1)]⟩
theorem e22 (s : List (Int × Int)) (z : ByteArray) (hd : s.length ≤ 600) (q0 : Id) (H0 : Heap) : k22.ora q0 ([(AV.list 2 (List.map (fun x => [AV.int .i64 x.1, AV.int .i64 x.2]) (s))), .str z]) H0 = some (.tuple [.list 5 (List.map eNd (oneT s z)), .bool (oneB s)], H0) := k22.eq (setStrInj) (s, z) hd q0 H0
theorem ook22 : OraOK Try.prog (22 % 100000) k22.ora := k22.ok orders v7_ok (fun x hd => by simp [k22, PU]) (fun x hd => by simp [k22, PU]) (fun x hd => run22 x.1 x.2 hd)

noncomputable def y1 : FT := upd (upd (upd (upd (v7) 63 k63.ora) 35 k35.ora) 34 k34.ora) 22 k22.ora
theorem y1_ok : FTOK Try.prog y1 := upd_ok2 (f := 22) (upd_ok2 (f := 34) (upd_ok2 (f := 35) (upd_ok2 (f := 63) (v7_ok) ook63) ook35) ook34) ook22

end Go.Proofs.Abs
