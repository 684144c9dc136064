/- A part of a proof: the text that states the row tells what is proved. No condition is laid on anything. -/
import Derived.Test.YtgcncpedpjjjeaaAbsX4
import Derived.Test.YtgcncpedpjjjeaaAbsH
set_option linter.all false
set_option linter.constructorNameAsVariable false
set_option linter.defProp false
set_option linter.unusedVariables false
set_option linter.unusedSimpArgs false
set_option maxRecDepth 100000
set_option maxHeartbeats 4000000
namespace Go.Proofs.Abs
open Go
/-! 83: caesuraref12.Members. -/
noncomputable def q3 : FT := updC q2 200083 fn83b
theorem q3_ok : FTOK Try.prog q3 := updC_ok (f := 200083) q2_ok ok83b
def ValT (v : AV) (L : List Tr) (F : Fr) : Prop := (∃ id, v = .own id L.length ∧ ¬ id = [1] ∧ fget F id = some (.row true true 23 1 (List.map eTr1 L))) ∨ v = (AV.list 1 (List.map eTr1 L))
def sumZ (l : List Tr) : Nat := (l.map sz).sum
theorem mems_one {x : Tr} (h : ¬ rk x = 4) : mems x = [x] := by cases x <;> first | rfl | exact absurd rfl h
theorem run83 (t : List Nd) (hd : SmS t ∧ goodT t = true) : cwp q3 200083 [] [(AV.list 5 (List.map eNd t))] [] (fun v H => ∃ id, v = .own id (List.map eTr1 (mems (dec t))).length ∧ H = [[(id, .row true true 23 1 (List.map eTr1 (mems (dec t))))]]) := by
  refine run_fn (fn := fn83b) rfl rfl ?_
  obtain ⟨x, hx, rfl⟩ := okS_of hd
  rw [hx.dec]
  have hml := mems_len x
  have hz := hx.2
  simp only [fn83b_body, c83b, D0, ains, clsOf, abin, aint, aun, dnext, rowsOf, loadObj, cellsOf, ofCells, bnd, hmerge, Nat.reduceBEq, Nat.reduceAdd, reduceIte, Nat.reduceEqDiff, Nat.reduceLeDiff, Int.reduceEq, reduceCtorEq, Int.reduceBEq, Int.reduceBNe, Int.reduceLT, Int.reduceNeg, fz, fzd]
  refine lg_rule (fun j e H => ∃ (O L : List Tr) (v : AV) (F : Fr), e = [(0, (AV.list 5 (List.map eNd (enc x)))), (2, .own [0] 0), (3, .own [1] O.length), (4, v)] ∧ H = [F] ∧ fget F [1] = some (.row true true 23 1 (List.map eTr1 O)) ∧ ValT v L F ∧ O ++ L.flatMap mems = mems x ∧ j + sumZ L ≤ sz x ∧ (∀ y ∈ L, OkS y)) (sz x) ?_ ?_
  · exact ⟨[], [x], _, _, rfl, rfl, rfl, .inl ⟨_, rfl, by decide, rfl⟩, by simp, by simp [sumZ], fun y hy => by simp at hy; subst hy; exact hx⟩
  rintro j e H ⟨O, L, v, F, rfl, rfl, hF, hv, hO, hs, hok⟩
  cases L with
  | nil =>
    simp only [List.flatMap_nil, List.append_nil] at hO
    have hz0 : decide (((0 : Nat) : Int) > 0) = false := rfl
    rcases hv with ⟨id, rfl, hid, hFi⟩ | rfl
    · simp only [D0, ains, clsOf, abin, aint, aun, dnext, rowsOf, loadObj, cellsOf, ofCells, bnd, hmerge, Nat.reduceBEq, Nat.reduceAdd, reduceIte, Nat.reduceEqDiff, Nat.reduceLeDiff, Int.reduceEq, reduceCtorEq, Int.reduceBEq, Int.reduceBNe, Int.reduceLT, Int.reduceNeg, hFi, hz0]
      refine .inr ⟨by simp, ?_⟩
      simp only [F1, bodyRes, one, ains, clsOf, abin, aint, aun, dnext, rowsOf, loadObj, cellsOf, ofCells, bnd, hmerge, Nat.reduceBEq, Nat.reduceAdd, reduceIte, Nat.reduceEqDiff, Nat.reduceLeDiff, Int.reduceEq, reduceCtorEq, Int.reduceBEq, Int.reduceBNe, Int.reduceLT, Int.reduceNeg, fn83b_res, fn83b_keep, hF, hO]
      exact ⟨_, rfl, rfl⟩
    · simp only [D0, ains, clsOf, abin, aint, aun, dnext, rowsOf, loadObj, cellsOf, ofCells, bnd, hmerge, Nat.reduceBEq, Nat.reduceAdd, reduceIte, Nat.reduceEqDiff, Nat.reduceLeDiff, Int.reduceEq, reduceCtorEq, Int.reduceBEq, Int.reduceBNe, Int.reduceLT, Int.reduceNeg, hz0]
      refine .inr ⟨by simp, ?_⟩
      simp only [F1, bodyRes, one, ains, clsOf, abin, aint, aun, dnext, rowsOf, loadObj, cellsOf, ofCells, bnd, hmerge, Nat.reduceBEq, Nat.reduceAdd, reduceIte, Nat.reduceEqDiff, Nat.reduceLeDiff, Int.reduceEq, reduceCtorEq, Int.reduceBEq, Int.reduceBNe, Int.reduceLT, Int.reduceNeg, fn83b_res, fn83b_keep, hF, hO]
      exact ⟨_, rfl, rfl⟩
  | cons y R =>
    have hy := hok y (by simp)
    have hR : ∀ u ∈ R, OkS u := fun u hu => hok u (by simp [hu])
    have ny := hy.ne
    have ky := lastN_enc y
    have hpos : decide (((R.length + 1 : Nat) : Int) > 0) = true := by simp
    simp only [sumZ, List.map_cons, List.sum_cons] at hs
    have py := sz_pos y
    have hz1 : (0 : Int) ≤ 1 := by decide
    have htk : List.take R.length (List.map eTr1 R) = List.map eTr1 R := List.take_of_length_le (by simp)
    have hsz : R.length ≤ 40000 := by
      have : ∀ l : List Tr, l.length ≤ (l.map sz).sum := fun l => by
        induction l with
        | nil => simp
        | cons a l ih => have := sz_pos a; simp only [List.length_cons, List.map_cons, List.sum_cons]; omega
      have := this R
      omega
    have hp0 : (0 : Int) < ((R.length + 1 : Nat) : Int) := by omega
    have hcp : (1 + 1 + R.length) * 24 ≤ 140737488355328 := by omega
    have hco : (O.length + 1) * 24 ≤ 140737488355328 := by
      have := congrArg List.length hO
      simp only [List.length_append] at this
      omega
    have hl2 : (1 : Nat) ≤ R.length + 1 ∧ R.length + 1 ≤ R.length + 1 := by omega
    rcases hv with ⟨id, rfl, hid, hFi⟩ | rfl
    · have hf1 : ∀ o, fget (fset F id o) [1] = fget F [1] := fun o => by rw [fget_fset, if_neg (fun h => hid h.1)]
      have hfi : ∀ o, fget (fset F id o) id = some o := fun o => by rw [fget_fset]; simp [hFi]
      by_cases h4 : rk y = 4
      · obtain ⟨a, b, rfl⟩ := rk_alt hy.1 h4
        obtain ⟨o1, o2⟩ := hy.l
        obtain ⟨p1, p2, p3⟩ := hy.parts
        have sy := hy.sm
        simp only [D0, ains, clsOf, abin, aint, aun, dnext, rowsOf, loadObj, cellsOf, ofCells, bnd, hmerge, Nat.reduceBEq, Nat.reduceAdd, reduceIte, Nat.reduceEqDiff, Nat.reduceLeDiff, Int.reduceEq, reduceCtorEq, Int.reduceBEq, Int.reduceBNe, Int.reduceLT, Int.reduceNeg, @use_all q3 81 k81.ora rfl, e81, @use_all q3 24 k24.ora rfl, e24, hFi, hf1, hfi, hpos, hp0, hcp, hco, hz1, htk, hl2, eTr1, ny, ky, h4, sy, p1, p2, p3, fz, fzd, Int.le_refl, Int.reduceToNat, Nat.le_add_left, Nat.le_refl, List.length_map]
        refine .inl ⟨by omega, O, a :: b :: R, _, _, ⟨rfl, rfl⟩, rfl, ?_, .inl ⟨_, by congr 1; simp; omega, by simp, by simp [fget, eTr1]⟩, ?_, ?_, ?_⟩
        · simp [fget, hf1, hF]
        · rw [← hO]; simp [mems]
        · simp only [sumZ, List.map_cons, List.sum_cons, sz] at hs ⊢; omega
        · intro u hu
          simp only [List.mem_cons] at hu
          rcases hu with rfl | rfl | hu
          · exact o1
          · exact o2
          · exact hR u hu
      · have m4 := beq_no h4
        have hm := mems_one h4
        simp only [D0, ains, clsOf, abin, aint, aun, dnext, rowsOf, loadObj, cellsOf, ofCells, bnd, hmerge, Nat.reduceBEq, Nat.reduceAdd, reduceIte, Nat.reduceEqDiff, Nat.reduceLeDiff, Int.reduceEq, reduceCtorEq, Int.reduceBEq, Int.reduceBNe, Int.reduceLT, Int.reduceNeg, @use_all q3 81 k81.ora rfl, e81, @use_all q3 24 k24.ora rfl, e24, hFi, hf1, hfi, hpos, hp0, hcp, hco, hz1, htk, hl2, eTr1, ny, ky, m4, fz, fzd, hF, Int.le_refl, Int.reduceToNat, Nat.le_add_left, Nat.le_refl, List.length_map]
        refine .inl ⟨by omega, O ++ [y], R, _, _, ⟨by simp, rfl⟩, rfl, ?_, .inr rfl, ?_, ?_, hR⟩
        · simp [fget, fget_fset, hF, hid, eTr1]
        · rw [← hO]; simp [hm]
        · simp only [sumZ]; omega
    · by_cases h4 : rk y = 4
      · obtain ⟨a, b, rfl⟩ := rk_alt hy.1 h4
        obtain ⟨o1, o2⟩ := hy.l
        obtain ⟨p1, p2, p3⟩ := hy.parts
        have sy := hy.sm
        simp only [D0, ains, clsOf, abin, aint, aun, dnext, rowsOf, loadObj, cellsOf, ofCells, bnd, hmerge, Nat.reduceBEq, Nat.reduceAdd, reduceIte, Nat.reduceEqDiff, Nat.reduceLeDiff, Int.reduceEq, reduceCtorEq, Int.reduceBEq, Int.reduceBNe, Int.reduceLT, Int.reduceNeg, @use_all q3 81 k81.ora rfl, e81, @use_all q3 24 k24.ora rfl, e24, hpos, hp0, hcp, hco, hz1, htk, hl2, eTr1, ny, ky, h4, sy, p1, p2, p3, fz, fzd, Int.le_refl, Int.reduceToNat, Nat.le_add_left, Nat.le_refl, List.length_map]
        refine .inl ⟨by omega, O, a :: b :: R, _, _, ⟨rfl, rfl⟩, rfl, ?_, .inl ⟨_, by congr 1; simp; omega, by simp, by simp [fget, eTr1]⟩, ?_, ?_, ?_⟩
        · simp [fget, hF]
        · rw [← hO]; simp [mems]
        · simp only [sumZ, List.map_cons, List.sum_cons, sz] at hs ⊢; omega
        · intro u hu
          simp only [List.mem_cons] at hu
          rcases hu with rfl | rfl | hu
          · exact o1
          · exact o2
          · exact hR u hu
      · have m4 := beq_no h4
        have hm := mems_one h4
        simp only [D0, ains, clsOf, abin, aint, aun, dnext, rowsOf, loadObj, cellsOf, ofCells, bnd, hmerge, Nat.reduceBEq, Nat.reduceAdd, reduceIte, Nat.reduceEqDiff, Nat.reduceLeDiff, Int.reduceEq, reduceCtorEq, Int.reduceBEq, Int.reduceBNe, Int.reduceLT, Int.reduceNeg, @use_all q3 81 k81.ora rfl, e81, @use_all q3 24 k24.ora rfl, e24, hpos, hp0, hcp, hco, hz1, htk, hl2, eTr1, ny, ky, m4, fz, fzd, hF, Int.le_refl, Int.reduceToNat, Nat.le_add_left, Nat.le_refl, List.length_map]
        refine .inl ⟨by omega, O ++ [y], R, _, _, ⟨by simp, rfl⟩, rfl, ?_, .inr rfl, ?_, ?_, hR⟩
        · simp [fget, fget_fset, hF, eTr1]
        · rw [← hO]; simp [hm]
        · simp only [sumZ]; omega
noncomputable def k200083 : KonO (List Nd) := ⟨fun x => SmS x ∧ goodT x = true, fun x => [(AV.list 5 (List.map eNd x))], 23, 1, fun x => List.map eTr1 (mems (dec x))⟩
theorem e200083 (t : List Nd) (hd : SmS t ∧ goodT t = true) (q0 : Id) (H0 : Heap) : k200083.ora q0 ([(AV.list 5 (List.map eNd t))]) H0 = some (.own (q0 ++ [0]) (List.map eTr1 (mems (dec t))).length, hadd H0 (q0 ++ [0]) (.row true true 23 1 (List.map eTr1 (mems (dec t))))) := k200083.eq (treeInj) (t) hd q0 H0
theorem ook200083 : OraOK Try.prog (200083 % 100000) k200083.ora := k200083.ok orders q3_ok (fun x hd => by simp [k200083, PU]) (fun x hd => by dsimp only [k200083]; simp only [PU, pureL_eTr1]) (fun x hd => run83 x hd)

noncomputable def q4 : FT := upd q3 83 k200083.ora
theorem q4_ok : FTOK Try.prog q4 := upd_ok2 (f := 83) q3_ok ook200083
end Go.Proofs.Abs
