/- A part of a proof: the text that states the row tells what is proved. No condition is laid on anything. -/
import Derived.Test.YtgcncpedpjjjeaaAbsE4
set_option linter.all false
set_option linter.constructorNameAsVariable false
set_option linter.defProp false
set_option linter.unusedVariables false
set_option linter.unusedSimpArgs false
set_option maxRecDepth 100000
set_option maxHeartbeats 4000000
namespace Go.Proofs.Abs
open Go
/-! 36: caesuraref11.Begin. -/
theorem run36 (t : List Nd) (hw : WfT t) (hl : t.length ≤ 40000) : cwp t5 36 [] [eTree t] [] (fun r H => r = .list 1 (eNats (begL t)) ∧ H = []) := by
  refine run_fn (fn := fn36) rfl rfl ?_
  simp only [fn36_body, c36, eTree, eSet, D0, ains, clsOf, abin, aint, aun, dnext, rowsOf, loadObj, cellsOf, ofCells, bnd, hmerge, Nat.reduceBEq, Nat.reduceAdd, reduceIte, Nat.reduceEqDiff, Nat.reduceLeDiff, Int.reduceEq, reduceCtorEq, Int.reduceBEq, Int.reduceBNe, Int.reduceLT, Int.reduceNeg]
  refine lg_rule (fun j e H => ∃ out : List Nat, out.length = j ∧ begsFrom out (t.drop j) = begs t ∧ (∀ i, i < j → out.getD i 0 ≤ i) ∧
    e = [(0, eTree t), (2, .own [0] 0), (3, .own [1] j), (4, .int .i64 j)] ∧
    H = [[([1], .row true true 3 1 (eNats out)), ([0], .row true true 3 1 [])]] ∧ j ≤ t.length) t.length ?_ ?_
  · exact ⟨[], rfl, rfl, by simp, rfl, rfl, by simp⟩
  rintro j e H ⟨out, ho, hbf, hle, rfl, rfl, hj⟩
  simp only [eTree, D0, ains, clsOf, abin, aint, aun, dnext, rowsOf, loadObj, cellsOf, ofCells, bnd, hmerge, Nat.reduceBEq, Nat.reduceAdd, reduceIte, Nat.reduceEqDiff, Nat.reduceLeDiff, Int.reduceEq, reduceCtorEq, Int.reduceBEq, Int.reduceBNe, Int.reduceLT, Int.reduceNeg]
  by_cases h : j < t.length
  · have h' : (j : Int) < (t.length : Int) := by omega
    have hg := map_get (f := eNd) h default
    have hp := wrapp (j := j) (by omega)
    have hcap : (j + 1) * 8 ≤ 140737488355328 := by omega
    have hwn : WfN (t.getD j default) := hw.all _ (by
      rw [List.getD_eq_getElem?_getD, List.getElem?_eq_getElem h]
      exact List.getElem_mem h)
    rw [drop_cons h] at hbf
    generalize t.getD j default = n at hg hwn hbf
    have hsl := hwn.set.len
    have bad : stepB out n = none → begs t = none := fun h1 => by rw [← hbf, begsFrom, h1]
    have good : ∀ v, stepB out n = some v → begsFrom (out ++ [v]) (t.drop (j + 1)) = begs t := fun v h1 => by rw [← hbf, begsFrom, h1]
    obtain ⟨k, a, b, c, z⟩ := n
    simp only at hsl hwn
    by_cases hk2 : k = 2
    · have hf : ¬ isFork ⟨k, a, b, c, z⟩ = true := by simp [isFork, hk2]
      have hk5 : ¬ k = 5 := by omega
      by_cases ha : a = 0
      · by_cases hb : b = 0
        · by_cases hc : c.length = 0
          · have hc' : ((c.length : Int) == 0) = true := by simp [hc]
            have hs : stepB out ⟨k, a, b, c, z⟩ = none := by
              unfold stepB
              rw [if_neg hf, if_neg hk5, if_neg (by simp [leafN, hk2, hc])]
            have hb0 := bad hs
            clear hbf good bad hs
            simp only [D0, ains, clsOf, abin, aint, aun, dnext, rowsOf, loadObj, cellsOf, ofCells, bnd, hmerge, Nat.reduceBEq, Nat.reduceAdd, reduceIte, Nat.reduceEqDiff, Nat.reduceLeDiff, Int.reduceEq, reduceCtorEq, Int.reduceBEq, Int.reduceBNe, Int.reduceLT, Int.reduceNeg, @use_all t5 57 k57.ora rfl, e57, h', hg, eNd, eSet, decide_true, decide_false, Int.natCast_nonneg, Int.toNat_natCast, hk2, ha, hb, hc']
            all_goals simp only [F1, bodyRes, one, ains, clsOf, abin, aint, aun, dnext, rowsOf, loadObj, cellsOf, ofCells, bnd, hmerge, Nat.reduceBEq, Nat.reduceAdd, reduceIte, Nat.reduceEqDiff, Nat.reduceLeDiff, Int.reduceEq, reduceCtorEq, Int.reduceBEq, Int.reduceBNe, Int.reduceLT, Int.reduceNeg, fn36_res, fn36_keep, fz, fzd, fzd.fzcells, begL_none hb0, eNats_nil]
          · have hc' : ((c.length : Int) == 0) = false := by simp only [beq_eq_false_iff_ne]; omega
            by_cases hgo : goodS c = true
            · have hs : stepB out ⟨k, a, b, c, z⟩ = some (j) := by
                unfold stepB
                rw [if_neg hf, if_neg hk5, if_pos (by simp [leafN, hk2, ha, hb, hgo]; omega), ho]
              have hgood := good _ hs
              clear hbf good bad hs
              simp only [D0, ains, clsOf, abin, aint, aun, dnext, rowsOf, loadObj, cellsOf, ofCells, bnd, hmerge, Nat.reduceBEq, Nat.reduceAdd, reduceIte, Nat.reduceEqDiff, Nat.reduceLeDiff, Int.reduceEq, reduceCtorEq, Int.reduceBEq, Int.reduceBNe, Int.reduceLT, Int.reduceNeg, @use_all t5 57 k57.ora rfl, e57, h', hg, eNd, eSet, decide_true, decide_false, Int.natCast_nonneg, Int.toNat_natCast, hk2, ha, hb, hc', hsl, hgo, hp, ho, hcap]
              all_goals simp only [F1, bodyRes, one, ains, clsOf, abin, aint, aun, dnext, rowsOf, loadObj, cellsOf, ofCells, bnd, hmerge, Nat.reduceBEq, Nat.reduceAdd, reduceIte, Nat.reduceEqDiff, Nat.reduceLeDiff, Int.reduceEq, reduceCtorEq, Int.reduceBEq, Int.reduceBNe, Int.reduceLT, Int.reduceNeg]
              all_goals exact ⟨h, out ++ [j], by simp [ho], hgood, app_le ho hle (by omega), rfl, h⟩
            · have hgo' : goodS c = false := by simpa using hgo
              have hs : stepB out ⟨k, a, b, c, z⟩ = none := by
                unfold stepB
                rw [if_neg hf, if_neg hk5, if_neg (by simp [leafN, hk2, hgo'])]
              have hb0 := bad hs
              clear hbf good bad hs
              simp only [D0, ains, clsOf, abin, aint, aun, dnext, rowsOf, loadObj, cellsOf, ofCells, bnd, hmerge, Nat.reduceBEq, Nat.reduceAdd, reduceIte, Nat.reduceEqDiff, Nat.reduceLeDiff, Int.reduceEq, reduceCtorEq, Int.reduceBEq, Int.reduceBNe, Int.reduceLT, Int.reduceNeg, @use_all t5 57 k57.ora rfl, e57, h', hg, eNd, eSet, decide_true, decide_false, Int.natCast_nonneg, Int.toNat_natCast, hk2, ha, hb, hc', hsl, hgo']
              all_goals simp only [F1, bodyRes, one, ains, clsOf, abin, aint, aun, dnext, rowsOf, loadObj, cellsOf, ofCells, bnd, hmerge, Nat.reduceBEq, Nat.reduceAdd, reduceIte, Nat.reduceEqDiff, Nat.reduceLeDiff, Int.reduceEq, reduceCtorEq, Int.reduceBEq, Int.reduceBNe, Int.reduceLT, Int.reduceNeg, fn36_res, fn36_keep, fz, fzd, fzd.fzcells, begL_none hb0, eNats_nil]
        · have hb' : (b != 0) = true := by simpa using hb
          have hs : stepB out ⟨k, a, b, c, z⟩ = none := by
            unfold stepB
            rw [if_neg hf, if_neg hk5, if_neg (by simp [leafN, hb])]
          have hb0 := bad hs
          clear hbf good bad hs
          simp only [D0, ains, clsOf, abin, aint, aun, dnext, rowsOf, loadObj, cellsOf, ofCells, bnd, hmerge, Nat.reduceBEq, Nat.reduceAdd, reduceIte, Nat.reduceEqDiff, Nat.reduceLeDiff, Int.reduceEq, reduceCtorEq, Int.reduceBEq, Int.reduceBNe, Int.reduceLT, Int.reduceNeg, @use_all t5 57 k57.ora rfl, e57, h', hg, eNd, eSet, decide_true, decide_false, Int.natCast_nonneg, Int.toNat_natCast, hk2, ha, hb']
          all_goals simp only [F1, bodyRes, one, ains, clsOf, abin, aint, aun, dnext, rowsOf, loadObj, cellsOf, ofCells, bnd, hmerge, Nat.reduceBEq, Nat.reduceAdd, reduceIte, Nat.reduceEqDiff, Nat.reduceLeDiff, Int.reduceEq, reduceCtorEq, Int.reduceBEq, Int.reduceBNe, Int.reduceLT, Int.reduceNeg, fn36_res, fn36_keep, fz, fzd, fzd.fzcells, begL_none hb0, eNats_nil]
      · have ha' : (a != 0) = true := by simpa using ha
        have hs : stepB out ⟨k, a, b, c, z⟩ = none := by
          unfold stepB
          rw [if_neg hf, if_neg hk5, if_neg (by simp [leafN, ha])]
        have hb0 := bad hs
        clear hbf good bad hs
        simp only [D0, ains, clsOf, abin, aint, aun, dnext, rowsOf, loadObj, cellsOf, ofCells, bnd, hmerge, Nat.reduceBEq, Nat.reduceAdd, reduceIte, Nat.reduceEqDiff, Nat.reduceLeDiff, Int.reduceEq, reduceCtorEq, Int.reduceBEq, Int.reduceBNe, Int.reduceLT, Int.reduceNeg, @use_all t5 57 k57.ora rfl, e57, h', hg, eNd, eSet, decide_true, decide_false, Int.natCast_nonneg, Int.toNat_natCast, hk2, ha']
        all_goals simp only [F1, bodyRes, one, ains, clsOf, abin, aint, aun, dnext, rowsOf, loadObj, cellsOf, ofCells, bnd, hmerge, Nat.reduceBEq, Nat.reduceAdd, reduceIte, Nat.reduceEqDiff, Nat.reduceLeDiff, Int.reduceEq, reduceCtorEq, Int.reduceBEq, Int.reduceBNe, Int.reduceLT, Int.reduceNeg, fn36_res, fn36_keep, fz, fzd, fzd.fzcells, begL_none hb0, eNats_nil]
    · have hk2' : (k != 2) = true := by simpa using hk2
      by_cases hc : c.length = 0
      · have hc' : ¬ (c.length : Int) > 0 := by omega
        by_cases hz : z.size = 0
        · have hbr : ∀ k a b, bareN ⟨k, a, b, c, z⟩ = true := fun _ _ _ => by simp [bareN, hc, hz]
          by_cases hk01 : k = 0 ∨ k = 1
          · have hf : ¬ isFork ⟨k, a, b, c, z⟩ = true := by rcases hk01 with rfl | rfl <;> simp [isFork]
            have hk5 : ¬ k = 5 := by omega
            by_cases ha : a = 0
            · by_cases hb : b = 0
              · have hs : stepB out ⟨k, a, b, c, z⟩ = some (j) := by
                  unfold stepB
                  rw [if_neg hf, if_neg hk5, if_pos (by rcases hk01 with rfl | rfl <;> simp [leafN, ha, hb, hbr]), ho]
                have hgood := good _ hs
                clear hbf good bad hs
                rcases hk01 with hk | hk <;> simp only [D0, ains, clsOf, abin, aint, aun, dnext, rowsOf, loadObj, cellsOf, ofCells, bnd, hmerge, Nat.reduceBEq, Nat.reduceAdd, reduceIte, Nat.reduceEqDiff, Nat.reduceLeDiff, Int.reduceEq, reduceCtorEq, Int.reduceBEq, Int.reduceBNe, Int.reduceLT, Int.reduceNeg, @use_all t5 57 k57.ora rfl, e57, h', hg, eNd, eSet, decide_true, decide_false, Int.natCast_nonneg, Int.toNat_natCast, hk, hc', hz, ha, hb, hp, ho, hcap]
                all_goals simp only [F1, bodyRes, one, ains, clsOf, abin, aint, aun, dnext, rowsOf, loadObj, cellsOf, ofCells, bnd, hmerge, Nat.reduceBEq, Nat.reduceAdd, reduceIte, Nat.reduceEqDiff, Nat.reduceLeDiff, Int.reduceEq, reduceCtorEq, Int.reduceBEq, Int.reduceBNe, Int.reduceLT, Int.reduceNeg]
                all_goals exact ⟨h, out ++ [j], by simp [ho], hgood, app_le ho hle (by omega), rfl, h⟩
              · have hb' : (b != 0) = true := by simpa using hb
                have hs : stepB out ⟨k, a, b, c, z⟩ = none := by
                  unfold stepB
                  rw [if_neg hf, if_neg hk5, if_neg (by simp [leafN, hb])]
                have hb0 := bad hs
                clear hbf good bad hs
                rcases hk01 with hk | hk <;> simp only [D0, ains, clsOf, abin, aint, aun, dnext, rowsOf, loadObj, cellsOf, ofCells, bnd, hmerge, Nat.reduceBEq, Nat.reduceAdd, reduceIte, Nat.reduceEqDiff, Nat.reduceLeDiff, Int.reduceEq, reduceCtorEq, Int.reduceBEq, Int.reduceBNe, Int.reduceLT, Int.reduceNeg, @use_all t5 57 k57.ora rfl, e57, h', hg, eNd, eSet, decide_true, decide_false, Int.natCast_nonneg, Int.toNat_natCast, hk, hc', hz, ha, hb']
                all_goals simp only [F1, bodyRes, one, ains, clsOf, abin, aint, aun, dnext, rowsOf, loadObj, cellsOf, ofCells, bnd, hmerge, Nat.reduceBEq, Nat.reduceAdd, reduceIte, Nat.reduceEqDiff, Nat.reduceLeDiff, Int.reduceEq, reduceCtorEq, Int.reduceBEq, Int.reduceBNe, Int.reduceLT, Int.reduceNeg, fn36_res, fn36_keep, fz, fzd, fzd.fzcells, begL_none hb0, eNats_nil]
            · have ha' : (a != 0) = true := by simpa using ha
              have hs : stepB out ⟨k, a, b, c, z⟩ = none := by
                unfold stepB
                rw [if_neg hf, if_neg hk5, if_neg (by simp [leafN, ha])]
              have hb0 := bad hs
              clear hbf good bad hs
              rcases hk01 with hk | hk <;> simp only [D0, ains, clsOf, abin, aint, aun, dnext, rowsOf, loadObj, cellsOf, ofCells, bnd, hmerge, Nat.reduceBEq, Nat.reduceAdd, reduceIte, Nat.reduceEqDiff, Nat.reduceLeDiff, Int.reduceEq, reduceCtorEq, Int.reduceBEq, Int.reduceBNe, Int.reduceLT, Int.reduceNeg, @use_all t5 57 k57.ora rfl, e57, h', hg, eNd, eSet, decide_true, decide_false, Int.natCast_nonneg, Int.toNat_natCast, hk, hc', hz, ha']
              all_goals simp only [F1, bodyRes, one, ains, clsOf, abin, aint, aun, dnext, rowsOf, loadObj, cellsOf, ofCells, bnd, hmerge, Nat.reduceBEq, Nat.reduceAdd, reduceIte, Nat.reduceEqDiff, Nat.reduceLeDiff, Int.reduceEq, reduceCtorEq, Int.reduceBEq, Int.reduceBNe, Int.reduceLT, Int.reduceNeg, fn36_res, fn36_keep, fz, fzd, fzd.fzcells, begL_none hb0, eNats_nil]
          · have hk0 : (k == 0) = false := by simp only [beq_eq_false_iff_ne]; omega
            have hk1 : (k == 1) = false := by simp only [beq_eq_false_iff_ne]; omega
            have hk2'' : (k == 2) = false := by simp only [beq_eq_false_iff_ne]; omega
            by_cases hk5 : k = 5
            · have hf : ¬ isFork ⟨k, a, b, c, z⟩ = true := by simp [isFork, hk5]
              by_cases h1 : j = 0
              · have h1' : ((j : Int) == 0) = true := by simp [h1]
                have hs : stepB out ⟨k, a, b, c, z⟩ = none := by
                  unfold stepB
                  rw [if_neg hf, if_pos hk5, if_neg (by omega)]
                have hb0 := bad hs
                clear hbf good bad hs
                simp only [D0, ains, clsOf, abin, aint, aun, dnext, rowsOf, loadObj, cellsOf, ofCells, bnd, hmerge, Nat.reduceBEq, Nat.reduceAdd, reduceIte, Nat.reduceEqDiff, Nat.reduceLeDiff, Int.reduceEq, reduceCtorEq, Int.reduceBEq, Int.reduceBNe, Int.reduceLT, Int.reduceNeg, @use_all t5 57 k57.ora rfl, e57, h', hg, eNd, eSet, decide_true, decide_false, Int.natCast_nonneg, Int.toNat_natCast, hk5, hc', hz, h1']
                all_goals simp only [F1, bodyRes, one, ains, clsOf, abin, aint, aun, dnext, rowsOf, loadObj, cellsOf, ofCells, bnd, hmerge, Nat.reduceBEq, Nat.reduceAdd, reduceIte, Nat.reduceEqDiff, Nat.reduceLeDiff, Int.reduceEq, reduceCtorEq, Int.reduceBEq, Int.reduceBNe, Int.reduceLT, Int.reduceNeg, fn36_res, fn36_keep, fz, fzd, fzd.fzcells, begL_none hb0, eNats_nil]
              · have h1' : ((j : Int) == 0) = false := by simp only [beq_eq_false_iff_ne]; omega
                have hm := wrapm (j := j) (by omega) (by omega)
                by_cases h3 : a = ((j - 1 : Nat) : Int)
                · by_cases h4 : b = 0
                  · have hgb := eNats_get (l := out) (i := j - 1) (by omega)
                    have hbl : ((j - 1 : Nat) : Int) < (j : Int) := by omega
                    have hle1 := hle (j - 1) (by omega)
                    have hs : stepB out ⟨k, a, b, c, z⟩ = some (out.getD (j - 1) 0) := by
                      unfold stepB
                      rw [if_neg hf, if_pos hk5, if_pos ⟨by omega, by simp only; omega, h4, hbr _ _ _⟩]
                      simp only [h3, Int.toNat_natCast]
                    have hgood := good _ hs
                    clear hbf good bad hs
                    simp only [D0, ains, clsOf, abin, aint, aun, dnext, rowsOf, loadObj, cellsOf, ofCells, bnd, hmerge, Nat.reduceBEq, Nat.reduceAdd, reduceIte, Nat.reduceEqDiff, Nat.reduceLeDiff, Int.reduceEq, reduceCtorEq, Int.reduceBEq, Int.reduceBNe, Int.reduceLT, Int.reduceNeg, @use_all t5 57 k57.ora rfl, e57, h', hg, eNd, eSet, decide_true, decide_false, Int.natCast_nonneg, Int.toNat_natCast, hk5, hc', hz, h1', h3, h4, hm, hgb, hbl, hp, ho, hcap]
                    all_goals simp only [F1, bodyRes, one, ains, clsOf, abin, aint, aun, dnext, rowsOf, loadObj, cellsOf, ofCells, bnd, hmerge, Nat.reduceBEq, Nat.reduceAdd, reduceIte, Nat.reduceEqDiff, Nat.reduceLeDiff, Int.reduceEq, reduceCtorEq, Int.reduceBEq, Int.reduceBNe, Int.reduceLT, Int.reduceNeg]
                    all_goals exact ⟨h, out ++ [out.getD (j - 1) 0], by simp [ho], hgood, app_le ho hle (by omega), rfl, h⟩
                  · have h4' : (b != 0) = true := by simpa using h4
                    have hs : stepB out ⟨k, a, b, c, z⟩ = none := by
                      unfold stepB
                      rw [if_neg hf, if_pos hk5, if_neg (by rintro ⟨_, _, h7, _⟩; exact h4 h7)]
                    have hb0 := bad hs
                    clear hbf good bad hs
                    simp only [D0, ains, clsOf, abin, aint, aun, dnext, rowsOf, loadObj, cellsOf, ofCells, bnd, hmerge, Nat.reduceBEq, Nat.reduceAdd, reduceIte, Nat.reduceEqDiff, Nat.reduceLeDiff, Int.reduceEq, reduceCtorEq, Int.reduceBEq, Int.reduceBNe, Int.reduceLT, Int.reduceNeg, @use_all t5 57 k57.ora rfl, e57, h', hg, eNd, eSet, decide_true, decide_false, Int.natCast_nonneg, Int.toNat_natCast, hk5, hc', hz, h1', h3, h4', hm]
                    all_goals simp only [F1, bodyRes, one, ains, clsOf, abin, aint, aun, dnext, rowsOf, loadObj, cellsOf, ofCells, bnd, hmerge, Nat.reduceBEq, Nat.reduceAdd, reduceIte, Nat.reduceEqDiff, Nat.reduceLeDiff, Int.reduceEq, reduceCtorEq, Int.reduceBEq, Int.reduceBNe, Int.reduceLT, Int.reduceNeg, fn36_res, fn36_keep, fz, fzd, fzd.fzcells, begL_none hb0, eNats_nil]
                · have h3' : (a != ((j - 1 : Nat) : Int)) = true := by simpa using h3
                  have hs : stepB out ⟨k, a, b, c, z⟩ = none := by
                    unfold stepB
                    rw [if_neg hf, if_pos hk5, if_neg (by rintro ⟨_, h7, _⟩; simp only at h7; omega)]
                  have hb0 := bad hs
                  clear hbf good bad hs
                  simp only [D0, ains, clsOf, abin, aint, aun, dnext, rowsOf, loadObj, cellsOf, ofCells, bnd, hmerge, Nat.reduceBEq, Nat.reduceAdd, reduceIte, Nat.reduceEqDiff, Nat.reduceLeDiff, Int.reduceEq, reduceCtorEq, Int.reduceBEq, Int.reduceBNe, Int.reduceLT, Int.reduceNeg, @use_all t5 57 k57.ora rfl, e57, h', hg, eNd, eSet, decide_true, decide_false, Int.natCast_nonneg, Int.toNat_natCast, hk5, hc', hz, h1', h3', hm]
                  all_goals simp only [F1, bodyRes, one, ains, clsOf, abin, aint, aun, dnext, rowsOf, loadObj, cellsOf, ofCells, bnd, hmerge, Nat.reduceBEq, Nat.reduceAdd, reduceIte, Nat.reduceEqDiff, Nat.reduceLeDiff, Int.reduceEq, reduceCtorEq, Int.reduceBEq, Int.reduceBNe, Int.reduceLT, Int.reduceNeg, fn36_res, fn36_keep, fz, fzd, fzd.fzcells, begL_none hb0, eNats_nil]
            · have hk5' : (k == 5) = false := by simpa using hk5
              by_cases hf : isFork ⟨k, a, b, c, z⟩ = true
              · have hk : k = 3 ∨ k = 4 := by simpa [isFork] using hf
                by_cases h2 : j < 2
                · have h2' : (j : Int) < 2 := by omega
                  have hs : stepB out ⟨k, a, b, c, z⟩ = none := by
                    unfold stepB
                    rw [if_pos hf, if_neg (by omega)]
                  have hb0 := bad hs
                  clear hbf good bad hs
                  rcases hk with hk | hk <;> simp only [D0, ains, clsOf, abin, aint, aun, dnext, rowsOf, loadObj, cellsOf, ofCells, bnd, hmerge, Nat.reduceBEq, Nat.reduceAdd, reduceIte, Nat.reduceEqDiff, Nat.reduceLeDiff, Int.reduceEq, reduceCtorEq, Int.reduceBEq, Int.reduceBNe, Int.reduceLT, Int.reduceNeg, @use_all t5 57 k57.ora rfl, e57, h', hg, eNd, eSet, decide_true, decide_false, Int.natCast_nonneg, Int.toNat_natCast, hk, hc', hz, h2']
                  all_goals simp only [F1, bodyRes, one, ains, clsOf, abin, aint, aun, dnext, rowsOf, loadObj, cellsOf, ofCells, bnd, hmerge, Nat.reduceBEq, Nat.reduceAdd, reduceIte, Nat.reduceEqDiff, Nat.reduceLeDiff, Int.reduceEq, reduceCtorEq, Int.reduceBEq, Int.reduceBNe, Int.reduceLT, Int.reduceNeg, fn36_res, fn36_keep, fz, fzd, fzd.fzcells, begL_none hb0, eNats_nil]
                · have h2' : ¬ (j : Int) < 2 := by omega
                  have hm := wrapm (j := j) (by omega) (by omega)
                  by_cases h3 : b = ((j - 1 : Nat) : Int)
                  · have hgb := eNats_get (l := out) (i := j - 1) (by omega)
                    have hbl : ((j - 1 : Nat) : Int) < (j : Int) := by omega
                    have hle1 := hle (j - 1) (by omega)
                    by_cases h5 : 1 ≤ out.getD (j - 1) 0
                    · obtain ⟨o, ho2⟩ : ∃ o : Nat, out.getD (j - 1) 0 = o + 1 := ⟨out.getD (j - 1) 0 - 1, by omega⟩
                      rw [ho2] at hgb hle1
                      have hw2 : IntKind.i64.wrap (((o + 1 : Nat) : Int) - 1) = (o : Int) := by
                        rw [wrap64 (by omega) (by omega)]; omega
                      have hnn : ¬ ((o + 1 : Nat) : Int) < 1 := by omega
                      by_cases h4 : a = (o : Int)
                      · have hol : (o : Int) < (j : Int) := by omega
                        have hga := eNats_get (l := out) (i := o) (by omega)
                        have hoo := hle o (by omega)
                        have hs : stepB out ⟨k, a, b, c, z⟩ = some (out.getD o 0) := by
                          unfold stepB
                          rw [if_pos hf, if_pos ⟨by omega, by simp only; omega, by rw [ho, ho2]; omega, by simp only; rw [ho, ho2]; omega, hbr _ _ _⟩]
                          simp only [h4, Int.toNat_natCast]
                        have hgood := good _ hs
                        clear hbf good bad hs
                        rcases hk with hk | hk <;> simp only [D0, ains, clsOf, abin, aint, aun, dnext, rowsOf, loadObj, cellsOf, ofCells, bnd, hmerge, Nat.reduceBEq, Nat.reduceAdd, reduceIte, Nat.reduceEqDiff, Nat.reduceLeDiff, Int.reduceEq, reduceCtorEq, Int.reduceBEq, Int.reduceBNe, Int.reduceLT, Int.reduceNeg, @use_all t5 57 k57.ora rfl, e57, h', hg, eNd, eSet, decide_true, decide_false, Int.natCast_nonneg, Int.toNat_natCast, hk, hc', hz, h2', h3, h4, hm, hgb, hbl, hw2, hnn, hol, hga, ho, hp, ho, hcap]
                        all_goals simp only [F1, bodyRes, one, ains, clsOf, abin, aint, aun, dnext, rowsOf, loadObj, cellsOf, ofCells, bnd, hmerge, Nat.reduceBEq, Nat.reduceAdd, reduceIte, Nat.reduceEqDiff, Nat.reduceLeDiff, Int.reduceEq, reduceCtorEq, Int.reduceBEq, Int.reduceBNe, Int.reduceLT, Int.reduceNeg]
                        all_goals exact ⟨h, out ++ [out.getD o 0], by simp [ho], hgood, app_le ho hle (by omega), rfl, h⟩
                      · have h4' : (a != (o : Int)) = true := by simpa using h4
                        have hs : stepB out ⟨k, a, b, c, z⟩ = none := by
                          unfold stepB
                          rw [if_pos hf, if_neg (by rintro ⟨_, _, _, h7, _⟩; rw [ho, ho2] at h7; simp only at h7; omega)]
                        have hb0 := bad hs
                        clear hbf good bad hs
                        rcases hk with hk | hk <;> simp only [D0, ains, clsOf, abin, aint, aun, dnext, rowsOf, loadObj, cellsOf, ofCells, bnd, hmerge, Nat.reduceBEq, Nat.reduceAdd, reduceIte, Nat.reduceEqDiff, Nat.reduceLeDiff, Int.reduceEq, reduceCtorEq, Int.reduceBEq, Int.reduceBNe, Int.reduceLT, Int.reduceNeg, @use_all t5 57 k57.ora rfl, e57, h', hg, eNd, eSet, decide_true, decide_false, Int.natCast_nonneg, Int.toNat_natCast, hk, hc', hz, h2', h3, h4', hm, hgb, hbl, hw2, hnn, ho]
                        all_goals simp only [F1, bodyRes, one, ains, clsOf, abin, aint, aun, dnext, rowsOf, loadObj, cellsOf, ofCells, bnd, hmerge, Nat.reduceBEq, Nat.reduceAdd, reduceIte, Nat.reduceEqDiff, Nat.reduceLeDiff, Int.reduceEq, reduceCtorEq, Int.reduceBEq, Int.reduceBNe, Int.reduceLT, Int.reduceNeg, fn36_res, fn36_keep, fz, fzd, fzd.fzcells, begL_none hb0, eNats_nil]
                    · have h5' : ((out.getD (j - 1) 0 : Nat) : Int) < 1 := by omega
                      have hs : stepB out ⟨k, a, b, c, z⟩ = none := by
                        unfold stepB
                        rw [if_pos hf, if_neg (by rintro ⟨_, _, h7, _, _⟩; rw [ho] at h7; omega)]
                      have hb0 := bad hs
                      clear hbf good bad hs
                      rcases hk with hk | hk <;> simp only [D0, ains, clsOf, abin, aint, aun, dnext, rowsOf, loadObj, cellsOf, ofCells, bnd, hmerge, Nat.reduceBEq, Nat.reduceAdd, reduceIte, Nat.reduceEqDiff, Nat.reduceLeDiff, Int.reduceEq, reduceCtorEq, Int.reduceBEq, Int.reduceBNe, Int.reduceLT, Int.reduceNeg, @use_all t5 57 k57.ora rfl, e57, h', hg, eNd, eSet, decide_true, decide_false, Int.natCast_nonneg, Int.toNat_natCast, hk, hc', hz, h2', h3, hm, hgb, hbl, h5', ho]
                      all_goals simp only [F1, bodyRes, one, ains, clsOf, abin, aint, aun, dnext, rowsOf, loadObj, cellsOf, ofCells, bnd, hmerge, Nat.reduceBEq, Nat.reduceAdd, reduceIte, Nat.reduceEqDiff, Nat.reduceLeDiff, Int.reduceEq, reduceCtorEq, Int.reduceBEq, Int.reduceBNe, Int.reduceLT, Int.reduceNeg, fn36_res, fn36_keep, fz, fzd, fzd.fzcells, begL_none hb0, eNats_nil]
                  · have h3' : (b != ((j - 1 : Nat) : Int)) = true := by simpa using h3
                    have hs : stepB out ⟨k, a, b, c, z⟩ = none := by
                      unfold stepB
                      rw [if_pos hf, if_neg (by rintro ⟨_, h7, _⟩; simp only at h7; omega)]
                    have hb0 := bad hs
                    clear hbf good bad hs
                    rcases hk with hk | hk <;> simp only [D0, ains, clsOf, abin, aint, aun, dnext, rowsOf, loadObj, cellsOf, ofCells, bnd, hmerge, Nat.reduceBEq, Nat.reduceAdd, reduceIte, Nat.reduceEqDiff, Nat.reduceLeDiff, Int.reduceEq, reduceCtorEq, Int.reduceBEq, Int.reduceBNe, Int.reduceLT, Int.reduceNeg, @use_all t5 57 k57.ora rfl, e57, h', hg, eNd, eSet, decide_true, decide_false, Int.natCast_nonneg, Int.toNat_natCast, hk, hc', hz, h2', h3', hm]
                    all_goals simp only [F1, bodyRes, one, ains, clsOf, abin, aint, aun, dnext, rowsOf, loadObj, cellsOf, ofCells, bnd, hmerge, Nat.reduceBEq, Nat.reduceAdd, reduceIte, Nat.reduceEqDiff, Nat.reduceLeDiff, Int.reduceEq, reduceCtorEq, Int.reduceBEq, Int.reduceBNe, Int.reduceLT, Int.reduceNeg, fn36_res, fn36_keep, fz, fzd, fzd.fzcells, begL_none hb0, eNats_nil]
              · have hk3 : (k == 3) = false := by simp [isFork] at hf; simp [hf]
                have hk4 : (k == 4) = false := by simp [isFork] at hf; simp [hf]
                have hs : stepB out ⟨k, a, b, c, z⟩ = none := by
                  unfold stepB
                  rw [if_neg hf, if_neg hk5, if_neg (by simp only [leafN, if_neg hk2]; simp; omega)]
                have hb0 := bad hs
                clear hbf good bad hs
                simp only [D0, ains, clsOf, abin, aint, aun, dnext, rowsOf, loadObj, cellsOf, ofCells, bnd, hmerge, Nat.reduceBEq, Nat.reduceAdd, reduceIte, Nat.reduceEqDiff, Nat.reduceLeDiff, Int.reduceEq, reduceCtorEq, Int.reduceBEq, Int.reduceBNe, Int.reduceLT, Int.reduceNeg, @use_all t5 57 k57.ora rfl, e57, h', hg, eNd, eSet, decide_true, decide_false, Int.natCast_nonneg, Int.toNat_natCast, hk2', hk0, hk1, hk2'', hk3, hk4, hk5', hc', hz]
                all_goals simp only [F1, bodyRes, one, ains, clsOf, abin, aint, aun, dnext, rowsOf, loadObj, cellsOf, ofCells, bnd, hmerge, Nat.reduceBEq, Nat.reduceAdd, reduceIte, Nat.reduceEqDiff, Nat.reduceLeDiff, Int.reduceEq, reduceCtorEq, Int.reduceBEq, Int.reduceBNe, Int.reduceLT, Int.reduceNeg, fn36_res, fn36_keep, fz, fzd, fzd.fzcells, begL_none hb0, eNats_nil]
        · have hz' : z.size ≠ 0 := hz
          have hs : stepB out ⟨k, a, b, c, z⟩ = none := by
            unfold stepB
            by_cases hf : isFork ⟨k, a, b, c, z⟩ = true
            · rw [if_pos hf, if_neg (by rintro ⟨_, _, _, _, h7⟩; simp [bareN, hz] at h7)]
            · rw [if_neg hf]
              by_cases hk5 : k = 5
              · rw [if_pos hk5, if_neg (by rintro ⟨_, _, _, h7⟩; simp [bareN, hz] at h7)]
              · rw [if_neg hk5, if_neg (by simp [leafN, hk2, bareN, hz])]
          have hb0 := bad hs
          clear hbf good bad hs
          simp only [D0, ains, clsOf, abin, aint, aun, dnext, rowsOf, loadObj, cellsOf, ofCells, bnd, hmerge, Nat.reduceBEq, Nat.reduceAdd, reduceIte, Nat.reduceEqDiff, Nat.reduceLeDiff, Int.reduceEq, reduceCtorEq, Int.reduceBEq, Int.reduceBNe, Int.reduceLT, Int.reduceNeg, @use_all t5 57 k57.ora rfl, e57, h', hg, eNd, eSet, decide_true, decide_false, Int.natCast_nonneg, Int.toNat_natCast, hk2', hc', hz]
          all_goals simp only [F1, bodyRes, one, ains, clsOf, abin, aint, aun, dnext, rowsOf, loadObj, cellsOf, ofCells, bnd, hmerge, Nat.reduceBEq, Nat.reduceAdd, reduceIte, Nat.reduceEqDiff, Nat.reduceLeDiff, Int.reduceEq, reduceCtorEq, Int.reduceBEq, Int.reduceBNe, Int.reduceLT, Int.reduceNeg, fn36_res, fn36_keep, fz, fzd, fzd.fzcells, begL_none hb0, eNats_nil]
      · have hc' : (c.length : Int) > 0 := by omega
        have hs : stepB out ⟨k, a, b, c, z⟩ = none := by
          unfold stepB
          by_cases hf : isFork ⟨k, a, b, c, z⟩ = true
          · rw [if_pos hf, if_neg (by rintro ⟨_, _, _, _, h7⟩; simp [bareN, hc] at h7)]
          · rw [if_neg hf]
            by_cases hk5 : k = 5
            · rw [if_pos hk5, if_neg (by rintro ⟨_, _, _, h7⟩; simp [bareN, hc] at h7)]
            · rw [if_neg hk5, if_neg (by simp [leafN, hk2, bareN, hc])]
        have hb0 := bad hs
        clear hbf good bad hs
        simp only [D0, ains, clsOf, abin, aint, aun, dnext, rowsOf, loadObj, cellsOf, ofCells, bnd, hmerge, Nat.reduceBEq, Nat.reduceAdd, reduceIte, Nat.reduceEqDiff, Nat.reduceLeDiff, Int.reduceEq, reduceCtorEq, Int.reduceBEq, Int.reduceBNe, Int.reduceLT, Int.reduceNeg, @use_all t5 57 k57.ora rfl, e57, h', hg, eNd, eSet, decide_true, decide_false, Int.natCast_nonneg, Int.toNat_natCast, hk2', hc']
        all_goals simp only [F1, bodyRes, one, ains, clsOf, abin, aint, aun, dnext, rowsOf, loadObj, cellsOf, ofCells, bnd, hmerge, Nat.reduceBEq, Nat.reduceAdd, reduceIte, Nat.reduceEqDiff, Nat.reduceLeDiff, Int.reduceEq, reduceCtorEq, Int.reduceBEq, Int.reduceBNe, Int.reduceLT, Int.reduceNeg, fn36_res, fn36_keep, fz, fzd, fzd.fzcells, begL_none hb0, eNats_nil]
  · have h' : ¬ (j : Int) < (t.length : Int) := by omega
    have hj2 : j = t.length := by omega
    subst hj2
    simp only [List.drop_length, begsFrom] at hbf
    simp only [D0, ains, clsOf, abin, aint, aun, dnext, rowsOf, loadObj, cellsOf, ofCells, bnd, hmerge, Nat.reduceBEq, Nat.reduceAdd, reduceIte, Nat.reduceEqDiff, Nat.reduceLeDiff, Int.reduceEq, reduceCtorEq, Int.reduceBEq, Int.reduceBNe, Int.reduceLT, Int.reduceNeg, h', decide_false]
    refine .inr ⟨by simp, ?_⟩
    simp only [F1, bodyRes, one, ains, clsOf, abin, aint, aun, dnext, rowsOf, loadObj, cellsOf, ofCells, bnd, hmerge, Nat.reduceBEq, Nat.reduceAdd, reduceIte, Nat.reduceEqDiff, Nat.reduceLeDiff, Int.reduceEq, reduceCtorEq, Int.reduceBEq, Int.reduceBNe, Int.reduceLT, Int.reduceNeg, fn36_res, fn36_keep, fz, fzd, fzd.fzcells, eNats_len, Nat.sub_self, List.replicate_zero, ho, begL_some hbf.symm, begB_some hbf.symm]
end Go.Proofs.Abs
