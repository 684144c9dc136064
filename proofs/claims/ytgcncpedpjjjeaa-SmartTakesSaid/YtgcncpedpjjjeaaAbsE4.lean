/- A part of a proof: the text that states the row tells what is proved. No condition is laid on anything. -/
import Derived.Test.YtgcncpedpjjjeaaAbsE3
set_option linter.all false
set_option linter.constructorNameAsVariable false
set_option linter.defProp false
set_option linter.unusedVariables false
set_option linter.unusedSimpArgs false
set_option maxRecDepth 100000
set_option maxHeartbeats 4000000
namespace Go.Proofs.Abs
open Go
def begL (t : List Nd) : List Nat := (begs t).getD []
def begB (t : List Nd) : Bool := (begs t).isSome
theorem begL_some {t : List Nd} {l : List Nat} (h : begs t = some l) : begL t = l := by simp [begL, h]
theorem begB_some {t : List Nd} {l : List Nat} (h : begs t = some l) : begB t = true := by simp [begB, h]
theorem begL_none {t : List Nd} (h : begs t = none) : begL t = [] := by simp [begL, h]
theorem begB_none {t : List Nd} (h : begs t = none) : begB t = false := by simp [begB, h]
theorem drop_cons {t : List Nd} {j : Nat} (h : j < t.length) : t.drop j = t.getD j default :: t.drop (j + 1) := by
  rw [List.drop_eq_getElem_cons h, List.getD_eq_getElem?_getD, List.getElem?_eq_getElem h]
  rfl
theorem pad_set {out : List Nat} {n j : Nat} (v : Nat) (ho : out.length = j) (h : j < n) : (out ++ List.replicate (n - j) 0).set j v = (out ++ [v]) ++ List.replicate (n - (j + 1)) 0 := by
  subst ho
  rw [List.set_append, if_neg (by omega), Nat.sub_self, List.append_assoc]
  have : n - out.length = (n - (out.length + 1)) + 1 := by omega
  rw [this, List.replicate_succ, List.set_cons_zero]
  rfl
theorem pad_get {out m : List Nat} {i : Nat} (h : i < out.length) : (out ++ m).getD i 0 = out.getD i 0 := by
  rw [List.getD_eq_getElem?_getD, List.getD_eq_getElem?_getD, List.getElem?_append_left h]
theorem app_le {out : List Nat} {j v : Nat} (ho : out.length = j) (hle : ∀ i, i < j → out.getD i 0 ≤ i) (hv : v ≤ j) : ∀ i, i < j + 1 → (out ++ [v]).getD i 0 ≤ i := by
  intro i hi
  by_cases e : i = j
  · subst e
    subst ho
    rw [List.getD_eq_getElem?_getD, List.getElem?_append_right (Nat.le_refl _)]
    simpa using hv
  · rw [pad_get (by omega)]
    exact hle i (by omega)
/-! 71: tree.begins. -/
theorem run71 (t : List Nd) (hw : WfT t) (hl : t.length ≤ 40000) : cwp t5 71 [] [eTree t] [] (fun r H => r = .tuple [.list 1 (eNats (begL t)), .bool (begB t)] ∧ H = []) := by
  refine run_fn (fn := fn71) rfl rfl ?_
  have hb : 0 ≤ (t.length : Int) ∧ (t.length : Int) * ((8 : Nat) : Int) ≤ 140737488355328 := by omega
  simp only [fn71_body, c71, eTree, eSet, D0, ains, clsOf, abin, aint, aun, dnext, rowsOf, loadObj, cellsOf, ofCells, bnd, hmerge, Nat.reduceBEq, Nat.reduceAdd, reduceIte, Nat.reduceEqDiff, Nat.reduceLeDiff, Int.reduceEq, reduceCtorEq, Int.reduceBEq, Int.reduceBNe, Int.reduceLT, Int.reduceNeg, hb, Int.toNat_natCast, eNats_rep]
  refine lg_rule (fun j e H => ∃ out : List Nat, out.length = j ∧ begsFrom out (t.drop j) = begs t ∧ (∀ i, i < j → out.getD i 0 ≤ i) ∧
    e = [(0, eTree t), (2, .own [0] 0), (3, .bool false), (4, .own [4] t.length), (10, eTree t), (11, .int .i64 t.length), (12, .int .i64 j)] ∧
    H = [[([4], .row true true 3 1 (eNats (out ++ List.replicate (t.length - j) 0))), ([0], .row true true 3 1 [])]] ∧ j ≤ t.length) t.length ?_ ?_
  · exact ⟨[], rfl, rfl, by simp, rfl, rfl, by simp⟩
  rintro j e H ⟨out, ho, hbf, hle, rfl, rfl, hj⟩
  simp only [eTree, D0, ains, clsOf, abin, aint, aun, dnext, rowsOf, loadObj, cellsOf, ofCells, bnd, hmerge, Nat.reduceBEq, Nat.reduceAdd, reduceIte, Nat.reduceEqDiff, Nat.reduceLeDiff, Int.reduceEq, reduceCtorEq, Int.reduceBEq, Int.reduceBNe, Int.reduceLT, Int.reduceNeg]
  by_cases h : j < t.length
  · have h' : (j : Int) < (t.length : Int) := by omega
    have hg := map_get (f := eNd) h default
    have hp := wrapp (j := j) (by omega)
    have hwn : WfN (t.getD j default) := hw.all _ (by
      rw [List.getD_eq_getElem?_getD, List.getElem?_eq_getElem h]
      exact List.getElem_mem h)
    rw [drop_cons h] at hbf
    generalize t.getD j default = n at hg hwn hbf
    have hlen : (out ++ List.replicate (t.length - j) 0).length = t.length := by simp; omega
    have hsl := hwn.set.len
    have bad : stepB out n = none → begs t = none := fun h1 => by rw [← hbf, begsFrom, h1]
    have good : ∀ v, stepB out n = some v → begsFrom (out ++ [v]) (t.drop (j + 1)) = begs t := fun v h1 => by rw [← hbf, begsFrom, h1]
    have hjl : ((j : Int) < (t.length : Int)) := by omega
    have hgj := eNats_get (l := out ++ List.replicate (t.length - j) 0) (i := j) (by omega)
    have hsv := fun v => pad_set (n := t.length) v ho h
    obtain ⟨k, a, b, c, z⟩ := n
    simp only at hsl hwn
    have hbr : bareN ⟨k, a, b, c, z⟩ = bareN ⟨0, 0, 0, c, z⟩ := rfl
    by_cases hf : isFork ⟨k, a, b, c, z⟩ = true
    · have hk : k = 3 ∨ k = 4 := by simpa [isFork] using hf
      by_cases h2 : j < 2
      · have h2' : (j : Int) < 2 := by omega
        have hs : stepB out ⟨k, a, b, c, z⟩ = none := by
          unfold stepB
          rw [if_pos hf, if_neg (by omega)]
        have hb0 := bad hs
        clear hbf good bad hs
        rcases hk with hk | hk <;> simp only [D0, ains, clsOf, abin, aint, aun, dnext, rowsOf, loadObj, cellsOf, ofCells, bnd, hmerge, Nat.reduceBEq, Nat.reduceAdd, reduceIte, Nat.reduceEqDiff, Nat.reduceLeDiff, Int.reduceEq, reduceCtorEq, Int.reduceBEq, Int.reduceBNe, Int.reduceLT, Int.reduceNeg, h', hg, eNd, eSet, decide_true, Int.natCast_nonneg, Int.toNat_natCast, hk, h2']
        all_goals simp only [F1, bodyRes, one, ains, clsOf, abin, aint, aun, dnext, rowsOf, loadObj, cellsOf, ofCells, bnd, hmerge, Nat.reduceBEq, Nat.reduceAdd, reduceIte, Nat.reduceEqDiff, Nat.reduceLeDiff, Int.reduceEq, reduceCtorEq, Int.reduceBEq, Int.reduceBNe, Int.reduceLT, Int.reduceNeg, fn71_res, fn71_keep, fz, fzd, fzd.fzcells, begL_none hb0, begB_none hb0, eNats_nil]
      · have h2' : ¬ (j : Int) < 2 := by omega
        have hm := wrapm (j := j) (by omega) (by omega)
        by_cases h3 : b = ((j - 1 : Nat) : Int)
        · have hgb := eNats_get (l := out ++ List.replicate (t.length - j) 0) (i := j - 1) (by omega)
          rw [pad_get (by omega)] at hgb
          have hbl : ((j - 1 : Nat) : Int) < (t.length : Int) := by omega
          have hle1 := hle (j - 1) (by omega)
          have hw1 : IntKind.i64.wrap (((out.getD (j - 1) 0 : Nat) : Int) - 1) = ((out.getD (j - 1) 0 : Nat) : Int) - 1 := wrap64 (by omega) (by omega)
          by_cases h4 : a = ((out.getD (j - 1) 0 : Nat) : Int) - 1
          · by_cases h5 : 1 ≤ out.getD (j - 1) 0
            · obtain ⟨o, ho2⟩ : ∃ o : Nat, out.getD (j - 1) 0 = o + 1 := ⟨out.getD (j - 1) 0 - 1, by omega⟩
              rw [ho2] at hgb hw1 h4 hle1
              have ha : a = (o : Int) := by omega
              have hw2 : IntKind.i64.wrap (((o + 1 : Nat) : Int) - 1) = (o : Int) := by rw [hw1]; omega
              have hnn : ¬ (o : Int) < 0 := by omega
              have hol : (o : Int) < (t.length : Int) := by omega
              have hga := eNats_get (l := out ++ List.replicate (t.length - j) 0) (i := o) (by omega)
              rw [pad_get (by omega)] at hga
              have hoo := hle o (by omega)
              by_cases h6 : bareN ⟨0, 0, 0, c, z⟩ = true
              · have h6s : ∀ k a b, bareN ⟨k, a, b, c, z⟩ = true := fun _ _ _ => h6
                have hs : stepB out ⟨k, a, b, c, z⟩ = some (out.getD o 0) := by
                  unfold stepB
                  rw [if_pos hf, if_pos ⟨by omega, by simp only; omega, by rw [ho, ho2]; omega, by simp only; rw [ho, ho2]; omega, hbr ▸ h6⟩]
                  simp only [ha, Int.toNat_natCast]
                have hgood := good _ hs
                clear hbf good bad hs
                rcases hk with hk | hk <;> simp only [D0, ains, clsOf, abin, aint, aun, dnext, rowsOf, loadObj, cellsOf, ofCells, bnd, hmerge, Nat.reduceBEq, Nat.reduceAdd, reduceIte, Nat.reduceEqDiff, Nat.reduceLeDiff, Int.reduceEq, reduceCtorEq, Int.reduceBEq, Int.reduceBNe, Int.reduceLT, Int.reduceNeg, @use_all t5 103 k103.ora rfl, e103, h', hg, eNd, eSet, decide_true, Int.natCast_nonneg, Int.toNat_natCast, hk, h2', h3, hm, hgb, hlen, hbl, hw2, hnn, ha, hga, hol, hgj, h6s, decide_false, eNats_set, hsv, hp]
                all_goals simp only [F1, bodyRes, one, ains, clsOf, abin, aint, aun, dnext, rowsOf, loadObj, cellsOf, ofCells, bnd, hmerge, Nat.reduceBEq, Nat.reduceAdd, reduceIte, Nat.reduceEqDiff, Nat.reduceLeDiff, Int.reduceEq, reduceCtorEq, Int.reduceBEq, Int.reduceBNe, Int.reduceLT, Int.reduceNeg, eNats_set, hsv]
                all_goals exact ⟨h, out ++ [out.getD o 0], by simp [ho], hgood, app_le ho hle (by omega), rfl, h⟩
              · have h6' : bareN ⟨0, 0, 0, c, z⟩ = false := by simpa using h6
                have h6s : ∀ k a b, bareN ⟨k, a, b, c, z⟩ = false := fun _ _ _ => h6'
                have hs : stepB out ⟨k, a, b, c, z⟩ = none := by
                  unfold stepB
                  rw [if_pos hf, if_neg (by rintro ⟨_, _, _, _, h7⟩; exact h6 (hbr ▸ h7))]
                have hb0 := bad hs
                clear hbf good bad hs
                rcases hk with hk | hk <;> simp only [D0, ains, clsOf, abin, aint, aun, dnext, rowsOf, loadObj, cellsOf, ofCells, bnd, hmerge, Nat.reduceBEq, Nat.reduceAdd, reduceIte, Nat.reduceEqDiff, Nat.reduceLeDiff, Int.reduceEq, reduceCtorEq, Int.reduceBEq, Int.reduceBNe, Int.reduceLT, Int.reduceNeg, @use_all t5 103 k103.ora rfl, e103, h', hg, eNd, eSet, decide_true, Int.natCast_nonneg, Int.toNat_natCast, hk, h2', h3, hm, hgb, hlen, hbl, hw2, hnn, ha, hga, hol, hgj, h6s, decide_false]
                all_goals simp only [F1, bodyRes, one, ains, clsOf, abin, aint, aun, dnext, rowsOf, loadObj, cellsOf, ofCells, bnd, hmerge, Nat.reduceBEq, Nat.reduceAdd, reduceIte, Nat.reduceEqDiff, Nat.reduceLeDiff, Int.reduceEq, reduceCtorEq, Int.reduceBEq, Int.reduceBNe, Int.reduceLT, Int.reduceNeg, fn71_res, fn71_keep, fz, fzd, fzd.fzcells, begL_none hb0, begB_none hb0, eNats_nil]
            · have ho2 : out.getD (j - 1) 0 = 0 := by omega
              have ha : a = -1 := by omega
              have hw2 : IntKind.i64.wrap (((out.getD (j - 1) 0 : Nat) : Int) - 1) = -1 := by rw [hw1]; omega
              have hs : stepB out ⟨k, a, b, c, z⟩ = none := by
                unfold stepB
                rw [if_pos hf, if_neg (by rintro ⟨_, _, h7, _, _⟩; rw [ho] at h7; omega)]
              have hb0 := bad hs
              clear hbf good bad hs
              rcases hk with hk | hk <;> simp only [D0, ains, clsOf, abin, aint, aun, dnext, rowsOf, loadObj, cellsOf, ofCells, bnd, hmerge, Nat.reduceBEq, Nat.reduceAdd, reduceIte, Nat.reduceEqDiff, Nat.reduceLeDiff, Int.reduceEq, reduceCtorEq, Int.reduceBEq, Int.reduceBNe, Int.reduceLT, Int.reduceNeg, @use_all t5 103 k103.ora rfl, e103, h', hg, eNd, eSet, decide_true, Int.natCast_nonneg, Int.toNat_natCast, hk, h2', h3, hm, hgb, hlen, hbl, hw2, ha, decide_false]
              all_goals simp only [F1, bodyRes, one, ains, clsOf, abin, aint, aun, dnext, rowsOf, loadObj, cellsOf, ofCells, bnd, hmerge, Nat.reduceBEq, Nat.reduceAdd, reduceIte, Nat.reduceEqDiff, Nat.reduceLeDiff, Int.reduceEq, reduceCtorEq, Int.reduceBEq, Int.reduceBNe, Int.reduceLT, Int.reduceNeg, fn71_res, fn71_keep, fz, fzd, fzd.fzcells, begL_none hb0, begB_none hb0, eNats_nil]
          · have h4' : (a != ((out.getD (j - 1) 0 : Nat) : Int) - 1) = true := by simpa using h4
            have hs : stepB out ⟨k, a, b, c, z⟩ = none := by
              unfold stepB
              rw [if_pos hf, if_neg (by rintro ⟨_, _, _, h7, _⟩; rw [ho] at h7; simp only at h7; omega)]
            have hb0 := bad hs
            clear hbf good bad hs
            rcases hk with hk | hk <;> simp only [D0, ains, clsOf, abin, aint, aun, dnext, rowsOf, loadObj, cellsOf, ofCells, bnd, hmerge, Nat.reduceBEq, Nat.reduceAdd, reduceIte, Nat.reduceEqDiff, Nat.reduceLeDiff, Int.reduceEq, reduceCtorEq, Int.reduceBEq, Int.reduceBNe, Int.reduceLT, Int.reduceNeg, @use_all t5 103 k103.ora rfl, e103, h', hg, eNd, eSet, decide_true, Int.natCast_nonneg, Int.toNat_natCast, hk, h2', h3, hm, hgb, hlen, hbl, hw1, h4', decide_false]
            all_goals simp only [F1, bodyRes, one, ains, clsOf, abin, aint, aun, dnext, rowsOf, loadObj, cellsOf, ofCells, bnd, hmerge, Nat.reduceBEq, Nat.reduceAdd, reduceIte, Nat.reduceEqDiff, Nat.reduceLeDiff, Int.reduceEq, reduceCtorEq, Int.reduceBEq, Int.reduceBNe, Int.reduceLT, Int.reduceNeg, fn71_res, fn71_keep, fz, fzd, fzd.fzcells, begL_none hb0, begB_none hb0, eNats_nil]
        · have h3' : (b != ((j - 1 : Nat) : Int)) = true := by simpa using h3
          have hs : stepB out ⟨k, a, b, c, z⟩ = none := by
            unfold stepB
            rw [if_pos hf, if_neg (by rintro ⟨_, h7, _⟩; simp only at h7; omega)]
          have hb0 := bad hs
          clear hbf good bad hs
          rcases hk with hk | hk <;> simp only [D0, ains, clsOf, abin, aint, aun, dnext, rowsOf, loadObj, cellsOf, ofCells, bnd, hmerge, Nat.reduceBEq, Nat.reduceAdd, reduceIte, Nat.reduceEqDiff, Nat.reduceLeDiff, Int.reduceEq, reduceCtorEq, Int.reduceBEq, Int.reduceBNe, Int.reduceLT, Int.reduceNeg, @use_all t5 103 k103.ora rfl, e103, h', hg, eNd, eSet, decide_true, Int.natCast_nonneg, Int.toNat_natCast, hk, h2', h3', hm, decide_false]
          all_goals simp only [F1, bodyRes, one, ains, clsOf, abin, aint, aun, dnext, rowsOf, loadObj, cellsOf, ofCells, bnd, hmerge, Nat.reduceBEq, Nat.reduceAdd, reduceIte, Nat.reduceEqDiff, Nat.reduceLeDiff, Int.reduceEq, reduceCtorEq, Int.reduceBEq, Int.reduceBNe, Int.reduceLT, Int.reduceNeg, fn71_res, fn71_keep, fz, fzd, fzd.fzcells, begL_none hb0, begB_none hb0, eNats_nil]
    · have hf' : isFork ⟨k, a, b, c, z⟩ = false := by simpa using hf
      have hk3 : (k == 3) = false := by simp [isFork] at hf; simp [hf]
      have hk4 : (k == 4) = false := by simp [isFork] at hf; simp [hf]
      by_cases hk : k = 5
      · have r34 : ((5 : Int) == 3) = false ∧ ((5 : Int) == 4) = false := by decide
        by_cases h1 : j < 1
        · have h1' : (j : Int) < 1 := by omega
          have hs : stepB out ⟨k, a, b, c, z⟩ = none := by
            unfold stepB
            rw [if_neg hf, if_pos hk, if_neg (by omega)]
          have hb0 := bad hs
          clear hbf good bad hs
          simp only [D0, ains, clsOf, abin, aint, aun, dnext, rowsOf, loadObj, cellsOf, ofCells, bnd, hmerge, Nat.reduceBEq, Nat.reduceAdd, reduceIte, Nat.reduceEqDiff, Nat.reduceLeDiff, Int.reduceEq, reduceCtorEq, Int.reduceBEq, Int.reduceBNe, Int.reduceLT, Int.reduceNeg, @use_all t5 103 k103.ora rfl, e103, h', hg, eNd, eSet, decide_true, Int.natCast_nonneg, Int.toNat_natCast, hk, h1', decide_false]
          simp only [F1, bodyRes, one, ains, clsOf, abin, aint, aun, dnext, rowsOf, loadObj, cellsOf, ofCells, bnd, hmerge, Nat.reduceBEq, Nat.reduceAdd, reduceIte, Nat.reduceEqDiff, Nat.reduceLeDiff, Int.reduceEq, reduceCtorEq, Int.reduceBEq, Int.reduceBNe, Int.reduceLT, Int.reduceNeg, fn71_res, fn71_keep, fz, fzd, fzd.fzcells, begL_none hb0, begB_none hb0, eNats_nil]
        · have h1' : ¬ (j : Int) < 1 := by omega
          have hm := wrapm (j := j) (by omega) (by omega)
          by_cases h3 : a = ((j - 1 : Nat) : Int)
          · by_cases h4 : b = 0
            · have hgb := eNats_get (l := out ++ List.replicate (t.length - j) 0) (i := j - 1) (by omega)
              rw [pad_get (by omega)] at hgb
              have hbl : ((j - 1 : Nat) : Int) < (t.length : Int) := by omega
              have hle1 := hle (j - 1) (by omega)
              by_cases h6 : bareN ⟨0, 0, 0, c, z⟩ = true
              · have h6s : ∀ k a b, bareN ⟨k, a, b, c, z⟩ = true := fun _ _ _ => h6
                have hs : stepB out ⟨k, a, b, c, z⟩ = some (out.getD (j - 1) 0) := by
                  unfold stepB
                  rw [if_neg hf, if_pos hk, if_pos ⟨by omega, by simp only; omega, h4, hbr ▸ h6⟩]
                  simp only [h3, Int.toNat_natCast]
                have hgood := good _ hs
                clear hbf good bad hs
                simp only [D0, ains, clsOf, abin, aint, aun, dnext, rowsOf, loadObj, cellsOf, ofCells, bnd, hmerge, Nat.reduceBEq, Nat.reduceAdd, reduceIte, Nat.reduceEqDiff, Nat.reduceLeDiff, Int.reduceEq, reduceCtorEq, Int.reduceBEq, Int.reduceBNe, Int.reduceLT, Int.reduceNeg, @use_all t5 103 k103.ora rfl, e103, h', hg, eNd, eSet, decide_true, Int.natCast_nonneg, Int.toNat_natCast, hk, h1', h3, h4, hm, hgb, hlen, hbl, hgj, hjl, h6s, decide_false, eNats_set, hsv, hp]
                simp only [F1, bodyRes, one, ains, clsOf, abin, aint, aun, dnext, rowsOf, loadObj, cellsOf, ofCells, bnd, hmerge, Nat.reduceBEq, Nat.reduceAdd, reduceIte, Nat.reduceEqDiff, Nat.reduceLeDiff, Int.reduceEq, reduceCtorEq, Int.reduceBEq, Int.reduceBNe, Int.reduceLT, Int.reduceNeg, eNats_set, hsv]
                exact ⟨h, out ++ [out.getD (j - 1) 0], by simp [ho], hgood, app_le ho hle (by omega), rfl, h⟩
              · have h6' : bareN ⟨0, 0, 0, c, z⟩ = false := by simpa using h6
                have h6s : ∀ k a b, bareN ⟨k, a, b, c, z⟩ = false := fun _ _ _ => h6'
                have hs : stepB out ⟨k, a, b, c, z⟩ = none := by
                  unfold stepB
                  rw [if_neg hf, if_pos hk, if_neg (by rintro ⟨_, _, _, h7⟩; exact h6 (hbr ▸ h7))]
                have hb0 := bad hs
                clear hbf good bad hs
                simp only [D0, ains, clsOf, abin, aint, aun, dnext, rowsOf, loadObj, cellsOf, ofCells, bnd, hmerge, Nat.reduceBEq, Nat.reduceAdd, reduceIte, Nat.reduceEqDiff, Nat.reduceLeDiff, Int.reduceEq, reduceCtorEq, Int.reduceBEq, Int.reduceBNe, Int.reduceLT, Int.reduceNeg, @use_all t5 103 k103.ora rfl, e103, h', hg, eNd, eSet, decide_true, Int.natCast_nonneg, Int.toNat_natCast, hk, h1', h3, h4, hm, hgb, hlen, hbl, hgj, h6s, decide_false]
                simp only [F1, bodyRes, one, ains, clsOf, abin, aint, aun, dnext, rowsOf, loadObj, cellsOf, ofCells, bnd, hmerge, Nat.reduceBEq, Nat.reduceAdd, reduceIte, Nat.reduceEqDiff, Nat.reduceLeDiff, Int.reduceEq, reduceCtorEq, Int.reduceBEq, Int.reduceBNe, Int.reduceLT, Int.reduceNeg, fn71_res, fn71_keep, fz, fzd, fzd.fzcells, begL_none hb0, begB_none hb0, eNats_nil]
            · have h4' : (b != 0) = true := by simpa using h4
              have hs : stepB out ⟨k, a, b, c, z⟩ = none := by
                unfold stepB
                rw [if_neg hf, if_pos hk, if_neg (by rintro ⟨_, _, h7, _⟩; exact h4 h7)]
              have hb0 := bad hs
              clear hbf good bad hs
              simp only [D0, ains, clsOf, abin, aint, aun, dnext, rowsOf, loadObj, cellsOf, ofCells, bnd, hmerge, Nat.reduceBEq, Nat.reduceAdd, reduceIte, Nat.reduceEqDiff, Nat.reduceLeDiff, Int.reduceEq, reduceCtorEq, Int.reduceBEq, Int.reduceBNe, Int.reduceLT, Int.reduceNeg, @use_all t5 103 k103.ora rfl, e103, h', hg, eNd, eSet, decide_true, Int.natCast_nonneg, Int.toNat_natCast, hk, h1', h3, h4', hm, decide_false]
              simp only [F1, bodyRes, one, ains, clsOf, abin, aint, aun, dnext, rowsOf, loadObj, cellsOf, ofCells, bnd, hmerge, Nat.reduceBEq, Nat.reduceAdd, reduceIte, Nat.reduceEqDiff, Nat.reduceLeDiff, Int.reduceEq, reduceCtorEq, Int.reduceBEq, Int.reduceBNe, Int.reduceLT, Int.reduceNeg, fn71_res, fn71_keep, fz, fzd, fzd.fzcells, begL_none hb0, begB_none hb0, eNats_nil]
          · have h3' : (a != ((j - 1 : Nat) : Int)) = true := by simpa using h3
            have hs : stepB out ⟨k, a, b, c, z⟩ = none := by
              unfold stepB
              rw [if_neg hf, if_pos hk, if_neg (by rintro ⟨_, h7, _⟩; simp only at h7; omega)]
            have hb0 := bad hs
            clear hbf good bad hs
            simp only [D0, ains, clsOf, abin, aint, aun, dnext, rowsOf, loadObj, cellsOf, ofCells, bnd, hmerge, Nat.reduceBEq, Nat.reduceAdd, reduceIte, Nat.reduceEqDiff, Nat.reduceLeDiff, Int.reduceEq, reduceCtorEq, Int.reduceBEq, Int.reduceBNe, Int.reduceLT, Int.reduceNeg, @use_all t5 103 k103.ora rfl, e103, h', hg, eNd, eSet, decide_true, Int.natCast_nonneg, Int.toNat_natCast, hk, h1', h3', hm, decide_false]
            simp only [F1, bodyRes, one, ains, clsOf, abin, aint, aun, dnext, rowsOf, loadObj, cellsOf, ofCells, bnd, hmerge, Nat.reduceBEq, Nat.reduceAdd, reduceIte, Nat.reduceEqDiff, Nat.reduceLeDiff, Int.reduceEq, reduceCtorEq, Int.reduceBEq, Int.reduceBNe, Int.reduceLT, Int.reduceNeg, fn71_res, fn71_keep, fz, fzd, fzd.fzcells, begL_none hb0, begB_none hb0, eNats_nil]
      · have hk5 : (k == 5) = false := by simpa using hk
        by_cases h6 : leafN ⟨k, a, b, c, z⟩ = true
        · have hs : stepB out ⟨k, a, b, c, z⟩ = some j := by
            unfold stepB
            rw [if_neg hf, if_neg hk, if_pos h6, ho]
          have hgood := good _ hs
          clear hbf good bad hs
          simp only [D0, ains, clsOf, abin, aint, aun, dnext, rowsOf, loadObj, cellsOf, ofCells, bnd, hmerge, Nat.reduceBEq, Nat.reduceAdd, reduceIte, Nat.reduceEqDiff, Nat.reduceLeDiff, Int.reduceEq, reduceCtorEq, Int.reduceBEq, Int.reduceBNe, Int.reduceLT, Int.reduceNeg, @use_all t5 104 k104.ora rfl, e104, h', hg, eNd, eSet, decide_true, Int.natCast_nonneg, Int.toNat_natCast, hk3, hk4, hk5, hsl, hgj, hlen, h6, decide_false, eNats_set, hsv, hp]
          simp only [F1, bodyRes, one, ains, clsOf, abin, aint, aun, dnext, rowsOf, loadObj, cellsOf, ofCells, bnd, hmerge, Nat.reduceBEq, Nat.reduceAdd, reduceIte, Nat.reduceEqDiff, Nat.reduceLeDiff, Int.reduceEq, reduceCtorEq, Int.reduceBEq, Int.reduceBNe, Int.reduceLT, Int.reduceNeg, eNats_set, hsv]
          exact ⟨h, out ++ [j], by simp [ho], hgood, app_le ho hle (by omega), rfl, h⟩
        · have h6' : leafN ⟨k, a, b, c, z⟩ = false := by simpa using h6
          have hs : stepB out ⟨k, a, b, c, z⟩ = none := by
            unfold stepB
            rw [if_neg hf, if_neg hk, if_neg h6]
          have hb0 := bad hs
          clear hbf good bad hs
          simp only [D0, ains, clsOf, abin, aint, aun, dnext, rowsOf, loadObj, cellsOf, ofCells, bnd, hmerge, Nat.reduceBEq, Nat.reduceAdd, reduceIte, Nat.reduceEqDiff, Nat.reduceLeDiff, Int.reduceEq, reduceCtorEq, Int.reduceBEq, Int.reduceBNe, Int.reduceLT, Int.reduceNeg, @use_all t5 104 k104.ora rfl, e104, h', hg, eNd, eSet, decide_true, Int.natCast_nonneg, Int.toNat_natCast, hk3, hk4, hk5, hsl, h6', decide_false]
          simp only [F1, bodyRes, one, ains, clsOf, abin, aint, aun, dnext, rowsOf, loadObj, cellsOf, ofCells, bnd, hmerge, Nat.reduceBEq, Nat.reduceAdd, reduceIte, Nat.reduceEqDiff, Nat.reduceLeDiff, Int.reduceEq, reduceCtorEq, Int.reduceBEq, Int.reduceBNe, Int.reduceLT, Int.reduceNeg, fn71_res, fn71_keep, fz, fzd, fzd.fzcells, begL_none hb0, begB_none hb0, eNats_nil]
  · have h' : ¬ (j : Int) < (t.length : Int) := by omega
    have hj2 : j = t.length := by omega
    subst hj2
    simp only [List.drop_length, begsFrom] at hbf
    simp only [D0, ains, clsOf, abin, aint, aun, dnext, rowsOf, loadObj, cellsOf, ofCells, bnd, hmerge, Nat.reduceBEq, Nat.reduceAdd, reduceIte, Nat.reduceEqDiff, Nat.reduceLeDiff, Int.reduceEq, reduceCtorEq, Int.reduceBEq, Int.reduceBNe, Int.reduceLT, Int.reduceNeg, h', decide_false]
    refine .inr ⟨by simp, ?_⟩
    simp only [F1, bodyRes, one, ains, clsOf, abin, aint, aun, dnext, rowsOf, loadObj, cellsOf, ofCells, bnd, hmerge, Nat.reduceBEq, Nat.reduceAdd, reduceIte, Nat.reduceEqDiff, Nat.reduceLeDiff, Int.reduceEq, reduceCtorEq, Int.reduceBEq, Int.reduceBNe, Int.reduceLT, Int.reduceNeg, fn71_res, fn71_keep, fz, fzd, fzd.fzcells, eNats_len, Nat.sub_self, List.replicate_zero, ho, begL_some hbf.symm, begB_some hbf.symm]
end Go.Proofs.Abs
