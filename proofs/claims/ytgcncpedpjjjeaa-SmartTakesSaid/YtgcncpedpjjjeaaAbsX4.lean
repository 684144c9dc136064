/- A part of a proof: the text that states the row tells what is proved. No condition is laid on anything. -/
import Derived.Test.YtgcncpedpjjjeaaAbsM11
set_option linter.all false
set_option linter.constructorNameAsVariable false
set_option linter.defProp false
set_option linter.unusedVariables false
set_option linter.unusedSimpArgs false
set_option maxRecDepth 100000
set_option maxHeartbeats 4000000
namespace Go.Proofs.Abs
open Go
/-! 81, 112: caesuraref12.kind, Same. -/
theorem run81 (t : List Nd) (h1 : 1 ≤ t.length) (h2 : t.length ≤ 9223372036854775807) : cwp s9 81 [] [(AV.list 5 (List.map eNd t))] [] (fun r H => r = .int .i64 (lastN t).kind ∧ H = []) := by
  refine run_fn (fn := fn81) rfl rfl ?_
  have w := wrapm (j := t.length) h1 h2
  have hg := map_get (f := eNd) (l := t) (j := t.length - 1) (by omega) default
  unfold lastN
  generalize t.getD (t.length - 1) default = x at hg ⊢
  simp only [fn81_body, c81, D0, ains, clsOf, abin, aint, aun, dnext, rowsOf, loadObj, cellsOf, ofCells, bnd, hmerge, Nat.reduceBEq, Nat.reduceAdd, reduceIte, Nat.reduceEqDiff, Nat.reduceLeDiff, Int.reduceEq, reduceCtorEq, Int.reduceBEq, Int.reduceBNe, Int.reduceLT, Int.reduceNeg, w, hg, eNd, eSet, Int.natCast_nonneg, Int.toNat_natCast]
  simp only [F1, bodyRes, one, ains, clsOf, abin, aint, aun, dnext, rowsOf, loadObj, cellsOf, ofCells, bnd, hmerge, Nat.reduceBEq, Nat.reduceAdd, reduceIte, Nat.reduceEqDiff, Nat.reduceLeDiff, Int.reduceEq, reduceCtorEq, Int.reduceBEq, Int.reduceBNe, Int.reduceLT, Int.reduceNeg, fn81_res, fn81_keep]
noncomputable def k81 : Kon (List Nd) := ⟨fun x => 1 ≤ x.length ∧ x.length ≤ 9223372036854775807, fun x => [(AV.list 5 (List.map eNd x))], fun x => .int .i64 (lastN x).kind⟩
theorem e81 (t : List Nd) (hd : 1 ≤ t.length ∧ t.length ≤ 9223372036854775807) (q0 : Id) (H0 : Heap) : k81.ora q0 ([(AV.list 5 (List.map eNd t))]) H0 = some (.int .i64 (lastN t).kind, H0) := k81.eq (treeInj) (t) hd q0 H0
theorem ook81 : OraOK Try.prog (81 % 100000) k81.ora := k81.ok orders s9_ok (fun x hd => by simp [k81, PU]) (fun x hd => by simp [k81, PU]) (fun x hd => run81 x hd.1 hd.2)

theorem run112 (a b : List Nd) (ha : ∀ n ∈ a, n.set.length ≤ 600) (hla : a.length ≤ 9223372036854775807) : cwp s9 112 [] [(AV.list 5 (List.map eNd a)), (AV.list 5 (List.map eNd b))] [] (fun r H => r = .bool (sameT a b) ∧ H = []) := by
  refine run_fn (fn := fn112) rfl rfl ?_
  by_cases hl : a.length = b.length
  · have hl' : ((a.length : Int) != (b.length : Int)) = false := by simp [hl]
    simp only [fn112_body, c112, D0, ains, clsOf, abin, aint, aun, dnext, rowsOf, loadObj, cellsOf, ofCells, bnd, hmerge, Nat.reduceBEq, Nat.reduceAdd, reduceIte, Nat.reduceEqDiff, Nat.reduceLeDiff, Int.reduceEq, reduceCtorEq, Int.reduceBEq, Int.reduceBNe, Int.reduceLT, Int.reduceNeg, hl']
    refine lg_rule (fun j e H => e = [(0, (AV.list 5 (List.map eNd a))), (1, (AV.list 5 (List.map eNd b))), (4, .bool false), (5, .int .i64 j)] ∧ H = [[]] ∧ j ≤ a.length ∧ ∀ i, i < j → sameN (a.getD i default) (b.getD i default) = true) a.length ?_ ?_
    · exact ⟨rfl, rfl, by simp, by simp⟩
    rintro j e H ⟨rfl, rfl, hj, hi⟩
    simp only [D0, ains, clsOf, abin, aint, aun, dnext, rowsOf, loadObj, cellsOf, ofCells, bnd, hmerge, Nat.reduceBEq, Nat.reduceAdd, reduceIte, Nat.reduceEqDiff, Nat.reduceLeDiff, Int.reduceEq, reduceCtorEq, Int.reduceBEq, Int.reduceBNe, Int.reduceLT, Int.reduceNeg]
    by_cases h : j < a.length
    · have h' : (j : Int) < (a.length : Int) := by omega
      have hp := wrapp (j := j) (by omega)
      have hga := map_get (f := eNd) h default
      have hgb := map_get (f := eNd) (l := b) (j := j) (by omega) default
      have hsm := ha _ (getD_mem h)
      have bad : sameN (a.getD j default) (b.getD j default) = false → sameT a b = false := fun h1 => by
        unfold sameT
        rw [all_false h h1, Bool.and_false]
      have step : sameN (a.getD j default) (b.getD j default) = true → ∀ i, i < j + 1 → sameN (a.getD i default) (b.getD i default) = true := fun h1 i h2 => by
        by_cases e : i = j
        · rw [e]; exact h1
        · exact hi i (by omega)
      generalize a.getD j default = x at hga bad step hsm
      generalize b.getD j default = y at hgb bad step
      obtain ⟨k, p, q, c, z⟩ := x
      obtain ⟨k', p', q', c', z'⟩ := y
      simp only at hsm
      clear hi
      by_cases hd : k = k' ∧ p = p' ∧ q = q' ∧ z = z' ∧ c.length = c'.length
      · obtain ⟨rfl, rfl, rfl, rfl, hcl⟩ := hd
        have hcl' : ((c.length : Int) != (c'.length : Int)) = false := by simp [hcl]
        simp only [D0, ains, clsOf, abin, aint, aun, dnext, rowsOf, loadObj, cellsOf, ofCells, bnd, hmerge, Nat.reduceBEq, Nat.reduceAdd, reduceIte, Nat.reduceEqDiff, Nat.reduceLeDiff, Int.reduceEq, reduceCtorEq, Int.reduceBEq, Int.reduceBNe, Int.reduceLT, Int.reduceNeg, h', hga, hgb, eNd, eSet, hins, fins, idk, List.getLast?_cons_cons, List.getLast?_singleton, Option.getD_some, Option.isNone_none, Nat.reduceLT, lrc_x, apx, apart, apart1, needs, hcl', decide_true, Int.natCast_nonneg, Int.toNat_natCast]
        have hx : ∀ m : Nat, sameN ⟨k, p, q, c, z⟩ ⟨k, p, q, c', z⟩ = decide (c = c') := fun _ => by simp [sameN]
        refine lg_rule (fun m e H => e = [(0, (AV.list 5 (List.map eNd a))), (1, (AV.list 5 (List.map eNd b))), (4, .bool false), (5, .int .i64 j), (6, .ref [7, j, 12] 1 0 0), (7, .ref [7, j, 13] 1 0 0), (8, .int .i64 m)] ∧ H = [[([7, j, 13], .box [.int .i64 k, .int .i64 p, .int .i64 q, (AV.list 2 (List.map (fun x => [AV.int .i64 x.1, AV.int .i64 x.2]) (c'))), .str z]), ([7, j, 12], .box [.int .i64 k, .int .i64 p, .int .i64 q, (AV.list 2 (List.map (fun x => [AV.int .i64 x.1, AV.int .i64 x.2]) (c))), .str z])], []] ∧ m ≤ c.length ∧ ∀ i, i < m → c.getD i (0, 0) = c'.getD i (0, 0)) c.length ?_ ?_
        · exact ⟨rfl, rfl, by simp, by simp⟩
        rintro m e H ⟨rfl, rfl, hm, hmi⟩
        simp only [D0, ains, clsOf, abin, aint, aun, dnext, rowsOf, loadObj, cellsOf, ofCells, bnd, hmerge, Nat.reduceBEq, Nat.reduceAdd, reduceIte, Nat.reduceEqDiff, Nat.reduceLeDiff, Int.reduceEq, reduceCtorEq, Int.reduceBEq, Int.reduceBNe, Int.reduceLT, Int.reduceNeg]
        by_cases h3 : m < c.length
        · have h3' : (m : Int) < (c.length : Int) := by omega
          have hpm := wrapp (j := m) (by omega)
          have gc := map_get (f := fun x : Int × Int => [AV.int .i64 x.1, AV.int .i64 x.2]) h3 (0, 0)
          have gd := map_get (f := fun x : Int × Int => [AV.int .i64 x.1, AV.int .i64 x.2]) (l := c') (j := m) (by omega) (0, 0)
          by_cases he : c.getD m (0, 0) = c'.getD m (0, 0)
          · have st : ∀ i, i < m + 1 → c.getD i (0, 0) = c'.getD i (0, 0) := fun i h2 => by
              by_cases e : i = m
              · rw [e]; exact he
              · exact hmi i (by omega)
            rw [← he] at gd
            generalize c.getD m (0, 0) = u at gc gd
            clear bad step hmi he
            simp only [D0, ains, clsOf, abin, aint, aun, dnext, rowsOf, loadObj, cellsOf, ofCells, bnd, hmerge, Nat.reduceBEq, Nat.reduceAdd, reduceIte, Nat.reduceEqDiff, Nat.reduceLeDiff, Int.reduceEq, reduceCtorEq, Int.reduceBEq, Int.reduceBNe, Int.reduceLT, Int.reduceNeg, h3', gc, gd, abins, acells, hpm, hins, fins, idk, lrc_x, apx, apart, apart1, needs, decide_true, Int.natCast_nonneg, Int.toNat_natCast]
            simp only [F1, bodyRes, one, ains, clsOf, abin, aint, aun, dnext, rowsOf, loadObj, cellsOf, ofCells, bnd, hmerge, Nat.reduceBEq, Nat.reduceAdd, reduceIte, Nat.reduceEqDiff, Nat.reduceLeDiff, Int.reduceEq, reduceCtorEq, Int.reduceBEq, Int.reduceBNe, Int.reduceLT, Int.reduceNeg]
            exact ⟨h3, h3, st⟩
          · have hb := bad (by rw [hx 0, decide_eq_false_iff_not]; intro e; exact he (by rw [e]))
            have hne : ¬ ((c.getD m (0, 0)).1 = (c'.getD m (0, 0)).1 ∧ (c.getD m (0, 0)).2 = (c'.getD m (0, 0)).2) := fun e => he (Prod.ext e.1 e.2)
            generalize c.getD m (0, 0) = u at gc hne
            generalize c'.getD m (0, 0) = v at gd hne
            obtain ⟨u1, u2⟩ := u
            obtain ⟨v1, v2⟩ := v
            clear bad step hmi he
            by_cases e1 : u1 = v1
            · have e2 : (u2 == v2) = false := by rw [beq_eq_false_iff_ne]; intro e; exact hne ⟨e1, e⟩
              simp only [D0, ains, clsOf, abin, aint, aun, dnext, rowsOf, loadObj, cellsOf, ofCells, bnd, hmerge, Nat.reduceBEq, Nat.reduceAdd, reduceIte, Nat.reduceEqDiff, Nat.reduceLeDiff, Int.reduceEq, reduceCtorEq, Int.reduceBEq, Int.reduceBNe, Int.reduceLT, Int.reduceNeg, h3', gc, gd, abins, acells, e1, e2, hins, fins, idk, lrc_x, apx, apart, apart1, needs, decide_true, Int.natCast_nonneg, Int.toNat_natCast]
              simp only [F1, bodyRes, one, ains, clsOf, abin, aint, aun, dnext, rowsOf, loadObj, cellsOf, ofCells, bnd, hmerge, Nat.reduceBEq, Nat.reduceAdd, reduceIte, Nat.reduceEqDiff, Nat.reduceLeDiff, Int.reduceEq, reduceCtorEq, Int.reduceBEq, Int.reduceBNe, Int.reduceLT, Int.reduceNeg, fn112_res, fn112_keep, hb]
            · have e1' : (u1 == v1) = false := by rw [beq_eq_false_iff_ne]; exact e1
              simp only [D0, ains, clsOf, abin, aint, aun, dnext, rowsOf, loadObj, cellsOf, ofCells, bnd, hmerge, Nat.reduceBEq, Nat.reduceAdd, reduceIte, Nat.reduceEqDiff, Nat.reduceLeDiff, Int.reduceEq, reduceCtorEq, Int.reduceBEq, Int.reduceBNe, Int.reduceLT, Int.reduceNeg, h3', gc, gd, abins, acells, e1', hins, fins, idk, lrc_x, apx, apart, apart1, needs, decide_true, Int.natCast_nonneg, Int.toNat_natCast]
              simp only [F1, bodyRes, one, ains, clsOf, abin, aint, aun, dnext, rowsOf, loadObj, cellsOf, ofCells, bnd, hmerge, Nat.reduceBEq, Nat.reduceAdd, reduceIte, Nat.reduceEqDiff, Nat.reduceLeDiff, Int.reduceEq, reduceCtorEq, Int.reduceBEq, Int.reduceBNe, Int.reduceLT, Int.reduceNeg, fn112_res, fn112_keep, hb]
        · have h3' : ¬ (m : Int) < (c.length : Int) := by omega
          have he : c = c' := ext_getD (0, 0) hcl fun i h1 => hmi i (by omega)
          have st := step (by rw [hx 0, he]; simp)
          clear bad step hmi
          simp only [D0, ains, clsOf, abin, aint, aun, dnext, rowsOf, loadObj, cellsOf, ofCells, bnd, hmerge, Nat.reduceBEq, Nat.reduceAdd, reduceIte, Nat.reduceEqDiff, Nat.reduceLeDiff, Int.reduceEq, reduceCtorEq, Int.reduceBEq, Int.reduceBNe, Int.reduceLT, Int.reduceNeg, h3', hp, decide_false]
          refine .inr ⟨by simp, ?_⟩
          simp only [F1, bodyRes, one, ains, clsOf, abin, aint, aun, dnext, rowsOf, loadObj, cellsOf, ofCells, bnd, hmerge, Nat.reduceBEq, Nat.reduceAdd, reduceIte, Nat.reduceEqDiff, Nat.reduceLeDiff, Int.reduceEq, reduceCtorEq, Int.reduceBEq, Int.reduceBNe, Int.reduceLT, Int.reduceNeg]
          exact ⟨h, h, st⟩
      · have hb := bad (by
          cases e : sameN ⟨k, p, q, c, z⟩ ⟨k', p', q', c', z'⟩ with
          | false => rfl
          | true =>
            rw [sameN_iff] at e
            simp only [Nd.mk.injEq] at e
            obtain ⟨e1, e2, e3, e4, e5⟩ := e
            exact absurd ⟨e1, e2, e3, e5, by rw [e4]⟩ hd)
        clear bad step
        simp only [D0, ains, clsOf, abin, aint, aun, dnext, rowsOf, loadObj, cellsOf, ofCells, bnd, hmerge, Nat.reduceBEq, Nat.reduceAdd, reduceIte, Nat.reduceEqDiff, Nat.reduceLeDiff, Int.reduceEq, reduceCtorEq, Int.reduceBEq, Int.reduceBNe, Int.reduceLT, Int.reduceNeg, h', hga, hgb, eNd, eSet, hins, fins, idk, List.getLast?_cons_cons, List.getLast?_singleton, Option.getD_some, Option.isNone_none, Nat.reduceLT, lrc_x, apx, apart, apart1, needs, decide_true, Int.natCast_nonneg, Int.toNat_natCast]
        repeat' ((first | refine rw1_nsplit (fun h => ?_) (fun h => ?_) | refine rw1_split (fun h => ?_) (fun h => ?_) | refine dw1_nsplit (fun h => ?_) (fun h => ?_) | refine dw1_split (fun h => ?_) (fun h => ?_) | refine cg2_nsplit (fun h => ?_) (fun h => ?_) | refine cg2_split (fun h => ?_) (fun h => ?_)) <;> simp only [D0, ains, clsOf, abin, aint, aun, dnext, rowsOf, loadObj, cellsOf, ofCells, bnd, hmerge, Nat.reduceBEq, Nat.reduceAdd, reduceIte, Nat.reduceEqDiff, Nat.reduceLeDiff, Int.reduceEq, reduceCtorEq, Int.reduceBEq, Int.reduceBNe, Int.reduceLT, Int.reduceNeg, h, lrc_x])
        all_goals simp only [F1, bodyRes, one, ains, clsOf, abin, aint, aun, dnext, rowsOf, loadObj, cellsOf, ofCells, bnd, hmerge, Nat.reduceBEq, Nat.reduceAdd, reduceIte, Nat.reduceEqDiff, Nat.reduceLeDiff, Int.reduceEq, reduceCtorEq, Int.reduceBEq, Int.reduceBNe, Int.reduceLT, Int.reduceNeg, fn112_res, fn112_keep, hb]
        all_goals (refine absurd ?_ hd; clear hd hga hgb; simp_all; try omega)
    · have h' : ¬ (j : Int) < (a.length : Int) := by omega
      have he : sameT a b = true := by
        unfold sameT
        rw [all_true fun i h1 => hi i (by omega)]
        simp [hl]
      simp only [D0, ains, clsOf, abin, aint, aun, dnext, rowsOf, loadObj, cellsOf, ofCells, bnd, hmerge, Nat.reduceBEq, Nat.reduceAdd, reduceIte, Nat.reduceEqDiff, Nat.reduceLeDiff, Int.reduceEq, reduceCtorEq, Int.reduceBEq, Int.reduceBNe, Int.reduceLT, Int.reduceNeg, h', decide_false]
      refine .inr ⟨by simp, ?_⟩
      simp only [F1, bodyRes, one, ains, clsOf, abin, aint, aun, dnext, rowsOf, loadObj, cellsOf, ofCells, bnd, hmerge, Nat.reduceBEq, Nat.reduceAdd, reduceIte, Nat.reduceEqDiff, Nat.reduceLeDiff, Int.reduceEq, reduceCtorEq, Int.reduceBEq, Int.reduceBNe, Int.reduceLT, Int.reduceNeg, fn112_res, fn112_keep, he]
  · have hl' : ((a.length : Int) != (b.length : Int)) = true := by
      simp only [bne_iff_ne, ne_eq]
      omega
    have he : sameT a b = false := by simp [sameT, hl]
    simp only [fn112_body, c112, D0, ains, clsOf, abin, aint, aun, dnext, rowsOf, loadObj, cellsOf, ofCells, bnd, hmerge, Nat.reduceBEq, Nat.reduceAdd, reduceIte, Nat.reduceEqDiff, Nat.reduceLeDiff, Int.reduceEq, reduceCtorEq, Int.reduceBEq, Int.reduceBNe, Int.reduceLT, Int.reduceNeg, hl']
    simp only [F1, bodyRes, one, ains, clsOf, abin, aint, aun, dnext, rowsOf, loadObj, cellsOf, ofCells, bnd, hmerge, Nat.reduceBEq, Nat.reduceAdd, reduceIte, Nat.reduceEqDiff, Nat.reduceLeDiff, Int.reduceEq, reduceCtorEq, Int.reduceBEq, Int.reduceBNe, Int.reduceLT, Int.reduceNeg, fn112_res, fn112_keep, he]
noncomputable def k112 : Kon (List Nd × List Nd) := ⟨fun x => (∀ n ∈ x.1, n.set.length ≤ 600) ∧ x.1.length ≤ 9223372036854775807, fun x => [(AV.list 5 (List.map eNd x.1)), (AV.list 5 (List.map eNd x.2))], fun x => .bool (sameT x.1 x.2)⟩
theorem e112 (a : List Nd) (b : List Nd) (hd : (∀ n ∈ a, n.set.length ≤ 600) ∧ a.length ≤ 9223372036854775807) (q0 : Id) (H0 : Heap) : k112.ora q0 ([(AV.list 5 (List.map eNd a)), (AV.list 5 (List.map eNd b))]) H0 = some (.bool (sameT a b), H0) := k112.eq (tree2Inj) (a, b) hd q0 H0
theorem ook112 : OraOK Try.prog (112 % 100000) k112.ora := k112.ok orders s9_ok (fun x hd => by simp [k112, PU]) (fun x hd => by simp [k112, PU]) (fun x hd => run112 x.1 x.2 hd.1 hd.2)

noncomputable def q1 : FT := upd (upd (s9) 81 k81.ora) 112 k112.ora
theorem q1_ok : FTOK Try.prog q1 := upd_ok2 (f := 112) (upd_ok2 (f := 81) (s9_ok) ook81) ook112

end Go.Proofs.Abs

set_option linter.all false
set_option linter.constructorNameAsVariable false
set_option linter.defProp false
set_option linter.unusedVariables false
set_option linter.unusedSimpArgs false
set_option maxRecDepth 100000
set_option maxHeartbeats 4000000
namespace Go.Proofs.Abs
open Go
/-! 42: caesuraref12.Cat. -/
theorem beq_no {a b : Int} (h : ¬ a = b) : (a == b) = false := by simpa using h
theorem bne_yes {a b : Int} (h : ¬ a = b) : (a != b) = true := by simpa using h
noncomputable def k42 : Kon (List Nd × List Nd) := ⟨fun x => (SmS x.1 ∧ SmS x.2) ∧ x.1.length ≤ 1000000 ∧ x.2.length ≤ 1000000, fun x => [(AV.list 5 (List.map eNd x.1)), (AV.list 5 (List.map eNd x.2))], fun x => (AV.list 5 (List.map eNd (encO (catT x.1 x.2))))⟩
theorem i42 : ∀ a b, k42.enc a = k42.enc b → a = b := tree2Inj
theorem e42 (a : List Nd) (b : List Nd) (hd : (SmS a ∧ SmS b) ∧ a.length ≤ 1000000 ∧ b.length ≤ 1000000) (q0 : Id) (H0 : Heap) : k42.ora q0 ([(AV.list 5 (List.map eNd a)), (AV.list 5 (List.map eNd b))]) H0 = some ((AV.list 5 (List.map eNd (encO (catT a b)))), H0) := k42.eq i42 (a, b) hd q0 H0
noncomputable def r42 (n : Nat) : Kon (List Nd × List Nd) := ⟨fun x => k42.dom x ∧ (fun x => x.2.length) x < n, k42.enc, k42.out⟩
theorem er42 {n : Nat} (a : List Nd) (b : List Nd) (hd : ((SmS a ∧ SmS b) ∧ a.length ≤ 1000000 ∧ b.length ≤ 1000000) ∧ (b.length) < n) (q0 : Id) (H0 : Heap) : (r42 n).ora q0 ([(AV.list 5 (List.map eNd a)), (AV.list 5 (List.map eNd b))]) H0 = some ((AV.list 5 (List.map eNd (encO (catT a b)))), H0) := (r42 n).eq i42 (a, b) hd q0 H0
noncomputable def z42 (n : Nat) : FT := updC (upd q1 42 (r42 n).ora) 200042 fn42

theorem run42 (n : Nat) (a b : List Nd) (hd : ((SmS a ∧ SmS b) ∧ a.length ≤ 1000000 ∧ b.length ≤ 1000000) ∧ b.length < n + 1) : cwp (z42 n) 200042 [] [(AV.list 5 (List.map eNd a)), (AV.list 5 (List.map eNd b))] [] (fun r H => r = (AV.list 5 (List.map eNd (encO (catT a b)))) ∧ H = []) := by
  refine run_fn (fn := fn42) rfl rfl ?_
  obtain ⟨⟨⟨sa, sb⟩, la, lb⟩, hn⟩ := hd
  have wa := sa.wf
  have wb := sb.wf
  by_cases g1 : goodT a = true
  case neg =>
    have g1' : goodT a = false := by simpa using g1
    have hr : catT a b = none := catT_no (.inl g1')
    simp only [fn42_body, c42, D0, ains, clsOf, abin, aint, aun, dnext, rowsOf, loadObj, cellsOf, ofCells, bnd, hmerge, Nat.reduceBEq, Nat.reduceAdd, reduceIte, Nat.reduceEqDiff, Nat.reduceLeDiff, Int.reduceEq, reduceCtorEq, Int.reduceBEq, Int.reduceBNe, Int.reduceLT, Int.reduceNeg, @use_all (z42 n) 30 k30.ora rfl, e30, wa, g1']
    simp only [F1, bodyRes, one, ains, clsOf, abin, aint, aun, dnext, rowsOf, loadObj, cellsOf, ofCells, bnd, hmerge, Nat.reduceBEq, Nat.reduceAdd, reduceIte, Nat.reduceEqDiff, Nat.reduceLeDiff, Int.reduceEq, reduceCtorEq, Int.reduceBEq, Int.reduceBNe, Int.reduceLT, Int.reduceNeg, fn42_res, fn42_keep, fz, fzd, fzd.fzcells, hr, encO]
  by_cases g2 : goodT b = true
  case neg =>
    have g2' : goodT b = false := by simpa using g2
    have hr : catT a b = none := catT_no (.inr g2')
    simp only [fn42_body, c42, D0, ains, clsOf, abin, aint, aun, dnext, rowsOf, loadObj, cellsOf, ofCells, bnd, hmerge, Nat.reduceBEq, Nat.reduceAdd, reduceIte, Nat.reduceEqDiff, Nat.reduceLeDiff, Int.reduceEq, reduceCtorEq, Int.reduceBEq, Int.reduceBNe, Int.reduceLT, Int.reduceNeg, @use_all (z42 n) 30 k30.ora rfl, e30, wa, wb, g1, g2']
    simp only [F1, bodyRes, one, ains, clsOf, abin, aint, aun, dnext, rowsOf, loadObj, cellsOf, ofCells, bnd, hmerge, Nat.reduceBEq, Nat.reduceAdd, reduceIte, Nat.reduceEqDiff, Nat.reduceLeDiff, Int.reduceEq, reduceCtorEq, Int.reduceBEq, Int.reduceBNe, Int.reduceLT, Int.reduceNeg, fn42_res, fn42_keep, fz, fzd, fzd.fzcells, hr, encO]
  obtain ⟨x, hx, rfl⟩ := okS_of ⟨sa, g1⟩
  obtain ⟨y, hy, rfl⟩ := okS_of ⟨sb, g2⟩
  rw [catT_enc hx hy]
  have nx := hx.ne
  have ny := hy.ne
  have kx := lastN_enc x
  have ky := lastN_enc y
  by_cases n1 : rk x = 0
  case pos =>
    have hr : catO x y = some never := by cases y <;> simp [catO, cat1, n1]
    simp only [fn42_body, c42, D0, ains, clsOf, abin, aint, aun, dnext, rowsOf, loadObj, cellsOf, ofCells, bnd, hmerge, Nat.reduceBEq, Nat.reduceAdd, reduceIte, Nat.reduceEqDiff, Nat.reduceLeDiff, Int.reduceEq, reduceCtorEq, Int.reduceBEq, Int.reduceBNe, Int.reduceLT, Int.reduceNeg, @use_all (z42 n) 30 k30.ora rfl, e30, @use_all (z42 n) 81 k81.ora rfl, e81, @use_all (z42 n) 35 k35.ora rfl, e35, wa, wb, g1, g2, nx, ny, kx, ky, n1, leafT0]
    simp only [F1, bodyRes, one, ains, clsOf, abin, aint, aun, dnext, rowsOf, loadObj, cellsOf, ofCells, bnd, hmerge, Nat.reduceBEq, Nat.reduceAdd, reduceIte, Nat.reduceEqDiff, Nat.reduceLeDiff, Int.reduceEq, reduceCtorEq, Int.reduceBEq, Int.reduceBNe, Int.reduceLT, Int.reduceNeg, fn42_res, fn42_keep, fz, fzd, fzd.fzcells, hr, encO]
  have m1 := beq_no n1
  by_cases n2 : rk y = 0
  case pos =>
    have hr : catO x y = some never := by rw [catO_no (by omega)]; simp [cat1, n2]
    simp only [fn42_body, c42, D0, ains, clsOf, abin, aint, aun, dnext, rowsOf, loadObj, cellsOf, ofCells, bnd, hmerge, Nat.reduceBEq, Nat.reduceAdd, reduceIte, Nat.reduceEqDiff, Nat.reduceLeDiff, Int.reduceEq, reduceCtorEq, Int.reduceBEq, Int.reduceBNe, Int.reduceLT, Int.reduceNeg, @use_all (z42 n) 30 k30.ora rfl, e30, @use_all (z42 n) 81 k81.ora rfl, e81, @use_all (z42 n) 35 k35.ora rfl, e35, wa, wb, g1, g2, nx, ny, kx, ky, m1, n2, leafT0]
    simp only [F1, bodyRes, one, ains, clsOf, abin, aint, aun, dnext, rowsOf, loadObj, cellsOf, ofCells, bnd, hmerge, Nat.reduceBEq, Nat.reduceAdd, reduceIte, Nat.reduceEqDiff, Nat.reduceLeDiff, Int.reduceEq, reduceCtorEq, Int.reduceBEq, Int.reduceBNe, Int.reduceLT, Int.reduceNeg, fn42_res, fn42_keep, fz, fzd, fzd.fzcells, hr, encO]
  have m2 := beq_no n2
  by_cases e1 : rk x = 1
  case pos =>
    have hr : catO x y = some y := by cases y <;> simp_all [catO, cat1]
    simp only [fn42_body, c42, D0, ains, clsOf, abin, aint, aun, dnext, rowsOf, loadObj, cellsOf, ofCells, bnd, hmerge, Nat.reduceBEq, Nat.reduceAdd, reduceIte, Nat.reduceEqDiff, Nat.reduceLeDiff, Int.reduceEq, reduceCtorEq, Int.reduceBEq, Int.reduceBNe, Int.reduceLT, Int.reduceNeg, @use_all (z42 n) 30 k30.ora rfl, e30, @use_all (z42 n) 81 k81.ora rfl, e81, wa, wb, g1, g2, nx, ny, kx, ky, m1, m2, e1]
    simp only [F1, bodyRes, one, ains, clsOf, abin, aint, aun, dnext, rowsOf, loadObj, cellsOf, ofCells, bnd, hmerge, Nat.reduceBEq, Nat.reduceAdd, reduceIte, Nat.reduceEqDiff, Nat.reduceLeDiff, Int.reduceEq, reduceCtorEq, Int.reduceBEq, Int.reduceBNe, Int.reduceLT, Int.reduceNeg, fn42_res, fn42_keep, fz, fzd, fzd.fzcells, hr, encO]
  have m3 := beq_no e1
  by_cases e2 : rk y = 1
  case pos =>
    have hr : catO x y = some x := by rw [catO_no (by omega)]; simp [cat1, n1, n2, e1, e2]
    simp only [fn42_body, c42, D0, ains, clsOf, abin, aint, aun, dnext, rowsOf, loadObj, cellsOf, ofCells, bnd, hmerge, Nat.reduceBEq, Nat.reduceAdd, reduceIte, Nat.reduceEqDiff, Nat.reduceLeDiff, Int.reduceEq, reduceCtorEq, Int.reduceBEq, Int.reduceBNe, Int.reduceLT, Int.reduceNeg, @use_all (z42 n) 30 k30.ora rfl, e30, @use_all (z42 n) 81 k81.ora rfl, e81, wa, wb, g1, g2, nx, ny, kx, ky, m1, m2, m3, e2]
    simp only [F1, bodyRes, one, ains, clsOf, abin, aint, aun, dnext, rowsOf, loadObj, cellsOf, ofCells, bnd, hmerge, Nat.reduceBEq, Nat.reduceAdd, reduceIte, Nat.reduceEqDiff, Nat.reduceLeDiff, Int.reduceEq, reduceCtorEq, Int.reduceBEq, Int.reduceBNe, Int.reduceLT, Int.reduceNeg, fn42_res, fn42_keep, fz, fzd, fzd.fzcells, hr, encO]
  have m4 := beq_no e2
  by_cases c2 : rk y = 3
  case neg =>
    have hr : catO x y = joinO 3 x y := by rw [catO_no c2]; simp [cat1, n1, n2, e1, e2]
    have m5 := beq_no c2
    obtain ⟨j1, j2⟩ := encO_join (k := 3) (.inl rfl) hx hy
    have hd : (SmS (enc x) ∧ SmS (enc y)) ∧ (enc x).length ≤ 1000000 ∧ (enc y).length ≤ 1000000 := ⟨⟨sa, sb⟩, la, lb⟩
    simp only [fn42_body, c42, D0, ains, clsOf, abin, aint, aun, dnext, rowsOf, loadObj, cellsOf, ofCells, bnd, hmerge, Nat.reduceBEq, Nat.reduceAdd, reduceIte, Nat.reduceEqDiff, Nat.reduceLeDiff, Int.reduceEq, reduceCtorEq, Int.reduceBEq, Int.reduceBNe, Int.reduceLT, Int.reduceNeg, @use_all (z42 n) 30 k30.ora rfl, e30, @use_all (z42 n) 81 k81.ora rfl, e81, @use_all (z42 n) 25 k25.ora rfl, e25, wa, wb, g1, g2, nx, ny, kx, ky, m1, m2, m3, m4, m5, hd, j1]
    simp only [F1, bodyRes, one, ains, clsOf, abin, aint, aun, dnext, rowsOf, loadObj, cellsOf, ofCells, bnd, hmerge, Nat.reduceBEq, Nat.reduceAdd, reduceIte, Nat.reduceEqDiff, Nat.reduceLeDiff, Int.reduceEq, reduceCtorEq, Int.reduceBEq, Int.reduceBNe, Int.reduceLT, Int.reduceNeg, fn42_res, fn42_keep, fz, fzd, fzd.fzcells, hr]
  obtain ⟨u, v, rfl⟩ := rk_cat hy.1 c2
  obtain ⟨h1, h2⟩ := hy.c
  obtain ⟨p1, p2, p3⟩ := hy.partsC
  have hl := hy.2
  rw [enc_len] at hn
  simp only [sz] at hn hl
  have hr : catO x (.cat u v) = (catO x u).bind fun c => catO c v := by simp [catO, n1, e1]
  have du : ((SmS (enc x) ∧ SmS (enc u)) ∧ (enc x).length ≤ 1000000 ∧ (enc u).length ≤ 1000000) ∧ (enc u).length < n := ⟨⟨⟨sa, h1.sm⟩, la, by have := h1.len; omega⟩, by rw [enc_len]; omega⟩
  have eu := catT_enc hx h1
  cases ec : catO x u with
  | none =>
    have hz0 : (((0 : Nat) : Int) == 0) = true := rfl
    simp only [fn42_body, c42, D0, ains, clsOf, abin, aint, aun, dnext, rowsOf, loadObj, cellsOf, ofCells, bnd, hmerge, Nat.reduceBEq, Nat.reduceAdd, reduceIte, Nat.reduceEqDiff, Nat.reduceLeDiff, Int.reduceEq, reduceCtorEq, Int.reduceBEq, Int.reduceBNe, Int.reduceLT, Int.reduceNeg, @use_all (z42 n) 30 k30.ora rfl, e30, @use_all (z42 n) 81 k81.ora rfl, e81, @use_all (z42 n) 24 k24.ora rfl, e24, @use_all (z42 n) 42 (r42 n).ora rfl, er42, wa, wb, sb, g1, g2, nx, ny, kx, ky, m1, m2, m3, m4, c2, p1, p2, p3, du, eu, ec, encO, hz0]
    simp only [F1, bodyRes, one, ains, clsOf, abin, aint, aun, dnext, rowsOf, loadObj, cellsOf, ofCells, bnd, hmerge, Nat.reduceBEq, Nat.reduceAdd, reduceIte, Nat.reduceEqDiff, Nat.reduceLeDiff, Int.reduceEq, reduceCtorEq, Int.reduceBEq, Int.reduceBNe, Int.reduceLT, Int.reduceNeg, fn42_res, fn42_keep, fz, fzd, fzd.fzcells, hr, ec, Option.bind_none, encO]
  | some c =>
    have hc := ok_catO hx h1 ec
    have ev := catT_enc hc h2
    have hz0 : (((enc c).length : Int) == 0) = false := beq_no (by have := hc.ne; omega)
    have dv : ((SmS (enc c) ∧ SmS (enc v)) ∧ (enc c).length ≤ 1000000 ∧ (enc v).length ≤ 1000000) ∧ (enc v).length < n := ⟨⟨⟨hc.sm, h2.sm⟩, by have := hc.len; omega, by have := h2.len; omega⟩, by rw [enc_len]; omega⟩
    simp only [fn42_body, c42, D0, ains, clsOf, abin, aint, aun, dnext, rowsOf, loadObj, cellsOf, ofCells, bnd, hmerge, Nat.reduceBEq, Nat.reduceAdd, reduceIte, Nat.reduceEqDiff, Nat.reduceLeDiff, Int.reduceEq, reduceCtorEq, Int.reduceBEq, Int.reduceBNe, Int.reduceLT, Int.reduceNeg, @use_all (z42 n) 30 k30.ora rfl, e30, @use_all (z42 n) 81 k81.ora rfl, e81, @use_all (z42 n) 24 k24.ora rfl, e24, @use_all (z42 n) 42 (r42 n).ora rfl, er42, wa, wb, sb, g1, g2, nx, ny, kx, ky, m1, m2, m3, m4, c2, p1, p2, p3, du, dv, eu, ev, ec, encO, hz0]
    simp only [F1, bodyRes, one, ains, clsOf, abin, aint, aun, dnext, rowsOf, loadObj, cellsOf, ofCells, bnd, hmerge, Nat.reduceBEq, Nat.reduceAdd, reduceIte, Nat.reduceEqDiff, Nat.reduceLeDiff, Int.reduceEq, reduceCtorEq, Int.reduceBEq, Int.reduceBNe, Int.reduceLT, Int.reduceNeg, fn42_res, fn42_keep, fz, fzd, fzd.fzcells, hr, ec, Option.bind_some]
theorem ook42 : OraOK Try.prog (42 % 100000) k42.ora := ora_rec (fun x => x.2.length) (fun a b _ _ h => i42 a b h) fun n h => (r42 (n + 1)).ok (f := 200042) orders (updC_ok (upd_ok2 (f := 42) q1_ok h) ok42) (fun x hd => by simp [r42, k42, PU]) (fun x hd => by simp [r42, k42, PU]) (fun x hd => run42 n x.1 x.2 hd)

/-! 84: caesuraref12.Star1. -/
theorem run84 (x : Tr) (hx : OkS x) : cwp q1 84 [] [(AV.list 5 (List.map eNd (enc x)))] [] (fun r H => r = (AV.list 5 (List.map eNd (encO (star1O x)))) ∧ H = []) := by
  refine run_fn (fn := fn84) rfl rfl ?_
  have nx := hx.ne
  have kx := lastN_enc x
  by_cases n1 : rk x = 0
  case pos =>
    have hr : star1O x = some empty := by simp [star1O, n1]
    simp only [fn84_body, c84, D0, ains, clsOf, abin, aint, aun, dnext, rowsOf, loadObj, cellsOf, ofCells, bnd, hmerge, Nat.reduceBEq, Nat.reduceAdd, reduceIte, Nat.reduceEqDiff, Nat.reduceLeDiff, Int.reduceEq, reduceCtorEq, Int.reduceBEq, Int.reduceBNe, Int.reduceLT, Int.reduceNeg, @use_all q1 81 k81.ora rfl, e81, @use_all q1 35 k35.ora rfl, e35, nx, kx, n1, leafT1]
    simp only [F1, bodyRes, one, ains, clsOf, abin, aint, aun, dnext, rowsOf, loadObj, cellsOf, ofCells, bnd, hmerge, Nat.reduceBEq, Nat.reduceAdd, reduceIte, Nat.reduceEqDiff, Nat.reduceLeDiff, Int.reduceEq, reduceCtorEq, Int.reduceBEq, Int.reduceBNe, Int.reduceLT, Int.reduceNeg, fn84_res, fn84_keep, fz, fzd, fzd.fzcells, hr, encO]
  have m1 := beq_no n1
  by_cases n2 : rk x = 1
  case pos =>
    have hr : star1O x = some empty := by simp [star1O, n2]
    simp only [fn84_body, c84, D0, ains, clsOf, abin, aint, aun, dnext, rowsOf, loadObj, cellsOf, ofCells, bnd, hmerge, Nat.reduceBEq, Nat.reduceAdd, reduceIte, Nat.reduceEqDiff, Nat.reduceLeDiff, Int.reduceEq, reduceCtorEq, Int.reduceBEq, Int.reduceBNe, Int.reduceLT, Int.reduceNeg, @use_all q1 81 k81.ora rfl, e81, @use_all q1 35 k35.ora rfl, e35, nx, kx, m1, n2, leafT1]
    simp only [F1, bodyRes, one, ains, clsOf, abin, aint, aun, dnext, rowsOf, loadObj, cellsOf, ofCells, bnd, hmerge, Nat.reduceBEq, Nat.reduceAdd, reduceIte, Nat.reduceEqDiff, Nat.reduceLeDiff, Int.reduceEq, reduceCtorEq, Int.reduceBEq, Int.reduceBNe, Int.reduceLT, Int.reduceNeg, fn84_res, fn84_keep, fz, fzd, fzd.fzcells, hr, encO]
  have m2 := beq_no n2
  by_cases n3 : rk x = 5
  case pos =>
    have hr : star1O x = some x := by simp [star1O, n3]
    simp only [fn84_body, c84, D0, ains, clsOf, abin, aint, aun, dnext, rowsOf, loadObj, cellsOf, ofCells, bnd, hmerge, Nat.reduceBEq, Nat.reduceAdd, reduceIte, Nat.reduceEqDiff, Nat.reduceLeDiff, Int.reduceEq, reduceCtorEq, Int.reduceBEq, Int.reduceBNe, Int.reduceLT, Int.reduceNeg, @use_all q1 81 k81.ora rfl, e81, nx, kx, m1, m2, n3]
    simp only [F1, bodyRes, one, ains, clsOf, abin, aint, aun, dnext, rowsOf, loadObj, cellsOf, ofCells, bnd, hmerge, Nat.reduceBEq, Nat.reduceAdd, reduceIte, Nat.reduceEqDiff, Nat.reduceLeDiff, Int.reduceEq, reduceCtorEq, Int.reduceBEq, Int.reduceBNe, Int.reduceLT, Int.reduceNeg, fn84_res, fn84_keep, fz, fzd, fzd.fzcells, hr, encO]
  have m3 := beq_no n3
  have hr : star1O x = starJ x := by simp [star1O, n1, n2, n3]
  have hd : SmS (enc x) ∧ (enc x).length ≤ 1000000 := ⟨hx.sm, by have := hx.len; omega⟩
  obtain ⟨j1, j2⟩ := encO_star hx
  simp only [fn84_body, c84, D0, ains, clsOf, abin, aint, aun, dnext, rowsOf, loadObj, cellsOf, ofCells, bnd, hmerge, Nat.reduceBEq, Nat.reduceAdd, reduceIte, Nat.reduceEqDiff, Nat.reduceLeDiff, Int.reduceEq, reduceCtorEq, Int.reduceBEq, Int.reduceBNe, Int.reduceLT, Int.reduceNeg, @use_all q1 81 k81.ora rfl, e81, @use_all q1 26 k26.ora rfl, e26, nx, kx, m1, m2, m3, hd, j1]
  simp only [F1, bodyRes, one, ains, clsOf, abin, aint, aun, dnext, rowsOf, loadObj, cellsOf, ofCells, bnd, hmerge, Nat.reduceBEq, Nat.reduceAdd, reduceIte, Nat.reduceEqDiff, Nat.reduceLeDiff, Int.reduceEq, reduceCtorEq, Int.reduceBEq, Int.reduceBNe, Int.reduceLT, Int.reduceNeg, fn84_res, fn84_keep, fz, fzd, fzd.fzcells, hr]
theorem trInj : ∀ x y : Tr, OkS x → OkS y → [(AV.list 5 (List.map eNd (enc x)))] = [(AV.list 5 (List.map eNd (enc y)))] → x = y := by
  intro x y hx hy h
  simp only [List.cons.injEq, and_true] at h
  exact enc_injS hx hy (eTree_inj h)
noncomputable def k84 : Kon (Tr) := ⟨fun x => OkS x, fun x => [(AV.list 5 (List.map eNd (enc x)))], fun x => (AV.list 5 (List.map eNd (encO (star1O x))))⟩
theorem e84 (t : Tr) (hd : OkS t) (q0 : Id) (H0 : Heap) : k84.ora q0 ([(AV.list 5 (List.map eNd (enc t)))]) H0 = some ((AV.list 5 (List.map eNd (encO (star1O t)))), H0) := k84.eqD (trInj) (t) hd q0 H0
theorem ook84 : OraOK Try.prog (84 % 100000) k84.ora := k84.ok orders q1_ok (fun x hd => by simp [k84, PU]) (fun x hd => by simp [k84, PU]) (fun x hd => run84 x hd)

noncomputable def q2 : FT := upd (upd (q1) 42 k42.ora) 84 k84.ora
theorem q2_ok : FTOK Try.prog q2 := upd_ok2 (f := 84) (upd_ok2 (f := 42) (q1_ok) ook42) ook84

end Go.Proofs.Abs
