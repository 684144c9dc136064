/- A part of a proof: the text that states the row tells what is proved. No condition is laid on anything. -/
import Derived.Test.YtgcncpedpjjjeaaAbsT3
set_option linter.all false
set_option linter.constructorNameAsVariable false
set_option linter.defProp false
set_option linter.unusedVariables false
set_option linter.unusedSimpArgs false
set_option maxRecDepth 100000
set_option maxHeartbeats 4000000
namespace Go.Proofs.Abs
open Go
/-! 72: takes. -/
theorem run72 {t : List Nd} {l : List Int} {n i j : Nat} {k a b : Int} {c : List (Int × Int)} {z : ByteArray} (hn : n < t.length) (hx : t.getD n default = ⟨k, a, b, c, z⟩)
    (asks : ∀ (H0 : Heap), Bs t l H0 → ∀ es, Memo t l es → ∀ q : Id, q ≠ [] → cwp w0 105 q [.ref [8] 1 0 0, .agg [AV.int .i64 (Nd.kind ⟨k, a, b, c, z⟩), AV.int .i64 (Nd.a ⟨k, a, b, c, z⟩), AV.int .i64 (Nd.b ⟨k, a, b, c, z⟩), (AV.list 2 (List.map (fun x => [AV.int .i64 x.1, AV.int .i64 x.2]) (Nd.set ⟨k, a, b, c, z⟩))), AV.str (Nd.name ⟨k, a, b, c, z⟩)], .int .i64 n, .int .i64 i, .int .i64 j] (hset H0 [6] (.map es)) (Ans t l H0 (tk t l n i j))) : Tk t l n i j := by
  intro H0 hb es hm q hq
  refine run_fn (fn := fn72) rfl rfl ?_
  have h86 := fget_one hq
  have hnq : ∀ k m, ¬ (q ++ [k] = [m]) := fun k m e => by
    have := congrArg List.length e
    simp at this
    exact hq this
  have g8 := fun es => hb.g8 es
  have g6 := fun es => hb.g6 es
  have hg := map_get (f := eNd) hn default
  rw [hx] at hg
  rcases memo_find hm n i j with hf | hf
  · simp only [K3] at hf
    simp only [fn72_body, c72, D0, ains, clsOf, abin, aint, aun, dnext, rowsOf, loadObj, cellsOf, ofCells, bnd, hmerge, Nat.reduceBEq, Nat.reduceAdd, reduceIte, Nat.reduceEqDiff, Nat.reduceLeDiff, Int.reduceEq, reduceCtorEq, Int.reduceBEq, Int.reduceBNe, Int.reduceLT, Int.reduceNeg, h86, hnq, g8, g6, hf, lrc_x, apx, apart, apart1, needs, hg, eNd, eSet, Int.natCast_nonneg, Int.toNat_natCast]
    refine An.fr asks hb hm ?_ ?_ ?_ fun es2 hm2 => ?_
    · simp
    · exact h86 _ _ _
    · exact h86 _ _ _
    obtain ⟨pre, post, m1, m2, m3⟩ := memo_put hm2 n i j
    have mn := memo_new m1 n i j
    simp only [K3, b01] at m2 m3 mn
    by_cases hB : tk t l n i j = true
    · rw [hB] at mn
      simp only [if_true] at mn
      simp only [D0, ains, clsOf, abin, aint, aun, dnext, rowsOf, loadObj, cellsOf, ofCells, bnd, hmerge, Nat.reduceBEq, Nat.reduceAdd, reduceIte, Nat.reduceEqDiff, Nat.reduceLeDiff, Int.reduceEq, reduceCtorEq, Int.reduceBEq, Int.reduceBNe, Int.reduceLT, Int.reduceNeg, hB, h86, hnq, g8, g6, m2, m3, hset_hset, lrc_x, apx, apart, apart1, needs]
      simp only [F1, bodyRes, one, ains, clsOf, abin, aint, aun, dnext, rowsOf, loadObj, cellsOf, ofCells, bnd, hmerge, Nat.reduceBEq, Nat.reduceAdd, reduceIte, Nat.reduceEqDiff, Nat.reduceLeDiff, Int.reduceEq, reduceCtorEq, Int.reduceBEq, Int.reduceBNe, Int.reduceLT, Int.reduceNeg, fn72_res, fn72_keep]
      exact ⟨by first | rfl | rw [hB], _, mn, rfl⟩
    · have hB' : tk t l n i j = false := by simpa using hB
      rw [hB'] at mn
      simp only [Bool.false_eq_true, if_false] at mn
      simp only [D0, ains, clsOf, abin, aint, aun, dnext, rowsOf, loadObj, cellsOf, ofCells, bnd, hmerge, Nat.reduceBEq, Nat.reduceAdd, reduceIte, Nat.reduceEqDiff, Nat.reduceLeDiff, Int.reduceEq, reduceCtorEq, Int.reduceBEq, Int.reduceBNe, Int.reduceLT, Int.reduceNeg, hB', h86, hnq, g8, g6, m2, m3, hset_hset, lrc_x, apx, apart, apart1, needs]
      simp only [F1, bodyRes, one, ains, clsOf, abin, aint, aun, dnext, rowsOf, loadObj, cellsOf, ofCells, bnd, hmerge, Nat.reduceBEq, Nat.reduceAdd, reduceIte, Nat.reduceEqDiff, Nat.reduceLeDiff, Int.reduceEq, reduceCtorEq, Int.reduceBEq, Int.reduceBNe, Int.reduceLT, Int.reduceNeg, fn72_res, fn72_keep]
      exact ⟨by first | rfl | rw [hB'], _, mn, rfl⟩
  · simp only [K3, b01] at hf
    by_cases hB : tk t l n i j = true
    · simp only [hB, if_true] at hf
      simp only [fn72_body, c72, D0, ains, clsOf, abin, aint, aun, dnext, rowsOf, loadObj, cellsOf, ofCells, bnd, hmerge, Nat.reduceBEq, Nat.reduceAdd, reduceIte, Nat.reduceEqDiff, Nat.reduceLeDiff, Int.reduceEq, reduceCtorEq, Int.reduceBEq, Int.reduceBNe, Int.reduceLT, Int.reduceNeg, h86, hnq, g8, g6, hf, lrc_x, apx, apart, apart1, needs]
      simp only [F1, bodyRes, one, ains, clsOf, abin, aint, aun, dnext, rowsOf, loadObj, cellsOf, ofCells, bnd, hmerge, Nat.reduceBEq, Nat.reduceAdd, reduceIte, Nat.reduceEqDiff, Nat.reduceLeDiff, Int.reduceEq, reduceCtorEq, Int.reduceBEq, Int.reduceBNe, Int.reduceLT, Int.reduceNeg, fn72_res, fn72_keep]
      exact ⟨by first | rfl | rw [hB], es, hm, rfl⟩
    · have hB' : tk t l n i j = false := by simpa using hB
      simp only [hB', Bool.false_eq_true, if_false] at hf
      simp only [fn72_body, c72, D0, ains, clsOf, abin, aint, aun, dnext, rowsOf, loadObj, cellsOf, ofCells, bnd, hmerge, Nat.reduceBEq, Nat.reduceAdd, reduceIte, Nat.reduceEqDiff, Nat.reduceLeDiff, Int.reduceEq, reduceCtorEq, Int.reduceBEq, Int.reduceBNe, Int.reduceLT, Int.reduceNeg, h86, hnq, g8, g6, hf, lrc_x, apx, apart, apart1, needs]
      simp only [F1, bodyRes, one, ains, clsOf, abin, aint, aun, dnext, rowsOf, loadObj, cellsOf, ofCells, bnd, hmerge, Nat.reduceBEq, Nat.reduceAdd, reduceIte, Nat.reduceEqDiff, Nat.reduceLeDiff, Int.reduceEq, reduceCtorEq, Int.reduceBEq, Int.reduceBNe, Int.reduceLT, Int.reduceNeg, fn72_res, fn72_keep]
      exact ⟨by first | rfl | rw [hB'], es, hm, rfl⟩
/-- Each node of a right tree. -/
theorem tk_all {t : List Nd} {l : List Int} {lst : List Nat} (hw : WfT t) (hb : begs t = some lst) (hl : l.length ≤ 1000000) : ∀ n, n < t.length → ∀ d i j, j - i ≤ d → i ≤ j → j ≤ l.length → Tk t l n i j := by
  intro n
  induction n using Nat.strongRecOn with
  | ind n ihn =>
    intro hn d
    induction d using Nat.strongRecOn with
    | ind d ihd =>
      intro i j hd hij hj
      have hmem := getD_mem hn
      have hc := (hw.all _ hmem).set.len
      obtain ⟨hle, hcut⟩ := begs_cut hb n hn
      have hne : t[n] = t.getD n default := by
        rw [List.getD_eq_getElem?_getD, List.getElem?_eq_getElem hn]
        rfl
      rw [hne] at hcut
      generalize hx : t.getD n default = x at hc hcut
      obtain ⟨k, a, b, c, z⟩ := x
      simp only at hc
      have fork : (k = 3 ∨ k = 4) → ∃ a' b' : Nat, a = a' ∧ b = b' ∧ a' < n ∧ b' < n := fun hk => by
        cases hcut with
        | fork hf c2 hb0 c1 ha hn2 hg0 =>
          simp only at ha hb0
          have := (begs_cut hb (n - 1) (by omega)).1
          exact ⟨lst.getD (n - 1) 0 - 1, n - 1, by omega, by omega, by omega, by omega⟩
        | star hf hk5 => simp only at hk5; omega
        | leaf hf hk5 => rcases hk with rfl | rfl <;> simp [isFork] at hf
      refine run72 hn hx (run105 hx hc hij hj hl (fun hk => ?_) (fun hk => ?_) (fun hk => ?_))
      · obtain ⟨a', b', e1, e2, h1, h2⟩ := fork (.inr hk)
        exact ⟨a', b', e1, e2, h1, h2, ihn a' h1 (by omega) (j - i) i j (Nat.le_refl _) hij hj, ihn b' h2 (by omega) (j - i) i j (Nat.le_refl _) hij hj⟩
      · obtain ⟨a', b', e1, e2, h1, h2⟩ := fork (.inl hk)
        exact ⟨a', b', e1, e2, h1, h2, fun m h3 h4 => ihn a' h1 (by omega) (m - i) i m (Nat.le_refl _) h3 (by omega), fun m h3 h4 => ihn b' h2 (by omega) (j - m) m j (Nat.le_refl _) h4 hj⟩
      · cases hcut with
        | fork hf => subst hk; simp [isFork] at hf
        | leaf hf hk5 => exact absurd hk hk5
        | star hf hk5 c1 ha hb0 hn2 hg0 =>
          simp only at ha
          refine ⟨n - 1, by omega, by omega, fun m h3 h4 => ihn (n - 1) (by omega) (by omega) (m - i) i m (Nat.le_refl _) (by omega) (by omega), fun m h3 h4 => ihd (j - m) (by omega) m j (Nat.le_refl _) h4 hj⟩
/-! 31: tree.Takes. -/
theorem run31 (t : List Nd) (l : List Int) (hw : WfT t) (hl : l.length ≤ 1000000) : cwp w0 31 [] [(AV.list 5 (List.map eNd t)), (AV.list 1 (List.map (fun x => [AV.int .i64 x]) (l)))] [] (fun r H => r = .bool (takesT t l) ∧ H = []) := by
  refine run_fn (fn := fn31) rfl rfl ?_
  by_cases g : goodT t = true
  · obtain ⟨h1, h2, lst, hb, h3⟩ := goodT_iff.1 g
    have hm := wrapm (j := t.length) (by omega) (by omega)
    have hr : takesT t l = tk t l (t.length - 1) 0 l.length := by simp [takesT, g]
    simp only [fn31_body, c31, D0, ains, clsOf, abin, aint, aun, dnext, rowsOf, loadObj, cellsOf, ofCells, bnd, hmerge, Nat.reduceBEq, Nat.reduceAdd, reduceIte, Nat.reduceEqDiff, Nat.reduceLeDiff, Int.reduceEq, reduceCtorEq, Int.reduceBEq, Int.reduceBNe, Int.reduceLT, Int.reduceNeg, @use_all w0 29 k29.ora rfl, e29, hw, g, hm]
    have hbs : Bs t l [[([8], .box [(AV.list 5 (List.map eNd t)), (AV.list 1 (List.map (fun x => [AV.int .i64 x]) (l))), .map [6]]), ([6], .map [])]] := ⟨rfl, rfl⟩
    have run := tk_all hw hb hl (t.length - 1) (by omega) l.length 0 l.length (by omega) (by omega) (Nat.le_refl _) _ hbs [] (fun e he => by simp at he) [16] (by simp)
    refine cg_use run ?_
    rintro v H' ⟨rfl, es, _, rfl⟩
    simp only [D0, ains, clsOf, abin, aint, aun, dnext, rowsOf, loadObj, cellsOf, ofCells, bnd, hmerge, Nat.reduceBEq, Nat.reduceAdd, reduceIte, Nat.reduceEqDiff, Nat.reduceLeDiff, Int.reduceEq, reduceCtorEq, Int.reduceBEq, Int.reduceBNe, Int.reduceLT, Int.reduceNeg]
    simp only [F1, bodyRes, one, ains, clsOf, abin, aint, aun, dnext, rowsOf, loadObj, cellsOf, ofCells, bnd, hmerge, Nat.reduceBEq, Nat.reduceAdd, reduceIte, Nat.reduceEqDiff, Nat.reduceLeDiff, Int.reduceEq, reduceCtorEq, Int.reduceBEq, Int.reduceBNe, Int.reduceLT, Int.reduceNeg, fn31_res, fn31_keep, hr]
  · have g' : goodT t = false := by simpa using g
    have hr : takesT t l = false := by simp [takesT, g']
    simp only [fn31_body, c31, D0, ains, clsOf, abin, aint, aun, dnext, rowsOf, loadObj, cellsOf, ofCells, bnd, hmerge, Nat.reduceBEq, Nat.reduceAdd, reduceIte, Nat.reduceEqDiff, Nat.reduceLeDiff, Int.reduceEq, reduceCtorEq, Int.reduceBEq, Int.reduceBNe, Int.reduceLT, Int.reduceNeg, @use_all w0 29 k29.ora rfl, e29, hw, g']
    simp only [F1, bodyRes, one, ains, clsOf, abin, aint, aun, dnext, rowsOf, loadObj, cellsOf, ofCells, bnd, hmerge, Nat.reduceBEq, Nat.reduceAdd, reduceIte, Nat.reduceEqDiff, Nat.reduceLeDiff, Int.reduceEq, reduceCtorEq, Int.reduceBEq, Int.reduceBNe, Int.reduceLT, Int.reduceNeg, fn31_res, fn31_keep, hr]
noncomputable def k31 : Kon (List Nd × List Int) := ⟨fun x => WfT x.1 ∧ x.2.length ≤ 1000000, fun x => [(AV.list 5 (List.map eNd x.1)), (AV.list 1 (List.map (fun x => [AV.int .i64 x]) (x.2)))], fun x => .bool (takesT x.1 x.2)⟩
theorem e31 (t : List Nd) (l : List Int) (hd : WfT t ∧ l.length ≤ 1000000) (q0 : Id) (H0 : Heap) : k31.ora q0 ([(AV.list 5 (List.map eNd t)), (AV.list 1 (List.map (fun x => [AV.int .i64 x]) (l)))]) H0 = some (.bool (takesT t l), H0) := k31.eq (by dsimp only [k31]; rintro ⟨a, m⟩ ⟨b, n⟩ h; simp only [List.cons.injEq, and_true] at h; rw [eTree_inj (a := a) (b := b) h.1, eRow_inj (a := m) (b := n) h.2]) (t, l) hd q0 H0
theorem ook31 : OraOK Try.prog (31 % 100000) k31.ora := k31.ok orders w0_ok (fun x hd => by simp [k31, PU]) (fun x hd => by simp [k31, PU]) (fun x hd => run31 x.1 x.2 hd.1 hd.2)

noncomputable def w1 : FT := upd (w0) 31 k31.ora
theorem w1_ok : FTOK Try.prog w1 := upd_ok2 (f := 31) (w0_ok) ook31

end Go.Proofs.Abs
