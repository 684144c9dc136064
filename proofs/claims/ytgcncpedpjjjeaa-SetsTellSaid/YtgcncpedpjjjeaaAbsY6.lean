/- A part of a proof: the text that states the row tells what is proved. No condition is laid on anything. -/
import Derived.Test.YtgcncpedpjjjeaaAbsY5
set_option linter.all false
set_option linter.constructorNameAsVariable false
set_option linter.defProp false
set_option linter.unusedVariables false
set_option linter.unusedSimpArgs false
set_option maxRecDepth 100000
set_option maxHeartbeats 16000000
namespace Go.Proofs.Abs
open Go
/-! 13: caesuralaw03.SetsOrder. -/
theorem ordZ_zero {x y : R2} : Rg.ordZ x y = 0 ↔ x = y := by
  unfold Rg.ordZ Lib.compareInt
  constructor
  · intro h
    refine Prod.ext ?_ ?_ <;> (repeat' split at h) <;> first | omega | simp_all
  · rintro rfl
    simp
theorem ordZ_neg {x y : R2} : Rg.ordZ x y < 0 ↔ (x.1 < y.1 ∨ (x.1 = y.1 ∧ x.2 < y.2)) := by
  unfold Rg.ordZ Lib.compareInt
  repeat' split
  all_goals omega
theorem lessS_nil (b : List R2) : lessS [] b = true ↔ b ≠ [] := by cases b <;> simp [lessS, cmpS]
theorem lessS_nil2 (a : List R2) : lessS a [] = false := by cases a <;> simp [lessS, cmpS]
theorem lessS_cons {x y : R2} {a b : List R2} : lessS (x :: a) (y :: b) = true ↔ (x.1 < y.1 ∨ (x.1 = y.1 ∧ x.2 < y.2)) ∨ (x = y ∧ lessS a b = true) := by
  unfold lessS
  rw [decide_eq_true_eq, decide_eq_true_eq]
  show (if Rg.ordZ x y = 0 then cmpS a b else Rg.ordZ x y) < 0 ↔ _
  by_cases h : x = y
  · rw [if_pos (ordZ_zero.2 h)]
    subst h
    simp
  · rw [if_neg (fun k => h (ordZ_zero.1 k)), ordZ_neg]
    simp [h]
theorem lessS_irr : ∀ a : List R2, lessS a a = false
  | [] => rfl
  | x :: a => by
    have := lessS_irr a
    cases h : lessS (x :: a) (x :: a) with
    | false => rfl
    | true =>
      rw [lessS_cons] at h
      rcases h with h | ⟨_, h⟩
      · omega
      · rw [this] at h; cases h
theorem lessS_trans : ∀ {a b c : List R2}, lessS a b = true → lessS b c = true → lessS a c = true
  | [], b, [], h1, h2 => by rw [lessS_nil2] at h2; cases h2
  | [], b, z :: c, h1, h2 => (lessS_nil _).2 (by simp)
  | x :: a, [], c, h1, h2 => by rw [lessS_nil2] at h1; cases h1
  | x :: a, y :: b, [], h1, h2 => by rw [lessS_nil2] at h2; cases h2
  | x :: a, y :: b, z :: c, h1, h2 => by
    rw [lessS_cons] at *
    rcases h1 with h1 | ⟨rfl, h1⟩ <;> rcases h2 with h2 | ⟨rfl, h2⟩
    · left; omega
    · exact .inl h1
    · exact .inl h2
    · exact .inr ⟨rfl, lessS_trans h1 h2⟩
theorem lessS_total : ∀ (a b : List R2), lessS a b = true ∨ a = b ∨ lessS b a = true
  | [], [] => .inr (.inl rfl)
  | [], y :: b => .inl ((lessS_nil _).2 (by simp))
  | x :: a, [] => .inr (.inr ((lessS_nil _).2 (by simp)))
  | x :: a, y :: b => by
    rw [lessS_cons, lessS_cons]
    by_cases h : x = y
    · subst h
      rcases lessS_total a b with h | rfl | h
      · exact .inl (.inr ⟨rfl, h⟩)
      · exact .inr (.inl rfl)
      · exact .inr (.inr (.inr ⟨rfl, h⟩))
    · have : x.1 ≠ y.1 ∨ x.2 ≠ y.2 := by
        by_cases h1 : x.1 = y.1
        · exact .inr fun h2 => h (Prod.ext h1 h2)
        · exact .inl h1
      omega
theorem lessS_asym {a b : List R2} (h : lessS a b = true) : lessS b a = false := by
  cases k : lessS b a with
  | false => rfl
  | true => have := lessS_trans h k; rw [lessS_irr] at this; cases this
theorem lessS_ne {a b : List R2} (h : lessS a b = true) : a ≠ b := fun e => by rw [e, lessS_irr] at h; cases h
def dupL (l : List R2) : List R2 := l.flatMap fun x => [x, x]
theorem dupL_snoc (l : List R2) (x : R2) : dupL (l ++ [x]) = dupL l ++ [x, x] := by simp [dupL]
theorem dupL_length (l : List R2) : (dupL l).length = 2 * l.length := by
  induction l with
  | nil => rfl
  | cons x l ih => simp only [dupL, List.flatMap_cons, List.length_append, List.length_cons, List.length_nil] at *; omega
theorem mem_dupL {l : List R2} {r : R2} : r ∈ dupL l.reverse ↔ r ∈ l := by simp [dupL]
theorem of_back {a : List R2} (h : goodS a = true) : ofB (dupL a.reverse) = true ∧ ofV (dupL a.reverse) = a := by
  have g := (gdL_iff a).1 h
  obtain ⟨e1, e2, e3, _⟩ := of_good (l := dupL a.reverse) fun r hr => g.whole r (mem_dupL.1 hr)
  refine ⟨e1, gdL_ext e2 g fun v hv => ?_⟩
  rw [e3 v hv]
  simp only [memS, mem_dupL]
theorem back_step {a : List R2} {j : Nat} (h : j < a.length) : dupL (a.drop j).reverse = dupL (a.drop (j + 1)).reverse ++ [a.getD j (0, 0), a.getD j (0, 0)] := by
  rw [drop_get h, List.reverse_cons, dupL_snoc]
def big2 (a b : List R2) : Bool := decide (60 < a.length) || decide (60 < b.length)
theorem run46 (a b : List R2) : cwp s1 46 [] [(AV.list 2 (List.map (fun x => [AV.int .i64 x.1, AV.int .i64 x.2]) (a))), (AV.list 2 (List.map (fun x => [AV.int .i64 x.1, AV.int .i64 x.2]) (b)))] [] (fun r H => r = .bool (big2 a b) ∧ H = []) := by
  refine run_fn (fn := fn46) rfl rfl ?_
  by_cases h : 60 < a.length
  · have h' : (a.length : Int) > 60 := by omega
    have e : big2 a b = true := by simp [big2, h]
    simp only [fn46_body, c46, D0, ains, clsOf, abin, aint, aun, dnext, rowsOf, loadObj, cellsOf, ofCells, bnd, hmerge, Nat.reduceBEq, Nat.reduceAdd, reduceIte, Nat.reduceEqDiff, Nat.reduceLeDiff, Int.reduceEq, reduceCtorEq, Int.reduceBEq, Int.reduceBNe, Int.reduceLT, Int.reduceNeg, h', decide_true]
    simp only [F1, bodyRes, one, ains, clsOf, abin, aint, aun, dnext, rowsOf, loadObj, cellsOf, ofCells, bnd, hmerge, Nat.reduceBEq, Nat.reduceAdd, reduceIte, Nat.reduceEqDiff, Nat.reduceLeDiff, Int.reduceEq, reduceCtorEq, Int.reduceBEq, Int.reduceBNe, Int.reduceLT, Int.reduceNeg, fn46_res, fn46_keep, e]
  · have h' : ¬ (a.length : Int) > 60 := by omega
    by_cases k : 60 < b.length
    · have k' : (b.length : Int) > 60 := by omega
      have e : big2 a b = true := by simp [big2, k]
      simp only [fn46_body, c46, D0, ains, clsOf, abin, aint, aun, dnext, rowsOf, loadObj, cellsOf, ofCells, bnd, hmerge, Nat.reduceBEq, Nat.reduceAdd, reduceIte, Nat.reduceEqDiff, Nat.reduceLeDiff, Int.reduceEq, reduceCtorEq, Int.reduceBEq, Int.reduceBNe, Int.reduceLT, Int.reduceNeg, h', k', decide_true, decide_false]
      simp only [F1, bodyRes, one, ains, clsOf, abin, aint, aun, dnext, rowsOf, loadObj, cellsOf, ofCells, bnd, hmerge, Nat.reduceBEq, Nat.reduceAdd, reduceIte, Nat.reduceEqDiff, Nat.reduceLeDiff, Int.reduceEq, reduceCtorEq, Int.reduceBEq, Int.reduceBNe, Int.reduceLT, Int.reduceNeg, fn46_res, fn46_keep, e]
    · have k' : ¬ (b.length : Int) > 60 := by omega
      have e : big2 a b = false := by simp [big2, h, k]
      simp only [fn46_body, c46, D0, ains, clsOf, abin, aint, aun, dnext, rowsOf, loadObj, cellsOf, ofCells, bnd, hmerge, Nat.reduceBEq, Nat.reduceAdd, reduceIte, Nat.reduceEqDiff, Nat.reduceLeDiff, Int.reduceEq, reduceCtorEq, Int.reduceBEq, Int.reduceBNe, Int.reduceLT, Int.reduceNeg, h', k', decide_true, decide_false]
      simp only [F1, bodyRes, one, ains, clsOf, abin, aint, aun, dnext, rowsOf, loadObj, cellsOf, ofCells, bnd, hmerge, Nat.reduceBEq, Nat.reduceAdd, reduceIte, Nat.reduceEqDiff, Nat.reduceLeDiff, Int.reduceEq, reduceCtorEq, Int.reduceBEq, Int.reduceBNe, Int.reduceLT, Int.reduceNeg, fn46_res, fn46_keep, e]
noncomputable def k46 : Kon ((List (Int × Int)) × (List (Int × Int))) := ⟨fun _ => True, fun x => [(AV.list 2 (List.map (fun x => [AV.int .i64 x.1, AV.int .i64 x.2]) (x.1))), (AV.list 2 (List.map (fun x => [AV.int .i64 x.1, AV.int .i64 x.2]) (x.2)))], fun x => .bool (big2 x.1 x.2)⟩
theorem e46 (a : List (Int × Int)) (b : List (Int × Int)) (q0 : Id) (H0 : Heap) : k46.ora q0 ([(AV.list 2 (List.map (fun x => [AV.int .i64 x.1, AV.int .i64 x.2]) (a))), (AV.list 2 (List.map (fun x => [AV.int .i64 x.1, AV.int .i64 x.2]) (b)))]) H0 = some (.bool (big2 a b), H0) := k46.eq (set2Inj) (a, b) trivial q0 H0
theorem ook46 : OraOK Try.prog (46 % 100000) k46.ora := k46.ok orders s1_ok (fun x hd => by simp [k46, PU]) (fun x hd => by simp [k46, PU]) (fun x hd => run46 x.1 x.2)

noncomputable def s2 : FT := upd (s1) 46 k46.ora
theorem s2_ok : FTOK Try.prog s2 := upd_ok2 (f := 46) (s1_ok) ook46

theorem tail13 (a b c : List R2) (p q : Bool) (m k : Nat) (hla : a.length ≤ 60) {X : St} (hX : X = { env := [(0, (AV.list 2 (List.map (fun x => [AV.int .i64 x.1, AV.int .i64 x.2]) (a)))), (1, (AV.list 2 (List.map (fun x => [AV.int .i64 x.1, AV.int .i64 x.2]) (b)))), (2, (AV.list 2 (List.map (fun x => [AV.int .i64 x.1, AV.int .i64 x.2]) (c)))), (6, .bool false), (7, .bool p), (8, .bool q), (9, .own [m] 0)], heap := [[([m], .row true true 70 2 [])]], p := [], k := k }) :
    run s2 c13_2 [] (fun x s => ob (bodyRes fn13 x s) fun r => r.1 = AV.bool true ∧ r.2 = []) X := by
  subst hX
  have hw0 : IntKind.i64.wrap ((a.length : Int) - 1) = (a.length : Int) - 1 := wrap64 (by omega) (by omega)
  simp only [c13_2, D0, ains, clsOf, abin, aint, aun, dnext, rowsOf, loadObj, cellsOf, ofCells, bnd, hmerge, Nat.reduceBEq, Nat.reduceAdd, reduceIte, Nat.reduceEqDiff, Nat.reduceLeDiff, Int.reduceEq, reduceCtorEq, Int.reduceBEq, Int.reduceBNe, Int.reduceLT, Int.reduceNeg, hw0]
  refine lg_rule (fun n e H => ∃ j, j + n = a.length ∧ e = [(0, (AV.list 2 (List.map (fun x => [AV.int .i64 x.1, AV.int .i64 x.2]) (a)))), (1, (AV.list 2 (List.map (fun x => [AV.int .i64 x.1, AV.int .i64 x.2]) (b)))), (2, (AV.list 2 (List.map (fun x => [AV.int .i64 x.1, AV.int .i64 x.2]) (c)))), (6, .bool false), (7, .bool p), (8, .bool q), (9, .own [m] (dupL (a.drop j).reverse).length), (10, .int .i64 ((j : Int) - 1))] ∧
    H = [[([m], .row true true 70 2 (List.map (fun x => [AV.int .i64 x.1, AV.int .i64 x.2]) (dupL (a.drop j).reverse)))]]) a.length ?_ ?_
  · exact ⟨a.length, rfl, by simp [dupL], by simp [dupL]⟩
  rintro n e H ⟨j, hjn, rfl, rfl⟩
  simp only [D0, ains, clsOf, abin, aint, aun, dnext, rowsOf, loadObj, cellsOf, ofCells, bnd, hmerge, Nat.reduceBEq, Nat.reduceAdd, reduceIte, Nat.reduceEqDiff, Nat.reduceLeDiff, Int.reduceEq, reduceCtorEq, Int.reduceBEq, Int.reduceBNe, Int.reduceLT, Int.reduceNeg]
  match j, hjn with
  | j + 1, hjn =>
    have hlt : j < a.length := by omega
    have e1 : ((j + 1 : Nat) : Int) - 1 = (j : Int) := by omega
    have hge : (j : Int) ≥ 0 := by omega
    have hlt' : (j : Int) < (a.length : Int) := by omega
    have hg := map_get (f := fun x : Int × Int => [AV.int .i64 x.1, AV.int .i64 x.2]) hlt (0, 0)
    have hw : IntKind.i64.wrap ((j : Int) - 1) = (j : Int) - 1 := wrap64 (by omega) (by omega)
    have hst := back_step hlt
    have hlen : (dupL (a.drop (j + 1)).reverse).length ≤ 120 := by rw [dupL_length]; simp; omega
    have hcap : ((dupL (a.drop (j + 1)).reverse).length + 2) * 16 ≤ 140737488355328 := by omega
    generalize a.getD j (0, 0) = r at hg hst
    generalize dupL (a.drop (j + 1)).reverse = d at hst hlen hcap ⊢
    obtain ⟨x, y⟩ := r
    simp only [D0, ains, clsOf, abin, aint, aun, dnext, rowsOf, loadObj, cellsOf, ofCells, bnd, hmerge, Nat.reduceBEq, Nat.reduceAdd, reduceIte, Nat.reduceEqDiff, Nat.reduceLeDiff, Int.reduceEq, reduceCtorEq, Int.reduceBEq, Int.reduceBNe, Int.reduceLT, Int.reduceNeg, e1, hge, hlt', hg, hw, hcap, lrc_x, apx, apart, apart1, needs, decide_true, Int.natCast_nonneg, Int.toNat_natCast, List.length_map, Nat.reduceLT]
    trace_state
    simp only [F1, bodyRes, one, ains, clsOf, abin, aint, aun, dnext, rowsOf, loadObj, cellsOf, ofCells, bnd, hmerge, Nat.reduceBEq, Nat.reduceAdd, reduceIte, Nat.reduceEqDiff, Nat.reduceLeDiff, Int.reduceEq, reduceCtorEq, Int.reduceBEq, Int.reduceBNe, Int.reduceLT, Int.reduceNeg]
    refine ⟨by omega, j, by omega, ?_⟩
    rw [hst]
    simp [List.map_append]
  | 0, hjn =>
    have hng : ¬ (((0 : Nat) : Int) - 1 ≥ 0) := by decide
    have hlen : (dupL a.reverse).length ≤ 1000000 := by rw [dupL_length]; simp; omega
    have hls : a.length ≤ 9223372036854775807 := by omega
    simp only [List.drop_zero, D0, ains, clsOf, abin, aint, aun, dnext, rowsOf, loadObj, cellsOf, ofCells, bnd, hmerge, Nat.reduceBEq, Nat.reduceAdd, reduceIte, Nat.reduceEqDiff, Nat.reduceLeDiff, Int.reduceEq, reduceCtorEq, Int.reduceBEq, Int.reduceBNe, Int.reduceLT, Int.reduceNeg, hng, decide_false]
    refine .inr ⟨by simp, ?_⟩
    by_cases g : goodS a = true
    · obtain ⟨b1, b2⟩ := of_back g
      simp only [D0, ains, clsOf, abin, aint, aun, dnext, rowsOf, loadObj, cellsOf, ofCells, bnd, hmerge, Nat.reduceBEq, Nat.reduceAdd, reduceIte, Nat.reduceEqDiff, Nat.reduceLeDiff, Int.reduceEq, reduceCtorEq, Int.reduceBEq, Int.reduceBNe, Int.reduceLT, Int.reduceNeg, @use_all s2 48 k48.ora rfl, e48, @use_all s2 57 k57.ora rfl, e57, @use_all s2 62 k62.ora rfl, e62, hlen, hls, g, b1, b2, List.length_map, fz, fzd, @use_all s2 47 kW.ora rfl, eW, decide_true]
      simp only [F1, bodyRes, one, ains, clsOf, abin, aint, aun, dnext, rowsOf, loadObj, cellsOf, ofCells, bnd, hmerge, Nat.reduceBEq, Nat.reduceAdd, reduceIte, Nat.reduceEqDiff, Nat.reduceLeDiff, Int.reduceEq, reduceCtorEq, Int.reduceBEq, Int.reduceBNe, Int.reduceLT, Int.reduceNeg, fn13_res, fn13_keep]
    · have g' : goodS a = false := by simpa using g
      simp only [D0, ains, clsOf, abin, aint, aun, dnext, rowsOf, loadObj, cellsOf, ofCells, bnd, hmerge, Nat.reduceBEq, Nat.reduceAdd, reduceIte, Nat.reduceEqDiff, Nat.reduceLeDiff, Int.reduceEq, reduceCtorEq, Int.reduceBEq, Int.reduceBNe, Int.reduceLT, Int.reduceNeg, @use_all s2 48 k48.ora rfl, e48, @use_all s2 57 k57.ora rfl, e57, @use_all s2 62 k62.ora rfl, e62, hlen, hls, g', List.length_map, fz, fzd, @use_all s2 47 kW.ora rfl, eW, decide_true]
      simp only [F1, bodyRes, one, ains, clsOf, abin, aint, aun, dnext, rowsOf, loadObj, cellsOf, ofCells, bnd, hmerge, Nat.reduceBEq, Nat.reduceAdd, reduceIte, Nat.reduceEqDiff, Nat.reduceLeDiff, Int.reduceEq, reduceCtorEq, Int.reduceBEq, Int.reduceBNe, Int.reduceLT, Int.reduceNeg, fn13_res, fn13_keep]
theorem run13 (a b c : List R2) (wa : WfS a) (wb : WfS b) (wc : WfS c) : cwp s2 13 [] [(AV.list 2 (List.map (fun x => [AV.int .i64 x.1, AV.int .i64 x.2]) (a))), (AV.list 2 (List.map (fun x => [AV.int .i64 x.1, AV.int .i64 x.2]) (b))), (AV.list 2 (List.map (fun x => [AV.int .i64 x.1, AV.int .i64 x.2]) (c)))] [] (fun r H => r = .bool true ∧ H = []) := by
  refine run_fn (fn := fn13) rfl rfl ?_
  have la := wa.len
  have lb := wb.len
  have lc := wc.len
  by_cases hl : big2 a b = true
  · simp only [fn13_body, c13, D0, ains, clsOf, abin, aint, aun, dnext, rowsOf, loadObj, cellsOf, ofCells, bnd, hmerge, Nat.reduceBEq, Nat.reduceAdd, reduceIte, Nat.reduceEqDiff, Nat.reduceLeDiff, Int.reduceEq, reduceCtorEq, Int.reduceBEq, Int.reduceBNe, Int.reduceLT, Int.reduceNeg, @use_all s2 46 k46.ora rfl, e46, @use_all s2 47 kW.ora rfl, eW, hl]
    simp only [F1, bodyRes, one, ains, clsOf, abin, aint, aun, dnext, rowsOf, loadObj, cellsOf, ofCells, bnd, hmerge, Nat.reduceBEq, Nat.reduceAdd, reduceIte, Nat.reduceEqDiff, Nat.reduceLeDiff, Int.reduceEq, reduceCtorEq, Int.reduceBEq, Int.reduceBNe, Int.reduceLT, Int.reduceNeg, fn13_res, fn13_keep]
  have hl' : big2 a b = false := by simpa using hl
  by_cases hc : 60 < c.length
  · have hc' : (c.length : Int) > 60 := by omega
    simp only [fn13_body, c13, D0, ains, clsOf, abin, aint, aun, dnext, rowsOf, loadObj, cellsOf, ofCells, bnd, hmerge, Nat.reduceBEq, Nat.reduceAdd, reduceIte, Nat.reduceEqDiff, Nat.reduceLeDiff, Int.reduceEq, reduceCtorEq, Int.reduceBEq, Int.reduceBNe, Int.reduceLT, Int.reduceNeg, @use_all s2 46 k46.ora rfl, e46, @use_all s2 47 kW.ora rfl, eW, hl', hc', decide_true]
    simp only [F1, bodyRes, one, ains, clsOf, abin, aint, aun, dnext, rowsOf, loadObj, cellsOf, ofCells, bnd, hmerge, Nat.reduceBEq, Nat.reduceAdd, reduceIte, Nat.reduceEqDiff, Nat.reduceLeDiff, Int.reduceEq, reduceCtorEq, Int.reduceBEq, Int.reduceBNe, Int.reduceLT, Int.reduceNeg, fn13_res, fn13_keep]
  have hc' : ¬ (c.length : Int) > 60 := by omega
  have hla : a.length ≤ 60 := by simp [big2] at hl'; omega
  rcases lessS_total a b with hab | rfl | hba
  · have h1 := lessS_asym hab
    have h2 : decide (a = b) = false := decide_eq_false (lessS_ne hab)
    cases hbc : lessS b c with
    | true =>
      have h3 := lessS_trans hab hbc
      simp only [fn13_body, c13, c13_1, D0, ains, clsOf, abin, aint, aun, dnext, rowsOf, loadObj, cellsOf, ofCells, bnd, hmerge, Nat.reduceBEq, Nat.reduceAdd, reduceIte, Nat.reduceEqDiff, Nat.reduceLeDiff, Int.reduceEq, reduceCtorEq, Int.reduceBEq, Int.reduceBNe, Int.reduceLT, Int.reduceNeg, @use_all s2 46 k46.ora rfl, e46, @use_all s2 64 k64.ora rfl, e64, @use_all s2 63 k63.ora rfl, e63, la, lb, lc, hl', hc', hab, h1, h2, h3, hbc, beq_self_eq_true, Bool.true_beq, Bool.false_beq, Bool.not_true, Bool.not_false, decide_false]
      exact tail13 a b c _ _ _ _ hla rfl
    | false =>
      simp only [fn13_body, c13, c13_1, D0, ains, clsOf, abin, aint, aun, dnext, rowsOf, loadObj, cellsOf, ofCells, bnd, hmerge, Nat.reduceBEq, Nat.reduceAdd, reduceIte, Nat.reduceEqDiff, Nat.reduceLeDiff, Int.reduceEq, reduceCtorEq, Int.reduceBEq, Int.reduceBNe, Int.reduceLT, Int.reduceNeg, @use_all s2 46 k46.ora rfl, e46, @use_all s2 64 k64.ora rfl, e64, @use_all s2 63 k63.ora rfl, e63, la, lb, lc, hl', hc', hab, h1, h2, hbc, beq_self_eq_true, Bool.true_beq, Bool.false_beq, Bool.not_true, Bool.not_false, decide_false]
      exact tail13 a b c _ _ _ _ hla rfl
  · have h1 := lessS_irr a
    simp only [fn13_body, c13, c13_1, D0, ains, clsOf, abin, aint, aun, dnext, rowsOf, loadObj, cellsOf, ofCells, bnd, hmerge, Nat.reduceBEq, Nat.reduceAdd, reduceIte, Nat.reduceEqDiff, Nat.reduceLeDiff, Int.reduceEq, reduceCtorEq, Int.reduceBEq, Int.reduceBNe, Int.reduceLT, Int.reduceNeg, @use_all s2 46 k46.ora rfl, e46, @use_all s2 64 k64.ora rfl, e64, @use_all s2 63 k63.ora rfl, e63, la, lb, lc, hl', hc', h1, beq_self_eq_true, Bool.true_beq, Bool.false_beq, Bool.not_true, Bool.not_false, decide_true, decide_false]
    exact tail13 a a c _ _ _ _ hla rfl
  · have h1 := lessS_asym hba
    have h2 : decide (a = b) = false := decide_eq_false (Ne.symm (lessS_ne hba))
    simp only [fn13_body, c13, c13_1, D0, ains, clsOf, abin, aint, aun, dnext, rowsOf, loadObj, cellsOf, ofCells, bnd, hmerge, Nat.reduceBEq, Nat.reduceAdd, reduceIte, Nat.reduceEqDiff, Nat.reduceLeDiff, Int.reduceEq, reduceCtorEq, Int.reduceBEq, Int.reduceBNe, Int.reduceLT, Int.reduceNeg, @use_all s2 46 k46.ora rfl, e46, @use_all s2 64 k64.ora rfl, e64, @use_all s2 63 k63.ora rfl, e63, la, lb, lc, hl', hc', hba, h1, h2, beq_self_eq_true, Bool.true_beq, Bool.false_beq, Bool.not_true, Bool.not_false, decide_false]
    exact tail13 a b c _ _ _ _ hla rfl
end Go.Proofs.Abs
