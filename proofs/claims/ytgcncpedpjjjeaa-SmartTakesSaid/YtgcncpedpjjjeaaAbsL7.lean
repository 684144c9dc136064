/- A part of a proof: the text that states the row tells what is proved. No condition is laid on anything. -/
import Derived.Test.YtgcncpedpjjjeaaAbsX5
import Derived.Test.YtgcncpedpjjjeaaAbsW37
set_option linter.all false
set_option linter.constructorNameAsVariable false
set_option linter.defProp false
set_option linter.unusedVariables false
set_option linter.unusedSimpArgs false
set_option maxRecDepth 100000
set_option maxHeartbeats 16000000
namespace Go.Proofs.Abs
open Go
noncomputable def q9 : FT := upd q8 37 kW.ora
theorem q9_ok : FTOK Try.prog q9 := upd_ok2 (f := 37) q8_ok ook37
/-! 7: caesuralaw12.SmartTells. -/
theorem sm_encO {o : Option Tr} (h : ∀ c, o = some c → OkS c) : SmS (encO o) := by
  cases o with
  | none => exact ⟨⟨by simp [encO], by simp [encO]⟩, by simp [encO]⟩
  | some c => exact (h c rfl).sm
theorem pos_encO {o : Option Tr} (h : ∀ c, o = some c → OkS c) : decide (((encO o).length : Int) > 0) = o.isSome := by
  cases o with
  | none => rfl
  | some c =>
    have := (h c rfl).ne
    exact decide_eq_true (by show ((enc c).length : Int) > 0; omega)
theorem ok_catT {a b : List Nd} (ha : SmS a) (hb : SmS b) : ∀ c, catT a b = some c → OkS c := by
  intro c h
  by_cases g : (goodT a && goodT b) = true
  · rw [Bool.and_eq_true] at g
    obtain ⟨x, hx, rfl⟩ := okS_of ⟨ha, g.1⟩
    obtain ⟨y, hy, rfl⟩ := okS_of ⟨hb, g.2⟩
    rw [catT_enc hx hy] at h
    exact ok_catO hx hy h
  · simp [catT, g] at h
theorem ok_altT {a b : List Nd} (ha : SmS a) (hb : SmS b) : ∀ c, altT a b = some c → OkS c := by
  intro c h
  by_cases g : (goodT a && goodT b) = true
  · rw [Bool.and_eq_true] at g
    obtain ⟨x, hx, rfl⟩ := okS_of ⟨ha, g.1⟩
    obtain ⟨y, hy, rfl⟩ := okS_of ⟨hb, g.2⟩
    rw [altT_enc hx hy] at h
    exact ok_altO hx hy h
  · simp [altT, g] at h
theorem ok_starS {a : List Nd} (ha : SmS a) : ∀ c, starS a = some c → OkS c := by
  intro c h
  by_cases g : goodT a = true
  · obtain ⟨x, hx, rfl⟩ := okS_of ⟨ha, g⟩
    rw [starS_enc hx] at h
    exact ok_starO hx h
  · simp [starS, g] at h
theorem okS_clean {x : Tr} (hx : OkS x) : OkS (sClean x) := ⟨ok_sClean x hx.1, by have := sz_sClean x; have := hx.2; omega⟩
theorem ok_cleanS {a : List Nd} (ha : SmS a) : ∀ c, cleanS a = some c → OkS c := by
  intro c h
  by_cases g : goodT a = true
  · obtain ⟨x, hx, rfl⟩ := okS_of ⟨ha, g⟩
    rw [cleanS_enc hx] at h
    injection h with h
    subst h
    exact okS_clean hx
  · simp [cleanS, g] at h
theorem run7 (a b : List Nd) (wa : WfT a) (wb : WfT b) : cwp q9 7 [] [(AV.list 5 (List.map eNd a)), (AV.list 5 (List.map eNd b))] [] (fun v H => v = .bool true ∧ H = []) := by
  refine run_fn (fn := fn7) rfl rfl ?_
  by_cases l1 : large a = true
  · simp only [fn7_body, c7, D0, ains, clsOf, abin, aint, aun, dnext, rowsOf, loadObj, cellsOf, ofCells, bnd, hmerge, Nat.reduceBEq, Nat.reduceAdd, reduceIte, Nat.reduceEqDiff, Nat.reduceLeDiff, Int.reduceEq, reduceCtorEq, Int.reduceBEq, Int.reduceBNe, Int.reduceLT, Int.reduceNeg, @use_all q9 16 k16.ora rfl, e16, @use_all q9 37 kW.ora rfl, eW, wa, l1]
    simp only [F1, bodyRes, one, ains, clsOf, abin, aint, aun, dnext, rowsOf, loadObj, cellsOf, ofCells, bnd, hmerge, Nat.reduceBEq, Nat.reduceAdd, reduceIte, Nat.reduceEqDiff, Nat.reduceLeDiff, Int.reduceEq, reduceCtorEq, Int.reduceBEq, Int.reduceBNe, Int.reduceLT, Int.reduceNeg, fn7_res, fn7_keep]
  have l1' : large a = false := by simpa using l1
  by_cases l2 : large b = true
  · simp only [fn7_body, c7, D0, ains, clsOf, abin, aint, aun, dnext, rowsOf, loadObj, cellsOf, ofCells, bnd, hmerge, Nat.reduceBEq, Nat.reduceAdd, reduceIte, Nat.reduceEqDiff, Nat.reduceLeDiff, Int.reduceEq, reduceCtorEq, Int.reduceBEq, Int.reduceBNe, Int.reduceLT, Int.reduceNeg, @use_all q9 16 k16.ora rfl, e16, @use_all q9 37 kW.ora rfl, eW, wa, wb, l1', l2]
    simp only [F1, bodyRes, one, ains, clsOf, abin, aint, aun, dnext, rowsOf, loadObj, cellsOf, ofCells, bnd, hmerge, Nat.reduceBEq, Nat.reduceAdd, reduceIte, Nat.reduceEqDiff, Nat.reduceLeDiff, Int.reduceEq, reduceCtorEq, Int.reduceBEq, Int.reduceBNe, Int.reduceLT, Int.reduceNeg, fn7_res, fn7_keep]
  have l2' : large b = false := by simpa using l2
  have la := large_len l1'
  have lb := large_len l2'
  have e1 : IntKind.i64.wrap ((a.length : Int) + (b.length : Int)) = ((a.length + b.length : Nat) : Int) := by
    rw [wrap64 (by omega) (by omega)]; omega
  by_cases l3 : ((a.length + b.length : Nat) : Int) > 200
  · simp only [fn7_body, c7, D0, ains, clsOf, abin, aint, aun, dnext, rowsOf, loadObj, cellsOf, ofCells, bnd, hmerge, Nat.reduceBEq, Nat.reduceAdd, reduceIte, Nat.reduceEqDiff, Nat.reduceLeDiff, Int.reduceEq, reduceCtorEq, Int.reduceBEq, Int.reduceBNe, Int.reduceLT, Int.reduceNeg, @use_all q9 16 k16.ora rfl, e16, @use_all q9 37 kW.ora rfl, eW, wa, wb, l1', l2', e1, l3]
    simp only [F1, bodyRes, one, ains, clsOf, abin, aint, aun, dnext, rowsOf, loadObj, cellsOf, ofCells, bnd, hmerge, Nat.reduceBEq, Nat.reduceAdd, reduceIte, Nat.reduceEqDiff, Nat.reduceLeDiff, Int.reduceEq, reduceCtorEq, Int.reduceBEq, Int.reduceBNe, Int.reduceLT, Int.reduceNeg, fn7_res, fn7_keep]
  have sa := large_set wa l1'
  have sb := large_set wb l2'
  have oa : (∀ n ∈ a, n.set.length ≤ 600) ∧ a.length ≤ 1000000 := ⟨sa.set, by omega⟩
  have ob : (∀ n ∈ b, n.set.length ≤ 600) ∧ b.length ≤ 1000000 := ⟨sb.set, by omega⟩
  have x1 := e18 a oa
  have x2 := e18 b ob
  have d : (SmS a ∧ SmS b) ∧ a.length ≤ 1000000 ∧ b.length ≤ 1000000 := ⟨⟨sa, sb⟩, by omega, by omega⟩
  have ds : SmS a ∧ a.length ≤ 1000000 := ⟨sa, by omega⟩
  have dk : ∀ t, SmS t → (∀ n ∈ t, n.set.length ≤ 600) ∧ t.length ≤ 9223372036854775807 := fun t h => ⟨h.set, h.wf.len⟩
  have y1 := fun u => e28 (encO (catT a b)) u (dk _ (sm_encO (ok_catT sa sb)))
  have y2 := fun u => e28 (encO (altT a b)) u (dk _ (sm_encO (ok_altT sa sb)))
  have y3 := fun u => e28 (encO (starS a)) u (dk _ (sm_encO (ok_starS sa)))
  have y4 := fun u => e28 (encO (cleanS a)) u (dk _ (sm_encO (ok_cleanS sa)))
  have y5 := fun u => e28 a u (dk _ sa)
  have y6 := fun u => e28 b u (dk _ sb)
  have p1 := pos_encO (ok_catT sa sb)
  have p2 := pos_encO (ok_altT sa sb)
  have p3 := pos_encO (ok_starS sa)
  have p4 := pos_encO (ok_cleanS sa)
  have same := sameT_self
  clear dk
  simp (maxSteps := 2000000) only [fn7_body, c7, D0, ains, clsOf, abin, aint, aun, dnext, rowsOf, loadObj, cellsOf, ofCells, bnd, hmerge, Nat.reduceBEq, Nat.reduceAdd, reduceIte, Nat.reduceEqDiff, Nat.reduceLeDiff, Int.reduceEq, reduceCtorEq, Int.reduceBEq, Int.reduceBNe, Int.reduceLT, Int.reduceNeg, @use_all q9 16 k16.ora rfl, e16, @use_all q9 38 k38.ora rfl, e38, @use_all q9 39 k39.ora rfl, e39, @use_all q9 40 k40.ora rfl, e40, @use_all q9 41 k41.ora rfl, e41, @use_all q9 42 k42.ora rfl, e42, @use_all q9 43 k43.ora rfl, e43, @use_all q9 44 k44.ora rfl, e44, @use_all q9 45 k45.ora rfl, e45, @use_all q9 18 k18.ora rfl, @use_all q9 28 k28.ora rfl, x1, x2, y1, y2, y3, y4, y5, y6, @use_all q9 37 kW.ora rfl, eW, wa, wb, l1', l2', e1, l3, d, ds, p1, p2, p3, p4, same, resO]
  simp only [F1, bodyRes, one, ains, clsOf, abin, aint, aun, dnext, rowsOf, loadObj, cellsOf, ofCells, bnd, hmerge, Nat.reduceBEq, Nat.reduceAdd, reduceIte, Nat.reduceEqDiff, Nat.reduceLeDiff, Int.reduceEq, reduceCtorEq, Int.reduceBEq, Int.reduceBNe, Int.reduceLT, Int.reduceNeg, fn7_res, fn7_keep]
end Go.Proofs.Abs
