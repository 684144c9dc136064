/- A part of a proof: the text that states the row tells what is proved. No condition is laid on anything. -/
import Derived.Test.YtgcncpedpjjjeaaAbsE6
import Derived.Test.YtgcncpedpjjjeaaAbsF1
set_option linter.all false
set_option linter.constructorNameAsVariable false
set_option linter.defProp false
set_option linter.unusedVariables false
set_option linter.unusedSimpArgs false
set_option maxRecDepth 100000
set_option maxHeartbeats 4000000
namespace Go.Proofs.Abs
open Go
noncomputable def v1 : FT := upd (upd (upd (upd (t7) 69 o69) 77 o77) 68 o68) 100068 o100068
theorem v1_ok : FTOK Try.prog v1 := upd_ok2 (f := 100068) (upd_ok (upd_ok (upd_ok (t7_ok) (by decide) ook69) (by decide) ook77) (by decide) ook68) ook100068

/-- Trees of small sets. -/
structure SmS (t : List Nd) : Prop where
  wf : WfT t
  set : ∀ n ∈ t, n.set.length ≤ 600
theorem good_sm {t : List Nd} (hs : SmS t) (h : goodT t = true) : SmT t := by
  obtain ⟨h1, h2, l, hl, h3⟩ := goodT_iff.1 h
  refine ⟨h2, fun n hn => ?_⟩
  obtain ⟨i, hi, rfl⟩ := List.getElem_of_mem hn
  obtain ⟨h4, hc⟩ := begs_cut hl i hi
  have hset := hs.set _ hn
  cases hc with
  | fork hk c2 hb c1 ha hn hg =>
    have := (begs_cut hl (i - 1) (by omega)).1
    exact ⟨hset, by omega, by omega⟩
  | star hf hk c1 ha hb hn hg => exact ⟨hset, by omega, by omega⟩
  | leaf hf hk hn hg =>
    simp only [leafN, Bool.and_eq_true, decide_eq_true_eq] at hn
    exact ⟨hset, by omega, by omega⟩
def pairB (a b : List Nd) : Bool := goodT a && goodT b && decide (a.length + b.length + 1 ≤ 40000)
def pairT (k : Int) (a b : List Nd) : List Nd := if pairB a b then joinT k a b else []
def starB (a : List Nd) : Bool := goodT a && decide (a.length + 1 ≤ 40000)
def starTT (a : List Nd) : List Nd := if starB a then starT a else []
theorem joinT_len (k : Int) (a b : List Nd) : (joinT k a b).length = a.length + b.length + 1 := by simp [joinT, mov]; omega
theorem starT_len (a : List Nd) : (starT a).length = a.length + 1 := by simp [starT]
theorem joinT_rows (k : Int) (a b : List Nd) : List.map eNd (mov a 0) ++ List.map eNd (mov b a.length) ++ [[AV.int .i64 k, .int .i64 ((a.length : Int) - 1), .int .i64 ((a.length : Int) + b.length - 1), .list 2 [], .str ⟨#[]⟩]] = List.map eNd (joinT k a b) := by
  rw [mov_zero]
  simp only [joinT, List.map_append]
  rfl
theorem starT_rows (a : List Nd) : List.map eNd (mov a 0) ++ [[AV.int .i64 5, .int .i64 ((a.length : Int) - 1), .int .i64 0, .list 2 [], .str ⟨#[]⟩]] = List.map eNd (starT a) := by
  rw [mov_zero]
  simp only [starT, List.map_append]
  rfl
/-! 67: tree.pair. -/
theorem run67 (k : Int) (a b : List Nd) (ha : SmS a) (hb : SmS b) (hla : a.length ≤ 1000000) (hlb : b.length ≤ 1000000) : cwp v1 67 [] [.int .i64 k, (AV.list 5 (List.map eNd a)), (AV.list 5 (List.map eNd b))] [] (fun r H => r = .tuple [.list 5 (List.map eNd (pairT k a b)), .bool (pairB a b)] ∧ H = []) := by
  refine run_fn (fn := fn67) rfl rfl ?_
  have hwa := ha.wf
  have hwb := hb.wf
  by_cases g1 : goodT a = true
  · by_cases g2 : goodT b = true
    · have w1 : IntKind.i64.wrap ((a.length : Int) + (b.length : Int)) = (a.length : Int) + (b.length : Int) := wrap64 (by omega) (by omega)
      have w2 : IntKind.i64.wrap ((a.length : Int) + (b.length : Int) + 1) = (a.length : Int) + (b.length : Int) + 1 := wrap64 (by omega) (by omega)
      by_cases g3 : a.length + b.length + 1 ≤ 40000
      · have g3' : ¬ (a.length : Int) + (b.length : Int) + 1 > 40000 := by omega
        have hp : pairB a b = true := by simp [pairB, g1, g2, g3]
        have hp2 : pairT k a b = joinT k a b := by simp [pairT, hp]
        have sa := good_sm ha g1
        have sb := good_sm hb g2
        have d1 : SmT a ∧ -200000 ≤ (0 : Int) ∧ (0 : Int) ≤ 200000 := ⟨sa, by omega, by omega⟩
        have d2 : SmT b ∧ -200000 ≤ (a.length : Int) ∧ (a.length : Int) ≤ 200000 := ⟨sb, by omega, by omega⟩
        have c1 : (a.length + b.length) * 64 ≤ 140737488355328 := by omega
        have c2 : (a.length + b.length + 1) * 64 ≤ 140737488355328 := by omega
        have hga : 1 ≤ a.length := (goodT_iff.1 g1).1
        have w3 : IntKind.i64.wrap ((a.length : Int) - 1) = (a.length : Int) - 1 := wrap64 (by omega) (by omega)
        have w4 : IntKind.i64.wrap (((a.length + b.length : Nat) : Int) - 1) = (a.length : Int) + (b.length : Int) - 1 := by rw [wrap64 (by omega) (by omega)]; omega
        simp only [fn67_body, c67, mach, dat2, wanted, putd, eset, eget, AX.ev, ains, params, Nat.reduceBEq, Nat.reduceAdd, reduceIte, Nat.reduceEqDiff, slots, dnext, clsOf, abin, aint, aun, agetl, foldMin, Nat.reduceLeDiff, List.isEmpty, Int.reduceEq, argsOf, St.add, hadd, hget, fget, hset, fset, cellsOf, loadObj, ofCells, reduceCtorEq, partsOfA, afill, Int.reduceBEq, Int.reduceBNe, Int.reduceLT, Int.reduceNeg, partsOf, setRows, rowsOf, hmerge, hpop, bnd, @cg29 v1 rfl, @dcg29 v1 rfl, @cg68 v1 rfl, @dcg68 v1 rfl, hwa, hwb, g1, g2, w1, w2, g3', d1, d2, c1, c2, w3, w4, decide_false, decide_true, mov_len, List.length_append]
        simp only [bodyRes, resOf, one, hpop, hmerge, ob_some, endr, ne_eq, not_false_eq_true, not_true_eq_false, false_or, or_false, dat2, wanted, putd, eset, eget, AX.ev, ains, params, Nat.reduceBEq, Nat.reduceAdd, reduceIte, Nat.reduceEqDiff, slots, dnext, clsOf, abin, aint, aun, agetl, foldMin, Nat.reduceLeDiff, List.isEmpty, Int.reduceEq, argsOf, St.add, hadd, hget, fget, hset, fset, cellsOf, loadObj, ofCells, reduceCtorEq, partsOfA, afill, Int.reduceBEq, Int.reduceBNe, Int.reduceLT, Int.reduceNeg, partsOf, setRows, rowsOf, hmerge, hpop, bnd, fn67_res, fn67_keep, fz, fzd, fzd.fzcells, List.length_append, mov_len, joinT_rows, joinT_len, hp, hp2]
      · have g3' : (a.length : Int) + (b.length : Int) + 1 > 40000 := by omega
        have hp : pairB a b = false := by simp [pairB, g1, g2, g3]
        have hp2 : pairT k a b = [] := by simp [pairT, hp]
        simp only [fn67_body, c67, mach, dat2, wanted, putd, eset, eget, AX.ev, ains, params, Nat.reduceBEq, Nat.reduceAdd, reduceIte, Nat.reduceEqDiff, slots, dnext, clsOf, abin, aint, aun, agetl, foldMin, Nat.reduceLeDiff, List.isEmpty, Int.reduceEq, argsOf, St.add, hadd, hget, fget, hset, fset, cellsOf, loadObj, ofCells, reduceCtorEq, partsOfA, afill, Int.reduceBEq, Int.reduceBNe, Int.reduceLT, Int.reduceNeg, partsOf, setRows, rowsOf, hmerge, hpop, bnd, @cg29 v1 rfl, @dcg29 v1 rfl, @cg68 v1 rfl, @dcg68 v1 rfl, hwa, hwb, g1, g2, w1, w2, g3', decide_true]
        simp only [bodyRes, resOf, one, hpop, hmerge, ob_some, endr, ne_eq, not_false_eq_true, not_true_eq_false, false_or, or_false, dat2, wanted, putd, eset, eget, AX.ev, ains, params, Nat.reduceBEq, Nat.reduceAdd, reduceIte, Nat.reduceEqDiff, slots, dnext, clsOf, abin, aint, aun, agetl, foldMin, Nat.reduceLeDiff, List.isEmpty, Int.reduceEq, argsOf, St.add, hadd, hget, fget, hset, fset, cellsOf, loadObj, ofCells, reduceCtorEq, partsOfA, afill, Int.reduceBEq, Int.reduceBNe, Int.reduceLT, Int.reduceNeg, partsOf, setRows, rowsOf, hmerge, hpop, bnd, fn67_res, fn67_keep, fz, fzd, fzd.fzcells, hp, hp2]
    · have g2' : goodT b = false := by simpa using g2
      have hp : pairB a b = false := by simp [pairB, g1, g2]
      have hp2 : pairT k a b = [] := by simp [pairT, hp]
      simp only [fn67_body, c67, mach, dat2, wanted, putd, eset, eget, AX.ev, ains, params, Nat.reduceBEq, Nat.reduceAdd, reduceIte, Nat.reduceEqDiff, slots, dnext, clsOf, abin, aint, aun, agetl, foldMin, Nat.reduceLeDiff, List.isEmpty, Int.reduceEq, argsOf, St.add, hadd, hget, fget, hset, fset, cellsOf, loadObj, ofCells, reduceCtorEq, partsOfA, afill, Int.reduceBEq, Int.reduceBNe, Int.reduceLT, Int.reduceNeg, partsOf, setRows, rowsOf, hmerge, hpop, bnd, @cg29 v1 rfl, @dcg29 v1 rfl, @cg68 v1 rfl, @dcg68 v1 rfl, hwa, hwb, g1, g2']
      simp only [bodyRes, resOf, one, hpop, hmerge, ob_some, endr, ne_eq, not_false_eq_true, not_true_eq_false, false_or, or_false, dat2, wanted, putd, eset, eget, AX.ev, ains, params, Nat.reduceBEq, Nat.reduceAdd, reduceIte, Nat.reduceEqDiff, slots, dnext, clsOf, abin, aint, aun, agetl, foldMin, Nat.reduceLeDiff, List.isEmpty, Int.reduceEq, argsOf, St.add, hadd, hget, fget, hset, fset, cellsOf, loadObj, ofCells, reduceCtorEq, partsOfA, afill, Int.reduceBEq, Int.reduceBNe, Int.reduceLT, Int.reduceNeg, partsOf, setRows, rowsOf, hmerge, hpop, bnd, fn67_res, fn67_keep, fz, fzd, fzd.fzcells, hp, hp2]
  · have g1' : goodT a = false := by simpa using g1
    have hp : pairB a b = false := by simp [pairB, g1]
    have hp2 : pairT k a b = [] := by simp [pairT, hp]
    simp only [fn67_body, c67, mach, dat2, wanted, putd, eset, eget, AX.ev, ains, params, Nat.reduceBEq, Nat.reduceAdd, reduceIte, Nat.reduceEqDiff, slots, dnext, clsOf, abin, aint, aun, agetl, foldMin, Nat.reduceLeDiff, List.isEmpty, Int.reduceEq, argsOf, St.add, hadd, hget, fget, hset, fset, cellsOf, loadObj, ofCells, reduceCtorEq, partsOfA, afill, Int.reduceBEq, Int.reduceBNe, Int.reduceLT, Int.reduceNeg, partsOf, setRows, rowsOf, hmerge, hpop, bnd, @cg29 v1 rfl, @dcg29 v1 rfl, @cg68 v1 rfl, @dcg68 v1 rfl, hwa, hwb, g1']
    simp only [bodyRes, resOf, one, hpop, hmerge, ob_some, endr, ne_eq, not_false_eq_true, not_true_eq_false, false_or, or_false, dat2, wanted, putd, eset, eget, AX.ev, ains, params, Nat.reduceBEq, Nat.reduceAdd, reduceIte, Nat.reduceEqDiff, slots, dnext, clsOf, abin, aint, aun, agetl, foldMin, Nat.reduceLeDiff, List.isEmpty, Int.reduceEq, argsOf, St.add, hadd, hget, fget, hset, fset, cellsOf, loadObj, ofCells, reduceCtorEq, partsOfA, afill, Int.reduceBEq, Int.reduceBNe, Int.reduceLT, Int.reduceNeg, partsOf, setRows, rowsOf, hmerge, hpop, bnd, fn67_res, fn67_keep, fz, fzd, fzd.fzcells, hp, hp2]
/-! 19, 20: tree.Cat, tree.Alt. -/
theorem tree2Inj : ∀ x y : List Nd × List Nd, [(AV.list 5 (List.map eNd x.1)), (AV.list 5 (List.map eNd x.2))] = [(AV.list 5 (List.map eNd y.1)), (AV.list 5 (List.map eNd y.2))] → x = y := by
  rintro ⟨a, m⟩ ⟨b, n⟩ h
  simp only [List.cons.injEq, and_true] at h
  rw [eTree_inj (a := a) (b := b) h.1, eTree_inj (a := m) (b := n) h.2]
noncomputable def o67 : Id → List AV → Heap → Option (AV × Heap) := oraF (fun (x : Int × List Nd × List Nd) => (SmS (x.2.1) ∧ SmS (x.2.2)) ∧ (x.2.1).length ≤ 1000000 ∧ (x.2.2).length ≤ 1000000) (fun (x : Int × List Nd × List Nd) => [.int .i64 (x.1), (AV.list 5 (List.map eNd (x.2.1))), (AV.list 5 (List.map eNd (x.2.2)))]) (fun (x : Int × List Nd × List Nd) => .tuple [.list 5 (List.map eNd (pairT (x.1) (x.2.1) (x.2.2))), .bool (pairB (x.2.1) (x.2.2))])
theorem inj67 : ∀ x y : Int × List Nd × List Nd, ((fun (x : Int × List Nd × List Nd) => [.int .i64 (x.1), (AV.list 5 (List.map eNd (x.2.1))), (AV.list 5 (List.map eNd (x.2.2)))] : Int × List Nd × List Nd → List AV)) x = ((fun (x : Int × List Nd × List Nd) => [.int .i64 (x.1), (AV.list 5 (List.map eNd (x.2.1))), (AV.list 5 (List.map eNd (x.2.2)))] : Int × List Nd × List Nd → List AV)) y → x = y := by rintro ⟨k, a, b⟩ ⟨k', a', b'⟩ h; simp only [List.cons.injEq, AV.int.injEq, and_true, true_and] at h; rw [h.1, eTree_inj (a := a) (b := a') h.2.1, eTree_inj (a := b) (b := b') h.2.2]
theorem cg67 {ft : FT} (h : ft 67 = some (.ora o67)) (k : Int) (a : List Nd) (b : List Nd) (hd : (SmS a ∧ SmS b) ∧ a.length ≤ 1000000 ∧ b.length ≤ 1000000) (q0 : Id) (H0 : Heap) (d0 : Option Nat) (r0 : List AIn) (k0 : Nat) (dr0 : List Nat) (ks0 : List Kt) (Q0 : Fin) (s0 : St) : cg ft 67 q0 ([.int .i64 k, (AV.list 5 (List.map eNd a)), (AV.list 5 (List.map eNd b))]) H0 d0 r0 k0 dr0 ks0 Q0 s0 = rg ft r0 k0 dr0 ks0 Q0 { s0 with env := putd s0.env d0 (.tuple [.list 5 (List.map eNd (pairT k a b)), .bool (pairB a b)]), heap := H0, k := s0.k + 1 } := cg_has (dom := fun (x : Int × List Nd × List Nd) => (SmS (x.2.1) ∧ SmS (x.2.2)) ∧ (x.2.1).length ≤ 1000000 ∧ (x.2.2).length ≤ 1000000) (enc := fun (x : Int × List Nd × List Nd) => [.int .i64 (x.1), (AV.list 5 (List.map eNd (x.2.1))), (AV.list 5 (List.map eNd (x.2.2)))]) (out := fun (x : Int × List Nd × List Nd) => .tuple [.list 5 (List.map eNd (pairT (x.1) (x.2.1) (x.2.2))), .bool (pairB (x.2.1) (x.2.2))]) (a := ((k, a, b) : Int × List Nd × List Nd)) h inj67 hd q0 H0 d0 r0 k0 dr0 ks0 Q0 s0
theorem dcg67 {ft : FT} (h : ft 67 = some (.ora o67)) (k : Int) (a : List Nd) (b : List Nd) (hd : (SmS a ∧ SmS b) ∧ a.length ≤ 1000000 ∧ b.length ≤ 1000000) (q0 : Id) (H0 : Heap) (i0 : AIn) (r0 : List AIn) (k0 : Nat) (l0 : List Rec) (dr0 : List Nat) (ks0 : List Kt) (Q0 : Fin) (s0 : St) : dcg ft 67 q0 ([.int .i64 k, (AV.list 5 (List.map eNd a)), (AV.list 5 (List.map eNd b))]) H0 i0 r0 k0 l0 dr0 ks0 Q0 s0 = dn ft (dnext (clsOf i0.i s0.env) (.tuple [.list 5 (List.map eNd (pairT k a b)), .bool (pairB a b)]) s0 { s0 with heap := H0, k := s0.k + 1 }) i0 r0 k0 l0 dr0 ks0 Q0 s0 := dcg_has (dom := fun (x : Int × List Nd × List Nd) => (SmS (x.2.1) ∧ SmS (x.2.2)) ∧ (x.2.1).length ≤ 1000000 ∧ (x.2.2).length ≤ 1000000) (enc := fun (x : Int × List Nd × List Nd) => [.int .i64 (x.1), (AV.list 5 (List.map eNd (x.2.1))), (AV.list 5 (List.map eNd (x.2.2)))]) (out := fun (x : Int × List Nd × List Nd) => .tuple [.list 5 (List.map eNd (pairT (x.1) (x.2.1) (x.2.2))), .bool (pairB (x.2.1) (x.2.2))]) (a := ((k, a, b) : Int × List Nd × List Nd)) h inj67 hd q0 H0 i0 r0 k0 l0 dr0 ks0 Q0 s0
theorem ook67 : OraOK Try.prog 67 o67 := lift orders v1_ok (by decide) (fun x hd => by simp [pure_undef, pure_bool, pure_int, pure_str, pure_nils, pure_agg, pure_tuple, pure_setL, pure_treeL, pure_rowL, pureL_eNd, pure_nats]) (fun x hd => by simp [pure_undef, pure_bool, pure_int, pure_str, pure_nils, pure_agg, pure_tuple, pure_setL, pure_treeL, pure_rowL, pureL_eNd, pure_nats]) (fun x hd => cwp_run (run67 x.1 x.2.1 x.2.2 hd.1.1 hd.1.2 hd.2.1 hd.2.2))

noncomputable def v2 : FT := upd (v1) 67 o67
theorem v2_ok : FTOK Try.prog v2 := upd_ok (v1_ok) (by decide) ook67

theorem run19 (a b : List Nd) (hd : (SmS a ∧ SmS b) ∧ a.length ≤ 1000000 ∧ b.length ≤ 1000000) : cwp v2 19 [] [(AV.list 5 (List.map eNd a)), (AV.list 5 (List.map eNd b))] [] (fun r H => r = .tuple [.list 5 (List.map eNd (pairT 3 a b)), .bool (pairB a b)] ∧ H = []) := by
  refine run_fn (fn := fn19) rfl rfl ?_
  simp only [fn19_body, c19, mach, dat2, wanted, putd, eset, eget, AX.ev, ains, params, Nat.reduceBEq, Nat.reduceAdd, reduceIte, Nat.reduceEqDiff, slots, dnext, clsOf, abin, aint, aun, agetl, foldMin, Nat.reduceLeDiff, List.isEmpty, Int.reduceEq, argsOf, St.add, hadd, hget, fget, hset, fset, cellsOf, loadObj, ofCells, reduceCtorEq, partsOfA, afill, Int.reduceBEq, Int.reduceBNe, Int.reduceLT, Int.reduceNeg, partsOf, setRows, rowsOf, hmerge, hpop, bnd, @cg67 v2 rfl, @dcg67 v2 rfl, hd]
  simp only [bodyRes, resOf, one, hpop, hmerge, ob_some, endr, ne_eq, not_false_eq_true, not_true_eq_false, false_or, or_false, dat2, wanted, putd, eset, eget, AX.ev, ains, params, Nat.reduceBEq, Nat.reduceAdd, reduceIte, Nat.reduceEqDiff, slots, dnext, clsOf, abin, aint, aun, agetl, foldMin, Nat.reduceLeDiff, List.isEmpty, Int.reduceEq, argsOf, St.add, hadd, hget, fget, hset, fset, cellsOf, loadObj, ofCells, reduceCtorEq, partsOfA, afill, Int.reduceBEq, Int.reduceBNe, Int.reduceLT, Int.reduceNeg, partsOf, setRows, rowsOf, hmerge, hpop, bnd, fn19_res, fn19_keep, fz, fzd, fzd.fzcells]
theorem run20 (a b : List Nd) (hd : (SmS a ∧ SmS b) ∧ a.length ≤ 1000000 ∧ b.length ≤ 1000000) : cwp v2 20 [] [(AV.list 5 (List.map eNd a)), (AV.list 5 (List.map eNd b))] [] (fun r H => r = .tuple [.list 5 (List.map eNd (pairT 4 a b)), .bool (pairB a b)] ∧ H = []) := by
  refine run_fn (fn := fn20) rfl rfl ?_
  simp only [fn20_body, c20, mach, dat2, wanted, putd, eset, eget, AX.ev, ains, params, Nat.reduceBEq, Nat.reduceAdd, reduceIte, Nat.reduceEqDiff, slots, dnext, clsOf, abin, aint, aun, agetl, foldMin, Nat.reduceLeDiff, List.isEmpty, Int.reduceEq, argsOf, St.add, hadd, hget, fget, hset, fset, cellsOf, loadObj, ofCells, reduceCtorEq, partsOfA, afill, Int.reduceBEq, Int.reduceBNe, Int.reduceLT, Int.reduceNeg, partsOf, setRows, rowsOf, hmerge, hpop, bnd, @cg67 v2 rfl, @dcg67 v2 rfl, hd]
  simp only [bodyRes, resOf, one, hpop, hmerge, ob_some, endr, ne_eq, not_false_eq_true, not_true_eq_false, false_or, or_false, dat2, wanted, putd, eset, eget, AX.ev, ains, params, Nat.reduceBEq, Nat.reduceAdd, reduceIte, Nat.reduceEqDiff, slots, dnext, clsOf, abin, aint, aun, agetl, foldMin, Nat.reduceLeDiff, List.isEmpty, Int.reduceEq, argsOf, St.add, hadd, hget, fget, hset, fset, cellsOf, loadObj, ofCells, reduceCtorEq, partsOfA, afill, Int.reduceBEq, Int.reduceBNe, Int.reduceLT, Int.reduceNeg, partsOf, setRows, rowsOf, hmerge, hpop, bnd, fn20_res, fn20_keep, fz, fzd, fzd.fzcells]
/-! 21: tree.Star. -/
theorem run21 (a : List Nd) (ha : SmS a) (hla : a.length ≤ 1000000) : cwp v2 21 [] [(AV.list 5 (List.map eNd a))] [] (fun r H => r = .tuple [.list 5 (List.map eNd (starTT a)), .bool (starB a)] ∧ H = []) := by
  refine run_fn (fn := fn21) rfl rfl ?_
  have hwa := ha.wf
  by_cases g1 : goodT a = true
  · have w1 : IntKind.i64.wrap ((a.length : Int) + 1) = (a.length : Int) + 1 := wrap64 (by omega) (by omega)
    by_cases g3 : a.length + 1 ≤ 40000
    · have g3' : ¬ (a.length : Int) + 1 > 40000 := by omega
      have hp : starB a = true := by simp [starB, g1, g3]
      have hp2 : starTT a = starT a := by simp [starTT, hp]
      have sa := good_sm ha g1
      have d1 : SmT a ∧ -200000 ≤ (0 : Int) ∧ (0 : Int) ≤ 200000 := ⟨sa, by omega, by omega⟩
      have c1 : (a.length + 1) * 64 ≤ 140737488355328 := by omega
      have hga : 1 ≤ a.length := (goodT_iff.1 g1).1
      have w3 : IntKind.i64.wrap ((a.length : Int) - 1) = (a.length : Int) - 1 := wrap64 (by omega) (by omega)
      simp only [fn21_body, c21, mach, dat2, wanted, putd, eset, eget, AX.ev, ains, params, Nat.reduceBEq, Nat.reduceAdd, reduceIte, Nat.reduceEqDiff, slots, dnext, clsOf, abin, aint, aun, agetl, foldMin, Nat.reduceLeDiff, List.isEmpty, Int.reduceEq, argsOf, St.add, hadd, hget, fget, hset, fset, cellsOf, loadObj, ofCells, reduceCtorEq, partsOfA, afill, Int.reduceBEq, Int.reduceBNe, Int.reduceLT, Int.reduceNeg, partsOf, setRows, rowsOf, hmerge, hpop, bnd, @cg29 v2 rfl, @dcg29 v2 rfl, @cg68 v2 rfl, @dcg68 v2 rfl, hwa, g1, w1, g3', d1, c1, w3, decide_false, decide_true, mov_len]
      simp only [bodyRes, resOf, one, hpop, hmerge, ob_some, endr, ne_eq, not_false_eq_true, not_true_eq_false, false_or, or_false, dat2, wanted, putd, eset, eget, AX.ev, ains, params, Nat.reduceBEq, Nat.reduceAdd, reduceIte, Nat.reduceEqDiff, slots, dnext, clsOf, abin, aint, aun, agetl, foldMin, Nat.reduceLeDiff, List.isEmpty, Int.reduceEq, argsOf, St.add, hadd, hget, fget, hset, fset, cellsOf, loadObj, ofCells, reduceCtorEq, partsOfA, afill, Int.reduceBEq, Int.reduceBNe, Int.reduceLT, Int.reduceNeg, partsOf, setRows, rowsOf, hmerge, hpop, bnd, fn21_res, fn21_keep, fz, fzd, fzd.fzcells, List.length_append, mov_len, starT_rows, starT_len, hp, hp2]
    · have g3' : (a.length : Int) + 1 > 40000 := by omega
      have hp : starB a = false := by simp [starB, g1, g3]
      have hp2 : starTT a = [] := by simp [starTT, hp]
      simp only [fn21_body, c21, mach, dat2, wanted, putd, eset, eget, AX.ev, ains, params, Nat.reduceBEq, Nat.reduceAdd, reduceIte, Nat.reduceEqDiff, slots, dnext, clsOf, abin, aint, aun, agetl, foldMin, Nat.reduceLeDiff, List.isEmpty, Int.reduceEq, argsOf, St.add, hadd, hget, fget, hset, fset, cellsOf, loadObj, ofCells, reduceCtorEq, partsOfA, afill, Int.reduceBEq, Int.reduceBNe, Int.reduceLT, Int.reduceNeg, partsOf, setRows, rowsOf, hmerge, hpop, bnd, @cg29 v2 rfl, @dcg29 v2 rfl, @cg68 v2 rfl, @dcg68 v2 rfl, hwa, g1, w1, g3', decide_true]
      simp only [bodyRes, resOf, one, hpop, hmerge, ob_some, endr, ne_eq, not_false_eq_true, not_true_eq_false, false_or, or_false, dat2, wanted, putd, eset, eget, AX.ev, ains, params, Nat.reduceBEq, Nat.reduceAdd, reduceIte, Nat.reduceEqDiff, slots, dnext, clsOf, abin, aint, aun, agetl, foldMin, Nat.reduceLeDiff, List.isEmpty, Int.reduceEq, argsOf, St.add, hadd, hget, fget, hset, fset, cellsOf, loadObj, ofCells, reduceCtorEq, partsOfA, afill, Int.reduceBEq, Int.reduceBNe, Int.reduceLT, Int.reduceNeg, partsOf, setRows, rowsOf, hmerge, hpop, bnd, fn21_res, fn21_keep, fz, fzd, fzd.fzcells, hp, hp2]
  · have g1' : goodT a = false := by simpa using g1
    have hp : starB a = false := by simp [starB, g1]
    have hp2 : starTT a = [] := by simp [starTT, hp]
    simp only [fn21_body, c21, mach, dat2, wanted, putd, eset, eget, AX.ev, ains, params, Nat.reduceBEq, Nat.reduceAdd, reduceIte, Nat.reduceEqDiff, slots, dnext, clsOf, abin, aint, aun, agetl, foldMin, Nat.reduceLeDiff, List.isEmpty, Int.reduceEq, argsOf, St.add, hadd, hget, fget, hset, fset, cellsOf, loadObj, ofCells, reduceCtorEq, partsOfA, afill, Int.reduceBEq, Int.reduceBNe, Int.reduceLT, Int.reduceNeg, partsOf, setRows, rowsOf, hmerge, hpop, bnd, @cg29 v2 rfl, @dcg29 v2 rfl, @cg68 v2 rfl, @dcg68 v2 rfl, hwa, g1']
    simp only [bodyRes, resOf, one, hpop, hmerge, ob_some, endr, ne_eq, not_false_eq_true, not_true_eq_false, false_or, or_false, dat2, wanted, putd, eset, eget, AX.ev, ains, params, Nat.reduceBEq, Nat.reduceAdd, reduceIte, Nat.reduceEqDiff, slots, dnext, clsOf, abin, aint, aun, agetl, foldMin, Nat.reduceLeDiff, List.isEmpty, Int.reduceEq, argsOf, St.add, hadd, hget, fget, hset, fset, cellsOf, loadObj, ofCells, reduceCtorEq, partsOfA, afill, Int.reduceBEq, Int.reduceBNe, Int.reduceLT, Int.reduceNeg, partsOf, setRows, rowsOf, hmerge, hpop, bnd, fn21_res, fn21_keep, fz, fzd, fzd.fzcells, hp, hp2]
noncomputable def o19 : Id → List AV → Heap → Option (AV × Heap) := oraF (fun (x : List Nd × List Nd) => (SmS (x.1) ∧ SmS (x.2)) ∧ (x.1).length ≤ 1000000 ∧ (x.2).length ≤ 1000000) (fun (x : List Nd × List Nd) => [(AV.list 5 (List.map eNd (x.1))), (AV.list 5 (List.map eNd (x.2)))]) (fun (x : List Nd × List Nd) => .tuple [.list 5 (List.map eNd (pairT 3 (x.1) (x.2))), .bool (pairB (x.1) (x.2))])
theorem inj19 : ∀ x y : List Nd × List Nd, ((fun (x : List Nd × List Nd) => [(AV.list 5 (List.map eNd (x.1))), (AV.list 5 (List.map eNd (x.2)))] : List Nd × List Nd → List AV)) x = ((fun (x : List Nd × List Nd) => [(AV.list 5 (List.map eNd (x.1))), (AV.list 5 (List.map eNd (x.2)))] : List Nd × List Nd → List AV)) y → x = y := tree2Inj
theorem cg19 {ft : FT} (h : ft 19 = some (.ora o19)) (a : List Nd) (b : List Nd) (hd : (SmS a ∧ SmS b) ∧ a.length ≤ 1000000 ∧ b.length ≤ 1000000) (q0 : Id) (H0 : Heap) (d0 : Option Nat) (r0 : List AIn) (k0 : Nat) (dr0 : List Nat) (ks0 : List Kt) (Q0 : Fin) (s0 : St) : cg ft 19 q0 ([(AV.list 5 (List.map eNd a)), (AV.list 5 (List.map eNd b))]) H0 d0 r0 k0 dr0 ks0 Q0 s0 = rg ft r0 k0 dr0 ks0 Q0 { s0 with env := putd s0.env d0 (.tuple [.list 5 (List.map eNd (pairT 3 a b)), .bool (pairB a b)]), heap := H0, k := s0.k + 1 } := cg_has (dom := fun (x : List Nd × List Nd) => (SmS (x.1) ∧ SmS (x.2)) ∧ (x.1).length ≤ 1000000 ∧ (x.2).length ≤ 1000000) (enc := fun (x : List Nd × List Nd) => [(AV.list 5 (List.map eNd (x.1))), (AV.list 5 (List.map eNd (x.2)))]) (out := fun (x : List Nd × List Nd) => .tuple [.list 5 (List.map eNd (pairT 3 (x.1) (x.2))), .bool (pairB (x.1) (x.2))]) (a := ((a, b) : List Nd × List Nd)) h inj19 hd q0 H0 d0 r0 k0 dr0 ks0 Q0 s0
theorem dcg19 {ft : FT} (h : ft 19 = some (.ora o19)) (a : List Nd) (b : List Nd) (hd : (SmS a ∧ SmS b) ∧ a.length ≤ 1000000 ∧ b.length ≤ 1000000) (q0 : Id) (H0 : Heap) (i0 : AIn) (r0 : List AIn) (k0 : Nat) (l0 : List Rec) (dr0 : List Nat) (ks0 : List Kt) (Q0 : Fin) (s0 : St) : dcg ft 19 q0 ([(AV.list 5 (List.map eNd a)), (AV.list 5 (List.map eNd b))]) H0 i0 r0 k0 l0 dr0 ks0 Q0 s0 = dn ft (dnext (clsOf i0.i s0.env) (.tuple [.list 5 (List.map eNd (pairT 3 a b)), .bool (pairB a b)]) s0 { s0 with heap := H0, k := s0.k + 1 }) i0 r0 k0 l0 dr0 ks0 Q0 s0 := dcg_has (dom := fun (x : List Nd × List Nd) => (SmS (x.1) ∧ SmS (x.2)) ∧ (x.1).length ≤ 1000000 ∧ (x.2).length ≤ 1000000) (enc := fun (x : List Nd × List Nd) => [(AV.list 5 (List.map eNd (x.1))), (AV.list 5 (List.map eNd (x.2)))]) (out := fun (x : List Nd × List Nd) => .tuple [.list 5 (List.map eNd (pairT 3 (x.1) (x.2))), .bool (pairB (x.1) (x.2))]) (a := ((a, b) : List Nd × List Nd)) h inj19 hd q0 H0 i0 r0 k0 l0 dr0 ks0 Q0 s0
theorem ook19 : OraOK Try.prog 19 o19 := lift orders v2_ok (by decide) (fun x hd => by simp [pure_undef, pure_bool, pure_int, pure_str, pure_nils, pure_agg, pure_tuple, pure_setL, pure_treeL, pure_rowL, pureL_eNd, pure_nats]) (fun x hd => by simp [pure_undef, pure_bool, pure_int, pure_str, pure_nils, pure_agg, pure_tuple, pure_setL, pure_treeL, pure_rowL, pureL_eNd, pure_nats]) (fun x hd => cwp_run (run19 x.1 x.2 hd))

noncomputable def o20 : Id → List AV → Heap → Option (AV × Heap) := oraF (fun (x : List Nd × List Nd) => (SmS (x.1) ∧ SmS (x.2)) ∧ (x.1).length ≤ 1000000 ∧ (x.2).length ≤ 1000000) (fun (x : List Nd × List Nd) => [(AV.list 5 (List.map eNd (x.1))), (AV.list 5 (List.map eNd (x.2)))]) (fun (x : List Nd × List Nd) => .tuple [.list 5 (List.map eNd (pairT 4 (x.1) (x.2))), .bool (pairB (x.1) (x.2))])
theorem inj20 : ∀ x y : List Nd × List Nd, ((fun (x : List Nd × List Nd) => [(AV.list 5 (List.map eNd (x.1))), (AV.list 5 (List.map eNd (x.2)))] : List Nd × List Nd → List AV)) x = ((fun (x : List Nd × List Nd) => [(AV.list 5 (List.map eNd (x.1))), (AV.list 5 (List.map eNd (x.2)))] : List Nd × List Nd → List AV)) y → x = y := tree2Inj
theorem cg20 {ft : FT} (h : ft 20 = some (.ora o20)) (a : List Nd) (b : List Nd) (hd : (SmS a ∧ SmS b) ∧ a.length ≤ 1000000 ∧ b.length ≤ 1000000) (q0 : Id) (H0 : Heap) (d0 : Option Nat) (r0 : List AIn) (k0 : Nat) (dr0 : List Nat) (ks0 : List Kt) (Q0 : Fin) (s0 : St) : cg ft 20 q0 ([(AV.list 5 (List.map eNd a)), (AV.list 5 (List.map eNd b))]) H0 d0 r0 k0 dr0 ks0 Q0 s0 = rg ft r0 k0 dr0 ks0 Q0 { s0 with env := putd s0.env d0 (.tuple [.list 5 (List.map eNd (pairT 4 a b)), .bool (pairB a b)]), heap := H0, k := s0.k + 1 } := cg_has (dom := fun (x : List Nd × List Nd) => (SmS (x.1) ∧ SmS (x.2)) ∧ (x.1).length ≤ 1000000 ∧ (x.2).length ≤ 1000000) (enc := fun (x : List Nd × List Nd) => [(AV.list 5 (List.map eNd (x.1))), (AV.list 5 (List.map eNd (x.2)))]) (out := fun (x : List Nd × List Nd) => .tuple [.list 5 (List.map eNd (pairT 4 (x.1) (x.2))), .bool (pairB (x.1) (x.2))]) (a := ((a, b) : List Nd × List Nd)) h inj20 hd q0 H0 d0 r0 k0 dr0 ks0 Q0 s0
theorem dcg20 {ft : FT} (h : ft 20 = some (.ora o20)) (a : List Nd) (b : List Nd) (hd : (SmS a ∧ SmS b) ∧ a.length ≤ 1000000 ∧ b.length ≤ 1000000) (q0 : Id) (H0 : Heap) (i0 : AIn) (r0 : List AIn) (k0 : Nat) (l0 : List Rec) (dr0 : List Nat) (ks0 : List Kt) (Q0 : Fin) (s0 : St) : dcg ft 20 q0 ([(AV.list 5 (List.map eNd a)), (AV.list 5 (List.map eNd b))]) H0 i0 r0 k0 l0 dr0 ks0 Q0 s0 = dn ft (dnext (clsOf i0.i s0.env) (.tuple [.list 5 (List.map eNd (pairT 4 a b)), .bool (pairB a b)]) s0 { s0 with heap := H0, k := s0.k + 1 }) i0 r0 k0 l0 dr0 ks0 Q0 s0 := dcg_has (dom := fun (x : List Nd × List Nd) => (SmS (x.1) ∧ SmS (x.2)) ∧ (x.1).length ≤ 1000000 ∧ (x.2).length ≤ 1000000) (enc := fun (x : List Nd × List Nd) => [(AV.list 5 (List.map eNd (x.1))), (AV.list 5 (List.map eNd (x.2)))]) (out := fun (x : List Nd × List Nd) => .tuple [.list 5 (List.map eNd (pairT 4 (x.1) (x.2))), .bool (pairB (x.1) (x.2))]) (a := ((a, b) : List Nd × List Nd)) h inj20 hd q0 H0 i0 r0 k0 l0 dr0 ks0 Q0 s0
theorem ook20 : OraOK Try.prog 20 o20 := lift orders v2_ok (by decide) (fun x hd => by simp [pure_undef, pure_bool, pure_int, pure_str, pure_nils, pure_agg, pure_tuple, pure_setL, pure_treeL, pure_rowL, pureL_eNd, pure_nats]) (fun x hd => by simp [pure_undef, pure_bool, pure_int, pure_str, pure_nils, pure_agg, pure_tuple, pure_setL, pure_treeL, pure_rowL, pureL_eNd, pure_nats]) (fun x hd => cwp_run (run20 x.1 x.2 hd))

noncomputable def o21 : Id → List AV → Heap → Option (AV × Heap) := oraF (fun (x : List Nd) => SmS x ∧ x.length ≤ 1000000) (fun (x : List Nd) => [(AV.list 5 (List.map eNd x))]) (fun (x : List Nd) => .tuple [.list 5 (List.map eNd (starTT x)), .bool (starB x)])
theorem inj21 : ∀ x y : List Nd, ((fun (x : List Nd) => [(AV.list 5 (List.map eNd x))] : List Nd → List AV)) x = ((fun (x : List Nd) => [(AV.list 5 (List.map eNd x))] : List Nd → List AV)) y → x = y := treeInj
theorem cg21 {ft : FT} (h : ft 21 = some (.ora o21)) (a : List Nd) (hd : SmS a ∧ a.length ≤ 1000000) (q0 : Id) (H0 : Heap) (d0 : Option Nat) (r0 : List AIn) (k0 : Nat) (dr0 : List Nat) (ks0 : List Kt) (Q0 : Fin) (s0 : St) : cg ft 21 q0 ([(AV.list 5 (List.map eNd a))]) H0 d0 r0 k0 dr0 ks0 Q0 s0 = rg ft r0 k0 dr0 ks0 Q0 { s0 with env := putd s0.env d0 (.tuple [.list 5 (List.map eNd (starTT a)), .bool (starB a)]), heap := H0, k := s0.k + 1 } := cg_has (dom := fun (x : List Nd) => SmS x ∧ x.length ≤ 1000000) (enc := fun (x : List Nd) => [(AV.list 5 (List.map eNd x))]) (out := fun (x : List Nd) => .tuple [.list 5 (List.map eNd (starTT x)), .bool (starB x)]) (a := ((a) : List Nd)) h inj21 hd q0 H0 d0 r0 k0 dr0 ks0 Q0 s0
theorem dcg21 {ft : FT} (h : ft 21 = some (.ora o21)) (a : List Nd) (hd : SmS a ∧ a.length ≤ 1000000) (q0 : Id) (H0 : Heap) (i0 : AIn) (r0 : List AIn) (k0 : Nat) (l0 : List Rec) (dr0 : List Nat) (ks0 : List Kt) (Q0 : Fin) (s0 : St) : dcg ft 21 q0 ([(AV.list 5 (List.map eNd a))]) H0 i0 r0 k0 l0 dr0 ks0 Q0 s0 = dn ft (dnext (clsOf i0.i s0.env) (.tuple [.list 5 (List.map eNd (starTT a)), .bool (starB a)]) s0 { s0 with heap := H0, k := s0.k + 1 }) i0 r0 k0 l0 dr0 ks0 Q0 s0 := dcg_has (dom := fun (x : List Nd) => SmS x ∧ x.length ≤ 1000000) (enc := fun (x : List Nd) => [(AV.list 5 (List.map eNd x))]) (out := fun (x : List Nd) => .tuple [.list 5 (List.map eNd (starTT x)), .bool (starB x)]) (a := ((a) : List Nd)) h inj21 hd q0 H0 i0 r0 k0 l0 dr0 ks0 Q0 s0
theorem ook21 : OraOK Try.prog 21 o21 := lift orders v2_ok (by decide) (fun x hd => by simp [pure_undef, pure_bool, pure_int, pure_str, pure_nils, pure_agg, pure_tuple, pure_setL, pure_treeL, pure_rowL, pureL_eNd, pure_nats]) (fun x hd => by simp [pure_undef, pure_bool, pure_int, pure_str, pure_nils, pure_agg, pure_tuple, pure_setL, pure_treeL, pure_rowL, pureL_eNd, pure_nats]) (fun x hd => cwp_run (run21 x hd.1 hd.2))

noncomputable def v3 : FT := upd (upd (upd (v2) 19 o19) 20 o20) 21 o21
theorem v3_ok : FTOK Try.prog v3 := upd_ok (upd_ok (upd_ok (v2_ok) (by decide) ook19) (by decide) ook20) (by decide) ook21

end Go.Proofs.Abs
