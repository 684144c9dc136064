/- A part of a proof: the text that states the row tells what is proved. No condition is laid on anything. -/
import Derived.Test.YtgcncpedpjjjeaaAbsE2
import Derived.Test.YtgcncpedpjjjeaaAbsS2
import Derived.Test.YtgcncpedpjjjeaaAbsF0
set_option linter.all false
set_option linter.constructorNameAsVariable false
set_option linter.defProp false
set_option linter.unusedVariables false
set_option linter.unusedSimpArgs false
set_option maxRecDepth 100000
set_option maxHeartbeats 4000000
namespace Go.Proofs.Abs
open Go
/-! 69, 77: slices.Clone. -/
theorem run69 (s : List (Int × Int)) (hs : s.length ≤ 600) : cwp t4 69 [] [(AV.list 2 (List.map (fun x => [AV.int .i64 x.1, AV.int .i64 x.2]) (s)))] [] (fun v H => ∃ id, v = .own id (s.map fun x => [AV.int .i64 x.1, AV.int .i64 x.2]).length ∧ H = [[(id, .row true true 70 2 (s.map fun x => [AV.int .i64 x.1, AV.int .i64 x.2]))]]) := by
  cases s with
  | nil => exact ⟨_, _, ⟨10, fun n hn => by
      obtain ⟨m, rfl⟩ : ∃ m, n = m + 10 := ⟨n - 10, by omega⟩
      rfl⟩, _, rfl, rfl⟩
  | cons x r =>
    refine run_fork (fn := fn69) rfl rfl (by intro sz r' h; simp at h) ?_
    have hb : (0 + (r.length + 1)) * 16 ≤ 140737488355328 := by simp at hs; omega
    show run t4 fn69.body [] _ _
    simp only [fn69_body, c69, D0, ains, clsOf, abin, aint, aun, dnext, rowsOf, loadObj, cellsOf, ofCells, bnd, hmerge, Nat.reduceBEq, Nat.reduceAdd, reduceIte, Nat.reduceEqDiff, Nat.reduceLeDiff, Int.reduceEq, reduceCtorEq, Int.reduceBEq, Int.reduceBNe, Int.reduceLT, Int.reduceNeg, hb]
    simp only [F1, bodyRes, one, ains, clsOf, abin, aint, aun, dnext, rowsOf, loadObj, cellsOf, ofCells, bnd, hmerge, Nat.reduceBEq, Nat.reduceAdd, reduceIte, Nat.reduceEqDiff, Nat.reduceLeDiff, Int.reduceEq, reduceCtorEq, Int.reduceBEq, Int.reduceBNe, Int.reduceLT, Int.reduceNeg, fn69_res, fn69_keep, Nat.zero_add]
    exact ⟨_, rfl, _, rfl, rfl⟩
theorem run77 (t : List Nd) (ht : t.length ≤ 40000) : cwp t4 77 [] [(AV.list 5 (List.map eNd t))] [] (fun v H => ∃ id, v = .own id (List.map eNd t).length ∧ H = [[(id, .row true true 48 5 (List.map eNd t))]]) := by
  cases t with
  | nil => exact ⟨_, _, ⟨10, fun n hn => by
      obtain ⟨m, rfl⟩ : ∃ m, n = m + 10 := ⟨n - 10, by omega⟩
      rfl⟩, _, rfl, rfl⟩
  | cons x r =>
    refine run_fork (fn := fn77) rfl rfl (by intro sz r' h; simp at h) ?_
    have hb : (0 + (r.length + 1)) * 64 ≤ 140737488355328 := by simp at ht; omega
    show run t4 fn77.body [] _ _
    simp only [fn77_body, c77, D0, ains, clsOf, abin, aint, aun, dnext, rowsOf, loadObj, cellsOf, ofCells, bnd, hmerge, Nat.reduceBEq, Nat.reduceAdd, reduceIte, Nat.reduceEqDiff, Nat.reduceLeDiff, Int.reduceEq, reduceCtorEq, Int.reduceBEq, Int.reduceBNe, Int.reduceLT, Int.reduceNeg, hb]
    simp only [F1, bodyRes, one, ains, clsOf, abin, aint, aun, dnext, rowsOf, loadObj, cellsOf, ofCells, bnd, hmerge, Nat.reduceBEq, Nat.reduceAdd, reduceIte, Nat.reduceEqDiff, Nat.reduceLeDiff, Int.reduceEq, reduceCtorEq, Int.reduceBEq, Int.reduceBNe, Int.reduceLT, Int.reduceNeg, fn77_res, fn77_keep, Nat.zero_add]
    exact ⟨_, rfl, _, rfl, rfl⟩
theorem setInj2 : ∀ a b : List (Int × Int), [(AV.list 2 (List.map (fun x => [AV.int .i64 x.1, AV.int .i64 x.2]) (a)))] = [(AV.list 2 (List.map (fun x => [AV.int .i64 x.1, AV.int .i64 x.2]) (b)))] → a = b := by
  intro a b h
  simp only [List.cons.injEq, and_true] at h
  exact eSet_inj h
theorem treeInj2 : ∀ a b : List Nd, [(AV.list 5 (List.map eNd a))] = [(AV.list 5 (List.map eNd b))] → a = b := by
  intro a b h
  simp only [List.cons.injEq, and_true] at h
  exact eTree_inj h
def k69 : KonO ((List (Int × Int))) := ⟨fun x => x.length ≤ 600, fun x => [(AV.list 2 (List.map (fun x => [AV.int .i64 x.1, AV.int .i64 x.2]) (x)))], 70, 2, fun x => (List.map (fun x => [AV.int .i64 x.1, AV.int .i64 x.2]) x)⟩
theorem e69 (s : List (Int × Int)) (hd : s.length ≤ 600) (q0 : Id) (H0 : Heap) : k69.ora q0 ([(AV.list 2 (List.map (fun x => [AV.int .i64 x.1, AV.int .i64 x.2]) (s)))]) H0 = some (.own (q0 ++ [0]) ((List.map (fun x => [AV.int .i64 x.1, AV.int .i64 x.2]) s)).length, hadd H0 (q0 ++ [0]) (.row true true 70 2 ((List.map (fun x => [AV.int .i64 x.1, AV.int .i64 x.2]) s)))) := k69.eq (setInj2) (s) hd q0 H0
theorem ook69 : OraOK Try.prog (69 % 100000) k69.ora := k69.ok orders t4_ok (fun x hd => by simp [k69, PU]) (fun x hd => by dsimp only [k69]; simp only [PU]) (fun x hd => run69 x hd)

def k77 : KonO (List Nd) := ⟨fun x => x.length ≤ 40000, fun x => [(AV.list 5 (List.map eNd x))], 48, 5, fun x => (List.map eNd x)⟩
theorem e77 (t : List Nd) (hd : t.length ≤ 40000) (q0 : Id) (H0 : Heap) : k77.ora q0 ([(AV.list 5 (List.map eNd t))]) H0 = some (.own (q0 ++ [0]) ((List.map eNd t)).length, hadd H0 (q0 ++ [0]) (.row true true 48 5 ((List.map eNd t)))) := k77.eq (treeInj2) (t) hd q0 H0
theorem ook77 : OraOK Try.prog (77 % 100000) k77.ora := k77.ok orders t4_ok (fun x hd => by simp [k77, PU]) (fun x hd => by dsimp only [k77]; simp only [PU]) (fun x hd => run77 x hd)

noncomputable def u1 : FT := upd (upd (t4) 69 k69.ora) 77 k77.ora
theorem u1_ok : FTOK Try.prog u1 := upd_ok2 (f := 77) (upd_ok2 (f := 69) (t4_ok) ook69) ook77

/-- Trees whose numbers are small. -/
structure SmN (n : Nd) : Prop where
  set : n.set.length ≤ 600
  a : -200000 ≤ n.a ∧ n.a ≤ 200000
  b : -200000 ≤ n.b ∧ n.b ≤ 200000
structure SmT (t : List Nd) : Prop where
  len : t.length ≤ 40000
  all : ∀ n ∈ t, SmN n
theorem getD_mem {t : List Nd} {j : Nat} (h : j < t.length) : t.getD j default ∈ t := by
  rw [List.getD_eq_getElem?_getD, List.getElem?_eq_getElem h]
  exact List.getElem_mem h
theorem mov_take_drop {t : List Nd} {m : Int} {j : Nat} (h : j < t.length) : (mov (t.take j) m ++ t.drop j).set j (movN (t.getD j default) m) = mov (t.take (j + 1)) m ++ t.drop (j + 1) := by
  have e : (mov (t.take j) m).length = j := by simp [mov]; omega
  rw [List.set_append, if_neg (by omega), e, Nat.sub_self, List.drop_eq_getElem_cons h, List.set_cons_zero]
  have e2 : t.take (j + 1) = t.take j ++ [t[j]] := by simp
  have e3 : t.getD j default = t[j] := by
    rw [List.getD_eq_getElem?_getD, List.getElem?_eq_getElem h]
    rfl
  rw [e2, e3]
  unfold mov
  rw [List.map_append, List.append_assoc]
  rfl
theorem body68 (t : List Nd) (m : Int) (ht : SmT t) (hm : -200000 ≤ m ∧ m ≤ 200000) {Q : Fin} {X : St} (hX : X = { env := [(0, .list 5 (List.map eNd t)), (1, .int .i64 m)], heap := [[]], p := [], k := 0 })
    (h : ∀ e k, eget e 4 = .own [2, 0] t.length → Q .ret { env := e, heap := [[([2, 0], .row true true 48 5 (List.map eNd (mov t m))), ([0], .row true true 48 5 [])]], p := [], k := k }) :
    run u1 c68 [] Q X := by
  subst hX
  have hl := ht.len
  simp only [c68, D0, ains, clsOf, abin, aint, aun, dnext, rowsOf, loadObj, cellsOf, ofCells, bnd, hmerge, Nat.reduceBEq, Nat.reduceAdd, reduceIte, Nat.reduceEqDiff, Nat.reduceLeDiff, Int.reduceEq, reduceCtorEq, Int.reduceBEq, Int.reduceBNe, Int.reduceLT, Int.reduceNeg, @use_all u1 77 k77.ora rfl, e77, hl]
  refine lg_rule (fun j e H => e = [(0, .list 5 (List.map eNd t)), (1, .int .i64 m), (4, .own [0] 0), (5, .own [2, 0] t.length), (11, .int .i64 t.length), (12, .int .i64 j)] ∧
    H = [[([2, 0], .row true true 48 5 (List.map eNd (mov (t.take j) m ++ t.drop j))), ([0], .row true true 48 5 [])]] ∧ j ≤ t.length) t.length ?_ ?_
  · exact ⟨rfl, by simp [mov], by simp⟩
  rintro j e H ⟨rfl, rfl, hj⟩
  simp only [D0, ains, clsOf, abin, aint, aun, dnext, rowsOf, loadObj, cellsOf, ofCells, bnd, hmerge, Nat.reduceBEq, Nat.reduceAdd, reduceIte, Nat.reduceEqDiff, Nat.reduceLeDiff, Int.reduceEq, reduceCtorEq, Int.reduceBEq, Int.reduceBNe, Int.reduceLT, Int.reduceNeg]
  by_cases hjl : j < t.length
  · have h' : (j : Int) < (t.length : Int) := by omega
    have hp := wrapp (j := j) (by omega)
    have hL : (mov (t.take j) m ++ t.drop j).length = t.length := by simp [mov]; omega
    have hstep := mov_take_drop (m := m) hjl
    have hgn : (mov (t.take j) m ++ t.drop j).getD j default = t.getD j default := by
      have e : (mov (t.take j) m).length = j := by simp [mov]; omega
      rw [List.getD_eq_getElem?_getD, List.getElem?_append_right (by omega), e, Nat.sub_self, List.getD_eq_getElem?_getD]
      simp
    have hsm := ht.all _ (getD_mem hjl)
    have hg := map_get (f := eNd) (l := mov (t.take j) m ++ t.drop j) (j := j) (by omega) default
    rw [hgn] at hg
    generalize t.getD j default = n at hstep hsm hg
    generalize mov (t.take j) m ++ t.drop j = L at hstep hL hg
    have hs : ∀ k a b c z, (List.map eNd L).set j [AV.int .i64 k, AV.int .i64 a, AV.int .i64 b, (AV.list 2 (List.map (fun x => [AV.int .i64 x.1, AV.int .i64 x.2]) (c))), AV.str z] = List.map eNd (L.set j ⟨k, a, b, c, z⟩) := fun k a b c z => by
      rw [List.map_set]; rfl
    have hs2 : ∀ x k a b c z, (List.map eNd (L.set j x)).set j [AV.int .i64 k, AV.int .i64 a, AV.int .i64 b, (AV.list 2 (List.map (fun x => [AV.int .i64 x.1, AV.int .i64 x.2]) (c))), AV.str z] = List.map eNd (L.set j ⟨k, a, b, c, z⟩) := fun x k a b c z => by
      show (List.map eNd (L.set j x)).set j (eNd ⟨k, a, b, c, z⟩) = _
      rw [← List.map_set, List.set_set]
    have hg2 : ∀ x, (List.map eNd (L.set j x))[j]? = some (eNd x) := fun x => by
      rw [List.getElem?_map, List.getElem?_set]
      simp [show j < L.length by omega]
    obtain ⟨k, a, b, c, z⟩ := n
    obtain ⟨s1, s2, s3⟩ := hsm
    simp only at s1 s2 s3
    by_cases hf : isFork ⟨k, a, b, c, z⟩ = true
    · have hk : k = 3 ∨ k = 4 := by simpa [isFork] using hf
      have hwa : IntKind.i64.wrap (a + m) = a + m := wrap64 (by omega) (by omega)
      have hwb : IntKind.i64.wrap (b + m) = b + m := wrap64 (by omega) (by omega)
      have hmv : movN ⟨k, a, b, c, z⟩ m = ⟨k, a + m, b + m, c, z⟩ := by simp [movN, hf]
      rw [hmv] at hstep
      rcases hk with rfl | rfl <;> simp only [D0, ains, clsOf, abin, aint, aun, dnext, rowsOf, loadObj, cellsOf, ofCells, bnd, hmerge, Nat.reduceBEq, Nat.reduceAdd, reduceIte, Nat.reduceEqDiff, Nat.reduceLeDiff, Int.reduceEq, reduceCtorEq, Int.reduceBEq, Int.reduceBNe, Int.reduceLT, Int.reduceNeg, @use_all u1 69 k69.ora rfl, e69, h', hg, hL, eNd, eSet, hs, hs2, hg2, s1, fz, fzd, List.length_set, decide_true, Int.natCast_nonneg, Int.toNat_natCast, hp, hwa, hwb]
      all_goals simp only [F1, bodyRes, one, ains, clsOf, abin, aint, aun, dnext, rowsOf, loadObj, cellsOf, ofCells, bnd, hmerge, Nat.reduceBEq, Nat.reduceAdd, reduceIte, Nat.reduceEqDiff, Nat.reduceLeDiff, Int.reduceEq, reduceCtorEq, Int.reduceBEq, Int.reduceBNe, Int.reduceLT, Int.reduceNeg]
      all_goals exact ⟨hjl, by rw [hstep], hjl⟩
    · have hk3 : (k == 3) = false := by simp [isFork] at hf; simp [hf]
      have hk4 : (k == 4) = false := by simp [isFork] at hf; simp [hf]
      by_cases hk : k = 5
      · have hwa : IntKind.i64.wrap (a + m) = a + m := wrap64 (by omega) (by omega)
        have hmv : movN ⟨k, a, b, c, z⟩ m = ⟨k, a + m, b, c, z⟩ := by
          unfold movN
          rw [if_neg hf, if_pos hk]
        rw [hmv] at hstep
        subst hk
        simp only [D0, ains, clsOf, abin, aint, aun, dnext, rowsOf, loadObj, cellsOf, ofCells, bnd, hmerge, Nat.reduceBEq, Nat.reduceAdd, reduceIte, Nat.reduceEqDiff, Nat.reduceLeDiff, Int.reduceEq, reduceCtorEq, Int.reduceBEq, Int.reduceBNe, Int.reduceLT, Int.reduceNeg, @use_all u1 69 k69.ora rfl, e69, h', hg, hL, eNd, eSet, hs, hs2, hg2, s1, fz, fzd, List.length_set, decide_true, Int.natCast_nonneg, Int.toNat_natCast, hp, hwa]
        all_goals simp only [F1, bodyRes, one, ains, clsOf, abin, aint, aun, dnext, rowsOf, loadObj, cellsOf, ofCells, bnd, hmerge, Nat.reduceBEq, Nat.reduceAdd, reduceIte, Nat.reduceEqDiff, Nat.reduceLeDiff, Int.reduceEq, reduceCtorEq, Int.reduceBEq, Int.reduceBNe, Int.reduceLT, Int.reduceNeg]
        all_goals exact ⟨hjl, by rw [hstep], hjl⟩
      · have hk5 : (k == 5) = false := by simpa using hk
        have hmv : movN ⟨k, a, b, c, z⟩ m = ⟨k, a, b, c, z⟩ := by simp [movN, hf, hk]
        rw [hmv] at hstep
        simp only [D0, ains, clsOf, abin, aint, aun, dnext, rowsOf, loadObj, cellsOf, ofCells, bnd, hmerge, Nat.reduceBEq, Nat.reduceAdd, reduceIte, Nat.reduceEqDiff, Nat.reduceLeDiff, Int.reduceEq, reduceCtorEq, Int.reduceBEq, Int.reduceBNe, Int.reduceLT, Int.reduceNeg, @use_all u1 69 k69.ora rfl, e69, h', hg, hL, eNd, eSet, hs, hs2, hg2, s1, fz, fzd, List.length_set, decide_true, Int.natCast_nonneg, Int.toNat_natCast, hp, hk3, hk4, hk5]
        all_goals simp only [F1, bodyRes, one, ains, clsOf, abin, aint, aun, dnext, rowsOf, loadObj, cellsOf, ofCells, bnd, hmerge, Nat.reduceBEq, Nat.reduceAdd, reduceIte, Nat.reduceEqDiff, Nat.reduceLeDiff, Int.reduceEq, reduceCtorEq, Int.reduceBEq, Int.reduceBNe, Int.reduceLT, Int.reduceNeg]
        all_goals exact ⟨hjl, by rw [hstep], hjl⟩
  · have h' : ¬ (j : Int) < (t.length : Int) := by omega
    have hj2 : j = t.length := by omega
    subst hj2
    simp only [D0, ains, clsOf, abin, aint, aun, dnext, rowsOf, loadObj, cellsOf, ofCells, bnd, hmerge, Nat.reduceBEq, Nat.reduceAdd, reduceIte, Nat.reduceEqDiff, Nat.reduceLeDiff, Int.reduceEq, reduceCtorEq, Int.reduceBEq, Int.reduceBNe, Int.reduceLT, Int.reduceNeg, h', decide_false]
    refine .inr ⟨by simp, ?_⟩
    simp only [List.take_length, List.drop_length, List.append_nil]
    exact h _ _ rfl
theorem mov_len (t : List Nd) (m : Int) : (mov t m).length = t.length := by simp [mov]
theorem run68 (t : List Nd) (m : Int) (ht : SmT t) (hm : -200000 ≤ m ∧ m ≤ 200000) : cwp u1 68 [] [(AV.list 5 (List.map eNd t)), .int .i64 m] [] (fun v H => ∃ id, v = .own id (List.map eNd (mov t m)).length ∧ H = [[(id, .row true true 48 5 (List.map eNd (mov t m)))]]) := by
  refine run_fn (fn := fn68) rfl rfl ?_
  refine body68 t m ht hm rfl fun e k he => ?_
  simp only [F1, bodyRes, one, ains, clsOf, abin, aint, aun, dnext, rowsOf, loadObj, cellsOf, ofCells, bnd, hmerge, Nat.reduceBEq, Nat.reduceAdd, reduceIte, Nat.reduceEqDiff, Nat.reduceLeDiff, Int.reduceEq, reduceCtorEq, Int.reduceBEq, Int.reduceBNe, Int.reduceLT, Int.reduceNeg, fn68_res, fn68_keep, he, mov_len]
  first | exact ⟨_, rfl, _, rfl, rfl⟩ | exact ⟨_, rfl, rfl⟩ | trace_state
theorem run100068 (t : List Nd) (m : Int) (ht : SmT t) (hm : -200000 ≤ m ∧ m ≤ 200000) : cwp u1 100068 [] [(AV.list 5 (List.map eNd t)), .int .i64 m] [] (fun v H => v = .list 5 (List.map eNd (mov t m)) ∧ H = []) := by
  refine run_fn (fn := { fn68 with keep := 0 }) rfl rfl ?_
  refine body68 t m ht hm rfl fun e k he => ?_
  simp only [F1, bodyRes, one, ains, clsOf, abin, aint, aun, dnext, rowsOf, loadObj, cellsOf, ofCells, bnd, hmerge, Nat.reduceBEq, Nat.reduceAdd, reduceIte, Nat.reduceEqDiff, Nat.reduceLeDiff, Int.reduceEq, reduceCtorEq, Int.reduceBEq, Int.reduceBNe, Int.reduceLT, Int.reduceNeg, fn68_res, fn68_keep, he, mov_len, fz, fzd]
theorem treeIntInj : ∀ x y : List Nd × Int, [(AV.list 5 (List.map eNd x.1)), .int .i64 x.2] = [(AV.list 5 (List.map eNd y.1)), .int .i64 y.2] → x = y := by
  rintro ⟨a, m⟩ ⟨b, n⟩ h
  simp only [List.cons.injEq, AV.int.injEq, and_true, true_and] at h
  have := eTree_inj (a := a) (b := b) h.1
  rw [this, h.2]
def k68 : KonO (List Nd × Int) := ⟨fun x => SmT x.1 ∧ -200000 ≤ x.2 ∧ x.2 ≤ 200000, fun x => [(AV.list 5 (List.map eNd x.1)), .int .i64 x.2], 48, 5, fun x => (List.map eNd (mov x.1 x.2))⟩
theorem e68 (t : List Nd) (m : Int) (hd : SmT t ∧ -200000 ≤ m ∧ m ≤ 200000) (q0 : Id) (H0 : Heap) : k68.ora q0 ([(AV.list 5 (List.map eNd t)), .int .i64 m]) H0 = some (.own (q0 ++ [0]) ((List.map eNd (mov t m))).length, hadd H0 (q0 ++ [0]) (.row true true 48 5 ((List.map eNd (mov t m))))) := k68.eq (treeIntInj) (t, m) hd q0 H0
theorem ook68 : OraOK Try.prog (68 % 100000) k68.ora := k68.ok orders u1_ok (fun x hd => by simp [k68, PU]) (fun x hd => by dsimp only [k68]; simp only [PU]) (fun x hd => run68 x.1 x.2 hd.1 hd.2)

def k100068 : Kon (List Nd × Int) := ⟨fun x => SmT x.1 ∧ -200000 ≤ x.2 ∧ x.2 ≤ 200000, fun x => [(AV.list 5 (List.map eNd x.1)), .int .i64 x.2], fun x => .list 5 (List.map eNd (mov x.1 x.2))⟩
theorem e100068 (t : List Nd) (m : Int) (hd : SmT t ∧ -200000 ≤ m ∧ m ≤ 200000) (q0 : Id) (H0 : Heap) : k100068.ora q0 ([(AV.list 5 (List.map eNd t)), .int .i64 m]) H0 = some (.list 5 (List.map eNd (mov t m)), H0) := k100068.eq (treeIntInj) (t, m) hd q0 H0
theorem ook100068 : OraOK Try.prog (100068 % 100000) k100068.ora := k100068.ok orders u1_ok (fun x hd => by simp [k100068, PU]) (fun x hd => by simp [k100068, PU]) (fun x hd => run100068 x.1 x.2 hd.1 hd.2)

end Go.Proofs.Abs
