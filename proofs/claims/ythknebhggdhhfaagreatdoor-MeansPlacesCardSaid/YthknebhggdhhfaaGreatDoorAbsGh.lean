/- A part of a proof: the text that states the row tells what is proved. No condition is laid on anything. -/
import Derived.Test.YthknebhggdhhfaaGreatDoorAbsGg
import Derived.Test.YthknebhggdhhfaaGreatDoorAbsGd
import Derived.Test.YthknebhggdhhfaaGreatDoorAbsC
set_option linter.all false
set_option linter.constructorNameAsVariable false
set_option linter.defProp false
set_option linter.unusedVariables false
set_option linter.unusedSimpArgs false
set_option maxRecDepth 100000
set_option maxHeartbeats 4000000
namespace Go.Proofs.Abs
open Go
theorem run69 (s : List (Int × Int)) (hs : s.length ≤ 600) : cwp t4 58 [] [(AV.list 2 (List.map (fun x => [AV.int .i64 x.1, AV.int .i64 x.2]) (s)))] [] (fun v H => ∃ id, v = .own id (s.map fun x => [AV.int .i64 x.1, AV.int .i64 x.2]).length ∧ H = [[(id, .row true true 52 2 (s.map fun x => [AV.int .i64 x.1, AV.int .i64 x.2]))]]) := by
  cases s with
  | nil => exact ⟨_, _, ⟨10, fun n hn => by
      obtain ⟨m, rfl⟩ : ∃ m, n = m + 10 := ⟨n - 10, by omega⟩
      rfl⟩, _, rfl, rfl⟩
  | cons x r =>
    refine run_fork (fn := fn69) rfl rfl (by intro sz r' h; simp at h) ?_
    have hb : (0 + (r.length + 1)) * 16 ≤ 140737488355328 := by simp at hs; omega
    show run t4 fn69.body [] _ _
    simp only [fn69_body, c69, D0, SP0, seval, -Int.reduceNatCast', hb]
    simp only [F1, SF0, SP0, seval, -Int.reduceNatCast', fn69_res, fn69_keep, Nat.zero_add]
    exact ⟨_, rfl, _, rfl, rfl⟩
theorem run77 (t : List Nd) (ht : t.length ≤ 40000) : cwp t4 91 [] [(AV.list 5 (List.map eNd t))] [] (fun v H => ∃ id, v = .own id (List.map eNd t).length ∧ H = [[(id, .row true true 78 5 (List.map eNd t))]]) := by
  cases t with
  | nil => exact ⟨_, _, ⟨10, fun n hn => by
      obtain ⟨m, rfl⟩ : ∃ m, n = m + 10 := ⟨n - 10, by omega⟩
      rfl⟩, _, rfl, rfl⟩
  | cons x r =>
    refine run_fork (fn := fn77) rfl rfl (by intro sz r' h; simp at h) ?_
    have hb : (0 + (r.length + 1)) * 64 ≤ 140737488355328 := by simp at ht; omega
    show run t4 fn77.body [] _ _
    simp only [fn77_body, c77, D0, SP0, seval, -Int.reduceNatCast', hb]
    simp only [F1, SF0, SP0, seval, -Int.reduceNatCast', fn77_res, fn77_keep, Nat.zero_add]
    exact ⟨_, rfl, _, rfl, rfl⟩
theorem setInj2 : ∀ a b : List (Int × Int), [(AV.list 2 (List.map (fun x => [AV.int .i64 x.1, AV.int .i64 x.2]) (a)))] = [(AV.list 2 (List.map (fun x => [AV.int .i64 x.1, AV.int .i64 x.2]) (b)))] → a = b := by
  intro a b h
  simp only [List.cons.injEq, and_true] at h
  exact eSet_inj h
theorem treeInj2 : ∀ a b : List Nd, [(AV.list 5 (List.map eNd a))] = [(AV.list 5 (List.map eNd b))] → a = b := by
  intro a b h
  simp only [List.cons.injEq, and_true] at h
  exact eTree_inj h
noncomputable def k69 : KonO ((List (Int × Int))) := ⟨fun x => x.length ≤ 600, fun x => [(AV.list 2 (List.map (fun x => [AV.int .i64 x.1, AV.int .i64 x.2]) (x)))], 52, 2, fun x => (List.map (fun x => [AV.int .i64 x.1, AV.int .i64 x.2]) x)⟩
theorem e69 (s : List (Int × Int)) (hd : s.length ≤ 600) (q0 : Id) (H0 : Heap) : k69.ora q0 ([(AV.list 2 (List.map (fun x => [AV.int .i64 x.1, AV.int .i64 x.2]) (s)))]) H0 = some (.own (q0 ++ [0]) ((List.map (fun x => [AV.int .i64 x.1, AV.int .i64 x.2]) s)).length, hadd H0 (q0 ++ [0]) (.row true true 52 2 ((List.map (fun x => [AV.int .i64 x.1, AV.int .i64 x.2]) s)))) := k69.eq (setInj2) (s) hd q0 H0
theorem ook69 : OraOK Tryz.prog (58 % 100000) k69.ora := k69.ok orders t4_ok (fun x hd => by simp [k69, PU]) (fun x hd => by dsimp only [k69]; simp only [PU]) (fun x hd => run69 x hd)

noncomputable def k77 : KonO (List Nd) := ⟨fun x => x.length ≤ 40000, fun x => [(AV.list 5 (List.map eNd x))], 78, 5, fun x => (List.map eNd x)⟩
theorem e77 (t : List Nd) (hd : t.length ≤ 40000) (q0 : Id) (H0 : Heap) : k77.ora q0 ([(AV.list 5 (List.map eNd t))]) H0 = some (.own (q0 ++ [0]) ((List.map eNd t)).length, hadd H0 (q0 ++ [0]) (.row true true 78 5 ((List.map eNd t)))) := k77.eq (treeInj2) (t) hd q0 H0
theorem ook77 : OraOK Tryz.prog (91 % 100000) k77.ora := k77.ok orders t4_ok (fun x hd => by simp [k77, PU]) (fun x hd => by dsimp only [k77]; simp only [PU]) (fun x hd => run77 x hd)

noncomputable def u1 : FT := upd (upd (t4) 58 k69.ora) 91 k77.ora
theorem u1_ok : FTOK Tryz.prog u1 := upd_ok2 (f := 91) (upd_ok2 (f := 58) (t4_ok) ook69) ook77

structure SmN (n : Nd) : Prop where
  set : n.set.length ≤ 600
  a : -200000 ≤ n.a ∧ n.a ≤ 200000
  b : -200000 ≤ n.b ∧ n.b ≤ 200000
structure SmT (t : List Nd) : Prop where
  len : t.length ≤ 40000
  all : ∀ n ∈ t, SmN n
theorem getD_mem {t : List Nd} {j : Nat} (h : j < t.length) : t.getD j default ∈ t := by
  rw [List.getD_eq_getElem?_getD, List.getElem?_eq_getElem h]
  exact List.getElem_mem h
theorem mov_take_drop {t : List Nd} {m : Int} {j : Nat} (h : j < t.length) : (mov (t.take j) m ++ t.drop j).set j (movN (t.getD j default) m) = mov (t.take (j + 1)) m ++ t.drop (j + 1) := by
  have e : (mov (t.take j) m).length = j := by simp [mov]; omega
  rw [List.set_append, if_neg (by omega), e, Nat.sub_self, List.drop_eq_getElem_cons h, List.set_cons_zero]
  have e2 : t.take (j + 1) = t.take j ++ [t[j]] := by simp
  have e3 : t.getD j default = t[j] := by
    rw [List.getD_eq_getElem?_getD, List.getElem?_eq_getElem h]
    rfl
  rw [e2, e3]
  unfold mov
  rw [List.map_append, List.append_assoc]
  rfl
theorem body68 (t : List Nd) (m : Int) (ht : SmT t) (hm : -200000 ≤ m ∧ m ≤ 200000) {Q : Fin} {X : St} (hX : X = { env := [(0, .list 5 (List.map eNd t)), (1, .int .i64 m)], heap := [[]], p := [], k := 0 })
    (h : ∀ e k, eget e 4 = .own [2, 0] t.length → Q .ret { env := e, heap := [[([2, 0], .row true true 78 5 (List.map eNd (mov t m))), ([0], .row true true 78 5 [])]], p := [], k := k }) :
    run u1 c68 [] Q X := by
  subst hX
  have hl := ht.len
  simp only [c68, D0, SP0, seval, -Int.reduceNatCast', @use_all u1 91 k77.ora rfl, e77, hl]
  refine lg_rule (fun j e H => e = [(0, .list 5 (List.map eNd t)), (1, .int .i64 m), (4, .own [0] 0), (5, .own [2, 0] t.length), (11, .int .i64 t.length), (12, .int .i64 j)] ∧
    H = [[([2, 0], .row true true 78 5 (List.map eNd (mov (t.take j) m ++ t.drop j))), ([0], .row true true 78 5 [])]] ∧ j ≤ t.length) t.length ?_ ?_
  · exact ⟨rfl, by simp [mov], by simp⟩
  rintro j e H ⟨rfl, rfl, hj⟩
  simp only [D0, SP0, seval, -Int.reduceNatCast']
  by_cases hjl : j < t.length
  · have h' : (j : Int) < (t.length : Int) := by omega
    have hp := wrapp (j := j) (by omega)
    have hL : (mov (t.take j) m ++ t.drop j).length = t.length := by simp [mov]; omega
    have hstep := mov_take_drop (m := m) hjl
    have hgn : (mov (t.take j) m ++ t.drop j).getD j default = t.getD j default := by
      have e : (mov (t.take j) m).length = j := by simp [mov]; omega
      rw [List.getD_eq_getElem?_getD, List.getElem?_append_right (by omega), e, Nat.sub_self, List.getD_eq_getElem?_getD]
      simp
    have hsm := ht.all _ (getD_mem hjl)
    have hg := map_get (f := eNd) (l := mov (t.take j) m ++ t.drop j) (j := j) (by omega) default
    rw [hgn] at hg
    generalize t.getD j default = n at hstep hsm hg
    generalize mov (t.take j) m ++ t.drop j = L at hstep hL hg
    have hs : ∀ k a b c z, (List.map eNd L).set j [AV.int .i64 k, AV.int .i64 a, AV.int .i64 b, (AV.list 2 (List.map (fun x => [AV.int .i64 x.1, AV.int .i64 x.2]) (c))), AV.str z] = List.map eNd (L.set j ⟨k, a, b, c, z⟩) := fun k a b c z => by
      rw [List.map_set]; rfl
    have hs2 : ∀ x k a b c z, (List.map eNd (L.set j x)).set j [AV.int .i64 k, AV.int .i64 a, AV.int .i64 b, (AV.list 2 (List.map (fun x => [AV.int .i64 x.1, AV.int .i64 x.2]) (c))), AV.str z] = List.map eNd (L.set j ⟨k, a, b, c, z⟩) := fun x k a b c z => by
      show (List.map eNd (L.set j x)).set j (eNd ⟨k, a, b, c, z⟩) = _
      rw [← List.map_set, List.set_set]
    have hg2 : ∀ x, (List.map eNd (L.set j x))[j]? = some (eNd x) := fun x => by
      rw [List.getElem?_map, List.getElem?_set]
      simp [show j < L.length by omega]
    obtain ⟨k, a, b, c, z⟩ := n
    obtain ⟨s1, s2, s3⟩ := hsm
    simp only at s1 s2 s3
    by_cases hf : isFork ⟨k, a, b, c, z⟩ = true
    · have hk : k = 3 ∨ k = 4 := by simpa [isFork] using hf
      have hwa : IntKind.i64.wrap (a + m) = a + m := wrap64 (by omega) (by omega)
      have hwb : IntKind.i64.wrap (b + m) = b + m := wrap64 (by omega) (by omega)
      have hmv : movN ⟨k, a, b, c, z⟩ m = ⟨k, a + m, b + m, c, z⟩ := by simp [movN, hf]
      rw [hmv] at hstep
      rcases hk with rfl | rfl <;> simp only [D0, SP0, seval, -Int.reduceNatCast', @use_all u1 58 k69.ora rfl, e69, h', hg, hL, eNd, eSet, hs, hs2, hg2, s1, fz, fzd, List.length_set, decide_true, Int.natCast_nonneg, Int.toNat_natCast, hp, hwa, hwb]
      all_goals simp only [F1, SF0, SP0, seval, -Int.reduceNatCast']
      all_goals exact ⟨hjl, by rw [hstep], hjl⟩
    · have hk3 : (k == 3) = false := by simp [isFork] at hf; simp [hf]
      have hk4 : (k == 4) = false := by simp [isFork] at hf; simp [hf]
      by_cases hk : k = 5
      · have hwa : IntKind.i64.wrap (a + m) = a + m := wrap64 (by omega) (by omega)
        have hmv : movN ⟨k, a, b, c, z⟩ m = ⟨k, a + m, b, c, z⟩ := by
          unfold movN
          rw [if_neg hf, if_pos hk]
        rw [hmv] at hstep
        subst hk
        simp only [D0, SP0, seval, -Int.reduceNatCast', @use_all u1 58 k69.ora rfl, e69, h', hg, hL, eNd, eSet, hs, hs2, hg2, s1, fz, fzd, List.length_set, decide_true, Int.natCast_nonneg, Int.toNat_natCast, hp, hwa]
        all_goals simp only [F1, SF0, SP0, seval, -Int.reduceNatCast']
        all_goals exact ⟨hjl, by rw [hstep], hjl⟩
      · have hk5 : (k == 5) = false := by simpa using hk
        have hmv : movN ⟨k, a, b, c, z⟩ m = ⟨k, a, b, c, z⟩ := by simp [movN, hf, hk]
        rw [hmv] at hstep
        simp only [D0, SP0, seval, -Int.reduceNatCast', @use_all u1 58 k69.ora rfl, e69, h', hg, hL, eNd, eSet, hs, hs2, hg2, s1, fz, fzd, List.length_set, decide_true, Int.natCast_nonneg, Int.toNat_natCast, hp, hk3, hk4, hk5]
        all_goals simp only [F1, SF0, SP0, seval, -Int.reduceNatCast']
        all_goals exact ⟨hjl, by rw [hstep], hjl⟩
  · have h' : ¬ (j : Int) < (t.length : Int) := by omega
    have hj2 : j = t.length := by omega
    subst hj2
    simp only [D0, SP0, seval, -Int.reduceNatCast', h', decide_false]
    refine .inr ⟨by simp, ?_⟩
    simp only [List.take_length, List.drop_length, List.append_nil]
    exact h _ _ rfl
theorem mov_len (t : List Nd) (m : Int) : (mov t m).length = t.length := by simp [mov]
theorem run68 (t : List Nd) (m : Int) (ht : SmT t) (hm : -200000 ≤ m ∧ m ≤ 200000) : cwp u1 59 [] [(AV.list 5 (List.map eNd t)), .int .i64 m] [] (fun v H => ∃ id, v = .own id (List.map eNd (mov t m)).length ∧ H = [[(id, .row true true 78 5 (List.map eNd (mov t m)))]]) := by
  refine run_fn (fn := fn68) rfl rfl ?_
  refine body68 t m ht hm rfl fun e k he => ?_
  simp only [F1, SF0, SP0, seval, -Int.reduceNatCast', fn68_res, fn68_keep, he, mov_len]
  first | exact ⟨_, rfl, _, rfl, rfl⟩ | exact ⟨_, rfl, rfl⟩ | trace_state
theorem run100068 (t : List Nd) (m : Int) (ht : SmT t) (hm : -200000 ≤ m ∧ m ≤ 200000) : cwp u1 100059 [] [(AV.list 5 (List.map eNd t)), .int .i64 m] [] (fun v H => v = .list 5 (List.map eNd (mov t m)) ∧ H = []) := by
  refine run_fn (fn := { fn68 with keep := 0 }) rfl rfl ?_
  refine body68 t m ht hm rfl fun e k he => ?_
  simp only [F1, SF0, SP0, seval, -Int.reduceNatCast', fn68_res, fn68_keep, he, mov_len, fz, fzd]
theorem treeIntInj : ∀ x y : List Nd × Int, [(AV.list 5 (List.map eNd x.1)), .int .i64 x.2] = [(AV.list 5 (List.map eNd y.1)), .int .i64 y.2] → x = y := by
  rintro ⟨a, m⟩ ⟨b, n⟩ h
  simp only [List.cons.injEq, AV.int.injEq, and_true, true_and] at h
  have := eTree_inj (a := a) (b := b) h.1
  rw [this, h.2]
noncomputable def k68 : KonO (List Nd × Int) := ⟨fun x => SmT x.1 ∧ -200000 ≤ x.2 ∧ x.2 ≤ 200000, fun x => [(AV.list 5 (List.map eNd x.1)), .int .i64 x.2], 78, 5, fun x => (List.map eNd (mov x.1 x.2))⟩
theorem e68 (t : List Nd) (m : Int) (hd : SmT t ∧ -200000 ≤ m ∧ m ≤ 200000) (q0 : Id) (H0 : Heap) : k68.ora q0 ([(AV.list 5 (List.map eNd t)), .int .i64 m]) H0 = some (.own (q0 ++ [0]) ((List.map eNd (mov t m))).length, hadd H0 (q0 ++ [0]) (.row true true 78 5 ((List.map eNd (mov t m))))) := k68.eq (treeIntInj) (t, m) hd q0 H0
theorem ook68 : OraOK Tryz.prog (59 % 100000) k68.ora := k68.ok orders u1_ok (fun x hd => by simp [k68, PU]) (fun x hd => by dsimp only [k68]; simp only [PU]) (fun x hd => run68 x.1 x.2 hd.1 hd.2)

noncomputable def k100068 : Kon (List Nd × Int) := ⟨fun x => SmT x.1 ∧ -200000 ≤ x.2 ∧ x.2 ≤ 200000, fun x => [(AV.list 5 (List.map eNd x.1)), .int .i64 x.2], fun x => .list 5 (List.map eNd (mov x.1 x.2))⟩
theorem e100068 (t : List Nd) (m : Int) (hd : SmT t ∧ -200000 ≤ m ∧ m ≤ 200000) (q0 : Id) (H0 : Heap) : k100068.ora q0 ([(AV.list 5 (List.map eNd t)), .int .i64 m]) H0 = some (.list 5 (List.map eNd (mov t m)), H0) := k100068.eq (treeIntInj) (t, m) hd q0 H0
theorem ook100068 : OraOK Tryz.prog (100059 % 100000) k100068.ora := k100068.ok orders u1_ok (fun x hd => by simp [k100068, PU]) (fun x hd => by simp [k100068, PU]) (fun x hd => run100068 x.1 x.2 hd.1 hd.2)

end Go.Proofs.Abs

set_option maxRecDepth 100000
set_option maxHeartbeats 4000000
namespace Go.Proofs.Abs
open Go
noncomputable def v1 : FT := upd (upd (upd (upd (t7) 58 k69.ora) 91 k77.ora) 59 k68.ora) 100059 k100068.ora
theorem v1_ok : FTOK Tryz.prog v1 := upd_ok2 (f := 100059) (upd_ok2 (f := 59) (upd_ok2 (f := 91) (upd_ok2 (f := 58) (t7_ok) ook69) ook77) ook68) ook100068

structure SmS (t : List Nd) : Prop where
  wf : WfT t
  set : ∀ n ∈ t, n.set.length ≤ 600
theorem good_sm {t : List Nd} (hs : SmS t) (h : goodT t = true) : SmT t := by
  obtain ⟨h1, h2, l, hl, h3⟩ := goodT_iff.1 h
  refine ⟨h2, fun n hn => ?_⟩
  obtain ⟨i, hi, rfl⟩ := List.getElem_of_mem hn
  obtain ⟨h4, hc⟩ := begs_cut hl i hi
  have hset := hs.set _ hn
  cases hc with
  | fork hk c2 hb c1 ha hn hg =>
    have := (begs_cut hl (i - 1) (by omega)).1
    exact ⟨hset, by omega, by omega⟩
  | star hf hk c1 ha hb hn hg => exact ⟨hset, by omega, by omega⟩
  | leaf hf hk hn hg =>
    simp only [leafN, Bool.and_eq_true, decide_eq_true_eq] at hn
    exact ⟨hset, by omega, by omega⟩
def pairB (a b : List Nd) : Bool := goodT a && goodT b && decide (a.length + b.length + 1 ≤ 40000)
def pairT (k : Int) (a b : List Nd) : List Nd := if pairB a b then joinT k a b else []
def starB (a : List Nd) : Bool := goodT a && decide (a.length + 1 ≤ 40000)
def starTT (a : List Nd) : List Nd := if starB a then starT a else []
theorem joinT_len (k : Int) (a b : List Nd) : (joinT k a b).length = a.length + b.length + 1 := by simp [joinT, mov]; omega
theorem starT_len (a : List Nd) : (starT a).length = a.length + 1 := by simp [starT]
theorem joinT_rows (k : Int) (a b : List Nd) : List.map eNd (mov a 0) ++ List.map eNd (mov b a.length) ++ [[AV.int .i64 k, .int .i64 ((a.length : Int) - 1), .int .i64 ((a.length : Int) + b.length - 1), .list 2 [], .str ⟨#[]⟩]] = List.map eNd (joinT k a b) := by
  rw [mov_zero]
  simp only [joinT, List.map_append]
  rfl
theorem starT_rows (a : List Nd) : List.map eNd (mov a 0) ++ [[AV.int .i64 5, .int .i64 ((a.length : Int) - 1), .int .i64 0, .list 2 [], .str ⟨#[]⟩]] = List.map eNd (starT a) := by
  rw [mov_zero]
  simp only [starT, List.map_append]
  rfl
theorem run67 (k : Int) (a b : List Nd) (ha : SmS a) (hb : SmS b) (hla : a.length ≤ 1000000) (hlb : b.length ≤ 1000000) : cwp v1 192 [] [.int .i64 k, (AV.list 5 (List.map eNd a)), (AV.list 5 (List.map eNd b))] [] (fun r H => r = .tuple [.list 5 (List.map eNd (pairT k a b)), .bool (pairB a b)] ∧ H = []) := by
  refine run_fn (fn := fn67) rfl rfl ?_
  have hwa := ha.wf
  have hwb := hb.wf
  by_cases g1 : goodT a = true
  · by_cases g2 : goodT b = true
    · have w1 : IntKind.i64.wrap ((a.length : Int) + (b.length : Int)) = (a.length : Int) + (b.length : Int) := wrap64 (by omega) (by omega)
      have w2 : IntKind.i64.wrap ((a.length : Int) + (b.length : Int) + 1) = (a.length : Int) + (b.length : Int) + 1 := wrap64 (by omega) (by omega)
      by_cases g3 : a.length + b.length + 1 ≤ 40000
      · have g3' : ¬ (a.length : Int) + (b.length : Int) + 1 > 40000 := by omega
        have hp : pairB a b = true := by simp [pairB, g1, g2, g3]
        have hp2 : pairT k a b = joinT k a b := by simp [pairT, hp]
        have sa := good_sm ha g1
        have sb := good_sm hb g2
        have d1 : SmT a ∧ -200000 ≤ (0 : Int) ∧ (0 : Int) ≤ 200000 := ⟨sa, by omega, by omega⟩
        have d2 : SmT b ∧ -200000 ≤ (a.length : Int) ∧ (a.length : Int) ≤ 200000 := ⟨sb, by omega, by omega⟩
        have c1 : (a.length + b.length) * 64 ≤ 140737488355328 := by omega
        have c2 : (a.length + b.length + 1) * 64 ≤ 140737488355328 := by omega
        have hga : 1 ≤ a.length := (goodT_iff.1 g1).1
        have w3 : IntKind.i64.wrap ((a.length : Int) - 1) = (a.length : Int) - 1 := wrap64 (by omega) (by omega)
        have w4 : IntKind.i64.wrap (((a.length + b.length : Nat) : Int) - 1) = (a.length : Int) + (b.length : Int) - 1 := by rw [wrap64 (by omega) (by omega)]; omega
        simp only [fn67_body, c67, D0, SP0, seval, -Int.reduceNatCast', @use_all v1 55 k29.ora rfl, e29, @use_all v1 59 k68.ora rfl, e68, hwa, hwb, g1, g2, w1, w2, g3', d1, d2, c1, c2, w3, w4, decide_false, decide_true, mov_len, List.length_append]
        simp only [F1, SF0, SP0, seval, -Int.reduceNatCast', fn67_res, fn67_keep, fz, fzd, fzd.fzcells, List.length_append, mov_len, joinT_rows, joinT_len, hp, hp2]
      · have g3' : (a.length : Int) + (b.length : Int) + 1 > 40000 := by omega
        have hp : pairB a b = false := by simp [pairB, g1, g2, g3]
        have hp2 : pairT k a b = [] := by simp [pairT, hp]
        simp only [fn67_body, c67, D0, SP0, seval, -Int.reduceNatCast', @use_all v1 55 k29.ora rfl, e29, @use_all v1 59 k68.ora rfl, e68, hwa, hwb, g1, g2, w1, w2, g3', decide_true]
        simp only [F1, SF0, SP0, seval, -Int.reduceNatCast', fn67_res, fn67_keep, fz, fzd, fzd.fzcells, hp, hp2]
    · have g2' : goodT b = false := by simpa using g2
      have hp : pairB a b = false := by simp [pairB, g1, g2]
      have hp2 : pairT k a b = [] := by simp [pairT, hp]
      simp only [fn67_body, c67, D0, SP0, seval, -Int.reduceNatCast', @use_all v1 55 k29.ora rfl, e29, @use_all v1 59 k68.ora rfl, e68, hwa, hwb, g1, g2']
      simp only [F1, SF0, SP0, seval, -Int.reduceNatCast', fn67_res, fn67_keep, fz, fzd, fzd.fzcells, hp, hp2]
  · have g1' : goodT a = false := by simpa using g1
    have hp : pairB a b = false := by simp [pairB, g1]
    have hp2 : pairT k a b = [] := by simp [pairT, hp]
    simp only [fn67_body, c67, D0, SP0, seval, -Int.reduceNatCast', @use_all v1 55 k29.ora rfl, e29, @use_all v1 59 k68.ora rfl, e68, hwa, hwb, g1']
    simp only [F1, SF0, SP0, seval, -Int.reduceNatCast', fn67_res, fn67_keep, fz, fzd, fzd.fzcells, hp, hp2]
theorem tree2Inj : ∀ x y : List Nd × List Nd, [(AV.list 5 (List.map eNd x.1)), (AV.list 5 (List.map eNd x.2))] = [(AV.list 5 (List.map eNd y.1)), (AV.list 5 (List.map eNd y.2))] → x = y := by
  rintro ⟨a, m⟩ ⟨b, n⟩ h
  simp only [List.cons.injEq, and_true] at h
  rw [eTree_inj (a := a) (b := b) h.1, eTree_inj (a := m) (b := n) h.2]
noncomputable def k67 : Kon (Int × List Nd × List Nd) := ⟨fun x => (SmS x.2.1 ∧ SmS x.2.2) ∧ x.2.1.length ≤ 1000000 ∧ x.2.2.length ≤ 1000000, fun x => [.int .i64 x.1, (AV.list 5 (List.map eNd x.2.1)), (AV.list 5 (List.map eNd x.2.2))], fun x => .tuple [.list 5 (List.map eNd (pairT x.1 x.2.1 x.2.2)), .bool (pairB x.2.1 x.2.2)]⟩
theorem e67 (k : Int) (a : List Nd) (b : List Nd) (hd : (SmS a ∧ SmS b) ∧ a.length ≤ 1000000 ∧ b.length ≤ 1000000) (q0 : Id) (H0 : Heap) : k67.ora q0 ([.int .i64 k, (AV.list 5 (List.map eNd a)), (AV.list 5 (List.map eNd b))]) H0 = some (.tuple [.list 5 (List.map eNd (pairT k a b)), .bool (pairB a b)], H0) := k67.eq (by dsimp only [k67]; rintro ⟨k, a, b⟩ ⟨k', a', b'⟩ h; simp only [List.cons.injEq, AV.int.injEq, and_true, true_and] at h; rw [h.1, eTree_inj (a := a) (b := a') h.2.1, eTree_inj (a := b) (b := b') h.2.2]) (k, a, b) hd q0 H0
theorem ook67 : OraOK Tryz.prog (192 % 100000) k67.ora := k67.ok orders v1_ok (fun x hd => by simp [k67, PU]) (fun x hd => by simp [k67, PU]) (fun x hd => run67 x.1 x.2.1 x.2.2 hd.1.1 hd.1.2 hd.2.1 hd.2.2)

noncomputable def v2 : FT := upd (v1) 192 k67.ora
theorem v2_ok : FTOK Tryz.prog v2 := upd_ok2 (f := 192) (v1_ok) ook67

theorem run19 (a b : List Nd) (hd : (SmS a ∧ SmS b) ∧ a.length ≤ 1000000 ∧ b.length ≤ 1000000) : cwp v2 191 [] [(AV.list 5 (List.map eNd a)), (AV.list 5 (List.map eNd b))] [] (fun r H => r = .tuple [.list 5 (List.map eNd (pairT 3 a b)), .bool (pairB a b)] ∧ H = []) := by
  refine run_fn (fn := fn19) rfl rfl ?_
  simp only [fn19_body, c19, D0, SP0, seval, -Int.reduceNatCast', @use_all v2 192 k67.ora rfl, e67, hd]
  simp only [F1, SF0, SP0, seval, -Int.reduceNatCast', fn19_res, fn19_keep, fz, fzd, fzd.fzcells]
theorem run20 (a b : List Nd) (hd : (SmS a ∧ SmS b) ∧ a.length ≤ 1000000 ∧ b.length ≤ 1000000) : cwp v2 170 [] [(AV.list 5 (List.map eNd a)), (AV.list 5 (List.map eNd b))] [] (fun r H => r = .tuple [.list 5 (List.map eNd (pairT 4 a b)), .bool (pairB a b)] ∧ H = []) := by
  refine run_fn (fn := fn20) rfl rfl ?_
  simp only [fn20_body, c20, D0, SP0, seval, -Int.reduceNatCast', @use_all v2 192 k67.ora rfl, e67, hd]
  simp only [F1, SF0, SP0, seval, -Int.reduceNatCast', fn20_res, fn20_keep, fz, fzd, fzd.fzcells]
theorem run21 (a : List Nd) (ha : SmS a) (hla : a.length ≤ 1000000) : cwp v2 26 [] [(AV.list 5 (List.map eNd a))] [] (fun r H => r = .tuple [.list 5 (List.map eNd (starTT a)), .bool (starB a)] ∧ H = []) := by
  refine run_fn (fn := fn21) rfl rfl ?_
  have hwa := ha.wf
  by_cases g1 : goodT a = true
  · have w1 : IntKind.i64.wrap ((a.length : Int) + 1) = (a.length : Int) + 1 := wrap64 (by omega) (by omega)
    by_cases g3 : a.length + 1 ≤ 40000
    · have g3' : ¬ (a.length : Int) + 1 > 40000 := by omega
      have hp : starB a = true := by simp [starB, g1, g3]
      have hp2 : starTT a = starT a := by simp [starTT, hp]
      have sa := good_sm ha g1
      have d1 : SmT a ∧ -200000 ≤ (0 : Int) ∧ (0 : Int) ≤ 200000 := ⟨sa, by omega, by omega⟩
      have c1 : (a.length + 1) * 64 ≤ 140737488355328 := by omega
      have hga : 1 ≤ a.length := (goodT_iff.1 g1).1
      have w3 : IntKind.i64.wrap ((a.length : Int) - 1) = (a.length : Int) - 1 := wrap64 (by omega) (by omega)
      simp only [fn21_body, c21, D0, SP0, seval, -Int.reduceNatCast', @use_all v2 55 k29.ora rfl, e29, @use_all v2 59 k68.ora rfl, e68, hwa, g1, w1, g3', d1, c1, w3, decide_false, decide_true, mov_len]
      simp only [F1, SF0, SP0, seval, -Int.reduceNatCast', fn21_res, fn21_keep, fz, fzd, fzd.fzcells, List.length_append, mov_len, starT_rows, starT_len, hp, hp2]
    · have g3' : (a.length : Int) + 1 > 40000 := by omega
      have hp : starB a = false := by simp [starB, g1, g3]
      have hp2 : starTT a = [] := by simp [starTT, hp]
      simp only [fn21_body, c21, D0, SP0, seval, -Int.reduceNatCast', @use_all v2 55 k29.ora rfl, e29, @use_all v2 59 k68.ora rfl, e68, hwa, g1, w1, g3', decide_true]
      simp only [F1, SF0, SP0, seval, -Int.reduceNatCast', fn21_res, fn21_keep, fz, fzd, fzd.fzcells, hp, hp2]
  · have g1' : goodT a = false := by simpa using g1
    have hp : starB a = false := by simp [starB, g1]
    have hp2 : starTT a = [] := by simp [starTT, hp]
    simp only [fn21_body, c21, D0, SP0, seval, -Int.reduceNatCast', @use_all v2 55 k29.ora rfl, e29, @use_all v2 59 k68.ora rfl, e68, hwa, g1']
    simp only [F1, SF0, SP0, seval, -Int.reduceNatCast', fn21_res, fn21_keep, fz, fzd, fzd.fzcells, hp, hp2]
noncomputable def k19 : Kon (List Nd × List Nd) := ⟨fun x => (SmS x.1 ∧ SmS x.2) ∧ x.1.length ≤ 1000000 ∧ x.2.length ≤ 1000000, fun x => [(AV.list 5 (List.map eNd x.1)), (AV.list 5 (List.map eNd x.2))], fun x => .tuple [.list 5 (List.map eNd (pairT 3 x.1 x.2)), .bool (pairB x.1 x.2)]⟩
theorem e19 (a : List Nd) (b : List Nd) (hd : (SmS a ∧ SmS b) ∧ a.length ≤ 1000000 ∧ b.length ≤ 1000000) (q0 : Id) (H0 : Heap) : k19.ora q0 ([(AV.list 5 (List.map eNd a)), (AV.list 5 (List.map eNd b))]) H0 = some (.tuple [.list 5 (List.map eNd (pairT 3 a b)), .bool (pairB a b)], H0) := k19.eq (tree2Inj) (a, b) hd q0 H0
theorem ook19 : OraOK Tryz.prog (191 % 100000) k19.ora := k19.ok orders v2_ok (fun x hd => by simp [k19, PU]) (fun x hd => by simp [k19, PU]) (fun x hd => run19 x.1 x.2 hd)

noncomputable def k20 : Kon (List Nd × List Nd) := ⟨fun x => (SmS x.1 ∧ SmS x.2) ∧ x.1.length ≤ 1000000 ∧ x.2.length ≤ 1000000, fun x => [(AV.list 5 (List.map eNd x.1)), (AV.list 5 (List.map eNd x.2))], fun x => .tuple [.list 5 (List.map eNd (pairT 4 x.1 x.2)), .bool (pairB x.1 x.2)]⟩
theorem e20 (a : List Nd) (b : List Nd) (hd : (SmS a ∧ SmS b) ∧ a.length ≤ 1000000 ∧ b.length ≤ 1000000) (q0 : Id) (H0 : Heap) : k20.ora q0 ([(AV.list 5 (List.map eNd a)), (AV.list 5 (List.map eNd b))]) H0 = some (.tuple [.list 5 (List.map eNd (pairT 4 a b)), .bool (pairB a b)], H0) := k20.eq (tree2Inj) (a, b) hd q0 H0
theorem ook20 : OraOK Tryz.prog (170 % 100000) k20.ora := k20.ok orders v2_ok (fun x hd => by simp [k20, PU]) (fun x hd => by simp [k20, PU]) (fun x hd => run20 x.1 x.2 hd)

noncomputable def k21 : Kon (List Nd) := ⟨fun x => SmS x ∧ x.length ≤ 1000000, fun x => [(AV.list 5 (List.map eNd x))], fun x => .tuple [.list 5 (List.map eNd (starTT x)), .bool (starB x)]⟩
theorem e21 (a : List Nd) (hd : SmS a ∧ a.length ≤ 1000000) (q0 : Id) (H0 : Heap) : k21.ora q0 ([(AV.list 5 (List.map eNd a))]) H0 = some (.tuple [.list 5 (List.map eNd (starTT a)), .bool (starB a)], H0) := k21.eq (treeInj) (a) hd q0 H0
theorem ook21 : OraOK Tryz.prog (26 % 100000) k21.ora := k21.ok orders v2_ok (fun x hd => by simp [k21, PU]) (fun x hd => by simp [k21, PU]) (fun x hd => run21 x hd.1 hd.2)

noncomputable def v3 : FT := upd (upd (upd (v2) 191 k19.ora) 170 k20.ora) 26 k21.ora
theorem v3_ok : FTOK Tryz.prog v3 := upd_ok2 (f := 26) (upd_ok2 (f := 170) (upd_ok2 (f := 191) (v2_ok) ook19) ook20) ook21

end Go.Proofs.Abs

set_option maxRecDepth 100000
set_option maxHeartbeats 4000000
namespace Go.Proofs.Abs
open Go
def lastN (t : List Nd) : Nd := t.getD (t.length - 1) default
def partOK (t : List Nd) : Bool := goodT t && (isFork (lastN t) || decide ((lastN t).kind = 5))
def partA (t : List Nd) : List Nd := if partOK t then mov (t.take ((lastN t).a.toNat + 1)) 0 else []
def partB (t : List Nd) : List Nd := if goodT t && isFork (lastN t) then mov ((t.take ((lastN t).b.toNat + 1)).drop ((lastN t).a.toNat + 1)) (-(((lastN t).a.toNat + 1 : Nat) : Int)) else []
theorem sm_sub {t s : List Nd} (ht : SmT t) (hs : ∀ n ∈ s, n ∈ t) (hl : s.length ≤ t.length) : SmT s := ⟨by have := ht.len; omega, fun n hn => ht.all n (hs n hn)⟩
theorem good_last {t : List Nd} (h : goodT t = true) : ∃ l, begs t = some l ∧ 1 ≤ t.length ∧ t.length ≤ 40000 ∧ l.getD (t.length - 1) 0 = 0 ∧ Cut l (t.length - 1) (lastN t) := by
  obtain ⟨h1, h2, l, hl, h3⟩ := goodT_iff.1 h
  refine ⟨l, hl, h1, h2, h3, ?_⟩
  have := (begs_cut hl (t.length - 1) (by omega)).2
  unfold lastN
  rw [List.getD_eq_getElem?_getD, List.getElem?_eq_getElem (by omega)]
  exact this
theorem ext_getD {α : Type} {a b : List α} (z : α) (hl : a.length = b.length) (h : ∀ i, i < a.length → a.getD i z = b.getD i z) : a = b := by
  refine List.ext_getElem hl fun i h1 h2 => ?_
  have := h i h1
  rw [List.getD_eq_getElem?_getD, List.getD_eq_getElem?_getD, List.getElem?_eq_getElem h1, List.getElem?_eq_getElem h2] at this
  exact this
theorem run62 (a b : List (Int × Int)) (ha : a.length ≤ 9223372036854775807) : cwp v3 103 [] [(AV.list 2 (List.map (fun x => [AV.int .i64 x.1, AV.int .i64 x.2]) (a))), (AV.list 2 (List.map (fun x => [AV.int .i64 x.1, AV.int .i64 x.2]) (b)))] [] (fun r H => r = .bool (decide (a = b)) ∧ H = []) := by
  refine run_fn (fn := fn62) rfl rfl ?_
  by_cases hl : a.length = b.length
  · have hl' : ((a.length : Int) != (b.length : Int)) = false := by simp [hl]
    simp only [fn62_body, c62, D0, SP0, seval, -Int.reduceNatCast', hl']
    refine lg_rule (fun j e H => e = [(0, (AV.list 2 (List.map (fun x => [AV.int .i64 x.1, AV.int .i64 x.2]) (a)))), (1, (AV.list 2 (List.map (fun x => [AV.int .i64 x.1, AV.int .i64 x.2]) (b)))), (4, .bool false), (12, (AV.list 2 (List.map (fun x => [AV.int .i64 x.1, AV.int .i64 x.2]) (a)))), (13, .int .i64 a.length), (14, .int .i64 j)] ∧ H = [[]] ∧ j ≤ a.length ∧ ∀ i, i < j → a.getD i (0, 0) = b.getD i (0, 0)) a.length ?_ ?_
    · exact ⟨rfl, rfl, by simp, by simp⟩
    rintro j e H ⟨rfl, rfl, hj, hi⟩
    simp only [D0, SP0, seval, -Int.reduceNatCast']
    by_cases h : j < a.length
    · have h' : (j : Int) < (a.length : Int) := by omega
      have hp := wrapp (j := j) (by omega)
      have hga := map_get (f := fun x : Int × Int => [AV.int .i64 x.1, AV.int .i64 x.2]) h (0, 0)
      have hgb := map_get (f := fun x : Int × Int => [AV.int .i64 x.1, AV.int .i64 x.2]) (l := b) (j := j) (by omega) (0, 0)
      have ne : a.getD j (0, 0) ≠ b.getD j (0, 0) → decide (a = b) = false := fun h1 => by
        rw [decide_eq_false_iff_not]
        intro e
        exact h1 (by rw [e])
      have step : a.getD j (0, 0) = b.getD j (0, 0) → ∀ i, i < j + 1 → a.getD i (0, 0) = b.getD i (0, 0) := fun h1 i h2 => by
        by_cases e : i = j
        · rw [e]; exact h1
        · exact hi i (by omega)
      generalize a.getD j (0, 0) = x at hga ne step
      generalize b.getD j (0, 0) = y at hgb ne step
      obtain ⟨x1, x2⟩ := x
      obtain ⟨y1, y2⟩ := y
      by_cases h1 : x1 = y1
      · by_cases h2 : x2 = y2
        · have st := step (by rw [h1, h2])
          clear ne step hi
          simp only [D0, SP0, seval, -Int.reduceNatCast', h', hga, hgb, abins, acells, h1, h2, hp, decide_true, Int.natCast_nonneg, Int.toNat_natCast]
          simp only [F1, SF0, SP0, seval, -Int.reduceNatCast']
          exact ⟨h, h, st⟩
        · have ne' := ne (by simp [h2])
          have h2' : (x2 == y2) = false := by simpa using h2
          clear ne step hi
          simp only [D0, SP0, seval, -Int.reduceNatCast', h', hga, hgb, abins, acells, h1, h2', decide_true, Int.natCast_nonneg, Int.toNat_natCast]
          simp only [F1, SF0, SP0, seval, -Int.reduceNatCast', fn62_res, fn62_keep, ne']
      · have ne' := ne (by simp [h1])
        have h1' : (x1 == y1) = false := by simpa using h1
        clear ne step hi
        simp only [D0, SP0, seval, -Int.reduceNatCast', h', hga, hgb, abins, acells, h1', decide_true, Int.natCast_nonneg, Int.toNat_natCast]
        simp only [F1, SF0, SP0, seval, -Int.reduceNatCast', fn62_res, fn62_keep, ne']
    · have h' : ¬ (j : Int) < (a.length : Int) := by omega
      have he : decide (a = b) = true := decide_eq_true (ext_getD (0, 0) hl fun i h1 => hi i (by omega))
      simp only [D0, SP0, seval, -Int.reduceNatCast', h', decide_false]
      refine .inr ⟨by simp, ?_⟩
      simp only [F1, SF0, SP0, seval, -Int.reduceNatCast', fn62_res, fn62_keep, he]
  · have hl' : ((a.length : Int) != (b.length : Int)) = true := by
      simp only [bne_iff_ne, ne_eq]
      omega
    have he : decide (a = b) = false := by
      rw [decide_eq_false_iff_not]
      intro e
      exact hl (by rw [e])
    simp only [fn62_body, c62, D0, SP0, seval, -Int.reduceNatCast', hl']
    simp only [F1, SF0, SP0, seval, -Int.reduceNatCast', fn62_res, fn62_keep, he]
theorem set2Inj : ∀ x y : List (Int × Int) × List (Int × Int), [(AV.list 2 (List.map (fun x => [AV.int .i64 x.1, AV.int .i64 x.2]) (x.1))), (AV.list 2 (List.map (fun x => [AV.int .i64 x.1, AV.int .i64 x.2]) (x.2)))] = [(AV.list 2 (List.map (fun x => [AV.int .i64 x.1, AV.int .i64 x.2]) (y.1))), (AV.list 2 (List.map (fun x => [AV.int .i64 x.1, AV.int .i64 x.2]) (y.2)))] → x = y := by
  rintro ⟨a, m⟩ ⟨b, n⟩ h
  simp only [List.cons.injEq, and_true] at h
  rw [eSet_inj (a := a) (b := b) h.1, eSet_inj (a := m) (b := n) h.2]
noncomputable def k62 : Kon ((List (Int × Int)) × (List (Int × Int))) := ⟨fun x => x.1.length ≤ 9223372036854775807, fun x => [(AV.list 2 (List.map (fun x => [AV.int .i64 x.1, AV.int .i64 x.2]) (x.1))), (AV.list 2 (List.map (fun x => [AV.int .i64 x.1, AV.int .i64 x.2]) (x.2)))], fun x => .bool (decide (x.1 = x.2))⟩
theorem e62 (a : List (Int × Int)) (b : List (Int × Int)) (hd : a.length ≤ 9223372036854775807) (q0 : Id) (H0 : Heap) : k62.ora q0 ([(AV.list 2 (List.map (fun x => [AV.int .i64 x.1, AV.int .i64 x.2]) (a))), (AV.list 2 (List.map (fun x => [AV.int .i64 x.1, AV.int .i64 x.2]) (b)))]) H0 = some (.bool (decide (a = b)), H0) := k62.eq (set2Inj) (a, b) hd q0 H0
theorem ook62 : OraOK Tryz.prog (103 % 100000) k62.ora := k62.ok orders v3_ok (fun x hd => by simp [k62, PU]) (fun x hd => by simp [k62, PU]) (fun x hd => run62 x.1 x.2 hd)

noncomputable def v4 : FT := upd (v3) 103 k62.ora
theorem v4_ok : FTOK Tryz.prog v4 := upd_ok2 (f := 103) (v3_ok) ook62

def sameN (n m : Nd) : Bool := decide (n.kind = m.kind) && decide (n.a = m.a) && decide (n.b = m.b) && decide (n.name = m.name) && decide (n.set = m.set)
theorem sameN_iff {n m : Nd} : sameN n m = true ↔ n = m := by
  cases n; cases m
  simp only [sameN, Bool.and_eq_true, decide_eq_true_eq, Nd.mk.injEq, and_assoc]
  constructor
  · rintro ⟨h1, h2, h3, h4, h5⟩; exact ⟨h1, h2, h3, h5, h4⟩
  · rintro ⟨h1, h2, h3, h5, h4⟩; exact ⟨h1, h2, h3, h4, h5⟩
def sameT (a b : List Nd) : Bool := decide (a.length = b.length) && (List.range a.length).all fun i => sameN (a.getD i default) (b.getD i default)
theorem sameT_iff {a b : List Nd} : sameT a b = true ↔ a = b := by
  simp only [sameT, Bool.and_eq_true, decide_eq_true_eq, List.all_eq_true, List.mem_range, sameN_iff]
  constructor
  · rintro ⟨h1, h2⟩; exact ext_getD default h1 h2
  · rintro rfl; exact ⟨rfl, fun _ _ => rfl⟩
theorem sameT_self (a : List Nd) : sameT a a = true := sameT_iff.2 rfl
theorem nd2Inj : ∀ x y : N5 × N5, [AV.agg [AV.int .i64 x.1.1, AV.int .i64 x.1.2.1, AV.int .i64 x.1.2.2.1, (AV.list 2 (List.map (fun x => [AV.int .i64 x.1, AV.int .i64 x.2]) x.1.2.2.2.1)), AV.str x.1.2.2.2.2], AV.agg [AV.int .i64 x.2.1, AV.int .i64 x.2.2.1, AV.int .i64 x.2.2.2.1, (AV.list 2 (List.map (fun x => [AV.int .i64 x.1, AV.int .i64 x.2]) x.2.2.2.2.1)), AV.str x.2.2.2.2.2]] = [AV.agg [AV.int .i64 y.1.1, AV.int .i64 y.1.2.1, AV.int .i64 y.1.2.2.1, (AV.list 2 (List.map (fun x => [AV.int .i64 x.1, AV.int .i64 x.2]) y.1.2.2.2.1)), AV.str y.1.2.2.2.2], AV.agg [AV.int .i64 y.2.1, AV.int .i64 y.2.2.1, AV.int .i64 y.2.2.2.1, (AV.list 2 (List.map (fun x => [AV.int .i64 x.1, AV.int .i64 x.2]) y.2.2.2.2.1)), AV.str y.2.2.2.2.2]] → x = y := by
  rintro ⟨x1, x2⟩ ⟨y1, y2⟩ h
  simp only [List.cons.injEq, and_true] at h
  rw [ndInj5 x1 y1 (by simp only [List.cons.injEq, and_true]; exact h.1), ndInj5 x2 y2 (by simp only [List.cons.injEq, and_true]; exact h.2)]
end Go.Proofs.Abs

set_option maxRecDepth 100000
set_option maxHeartbeats 4000000
namespace Go.Proofs.Abs
open Go
noncomputable def v5 : FT := v4
theorem v5_ok : FTOK Tryz.prog v5 := v4_ok

theorem tree2FInj : ∀ x y : List Nd × List Nd, [(AV.list 5 (List.map eNd x.1)), (AV.list 5 (List.map eNd x.2)), AV.func 99075 []] = [(AV.list 5 (List.map eNd y.1)), (AV.list 5 (List.map eNd y.2)), AV.func 99075 []] → x = y := by
  rintro ⟨a, m⟩ ⟨b, n⟩ h
  simp only [List.cons.injEq, and_true] at h
  rw [eTree_inj (a := a) (b := b) h.1, eTree_inj (a := m) (b := n) h.2]
noncomputable def v6 : FT := v5
theorem v6_ok : FTOK Tryz.prog v6 := v5_ok

noncomputable def v7 : FT := v6
theorem v7_ok : FTOK Tryz.prog v7 := v6_ok

end Go.Proofs.Abs

set_option maxRecDepth 100000
namespace Go.Proofs.Abs
open Go
theorem wf_of {t : List Nd} (hl : t.length ≤ 9223372036854775807) (h : ∀ n ∈ t, WfN n ∧ n.set.length ≤ 600) : SmS t := ⟨⟨hl, fun n hn => (h n hn).1⟩, fun n hn => (h n hn).2⟩
theorem wf_mov {n : Nd} {m : Int} (hw : WfN n) (hs : SmN n) (hm : -200000 ≤ m ∧ m ≤ 200000) : WfN (movN n m) ∧ (movN n m).set.length ≤ 600 := by
  refine ⟨?_, by rw [movN_set]; exact hs.set⟩
  have h1 := hs.a
  have h2 := hs.b
  obtain ⟨k, a, b, c, z⟩ := n
  unfold movN
  split
  · exact ⟨hw.kind, by unfold I64; simp only at *; omega, by unfold I64; simp only at *; omega, hw.set, hw.name⟩
  · split
    · exact ⟨hw.kind, by unfold I64; simp only at *; omega, hw.b, hw.set, hw.name⟩
    · exact hw
theorem sm_mov {t : List Nd} {m : Int} (h : SmS t) (hs : SmT t) (hm : -200000 ≤ m ∧ m ≤ 200000) : SmS (mov t m) := by
  refine wf_of (by rw [mov_len]; exact h.wf.len) fun n hn => ?_
  obtain ⟨x, hx, rfl⟩ := List.mem_map.1 hn
  exact wf_mov (h.wf.all x hx) (hs.all x hx) hm
theorem sm_subS {t s : List Nd} (ht : SmS t) (hs : ∀ n ∈ s, n ∈ t) (hl : s.length ≤ t.length) : SmS s := wf_of (by have := ht.wf.len; omega) fun n hn => ⟨ht.wf.all n (hs n hn), ht.set n (hs n hn)⟩
theorem sm_join {k : Int} (hk : k = 3 ∨ k = 4) {a b : List Nd} (ha : SmS a) (hb : SmS b) (ga : goodT a = true) (gb : goodT b = true) : SmS (joinT k a b) := by
  have sa := good_sm ha ga
  have sb := good_sm hb gb
  have la := sa.len
  have lb := sb.len
  refine wf_of (by rw [joinT_len]; omega) fun n hn => ?_
  simp only [joinT, List.mem_append, List.mem_singleton] at hn
  rcases hn with (hn | hn) | rfl
  · exact ⟨ha.wf.all n hn, ha.set n hn⟩
  · have := sm_mov hb sb (m := a.length) (by omega)
    exact ⟨this.wf.all n hn, this.set n hn⟩
  · exact ⟨⟨by unfold I64; simp only; omega, by unfold I64; simp only; omega, by unfold I64; simp only; omega, ⟨by simp, by simp⟩, by show (0 : Nat) ≤ 9223372036854775807; omega⟩, by simp⟩
theorem sm_star {a : List Nd} (ha : SmS a) (ga : goodT a = true) : SmS (starT a) := by
  have sa := good_sm ha ga
  have la := sa.len
  refine wf_of (by rw [starT_len]; omega) fun n hn => ?_
  simp only [starT, List.mem_append, List.mem_singleton] at hn
  rcases hn with hn | rfl
  · exact ⟨ha.wf.all n hn, ha.set n hn⟩
  · exact ⟨⟨by unfold I64; simp only; omega, by unfold I64; simp only; omega, by unfold I64; simp only; omega, ⟨by simp, by simp⟩, by show (0 : Nat) ≤ 9223372036854775807; omega⟩, by simp⟩
theorem last_join (k : Int) (a b : List Nd) : lastN (joinT k a b) = ⟨k, (a.length : Int) - 1, (a.length : Int) + b.length - 1, [], ⟨#[]⟩⟩ := by
  unfold lastN
  rw [joinT_len, Nat.add_sub_cancel, List.getD_eq_getElem?_getD]
  unfold joinT
  rw [List.getElem?_append_right (by simp [mov])]
  simp [mov]
theorem last_star (a : List Nd) : lastN (starT a) = ⟨5, (a.length : Int) - 1, 0, [], ⟨#[]⟩⟩ := by
  unfold lastN
  rw [starT_len, Nat.add_sub_cancel, List.getD_eq_getElem?_getD]
  unfold starT
  rw [List.getElem?_append_right (by omega)]
  simp
theorem mov_back (t : List Nd) (m : Int) : mov (mov t m) (-m) = t := by
  unfold mov
  rw [List.map_map]
  conv => rhs; rw [← List.map_id t]
  exact List.map_congr_left fun n _ => movN_back n m
theorem mov_forth (t : List Nd) (m : Int) : mov (mov t (-m)) m = t := by
  have := mov_back t (-m)
  rwa [Int.neg_neg] at this
theorem parts_join {k : Int} (hk : k = 3 ∨ k = 4) {a b : List Nd} (ga : goodT a = true) (gb : goodT b = true) (hl : a.length + b.length + 1 ≤ 40000) :
    partOK (joinT k a b) = true ∧ partA (joinT k a b) = a ∧ partB (joinT k a b) = b := by
  have g := good_join hk ga gb hl
  have h1 : 1 ≤ a.length := (goodT_iff.1 ga).1
  have h2 : 1 ≤ b.length := (goodT_iff.1 gb).1
  have hf : isFork (lastN (joinT k a b)) = true := by
    rw [last_join]
    rcases hk with rfl | rfl <;> rfl
  have hO : partOK (joinT k a b) = true := by simp [partOK, g, hf]
  have e1 : (lastN (joinT k a b)).a.toNat + 1 = a.length := by rw [last_join]; simp only; omega
  have e2 : (lastN (joinT k a b)).b.toNat + 1 = a.length + b.length := by rw [last_join]; simp only; omega
  have e3 : (joinT k a b).take (a.length + b.length) = a ++ mov b a.length := by
    unfold joinT
    rw [List.take_append_of_le_length (by simp [mov]), List.take_of_length_le (by simp [mov])]
  refine ⟨hO, ?_, ?_⟩
  · unfold partA
    rw [if_pos hO, e1, mov_zero]
    unfold joinT
    rw [List.append_assoc, List.take_append_of_le_length (by omega), List.take_of_length_le (by omega)]
  · unfold partB
    rw [g, hf, Bool.and_self, if_pos rfl, e1, e2, e3, List.drop_append_of_le_length (by omega), List.drop_eq_nil_of_le (by omega), List.nil_append, mov_back]
theorem parts_star {a : List Nd} (ga : goodT a = true) (hl : a.length + 1 ≤ 40000) : partOK (starT a) = true ∧ partA (starT a) = a ∧ partB (starT a) = [] := by
  have g := good_star ga hl
  have h1 : 1 ≤ a.length := (goodT_iff.1 ga).1
  have hf : isFork (lastN (starT a)) = false := by rw [last_star]; rfl
  have hO : partOK (starT a) = true := by simp [partOK, g, last_star]
  have e1 : (lastN (starT a)).a.toNat + 1 = a.length := by rw [last_star]; simp only; omega
  refine ⟨hO, ?_, ?_⟩
  · unfold partA
    rw [if_pos hO, e1, mov_zero]
    unfold starT
    rw [List.take_append_of_le_length (by omega), List.take_of_length_le (by omega)]
  · unfold partB
    rw [hf, Bool.and_false]
    rfl
theorem split_last {t : List Nd} (h : 1 ≤ t.length) : t = t.take (t.length - 1) ++ [lastN t] := by
  have e : lastN t = t[t.length - 1] := by
    unfold lastN
    rw [List.getD_eq_getElem?_getD, List.getElem?_eq_getElem (by omega)]
    rfl
  rw [e]
  have := List.take_append_drop (t.length - 1) t
  rw [List.drop_eq_getElem_cons (by omega), List.drop_eq_nil_of_le (by omega)] at this
  exact this.symm
theorem bare_eq {n : Nd} (h : bareN n = true) : n = ⟨n.kind, n.a, n.b, [], ⟨#[]⟩⟩ := by
  cases n
  simp only [bareN, Bool.and_eq_true, decide_eq_true_eq] at h
  obtain ⟨h1, h2⟩ := h
  rw [List.length_eq_zero_iff.1 h1, (bytes_empty _).2 h2]
theorem fork_back {t : List Nd} (g : goodT t = true) (hf : isFork (lastN t) = true) : goodT (partA t) = true ∧ goodT (partB t) = true ∧ (partA t).length + (partB t).length + 1 = t.length ∧ joinT (lastN t).kind (partA t) (partB t) = t := by
  obtain ⟨l, hl, h1, h2, h3, hc⟩ := good_last g
  have hO : partOK t = true := by simp [partOK, g, hf]
  cases hc with
  | star hf' => rw [hf] at hf'; cases hf'
  | leaf hf' => rw [hf] at hf'; cases hf'
  | fork hk c2 hb c1 ha hn hg =>
    have hle := (begs_cut hl (t.length - 1 - 1) (by omega)).1
    have ea : (lastN t).a.toNat = l.getD (t.length - 1 - 1) 0 - 1 := by omega
    have eb : (lastN t).b.toNat = t.length - 1 - 1 := by omega
    rw [ea] at hg
    generalize hx : l.getD (t.length - 1 - 1) 0 = x at *
    have hA : partA t = t.take x := by
      unfold partA
      rw [if_pos hO, ea, mov_zero, Nat.sub_add_cancel c1]
    have hB : partB t = mov ((t.take (t.length - 1)).drop x) (-(x : Int)) := by
      unfold partB
      rw [g, hf, Bool.and_self, if_pos rfl, ea, eb, Nat.sub_add_cancel c1, Nat.sub_add_cancel (by omega)]
    have gA := good_part hl h2 (m := x - 1) (by omega)
    have hz : l.getD (x - 1) 0 = 0 := by omega
    rw [hz, Nat.sub_add_cancel c1, List.drop_zero] at gA
    have gB := good_part hl h2 (m := t.length - 1 - 1) (by omega)
    rw [hx, Nat.sub_add_cancel (by omega)] at gB
    have lA : (partA t).length = x := by rw [hA]; simp; omega
    have lB : (partB t).length = t.length - 1 - x := by rw [hB, mov_len]; simp
    refine ⟨by rw [hA]; simpa [mov_zero] using gA, by rw [hB]; exact gB, by omega, ?_⟩
    unfold joinT
    rw [lA, lB, hA, hB, mov_forth]
    have e2 : t.take x ++ (t.take (t.length - 1)).drop x = t.take (t.length - 1) := by
      have := List.take_append_drop x (t.take (t.length - 1))
      rwa [List.take_take, Nat.min_eq_left (by omega)] at this
    rw [e2]
    conv => rhs; rw [split_last h1, bare_eq hn]
    have e3 : (lastN t).a = (x : Int) - 1 := by omega
    have e4 : (lastN t).b = (x : Int) + ((t.length - 1 - x : Nat) : Int) - 1 := by omega
    rw [e3, e4]
theorem star_back {t : List Nd} (g : goodT t = true) (hf : isFork (lastN t) = false) (hk : (lastN t).kind = 5) : goodT (partA t) = true ∧ (partA t).length + 1 = t.length ∧ starT (partA t) = t := by
  obtain ⟨l, hl, h1, h2, h3, hc⟩ := good_last g
  have hO : partOK t = true := by simp [partOK, g, hk]
  cases hc with
  | fork hf' => rw [hf] at hf'; cases hf'
  | leaf _ hk' => exact absurd hk hk'
  | star _ _ c1 ha hb hn hg =>
    have ea : (lastN t).a.toNat = t.length - 1 - 1 := by omega
    rw [ea] at hg
    have hA : partA t = t.take (t.length - 1) := by
      unfold partA
      rw [if_pos hO, ea, mov_zero, Nat.sub_add_cancel (by omega)]
    have gA := good_part hl h2 (m := t.length - 1 - 1) (by omega)
    have hz : l.getD (t.length - 1 - 1) 0 = 0 := by omega
    rw [hz, Nat.sub_add_cancel (by omega), List.drop_zero] at gA
    have lA : (partA t).length = t.length - 1 := by rw [hA]; simp
    refine ⟨by rw [hA]; simpa [mov_zero] using gA, by omega, ?_⟩
    unfold starT
    rw [lA, hA]
    conv => rhs; rw [split_last h1, bare_eq hn]
    have e3 : (lastN t).a = ((t.length - 1 : Nat) : Int) - 1 := by omega
    rw [e3, hb, hk]
theorem leaf_one {t : List Nd} (g : goodT t = true) (h : partOK t = false) : t.length = 1 := by
  obtain ⟨l, hl, h1, h2, h3, hc⟩ := good_last g
  simp only [partOK, g, Bool.true_and, Bool.or_eq_false_iff, decide_eq_false_iff_not] at h
  cases hc with
  | fork hf' => rw [h.1] at hf'; cases hf'
  | star _ hk => exact absurd hk h.2
  | leaf _ _ _ hg => omega
theorem runL_mono : ∀ (t : List Nd) (n : Nat), n ≤ runL n t
  | [], n => Nat.le_refl _
  | x :: r, n => by
    unfold runL
    split
    · exact Nat.le_trans (Nat.le_add_right _ _) (runL_mono r _)
    · exact Nat.le_refl _
theorem runL_set : ∀ (t : List Nd) (n : Nat) (x : Nd), x ∈ t → 600 < x.set.length → 601 ≤ runL n t
  | y :: r, n, x, hx, h => by
    unfold runL
    split
    · rcases List.mem_cons.1 hx with rfl | hx
      · refine Nat.le_trans ?_ (runL_mono r _)
        unfold wNd
        omega
      · exact runL_set r _ x hx h
    · omega
theorem large_set {t : List Nd} (hw : WfT t) (h : large t = false) : SmS t := by
  refine ⟨hw, fun n hn => ?_⟩
  simp only [large, decide_eq_false_iff_not] at h
  by_cases h2 : n.set.length ≤ 600
  · exact h2
  · have := runL_set t 0 n hn (by omega)
    omega
end Go.Proofs.Abs

set_option maxRecDepth 100000
set_option maxHeartbeats 4000000
namespace Go.Proofs.Abs
open Go
theorem run63 (a b : List (Int × Int)) (ha : a.length ≤ 9223372036854775807) : cwp v7 70 [] [(AV.list 2 (List.map (fun x => [AV.int .i64 x.1, AV.int .i64 x.2]) (a))), (AV.list 2 (List.map (fun x => [AV.int .i64 x.1, AV.int .i64 x.2]) (b)))] [] (fun r H => r = .bool (decide (a = b)) ∧ H = []) := by
  refine run_fn (fn := fn63) rfl rfl ?_
  by_cases hl : a.length = b.length
  · have hl' : ((a.length : Int) != (b.length : Int)) = false := by simp [hl]
    simp only [fn63_body, c63, D0, SP0, seval, -Int.reduceNatCast', hl']
    refine lg_rule (fun j e H => e = [(0, (AV.list 2 (List.map (fun x => [AV.int .i64 x.1, AV.int .i64 x.2]) (a)))), (1, (AV.list 2 (List.map (fun x => [AV.int .i64 x.1, AV.int .i64 x.2]) (b)))), (4, .bool false), (5, .int .i64 j)] ∧ H = [[]] ∧ j ≤ a.length ∧ ∀ i, i < j → a.getD i (0, 0) = b.getD i (0, 0)) a.length ?_ ?_
    · exact ⟨rfl, rfl, by simp, by simp⟩
    rintro j e H ⟨rfl, rfl, hj, hi⟩
    simp only [D0, SP0, seval, -Int.reduceNatCast']
    by_cases h : j < a.length
    · have h' : (j : Int) < (a.length : Int) := by omega
      have hp := wrapp (j := j) (by omega)
      have hga := map_get (f := fun x : Int × Int => [AV.int .i64 x.1, AV.int .i64 x.2]) h (0, 0)
      have hgb := map_get (f := fun x : Int × Int => [AV.int .i64 x.1, AV.int .i64 x.2]) (l := b) (j := j) (by omega) (0, 0)
      have ne : a.getD j (0, 0) ≠ b.getD j (0, 0) → decide (a = b) = false := fun h1 => by
        rw [decide_eq_false_iff_not]
        intro e
        exact h1 (by rw [e])
      have step : a.getD j (0, 0) = b.getD j (0, 0) → ∀ i, i < j + 1 → a.getD i (0, 0) = b.getD i (0, 0) := fun h1 i h2 => by
        by_cases e : i = j
        · rw [e]; exact h1
        · exact hi i (by omega)
      generalize a.getD j (0, 0) = x at hga ne step
      generalize b.getD j (0, 0) = y at hgb ne step
      obtain ⟨x1, x2⟩ := x
      obtain ⟨y1, y2⟩ := y
      by_cases h1 : x1 = y1
      · by_cases h2 : x2 = y2
        · have st := step (by rw [h1, h2])
          clear ne step hi
          simp only [D0, SP0, seval, -Int.reduceNatCast', h', hga, hgb, abins, acells, h1, h2, hp, decide_true, Int.natCast_nonneg, Int.toNat_natCast]
          simp only [F1, SF0, SP0, seval, -Int.reduceNatCast']
          exact ⟨h, h, st⟩
        · have ne' := ne (by simp [h2])
          have h2' : (x2 == y2) = false := by simpa using h2
          clear ne step hi
          simp only [D0, SP0, seval, -Int.reduceNatCast', h', hga, hgb, abins, acells, h1, h2', decide_true, Int.natCast_nonneg, Int.toNat_natCast]
          simp only [F1, SF0, SP0, seval, -Int.reduceNatCast', fn63_res, fn63_keep, ne']
      · have ne' := ne (by simp [h1])
        have h1' : (x1 == y1) = false := by simpa using h1
        clear ne step hi
        simp only [D0, SP0, seval, -Int.reduceNatCast', h', hga, hgb, abins, acells, h1', decide_true, Int.natCast_nonneg, Int.toNat_natCast]
        simp only [F1, SF0, SP0, seval, -Int.reduceNatCast', fn63_res, fn63_keep, ne']
    · have h' : ¬ (j : Int) < (a.length : Int) := by omega
      have he : decide (a = b) = true := decide_eq_true (ext_getD (0, 0) hl fun i h1 => hi i (by omega))
      simp only [D0, SP0, seval, -Int.reduceNatCast', h', decide_false]
      refine .inr ⟨by simp, ?_⟩
      simp only [F1, SF0, SP0, seval, -Int.reduceNatCast', fn63_res, fn63_keep, he]
  · have hl' : ((a.length : Int) != (b.length : Int)) = true := by
      simp only [bne_iff_ne, ne_eq]
      omega
    have he : decide (a = b) = false := by
      rw [decide_eq_false_iff_not]
      intro e
      exact hl (by rw [e])
    simp only [fn63_body, c63, D0, SP0, seval, -Int.reduceNatCast', hl']
    simp only [F1, SF0, SP0, seval, -Int.reduceNatCast', fn63_res, fn63_keep, he]
noncomputable def k63 : Kon ((List (Int × Int)) × (List (Int × Int))) := ⟨fun x => x.1.length ≤ 9223372036854775807, fun x => [(AV.list 2 (List.map (fun x => [AV.int .i64 x.1, AV.int .i64 x.2]) (x.1))), (AV.list 2 (List.map (fun x => [AV.int .i64 x.1, AV.int .i64 x.2]) (x.2)))], fun x => .bool (decide (x.1 = x.2))⟩
theorem e63 (a : List (Int × Int)) (b : List (Int × Int)) (hd : a.length ≤ 9223372036854775807) (q0 : Id) (H0 : Heap) : k63.ora q0 ([(AV.list 2 (List.map (fun x => [AV.int .i64 x.1, AV.int .i64 x.2]) (a))), (AV.list 2 (List.map (fun x => [AV.int .i64 x.1, AV.int .i64 x.2]) (b)))]) H0 = some (.bool (decide (a = b)), H0) := k63.eq (set2Inj) (a, b) hd q0 H0
theorem ook63 : OraOK Tryz.prog (70 % 100000) k63.ora := k63.ok orders v7_ok (fun x hd => by simp [k63, PU]) (fun x hd => by simp [k63, PU]) (fun x hd => run63 x.1 x.2 hd)

def leafT (k : Int) : List Nd := [⟨if k = 1 then 1 else 0, 0, 0, [], ⟨#[]⟩⟩]
theorem run34 (k : Int) : cwp v7 27 [] [.int .i64 k] [] (fun r H => r = .list 5 (List.map eNd (leafT k)) ∧ H = []) := by
  refine run_fn (fn := fn34) rfl rfl ?_
  by_cases h : k = 1
  · have h' : (k != 1) = false := by simp [h]
    simp only [fn34_body, c34, D0, SP0, seval, -Int.reduceNatCast', h']
    simp only [F1, SF0, SP0, seval, -Int.reduceNatCast', fn34_res, fn34_keep, fz, fzd, leafT, h, eNd, eSet]
  · have h' : (k != 1) = true := by simp [h]
    simp only [fn34_body, c34, D0, SP0, seval, -Int.reduceNatCast', h']
    simp only [F1, SF0, SP0, seval, -Int.reduceNatCast', fn34_res, fn34_keep, fz, fzd, leafT, h, eNd, eSet]
noncomputable def k34 : Kon (Int) := ⟨fun _ => True, fun x => [.int .i64 x], fun x => .list 5 (List.map eNd (leafT x))⟩
theorem e34 (k : Int) (q0 : Id) (H0 : Heap) : k34.ora q0 ([.int .i64 k]) H0 = some (.list 5 (List.map eNd (leafT k)), H0) := k34.eq (intInj) (k) trivial q0 H0
theorem ook34 : OraOK Tryz.prog (27 % 100000) k34.ora := k34.ok orders v7_ok (fun x hd => by simp [k34, PU]) (fun x hd => by simp [k34, PU]) (fun x hd => run34 x)

def oneB (s : List (Int × Int)) : Bool := decide (0 < s.length) && goodS s
def oneT (s : List (Int × Int)) (z : ByteArray) : List Nd := if oneB s then [⟨2, 0, 0, s, z⟩] else []
theorem setStrInj : ∀ x y : List (Int × Int) × ByteArray, [(AV.list 2 (List.map (fun x => [AV.int .i64 x.1, AV.int .i64 x.2]) (x.1))), AV.str x.2] = [(AV.list 2 (List.map (fun x => [AV.int .i64 x.1, AV.int .i64 x.2]) (y.1))), AV.str y.2] → x = y := by
  rintro ⟨a, m⟩ ⟨b, n⟩ h
  simp only [List.cons.injEq, AV.str.injEq, and_true] at h
  rw [eSet_inj (a := a) (b := b) h.1, h.2]
theorem run22 (s : List (Int × Int)) (z : ByteArray) (hs : s.length ≤ 600) : cwp v7 25 [] [(AV.list 2 (List.map (fun x => [AV.int .i64 x.1, AV.int .i64 x.2]) (s))), .str z] [] (fun r H => r = .tuple [.list 5 (List.map eNd (oneT s z)), .bool (oneB s)] ∧ H = []) := by
  refine run_fn (fn := fn22) rfl rfl ?_
  have hs2 : s.length ≤ 9223372036854775807 := by omega
  by_cases h0 : s.length = 0
  · have h0' : ((s.length : Int) == 0) = true := by simp only [beq_iff_eq]; omega
    have hb : oneB s = false := by simp [oneB, h0]
    have hr : oneT s z = [] := by simp [oneT, hb]
    simp only [fn22_body, c22, D0, SP0, seval, -Int.reduceNatCast', h0']
    simp only [F1, SF0, SP0, seval, -Int.reduceNatCast', fn22_res, fn22_keep, fz, fzd, fzd.fzcells, hr, hb]
  · have h0' : ((s.length : Int) == 0) = false := by simp only [beq_eq_false_iff_ne]; omega
    by_cases g : goodS s = true
    · have hb : oneB s = true := by
        simp only [oneB, g, Bool.and_true, decide_eq_true_eq]; omega
      have hr : oneT s z = [⟨2, 0, 0, s, z⟩] := by simp [oneT, hb]
      simp only [fn22_body, c22, D0, SP0, seval, -Int.reduceNatCast', @use_all v7 57 k56.ora rfl, e56, @use_all v7 58 k69.ora rfl, e69, hs, hs2, h0', g, fz, fzd, fzd.fzcells]
      simp only [F1, SF0, SP0, seval, -Int.reduceNatCast', fn22_res, fn22_keep, fz, fzd, fzd.fzcells, hr, hb, eNd, eSet]
    · have g' : goodS s = false := by simpa using g
      have hb : oneB s = false := by simp [oneB, g']
      have hr : oneT s z = [] := by simp [oneT, hb]
      simp only [fn22_body, c22, D0, SP0, seval, -Int.reduceNatCast', @use_all v7 57 k56.ora rfl, e56, hs2, h0', g']
      simp only [F1, SF0, SP0, seval, -Int.reduceNatCast', fn22_res, fn22_keep, fz, fzd, fzd.fzcells, hr, hb]
noncomputable def k22 : Kon ((List (Int × Int)) × ByteArray) := ⟨fun x => x.1.length ≤ 600, fun x => [(AV.list 2 (List.map (fun x => [AV.int .i64 x.1, AV.int .i64 x.2]) (x.1))), .str x.2], fun x => .tuple [.list 5 (List.map eNd (oneT x.1 x.2)), .bool (oneB x.1)]⟩
theorem e22 (s : List (Int × Int)) (z : ByteArray) (hd : s.length ≤ 600) (q0 : Id) (H0 : Heap) : k22.ora q0 ([(AV.list 2 (List.map (fun x => [AV.int .i64 x.1, AV.int .i64 x.2]) (s))), .str z]) H0 = some (.tuple [.list 5 (List.map eNd (oneT s z)), .bool (oneB s)], H0) := k22.eq (setStrInj) (s, z) hd q0 H0
theorem ook22 : OraOK Tryz.prog (25 % 100000) k22.ora := k22.ok orders v7_ok (fun x hd => by simp [k22, PU]) (fun x hd => by simp [k22, PU]) (fun x hd => run22 x.1 x.2 hd)

noncomputable def y1 : FT := upd (upd (upd (v7) 70 k63.ora) 27 k34.ora) 25 k22.ora
theorem y1_ok : FTOK Tryz.prog y1 := upd_ok2 (f := 25) (upd_ok2 (f := 27) (upd_ok2 (f := 70) (v7_ok) ook63) ook34) ook22

end Go.Proofs.Abs

set_option maxRecDepth 100000
set_option maxHeartbeats 4000000
namespace Go.Proofs.Abs
open Go
theorem eNd_snoc (L : List Nd) (k a b : Int) (c : List (Int × Int)) (z : ByteArray) : List.map eNd L ++ [[AV.int .i64 k, AV.int .i64 a, AV.int .i64 b, (AV.list 2 (List.map (fun x => [AV.int .i64 x.1, AV.int .i64 x.2]) (c))), AV.str z]] = List.map eNd (L ++ [⟨k, a, b, c, z⟩]) := by
  rw [List.map_append]; rfl
theorem take_snoc {t : List Nd} {j : Nat} (h : j < t.length) : t.take j ++ [t.getD j default] = t.take (j + 1) := by
  have e3 : t.getD j default = t[j] := by
    rw [List.getD_eq_getElem?_getD, List.getElem?_eq_getElem h]
    rfl
  rw [e3]; simp
theorem run18 (t : List Nd) (ht : ∀ n ∈ t, n.set.length ≤ 600) (hl : t.length ≤ 1000000) : cwp y1 45 [] [(AV.list 5 (List.map eNd t))] [] (fun r H => r = .list 5 (List.map eNd t) ∧ H = []) := by
  refine run_fn (fn := fn18) rfl rfl ?_
  simp only [fn18_body, c18, D0, SP0, seval, -Int.reduceNatCast']
  refine lg_rule (fun j e H => e = [(0, (AV.list 5 (List.map eNd t))), (2, .own [0] 0), (3, .own [1] j), (4, .int .i64 j)] ∧ H = [[([1], .row true true 78 5 (List.map eNd (t.take j))), ([0], .row true true 78 5 [])]] ∧ j ≤ t.length) t.length ?_ ?_
  · exact ⟨rfl, rfl, by simp⟩
  rintro j e H ⟨rfl, rfl, hj⟩
  simp only [D0, SP0, seval, -Int.reduceNatCast']
  by_cases h : j < t.length
  · have h' : (j : Int) < (t.length : Int) := by omega
    have hp := wrapp (j := j) (by omega)
    have hg := map_get (f := eNd) h default
    have hs := ht _ (getD_mem h)
    have hsn := take_snoc h
    have hlt : (t.take j).length = j := by simp; omega
    have hc2 : (j + 1) * 64 ≤ 140737488355328 := by omega
    generalize t.getD j default = n at hg hs hsn
    obtain ⟨k, a, b, c, z⟩ := n
    simp only at hs
    have hc1 : c.length * 16 ≤ 140737488355328 := by omega
    simp only [D0, SP0, seval, -Int.reduceNatCast', h', hg, eNd, eSet, hc1, hc2, hlt, fz, fzd, fzd.fzcells, eNd_snoc, hsn, hp, Nat.zero_add, decide_true, Int.natCast_nonneg, Int.toNat_natCast]
    simp only [F1, SF0, SP0, seval, -Int.reduceNatCast', eNd_snoc, hsn]
    exact ⟨h, h⟩
  · have h' : ¬ (j : Int) < (t.length : Int) := by omega
    have hj2 : j = t.length := by omega
    subst hj2
    simp only [D0, SP0, seval, -Int.reduceNatCast', h', decide_false]
    refine .inr ⟨by simp, ?_⟩
    simp only [F1, SF0, SP0, seval, -Int.reduceNatCast', fn18_res, fn18_keep, fz, fzd, List.take_length]
noncomputable def k18 : Kon (List Nd) := ⟨fun x => (∀ n ∈ x, n.set.length ≤ 600) ∧ x.length ≤ 1000000, fun x => [(AV.list 5 (List.map eNd x))], fun x => .list 5 (List.map eNd x)⟩
theorem e18 (t : List Nd) (hd : (∀ n ∈ t, n.set.length ≤ 600) ∧ t.length ≤ 1000000) (q0 : Id) (H0 : Heap) : k18.ora q0 ([(AV.list 5 (List.map eNd t))]) H0 = some (.list 5 (List.map eNd t), H0) := k18.eq (treeInj) (t) hd q0 H0
theorem ook18 : OraOK Tryz.prog (45 % 100000) k18.ora := k18.ok orders y1_ok (fun x hd => by simp [k18, PU]) (fun x hd => by simp [k18, PU]) (fun x hd => run18 x hd.1 hd.2)

noncomputable def y2 : FT := upd (y1) 45 k18.ora
theorem y2_ok : FTOK Tryz.prog y2 := upd_ok2 (f := 45) (y1_ok) ook18

end Go.Proofs.Abs

set_option maxRecDepth 100000
namespace Go.Proofs.Abs
open ACode AIns AX
end Go.Proofs.Abs
