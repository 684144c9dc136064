/- A part of a proof: the text that states the row tells what is proved. No condition is laid on anything. -/
import Derived.Test.YtdmnnbmjhpoipaaGreatDoorAbsGh
set_option linter.all false
set_option linter.constructorNameAsVariable false
set_option linter.defProp false
set_option linter.unusedVariables false
set_option linter.unusedSimpArgs false
set_option maxRecDepth 100000
set_option maxHeartbeats 4000000
namespace Go.Proofs.Abs
open Go
theorem benT_zero (t : List Nd) (q : Nat) : benT t 0 q = t.take (q + 1) := by
  unfold benT
  rw [List.drop_zero]
  exact mov_zero _
theorem e70z (t : List Nd) (i : Nat) (hd : SmT t ∧ i < t.length) (q : Id) (H : Heap) : k70.ora q [(AV.list 5 (List.map eNd t)), .int .i64 0, .int .i64 (i : Int)] H = some (.own (q ++ [0]) (List.map eNd (t.take (i + 1))).length, hadd H (q ++ [0]) (.row true true 39 5 (List.map eNd (t.take (i + 1))))) := by
  have := e70 t 0 i ⟨hd.1, hd.2, by omega⟩ q H
  rw [benT_zero] at this
  exact this
theorem run26 (a : List Nd) (ha : SmS a) (hla : a.length ≤ 1000000) : cwp y2 22 [] [(AV.list 5 (List.map eNd a))] [] (fun r H => r = .list 5 (List.map eNd (starTT a)) ∧ H = []) := by
  refine run_fn (fn := fn26) rfl rfl ?_
  have hwa := ha.wf
  by_cases g1 : goodT a = true
  · by_cases g3 : a.length + 1 ≤ 40000
    · have g3' : ¬ (a.length : Int) ≥ 40000 := by omega
      have hp : starB a = true := by simp [starB, g1, g3]
      have hp2 : starTT a = starT a := by simp [starTT, hp]
      have sa := good_sm ha g1
      have hga : 1 ≤ a.length := (goodT_iff.1 g1).1
      have hd : SmT a ∧ a.length - 1 < a.length := ⟨sa, by omega⟩
      have ht : a.take (a.length - 1 + 1) = a := by rw [Nat.sub_add_cancel hga, List.take_length]
      have cu := @use_all y2 32 k70.ora rfl
      have cg := e70z a (a.length - 1) hd
      rw [ht] at cg
      have c1 : (a.length + 1) * 64 ≤ 140737488355328 := by omega
      have w3 := wrapm (j := a.length) (by omega) (by omega)
      have w4 : ((a.length - 1 : Nat) : Int) = (a.length : Int) - 1 := by omega
      have hsn : List.map eNd a ++ [[AV.int .i64 5, .int .i64 ((a.length - 1 : Nat) : Int), .int .i64 0, .list 2 [], .str ⟨#[]⟩]] = List.map eNd (starT a) := by
        rw [w4, ← starT_rows, mov_zero]
      simp only [fn26_body, c26, D0, SP0, seval, -Int.reduceNatCast', @use_all y2 17 k30.ora rfl, e30, cg, cu, hwa, g1, g3', c1, w3, decide_false, decide_true]
      simp only [F1, SF0, SP0, seval, -Int.reduceNatCast', fn26_res, fn26_keep, fz, fzd, fzd.fzcells, List.length_append, hsn, starT_len, hp, hp2]
    · have g3' : (a.length : Int) ≥ 40000 := by omega
      have hp : starB a = false := by simp [starB, g1, g3]
      have hp2 : starTT a = [] := by simp [starTT, hp]
      simp only [fn26_body, c26, D0, SP0, seval, -Int.reduceNatCast', @use_all y2 17 k30.ora rfl, e30, hwa, g1, g3', decide_true]
      simp only [F1, SF0, SP0, seval, -Int.reduceNatCast', fn26_res, fn26_keep, fz, fzd, fzd.fzcells, hp2]
  · have g1' : goodT a = false := by simpa using g1
    have hp : starB a = false := by simp [starB, g1]
    have hp2 : starTT a = [] := by simp [starTT, hp]
    simp only [fn26_body, c26, D0, SP0, seval, -Int.reduceNatCast', @use_all y2 17 k30.ora rfl, e30, hwa, g1']
    simp only [F1, SF0, SP0, seval, -Int.reduceNatCast', fn26_res, fn26_keep, fz, fzd, fzd.fzcells, hp2]
noncomputable def k26 : Kon (List Nd) := ⟨fun x => SmS x ∧ x.length ≤ 1000000, fun x => [(AV.list 5 (List.map eNd x))], fun x => .list 5 (List.map eNd (starTT x))⟩
theorem e26 (a : List Nd) (hd : SmS a ∧ a.length ≤ 1000000) (q0 : Id) (H0 : Heap) : k26.ora q0 ([(AV.list 5 (List.map eNd a))]) H0 = some (.list 5 (List.map eNd (starTT a)), H0) := k26.eq (treeInj) (a) hd q0 H0
theorem ook26 : OraOK Tryz.prog (22 % 100000) k26.ora := k26.ok orders y2_ok (fun x hd => by simp [k26, PU]) (fun x hd => by simp [k26, PU]) (fun x hd => run26 x hd.1 hd.2)

theorem run25 (k : Int) (a b : List Nd) (ha : SmS a) (hb : SmS b) (hla : a.length ≤ 1000000) (hlb : b.length ≤ 1000000) : cwp y2 21 [] [.int .i64 k, (AV.list 5 (List.map eNd a)), (AV.list 5 (List.map eNd b))] [] (fun r H => r = .list 5 (List.map eNd (pairT k a b)) ∧ H = []) := by
  refine run_fn (fn := fn25) rfl rfl ?_
  have hwa := ha.wf
  have hwb := hb.wf
  by_cases g1 : goodT a = true
  case neg =>
    have g1' : goodT a = false := by simpa using g1
    have hp : pairB a b = false := by simp [pairB, g1]
    have hp2 : pairT k a b = [] := by simp [pairT, hp]
    simp only [fn25_body, c25, D0, SP0, seval, -Int.reduceNatCast', @use_all y2 17 k30.ora rfl, e30, hwa, hwb, g1']
    simp only [F1, SF0, SP0, seval, -Int.reduceNatCast', fn25_res, fn25_keep, fz, fzd, fzd.fzcells, hp2]
  by_cases g2 : goodT b = true
  case neg =>
    have g2' : goodT b = false := by simpa using g2
    have hp : pairB a b = false := by simp [pairB, g1, g2]
    have hp2 : pairT k a b = [] := by simp [pairT, hp]
    simp only [fn25_body, c25, D0, SP0, seval, -Int.reduceNatCast', @use_all y2 17 k30.ora rfl, e30, hwa, hwb, g1, g2']
    simp only [F1, SF0, SP0, seval, -Int.reduceNatCast', fn25_res, fn25_keep, fz, fzd, fzd.fzcells, hp2]
  have w1 : IntKind.i64.wrap ((a.length : Int) + (b.length : Int)) = (a.length : Int) + (b.length : Int) := wrap64 (by omega) (by omega)
  have w2 : IntKind.i64.wrap ((a.length : Int) + (b.length : Int) + 1) = (a.length : Int) + (b.length : Int) + 1 := wrap64 (by omega) (by omega)
  by_cases g3 : a.length + b.length + 1 ≤ 40000
  case neg =>
    have g3' : (a.length : Int) + (b.length : Int) + 1 > 40000 := by omega
    have hp : pairB a b = false := by simp [pairB, g1, g2, g3]
    have hp2 : pairT k a b = [] := by simp [pairT, hp]
    simp only [fn25_body, c25, D0, SP0, seval, -Int.reduceNatCast', @use_all y2 17 k30.ora rfl, e30, hwa, hwb, g1, g2, w1, w2, g3', decide_true]
    simp only [F1, SF0, SP0, seval, -Int.reduceNatCast', fn25_res, fn25_keep, fz, fzd, fzd.fzcells, hp2]
  have g3' : ¬ (a.length : Int) + (b.length : Int) + 1 > 40000 := by omega
  have hp : pairB a b = true := by simp [pairB, g1, g2, g3]
  have hp2 : pairT k a b = joinT k a b := by simp [pairT, hp]
  have sa := good_sm ha g1
  have sb := good_sm hb g2
  have hga : 1 ≤ a.length := (goodT_iff.1 g1).1
  have hd : SmT a ∧ a.length - 1 < a.length := ⟨sa, by omega⟩
  have ht : a.take (a.length - 1 + 1) = a := by rw [Nat.sub_add_cancel hga, List.take_length]
  have cu := @use_all y2 32 k70.ora rfl
  have cg := e70z a (a.length - 1) hd
  rw [ht] at cg
  have w3 := wrapm (j := a.length) (by omega) (by omega)
  have w4 : IntKind.i64.wrap ((a.length : Int) + (b.length : Int) - 1) = (a.length : Int) + (b.length : Int) - 1 := wrap64 (by omega) (by omega)
  simp only [fn25_body, c25, D0, SP0, seval, -Int.reduceNatCast', @use_all y2 17 k30.ora rfl, e30, cg, cu, hwa, hwb, g1, g2, w1, w2, w3, g3', decide_false]
  refine lg_rule (fun j e H => e = [(0, .int .i64 k), (1, (AV.list 5 (List.map eNd a))), (2, (AV.list 5 (List.map eNd b))), (6, .own [0] 0), (7, .own [22, 0] (a.length + j)), (8, .int .i64 j)] ∧ H = [[([22, 0], .row true true 39 5 (List.map eNd (a ++ mov (b.take j) a.length))), ([0], .row true true 39 5 [])]] ∧ j ≤ b.length) b.length ?_ ?_
  · exact ⟨rfl, by simp [mov], by omega⟩
  rintro j e H ⟨rfl, rfl, hj⟩
  simp only [D0, SP0, seval, -Int.reduceNatCast']
  by_cases h : j < b.length
  · have h' : (j : Int) < (b.length : Int) := by omega
    have hpp := wrapp (j := j) (by omega)
    have hg := map_get (f := eNd) h default
    have hs := sb.all _ (getD_mem h)
    have hsn : (a ++ mov (b.take j) a.length) ++ [movN (b.getD j default) a.length] = a ++ mov (b.take (j + 1)) a.length := by
      rw [← take_snoc h]
      simp [mov]
    have hlt : (a ++ mov (b.take j) a.length).length = a.length + j := by simp [mov]; omega
    have hc2 : (a.length + j + 1) * 64 ≤ 140737488355328 := by omega
    have hfin : j < b.length ∧ j + 1 ≤ b.length := by omega
    generalize b.getD j default = n at hg hs hsn
    obtain ⟨kk, x, y, c, z⟩ := n
    obtain ⟨s1, s2, s3⟩ := hs
    simp only at s1 s2 s3
    have hc1 : c.length * 16 ≤ 140737488355328 := by omega
    have hwx : IntKind.i64.wrap (x + (a.length : Int)) = x + (a.length : Int) := wrap64 (by omega) (by omega)
    have hwy : IntKind.i64.wrap (y + (a.length : Int)) = y + (a.length : Int) := wrap64 (by omega) (by omega)
    clear cg
    by_cases hf : isFork ⟨kk, x, y, c, z⟩ = true
    · have hk : kk = 3 ∨ kk = 4 := by simpa [isFork] using hf
      have hmv : movN ⟨kk, x, y, c, z⟩ (a.length : Int) = ⟨kk, x + (a.length : Int), y + (a.length : Int), c, z⟩ := by unfold movN; rw [if_pos hf]
      rw [hmv] at hsn
      rcases hk with rfl | rfl <;> simp only [D0, SP0, seval, -Int.reduceNatCast', h', hg, eNd, eSet, hc1, hc2, hlt, fz, fzd, fzd.fzcells, eNd_snoc, hsn, hpp, Nat.zero_add, decide_true, Int.natCast_nonneg, Int.toNat_natCast, hwx, hwy]
      all_goals simp only [F1, SF0, SP0, seval, -Int.reduceNatCast', eNd_snoc, hsn]
      all_goals exact ⟨h, rfl, h⟩
    · have hk3 : (kk == 3) = false := by simp [isFork] at hf; simp [hf]
      have hk4 : (kk == 4) = false := by simp [isFork] at hf; simp [hf]
      by_cases hk : kk = 5
      · have hmv : movN ⟨kk, x, y, c, z⟩ (a.length : Int) = ⟨kk, x + (a.length : Int), y, c, z⟩ := by unfold movN; rw [if_neg hf, if_pos hk]
        rw [hmv] at hsn
        subst hk
        simp only [D0, SP0, seval, -Int.reduceNatCast', h', hg, eNd, eSet, hc1, hc2, hlt, fz, fzd, fzd.fzcells, eNd_snoc, hsn, hpp, Nat.zero_add, decide_true, Int.natCast_nonneg, Int.toNat_natCast, hwx]
        simp only [F1, SF0, SP0, seval, -Int.reduceNatCast', eNd_snoc, hsn]
        exact ⟨h, rfl, h⟩
      · have hk5 : (kk == 5) = false := by simpa using hk
        rw [movN_leaf (by simpa using hf) hk] at hsn
        simp only [D0, SP0, seval, -Int.reduceNatCast', h', hg, eNd, eSet, hc1, hc2, hlt, fz, fzd, fzd.fzcells, eNd_snoc, hsn, hpp, Nat.zero_add, decide_true, Int.natCast_nonneg, Int.toNat_natCast, hk3, hk4, hk5]
        simp only [F1, SF0, SP0, seval, -Int.reduceNatCast', eNd_snoc, hsn]
        exact ⟨h, rfl, h⟩
  · have h' : ¬ (j : Int) < (b.length : Int) := by omega
    have hj2 : j = b.length := by omega
    subst hj2
    have hlt : (a ++ mov (b.take b.length) a.length).length = a.length + b.length := by simp [mov]
    have hc2 : (a.length + b.length + 1) * 64 ≤ 140737488355328 := by omega
    have w5 : ((a.length - 1 : Nat) : Int) = (a.length : Int) - 1 := by omega
    have hsn : List.map eNd (a ++ mov (b.take b.length) a.length) ++ [[AV.int .i64 k, .int .i64 ((a.length - 1 : Nat) : Int), .int .i64 ((a.length : Int) + b.length - 1), .list 2 [], .str ⟨#[]⟩]] = List.map eNd (joinT k a b) := by
      rw [w5, ← joinT_rows, mov_zero, List.take_length, List.map_append]
    clear cg
    simp only [D0, SP0, seval, -Int.reduceNatCast', h', decide_false]
    refine .inr ⟨by simp, ?_⟩
    simp only [D0, SP0, seval, -Int.reduceNatCast', w1, w3, w4, hlt, hc2, fz, fzd, fzd.fzcells]
    simp only [F1, SF0, SP0, seval, -Int.reduceNatCast', fn25_res, fn25_keep, fz, fzd, fzd.fzcells, hsn, hp2, joinT_len]
noncomputable def k25 : Kon (Int × List Nd × List Nd) := ⟨fun x => (SmS x.2.1 ∧ SmS x.2.2) ∧ x.2.1.length ≤ 1000000 ∧ x.2.2.length ≤ 1000000, fun x => [.int .i64 x.1, (AV.list 5 (List.map eNd x.2.1)), (AV.list 5 (List.map eNd x.2.2))], fun x => .list 5 (List.map eNd (pairT x.1 x.2.1 x.2.2))⟩
theorem e25 (k : Int) (a : List Nd) (b : List Nd) (hd : (SmS a ∧ SmS b) ∧ a.length ≤ 1000000 ∧ b.length ≤ 1000000) (q0 : Id) (H0 : Heap) : k25.ora q0 ([.int .i64 k, (AV.list 5 (List.map eNd a)), (AV.list 5 (List.map eNd b))]) H0 = some (.list 5 (List.map eNd (pairT k a b)), H0) := k25.eq (by dsimp only [k25]; rintro ⟨k, a, b⟩ ⟨k', a', b'⟩ h; simp only [List.cons.injEq, AV.int.injEq, and_true, true_and] at h; rw [h.1, eTree_inj (a := a) (b := a') h.2.1, eTree_inj (a := b) (b := b') h.2.2]) (k, a, b) hd q0 H0
theorem ook25 : OraOK Tryz.prog (21 % 100000) k25.ora := k25.ok orders y2_ok (fun x hd => by simp [k25, PU]) (fun x hd => by simp [k25, PU]) (fun x hd => run25 x.1 x.2.1 x.2.2 hd.1.1 hd.1.2 hd.2.1 hd.2.2)

noncomputable def y3 : FT := upd (upd (y2) 22 k26.ora) 21 k25.ora
theorem y3_ok : FTOK Tryz.prog y3 := upd_ok2 (f := 21) (upd_ok2 (f := 22) (y2_ok) ook26) ook25

noncomputable def y4 : FT := updC (updC y3 51 fn24b) 100032 { fn70 with keep := 0 }
theorem y4_ok : FTOK Tryz.prog y4 := updC_ok (f := 100032) (updC_ok (f := 51) y3_ok ok24b) ok70b
theorem run100070 (t : List Nd) (p q : Nat) (ht : SmT t) (hq : q < t.length) (hp : p ≤ q + 1) : cwp y4 100032 [] [(AV.list 5 (List.map eNd t)), .int .i64 p, .int .i64 q] [] (fun v H => v = .list 5 (List.map eNd (benT t p q)) ∧ H = []) := by
  refine run_fn (fn := { fn70 with keep := 0 }) rfl rfl ?_
  refine body70 t p q ht hq hp rfl fun e k he => ?_
  simp only [F1, SF0, SP0, seval, -Int.reduceNatCast', fn70_res, he, fz, fzd]
noncomputable def k100070 : Kon (List Nd × Nat × Nat) := ⟨fun x => SmT x.1 ∧ x.2.2 < x.1.length ∧ x.2.1 ≤ x.2.2 + 1, fun x => [(AV.list 5 (List.map eNd x.1)), .int .i64 (x.2.1 : Int), .int .i64 (x.2.2 : Int)], fun x => .list 5 (List.map eNd (benT x.1 x.2.1 x.2.2))⟩
theorem e100070 (t : List Nd) (p : Nat) (q : Nat) (hd : SmT t ∧ q < t.length ∧ p ≤ q + 1) (q0 : Id) (H0 : Heap) : k100070.ora q0 ([(AV.list 5 (List.map eNd t)), .int .i64 (p : Int), .int .i64 (q : Int)]) H0 = some (.list 5 (List.map eNd (benT t p q)), H0) := k100070.eq (by dsimp only [k100070]; rintro ⟨a, b, c⟩ ⟨a', b', c'⟩ h; simp only [List.cons.injEq, AV.int.injEq, and_true, true_and] at h; rw [eTree_inj (a := a) (b := a') h.1, show b = b' by omega, show c = c' by omega]) (t, p, q) hd q0 H0
theorem ook100070 : OraOK Tryz.prog (100032 % 100000) k100070.ora := k100070.ok orders y4_ok (fun x hd => by simp [k100070, PU]) (fun x hd => by simp [k100070, PU]) (fun x hd => run100070 x.1 x.2.1 x.2.2 hd.1 hd.2.1 hd.2.2)

noncomputable def y5 : FT := upd (y4) 100032 k100070.ora
theorem y5_ok : FTOK Tryz.prog y5 := upd_ok2 (f := 100032) (y4_ok) ook100070

theorem eKz (t : List Nd) (i : Nat) (hd : SmT t ∧ i < t.length) (q : Id) (H : Heap) : k100070.ora q [(AV.list 5 (List.map eNd t)), .int .i64 0, .int .i64 (i : Int)] H = some (.list 5 (List.map eNd (t.take (i + 1))), H) := by
  have := e100070 t 0 i ⟨hd.1, hd.2, by omega⟩ q H
  rw [benT_zero] at this
  exact this
theorem run24 (t : List Nd) (ht : SmS t) : cwp y5 51 [] [(AV.list 5 (List.map eNd t))] [] (fun r H => r = .agg [.list 5 (List.map eNd (partA t)), .list 5 (List.map eNd (partB t)), .bool (partOK t)] ∧ H = []) := by
  refine run_fn (fn := fn24b) rfl rfl ?_
  have hw := ht.wf
  by_cases g : goodT t = true
  · obtain ⟨l, hl, h1, h2, h3, hc⟩ := good_last g
    have hsm := good_sm ht g
    have hle := fun i hi => (begs_cut hl i hi).1
    have hm := wrapm (j := t.length) (by omega) (by omega)
    have hg := map_get (f := eNd) (l := t) (j := t.length - 1) (by omega) default
    have hA : partA t = if partOK t then mov (t.take ((lastN t).a.toNat + 1)) 0 else [] := rfl
    have hB : partB t = if goodT t && isFork (lastN t) then mov ((t.take ((lastN t).b.toNat + 1)).drop ((lastN t).a.toNat + 1)) (-(((lastN t).a.toNat + 1 : Nat) : Int)) else [] := rfl
    have hO : partOK t = (goodT t && (isFork (lastN t) || decide ((lastN t).kind = 5))) := rfl
    rw [g] at hB hO
    have hgl : t.getD (t.length - 1) default = lastN t := rfl
    rw [hgl] at hg
    generalize lastN t = n at hc hg hA hB hO
    obtain ⟨k, a, b, c, z⟩ := n
    cases hc with
    | fork hk c2 hb0 c1 ha hn hg0 =>
      simp only at ha hb0
      have := hle (t.length - 1 - 1) (by omega)
      obtain ⟨a', rfl⟩ : ∃ a' : Nat, a = (a' : Int) := ⟨l.getD (t.length - 1 - 1) 0 - 1, by omega⟩
      obtain ⟨b', rfl⟩ : ∃ b' : Nat, b = (b' : Int) := ⟨t.length - 1 - 1, by omega⟩
      have wa := wrapp (j := a') (by omega)
      have hd : SmT t ∧ a' < t.length := ⟨hsm, by omega⟩
      have hd2 : SmT t ∧ b' < t.length ∧ a' + 1 ≤ b' + 1 := ⟨hsm, by omega, by omega⟩
      have cg := eKz t a' hd
      have cg2 := e100070 t (a' + 1) b' hd2
      have cu := @use_all y5 100032 k100070.ora rfl
      have hlA : (t.take (a' + 1)).length = a' + 1 := by simp; omega
      have hlB : (benT t (a' + 1) b').length = b' + 1 - (a' + 1) := by unfold benT; rw [mov_len]; simp; omega
      have hk' : k = 3 ∨ k = 4 := by simpa [isFork] using hk
      simp only [hk, Bool.true_or, Bool.and_self, if_true, Int.toNat_natCast] at hA hB hO
      rw [hO] at hA
      simp only [if_true, mov_zero] at hA
      have hB' : benT t (a' + 1) b' = partB t := hB.symm
      rw [hB'] at cg2 hlB
      clear hg0 hn hk hB hB'
      rcases hk' with rfl | rfl <;> simp only [fn24b_body, c24b, D0, SP0, seval, -Int.reduceNatCast', @use_all y5 17 k30.ora rfl, e30, cu, cg, cg2, hw, g, hm, hg, eNd, eSet, wa, hlA, hlB, fz, fzd, fzd.fzcells, lrc_x, apx, apart, apart1, needs, Int.natCast_nonneg, Int.toNat_natCast, decide_true]
      all_goals simp only [F1, SF0, SP0, seval, -Int.reduceNatCast', fn24b_res, fn24b_keep, fz, fzd, fzd.fzcells, hA, hO]
    | star hf hk c1 ha hb0 hn hg0 =>
      simp only at ha hb0 hk
      obtain ⟨a', rfl⟩ : ∃ a' : Nat, a = (a' : Int) := ⟨t.length - 1 - 1, by omega⟩
      have hd : SmT t ∧ a' < t.length := ⟨hsm, by omega⟩
      have cg := eKz t a' hd
      have cu := @use_all y5 100032 k100070.ora rfl
      have hlA : (t.take (a' + 1)).length = a' + 1 := by simp; omega
      subst hk
      simp only [hf, Bool.false_or, Bool.and_false, Bool.and_self, Bool.false_eq_true, if_false, if_true, Int.toNat_natCast, decide_true] at hA hB hO
      rw [hO] at hA
      simp only [if_true, mov_zero] at hA
      clear hg0 hn hf
      simp only [fn24b_body, c24b, D0, SP0, seval, -Int.reduceNatCast', @use_all y5 17 k30.ora rfl, e30, cu, cg, hw, g, hm, hg, eNd, eSet, hlA, fz, fzd, fzd.fzcells, Int.natCast_nonneg, Int.toNat_natCast, decide_true]
      all_goals simp only [F1, SF0, SP0, seval, -Int.reduceNatCast', fn24b_res, fn24b_keep, fz, fzd, fzd.fzcells, hA, hB, hO]
    | leaf hf hk hn hg0 =>
      simp only at hk
      have hk3 : (k == 3) = false := by simp [isFork] at hf; simp [hf]
      have hk4 : (k == 4) = false := by simp [isFork] at hf; simp [hf]
      have hk5 : (k == 5) = false := by simpa using hk
      simp only [hf, Bool.false_or, Bool.and_false, Bool.false_eq_true, if_false, hk, decide_false] at hA hB hO
      rw [hO] at hA
      simp only [Bool.false_eq_true, if_false] at hA
      clear hg0 hn hf
      simp only [fn24b_body, c24b, D0, SP0, seval, -Int.reduceNatCast', @use_all y5 17 k30.ora rfl, e30, hw, g, hm, hg, eNd, eSet, hk3, hk4, hk5, fz, fzd, fzd.fzcells, Int.natCast_nonneg, Int.toNat_natCast, decide_true]
      all_goals simp only [F1, SF0, SP0, seval, -Int.reduceNatCast', fn24b_res, fn24b_keep, fz, fzd, fzd.fzcells, hA, hB, hO]
  · have g' : goodT t = false := by simpa using g
    have hO : partOK t = false := by simp [partOK, g']
    have hA : partA t = [] := by simp [partA, hO]
    have hB : partB t = [] := by simp [partB, g']
    simp only [fn24b_body, c24b, D0, SP0, seval, -Int.reduceNatCast', @use_all y5 17 k30.ora rfl, e30, hw, g', fz, fzd, fzd.fzcells]
    simp only [F1, SF0, SP0, seval, -Int.reduceNatCast', fn24b_res, fn24b_keep, fz, fzd, fzd.fzcells, hA, hB, hO]
noncomputable def k24 : Kon (List Nd) := ⟨fun x => SmS x, fun x => [(AV.list 5 (List.map eNd x))], fun x => .agg [.list 5 (List.map eNd (partA x)), .list 5 (List.map eNd (partB x)), .bool (partOK x)]⟩
theorem e24 (t : List Nd) (hd : SmS t) (q0 : Id) (H0 : Heap) : k24.ora q0 ([(AV.list 5 (List.map eNd t))]) H0 = some (.agg [.list 5 (List.map eNd (partA t)), .list 5 (List.map eNd (partB t)), .bool (partOK t)], H0) := k24.eq (treeInj) (t) hd q0 H0
theorem ook24 : OraOK Tryz.prog (51 % 100000) k24.ora := k24.ok orders y5_ok (fun x hd => by simp [k24, PU]) (fun x hd => by simp [k24, PU]) (fun x hd => run24 x hd)

noncomputable def y6 : FT := upd (y5) 51 k24.ora
theorem y6_ok : FTOK Tryz.prog y6 := upd_ok2 (f := 51) (y5_ok) ook24

end Go.Proofs.Abs

set_option maxRecDepth 100000
set_option maxHeartbeats 4000000
namespace Go.Proofs.Abs
open Go
theorem run28 (a b : List Nd) (ha : ∀ n ∈ a, n.set.length ≤ 600) (hla : a.length ≤ 9223372036854775807) : cwp y6 14 [] [(AV.list 5 (List.map eNd a)), (AV.list 5 (List.map eNd b))] [] (fun r H => r = .bool (sameT a b) ∧ H = []) := by
  refine run_fn (fn := fn28) rfl rfl ?_
  by_cases hl : a.length = b.length
  · have hl' : ((a.length : Int) != (b.length : Int)) = false := by simp [hl]
    simp only [fn28_body, c28, D0, SP0, seval, -Int.reduceNatCast', hl']
    refine lg_rule (fun j e H => e = [(0, (AV.list 5 (List.map eNd a))), (1, (AV.list 5 (List.map eNd b))), (4, .bool false), (5, .int .i64 j)] ∧ H = [[]] ∧ j ≤ a.length ∧ ∀ i, i < j → sameN (a.getD i default) (b.getD i default) = true) a.length ?_ ?_
    · exact ⟨rfl, rfl, by simp, by simp⟩
    rintro j e H ⟨rfl, rfl, hj, hi⟩
    simp only [D0, SP0, seval, -Int.reduceNatCast']
    by_cases h : j < a.length
    · have h' : (j : Int) < (a.length : Int) := by omega
      have hp := wrapp (j := j) (by omega)
      have hga := map_get (f := eNd) h default
      have hgb := map_get (f := eNd) (l := b) (j := j) (by omega) default
      have hsm := ha _ (getD_mem h)
      have bad : sameN (a.getD j default) (b.getD j default) = false → sameT a b = false := fun h1 => by
        unfold sameT
        rw [all_false h h1, Bool.and_false]
      have step : sameN (a.getD j default) (b.getD j default) = true → ∀ i, i < j + 1 → sameN (a.getD i default) (b.getD i default) = true := fun h1 i h2 => by
        by_cases e : i = j
        · rw [e]; exact h1
        · exact hi i (by omega)
      generalize a.getD j default = x at hga bad step hsm
      generalize b.getD j default = y at hgb bad step
      obtain ⟨k, p, q, c, z⟩ := x
      obtain ⟨k', p', q', c', z'⟩ := y
      simp only at hsm
      have hd : c.length ≤ 9223372036854775807 := by omega
      clear hi
      simp only [D0, SP0, seval, -Int.reduceNatCast', @use_all y6 34 k63.ora rfl, e63, hd, h', hga, hgb, eNd, eSet, hins, fins, idk, List.getLast?_cons_cons, List.getLast?_singleton, Option.getD_some, Option.isNone_none, Nat.reduceLT, lrc_x, apx, apart, apart1, needs, decide_true, Int.natCast_nonneg, Int.toNat_natCast]
      repeat' ((first | refine rw1_nsplit (fun h => ?_) (fun h => ?_) | refine rw1_split (fun h => ?_) (fun h => ?_) | refine dw1_nsplit (fun h => ?_) (fun h => ?_) | refine dw1_split (fun h => ?_) (fun h => ?_) | refine cg2_nsplit (fun h => ?_) (fun h => ?_) | refine cg2_split (fun h => ?_) (fun h => ?_)) <;> simp only [D0, SP0, seval, -Int.reduceNatCast', h, @use_all y6 34 k63.ora rfl, e63, hd, hp])
      all_goals simp only [F1, SF0, SP0, seval, -Int.reduceNatCast', fn28_res, fn28_keep]
      all_goals clear hga hgb hp ha hsm hd
      all_goals first | (rw [bad (by clear bad step; simp_all [sameN])]; done) | exact ⟨by omega, by omega, step (by clear bad step; simp_all [sameN])⟩
    · have h' : ¬ (j : Int) < (a.length : Int) := by omega
      have he : sameT a b = true := by
        unfold sameT
        rw [all_true fun i h1 => hi i (by omega)]
        simp [hl]
      simp only [D0, SP0, seval, -Int.reduceNatCast', h', decide_false]
      refine .inr ⟨by simp, ?_⟩
      simp only [F1, SF0, SP0, seval, -Int.reduceNatCast', fn28_res, fn28_keep, he]
  · have hl' : ((a.length : Int) != (b.length : Int)) = true := by
      simp only [bne_iff_ne, ne_eq]
      omega
    have he : sameT a b = false := by simp [sameT, hl]
    simp only [fn28_body, c28, D0, SP0, seval, -Int.reduceNatCast', hl']
    simp only [F1, SF0, SP0, seval, -Int.reduceNatCast', fn28_res, fn28_keep, he]
noncomputable def k28 : Kon (List Nd × List Nd) := ⟨fun x => (∀ n ∈ x.1, n.set.length ≤ 600) ∧ x.1.length ≤ 9223372036854775807, fun x => [(AV.list 5 (List.map eNd x.1)), (AV.list 5 (List.map eNd x.2))], fun x => .bool (sameT x.1 x.2)⟩
theorem e28 (a : List Nd) (b : List Nd) (hd : (∀ n ∈ a, n.set.length ≤ 600) ∧ a.length ≤ 9223372036854775807) (q0 : Id) (H0 : Heap) : k28.ora q0 ([(AV.list 5 (List.map eNd a)), (AV.list 5 (List.map eNd b))]) H0 = some (.bool (sameT a b), H0) := k28.eq (tree2Inj) (a, b) hd q0 H0
theorem ook28 : OraOK Tryz.prog (14 % 100000) k28.ora := k28.ok orders y6_ok (fun x hd => by simp [k28, PU]) (fun x hd => by simp [k28, PU]) (fun x hd => run28 x.1 x.2 hd.1 hd.2)

noncomputable def y7 : FT := upd (y6) 14 k28.ora
theorem y7_ok : FTOK Tryz.prog y7 := upd_ok2 (f := 14) (y6_ok) ook28

end Go.Proofs.Abs

namespace Go.Proofs.Abs
open Go
deriving instance DecidableEq for Nd
inductive Tr where
  | leaf (n : Nd)
  | cat (a b : Tr)
  | alt (a b : Tr)
  | star (a : Tr)
  deriving DecidableEq, Inhabited
def enc : Tr → List Nd
  | .leaf n => [n]
  | .cat a b => joinT 3 (enc a) (enc b)
  | .alt a b => joinT 4 (enc a) (enc b)
  | .star a => starT (enc a)
def sz : Tr → Nat
  | .leaf _ => 1
  | .cat a b => sz a + sz b + 1
  | .alt a b => sz a + sz b + 1
  | .star a => sz a + 1
def rk : Tr → Int
  | .leaf n => n.kind
  | .cat _ _ => 3
  | .alt _ _ => 4
  | .star _ => 5
def Ok : Tr → Prop
  | .leaf n => leafN n = true ∧ WfN n ∧ n.set.length ≤ 600
  | .cat a b => Ok a ∧ Ok b
  | .alt a b => Ok a ∧ Ok b
  | .star a => Ok a
theorem enc_len : ∀ x, (enc x).length = sz x
  | .leaf n => rfl
  | .cat a b => by simp only [enc, sz, joinT_len, enc_len a, enc_len b]
  | .alt a b => by simp only [enc, sz, joinT_len, enc_len a, enc_len b]
  | .star a => by simp only [enc, sz, starT_len, enc_len a]
theorem sz_pos : ∀ x, 1 ≤ sz x
  | .leaf n => Nat.le_refl _
  | .cat a b => by simp [sz]
  | .alt a b => by simp [sz]
  | .star a => by simp [sz]
theorem leaf_kind {n : Nd} (h : leafN n = true) : n.kind = 0 ∨ n.kind = 1 ∨ n.kind = 2 := by
  simp only [leafN, Bool.and_eq_true, decide_eq_true_eq] at h
  obtain ⟨_, h⟩ := h
  split at h
  · rename_i e; exact .inr (.inr e)
  · simp only [Bool.and_eq_true, Bool.or_eq_true, decide_eq_true_eq] at h
    rcases h.1 with e | e
    · exact .inl e
    · exact .inr (.inl e)
theorem leaf_fork {n : Nd} (h : leafN n = true) : isFork n = false ∧ n.kind ≠ 5 := by
  rcases leaf_kind h with e | e | e <;> simp [isFork, e]
theorem leaf_bare {n : Nd} (h : leafN n = true) (hk : n.kind ≠ 2) : n = ⟨n.kind, 0, 0, [], ⟨#[]⟩⟩ := by
  simp only [leafN, Bool.and_eq_true, decide_eq_true_eq, hk, if_false] at h
  have := bare_eq h.2.2
  rw [h.1.1, h.1.2] at this
  exact this
theorem good_leaf {n : Nd} (h : leafN n = true) : goodT [n] = true := by
  obtain ⟨h1, h2⟩ := leaf_fork h
  simp [goodT, begs, begsFrom, stepB, h, h1, h2]
theorem ok_good : ∀ x, Ok x → sz x ≤ 40000 → goodT (enc x) = true
  | .leaf n, h, _ => good_leaf h.1
  | .cat a b, h, hs => by
    simp only [sz] at hs
    exact good_join (.inl rfl) (ok_good a h.1 (by omega)) (ok_good b h.2 (by omega)) (by rw [enc_len, enc_len]; omega)
  | .alt a b, h, hs => by
    simp only [sz] at hs
    exact good_join (.inr rfl) (ok_good a h.1 (by omega)) (ok_good b h.2 (by omega)) (by rw [enc_len, enc_len]; omega)
  | .star a, h, hs => by
    simp only [sz] at hs
    exact good_star (ok_good a h (by omega)) (by rw [enc_len]; omega)
theorem ok_sm : ∀ x, Ok x → sz x ≤ 40000 → SmS (enc x)
  | .leaf n, h, _ => ⟨⟨by simp [enc], by simpa [enc] using h.2.1⟩, by simpa [enc] using h.2.2⟩
  | .cat a b, h, hs => by
    simp only [sz] at hs
    exact sm_join (.inl rfl) (ok_sm a h.1 (by omega)) (ok_sm b h.2 (by omega)) (ok_good a h.1 (by omega)) (ok_good b h.2 (by omega))
  | .alt a b, h, hs => by
    simp only [sz] at hs
    exact sm_join (.inr rfl) (ok_sm a h.1 (by omega)) (ok_sm b h.2 (by omega)) (ok_good a h.1 (by omega)) (ok_good b h.2 (by omega))
  | .star a, h, hs => by
    simp only [sz] at hs
    exact sm_star (ok_sm a h (by omega)) (ok_good a h (by omega))
theorem lastN_enc : ∀ x, (lastN (enc x)).kind = rk x
  | .leaf n => rfl
  | .cat a b => by simp only [enc, last_join, rk]
  | .alt a b => by simp only [enc, last_join, rk]
  | .star a => by simp only [enc, last_star, rk]
theorem sm_part {t : List Nd} (hs : SmS t) (g : goodT t = true) : SmS (partA t) ∧ SmS (partB t) := by
  have ht := good_sm hs g
  have key : ∀ (s : List Nd) (m : Int), (∀ n ∈ s, n ∈ t) → s.length ≤ t.length → -200000 ≤ m ∧ m ≤ 200000 → SmS (mov s m) := fun s m h1 h2 h3 =>
    sm_mov (sm_subS hs h1 h2) (sm_sub ht h1 h2) h3
  have h1 := ht.len
  constructor
  · unfold partA
    split
    · exact key _ _ (fun n hn => List.mem_of_mem_take hn) (by simp; omega) (by omega)
    · exact ⟨⟨by simp, by simp⟩, by simp⟩
  · unfold partB
    split
    · obtain ⟨l, hl, h4, h2, h3, hc⟩ := good_last g
      have ha : (lastN t).a.toNat + 1 ≤ 200000 := by
        rename_i hgf
        simp only [Bool.and_eq_true] at hgf
        cases hc with
        | star hf' => rw [hgf.2] at hf'; cases hf'
        | leaf hf' => rw [hgf.2] at hf'; cases hf'
        | fork hk c2 hb c1 ha hn hg =>
          have hle := (begs_cut hl (t.length - 1 - 1) (by omega)).1
          omega
      exact key _ _ (fun n hn => List.mem_of_mem_take (List.mem_of_mem_drop hn)) (by simp; omega) (by omega)
    · exact ⟨⟨by simp, by simp⟩, by simp⟩
theorem dec_ex : ∀ (d : Nat) (t : List Nd), t.length ≤ d → SmS t → goodT t = true → ∃ x, Ok x ∧ enc x = t
  | 0, t, hd, hs, g => by have := (goodT_iff.1 g).1; omega
  | d + 1, t, hd, hs, g => by
    obtain ⟨sA, sB⟩ := sm_part hs g
    by_cases hf : isFork (lastN t) = true
    · obtain ⟨gA, gB, hl, hj⟩ := fork_back g hf
      obtain ⟨x, ox, ex⟩ := dec_ex d (partA t) (by omega) sA gA
      obtain ⟨y, oy, ey⟩ := dec_ex d (partB t) (by omega) sB gB
      have hk : (lastN t).kind = 3 ∨ (lastN t).kind = 4 := by simpa [isFork] using hf
      rcases hk with e | e
      · exact ⟨.cat x y, ⟨ox, oy⟩, by simp only [enc, ex, ey]; rw [e] at hj; exact hj⟩
      · exact ⟨.alt x y, ⟨ox, oy⟩, by simp only [enc, ex, ey]; rw [e] at hj; exact hj⟩
    · have hf' : isFork (lastN t) = false := by simpa using hf
      by_cases hk : (lastN t).kind = 5
      · obtain ⟨gA, hl, hj⟩ := star_back g hf' hk
        obtain ⟨x, ox, ex⟩ := dec_ex d (partA t) (by omega) sA gA
        exact ⟨.star x, ox, by simp only [enc, ex]; exact hj⟩
      · have h1 := leaf_one g (by simp [partOK, hf', hk])
        obtain ⟨n, rfl⟩ := List.length_eq_one_iff.1 h1
        obtain ⟨l, hl, _, _, _, hc⟩ := good_last g
        refine ⟨.leaf n, ⟨?_, hs.wf.all n (by simp), hs.set n (by simp)⟩, rfl⟩
        cases hc with
        | fork h => rw [hf'] at h; cases h
        | star _ h => exact absurd h hk
        | leaf _ _ h _ => exact h
theorem enc_inj : ∀ x y, Ok x → Ok y → sz x ≤ 40000 → enc x = enc y → x = y := by
  have parts : ∀ x y, Ok x → Ok y → sz x + sz y + 1 ≤ 40000 → goodT (enc x) = true ∧ goodT (enc y) = true ∧ (enc x).length + (enc y).length + 1 ≤ 40000 := fun x y hx hy h =>
    ⟨ok_good x hx (by omega), ok_good y hy (by omega), by rw [enc_len, enc_len]; omega⟩
  have hkk : ∀ x y, Ok x → Ok y → enc x = enc y → rk x = rk y := fun x y _ _ h => by rw [← lastN_enc, ← lastN_enc, h]
  have hsz : ∀ x y, enc x = enc y → sz x = sz y := fun x y h => by rw [← enc_len, ← enc_len, h]
  intro x
  induction x with
  | leaf n =>
    intro y hx hy hs h
    have hk := hkk _ _ hx hy h
    rcases leaf_kind hx.1 with e | e | e <;>
    · cases y with
      | leaf m => simp only [enc, List.cons.injEq, and_true] at h; rw [h]
      | cat a b => simp only [rk] at hk; omega
      | alt a b => simp only [rk] at hk; omega
      | star a => simp only [rk] at hk; omega
  | cat a b iha ihb =>
    intro y hx hy hs h
    have hk := hkk _ _ hx hy h
    have hz := hsz _ _ h
    cases y with
    | leaf m => rcases leaf_kind hy.1 with e | e | e <;> (simp only [rk] at hk; omega)
    | cat c d =>
      simp only [sz] at hs hz
      obtain ⟨g1, g2, g3⟩ := parts a b hx.1 hx.2 hs
      obtain ⟨g4, g5, g6⟩ := parts c d hy.1 hy.2 (by omega)
      have p1 := parts_join (.inl rfl) g1 g2 g3 (k := 3)
      have p2 := parts_join (.inl rfl) g4 g5 g6 (k := 3)
      simp only [enc] at h
      rw [iha c hx.1 hy.1 (by omega) (by rw [← p1.2.1, ← p2.2.1, h]), ihb d hx.2 hy.2 (by omega) (by rw [← p1.2.2, ← p2.2.2, h])]
    | alt c d => simp only [rk] at hk; omega
    | star c => simp only [rk] at hk; omega
  | alt a b iha ihb =>
    intro y hx hy hs h
    have hk := hkk _ _ hx hy h
    have hz := hsz _ _ h
    cases y with
    | leaf m => rcases leaf_kind hy.1 with e | e | e <;> (simp only [rk] at hk; omega)
    | cat c d => simp only [rk] at hk; omega
    | alt c d =>
      simp only [sz] at hs hz
      obtain ⟨g1, g2, g3⟩ := parts a b hx.1 hx.2 hs
      obtain ⟨g4, g5, g6⟩ := parts c d hy.1 hy.2 (by omega)
      have p1 := parts_join (.inr rfl) g1 g2 g3 (k := 4)
      have p2 := parts_join (.inr rfl) g4 g5 g6 (k := 4)
      simp only [enc] at h
      rw [iha c hx.1 hy.1 (by omega) (by rw [← p1.2.1, ← p2.2.1, h]), ihb d hx.2 hy.2 (by omega) (by rw [← p1.2.2, ← p2.2.2, h])]
    | star c => simp only [rk] at hk; omega
  | star a iha =>
    intro y hx hy hs h
    have hk := hkk _ _ hx hy h
    have hz := hsz _ _ h
    cases y with
    | leaf m => rcases leaf_kind hy.1 with e | e | e <;> (simp only [rk] at hk; omega)
    | cat c d => simp only [rk] at hk; omega
    | alt c d => simp only [rk] at hk; omega
    | star c =>
      simp only [sz] at hs hz
      have p1 := parts_star (ok_good a hx (by omega)) (by rw [enc_len]; omega)
      have p2 := parts_star (ok_good c hy (by omega)) (by rw [enc_len]; omega)
      simp only [enc] at h
      rw [iha c hx hy (by omega) (by rw [← p1.2.1, ← p2.2.1, h])]
open Classical in
noncomputable def dec (t : List Nd) : Tr := if h : ∃ x, Ok x ∧ enc x = t then Classical.choose h else default
theorem dec_spec {t : List Nd} (hs : SmS t) (g : goodT t = true) : Ok (dec t) ∧ enc (dec t) = t ∧ sz (dec t) = t.length ∧ sz (dec t) ≤ 40000 := by
  have h := dec_ex _ t (Nat.le_refl _) hs g
  unfold dec
  rw [dif_pos h]
  obtain ⟨h1, h2⟩ := Classical.choose_spec h
  have h3 : sz (Classical.choose h) = t.length := by rw [← enc_len, h2]
  exact ⟨h1, h2, h3, by rw [h3]; exact (goodT_iff.1 g).2.1⟩
theorem dec_enc {x : Tr} (hx : Ok x) (hs : sz x ≤ 40000) : dec (enc x) = x := by
  obtain ⟨h1, h2, h3, h4⟩ := dec_spec (ok_sm x hx hs) (ok_good x hx hs)
  exact enc_inj _ _ h1 hx h4 h2
def nodeK (k : Int) : Nd := ⟨k, 0, 0, [], ⟨#[]⟩⟩
abbrev never : Tr := .leaf (nodeK 0)
abbrev empty : Tr := .leaf (nodeK 1)
theorem ok_nodeK {k : Int} (h : k = 0 ∨ k = 1) : Ok (.leaf (nodeK k)) := by
  refine ⟨?_, ⟨?_, ?_, ?_, ⟨?_, ?_⟩, ?_⟩, ?_⟩
  · rcases h with rfl | rfl <;> rfl
  · unfold I64; rcases h with rfl | rfl <;> simp [nodeK]
  · unfold I64; simp [nodeK]
  · unfold I64; simp [nodeK]
  · simp [nodeK]
  · simp [nodeK]
  · show (0 : Nat) ≤ 9223372036854775807; omega
  · simp [nodeK]
theorem ok_never : Ok never := ok_nodeK (.inl rfl)
theorem ok_empty : Ok empty := ok_nodeK (.inr rfl)
theorem rk_cases : ∀ x, Ok x → rk x = 0 ∨ rk x = 1 ∨ rk x = 2 ∨ rk x = 3 ∨ rk x = 4 ∨ rk x = 5
  | .leaf n, h => by rcases leaf_kind h.1 with e | e | e <;> simp [rk, e]
  | .cat _ _, _ => by simp [rk]
  | .alt _ _, _ => by simp [rk]
  | .star _, _ => by simp [rk]
theorem rk_never {x : Tr} (h : Ok x) (e : rk x = 0) : x = never := by
  cases x with
  | leaf n => simp only [rk] at e; have := leaf_bare h.1 (by omega); rw [e] at this; rw [this]; rfl
  | cat => simp [rk] at e
  | alt => simp [rk] at e
  | star => simp [rk] at e
theorem rk_empty {x : Tr} (h : Ok x) (e : rk x = 1) : x = empty := by
  cases x with
  | leaf n => simp only [rk] at e; have := leaf_bare h.1 (by omega); rw [e] at this; rw [this]; rfl
  | cat => simp [rk] at e
  | alt => simp [rk] at e
  | star => simp [rk] at e
theorem rk_cat {x : Tr} (h : Ok x) (e : rk x = 3) : ∃ a b, x = .cat a b := by
  cases x with
  | leaf n => rcases leaf_kind h.1 with e' | e' | e' <;> (simp only [rk] at e; omega)
  | cat a b => exact ⟨a, b, rfl⟩
  | alt => simp [rk] at e
  | star => simp [rk] at e
theorem rk_alt {x : Tr} (h : Ok x) (e : rk x = 4) : ∃ a b, x = .alt a b := by
  cases x with
  | leaf n => rcases leaf_kind h.1 with e' | e' | e' <;> (simp only [rk] at e; omega)
  | alt a b => exact ⟨a, b, rfl⟩
  | cat => simp [rk] at e
  | star => simp [rk] at e
theorem rk_star {x : Tr} (h : Ok x) (e : rk x = 5) : ∃ a, x = .star a := by
  cases x with
  | leaf n => rcases leaf_kind h.1 with e' | e' | e' <;> (simp only [rk] at e; omega)
  | star a => exact ⟨a, rfl⟩
  | cat => simp [rk] at e
  | alt => simp [rk] at e
def sCat (a : Tr) : Tr → Tr
  | .cat x y => if rk a = 0 then never else if rk a = 1 then .cat x y else sCat (sCat a x) y
  | .leaf n => if rk a = 0 ∨ n.kind = 0 then never else if rk a = 1 then .leaf n else if n.kind = 1 then a else .cat a (.leaf n)
  | .alt x y => if rk a = 0 then never else if rk a = 1 then .alt x y else .cat a (.alt x y)
  | .star x => if rk a = 0 then never else if rk a = 1 then .star x else .cat a (.star x)
def mems : Tr → List Tr
  | .alt a b => mems a ++ mems b
  | x => [x]
def dedup (l : List Tr) : List Tr := l.foldl (fun out t => if t ∈ out then out else out ++ [t]) []
def noK (k : Int) (l : List Tr) : List Tr := l.filter fun t => decide (rk t ≠ k)
def onceT (l : List Tr) : List Tr := if (dedup l).any (fun t => decide (rk t = 5)) then noK 1 (dedup l) else dedup l
def altL : List Tr → Tr
  | [] => default
  | x :: r => r.foldl .alt x
def sAlt (a b : Tr) : Tr := if rk a = 0 then b else if rk b = 0 then a else altL (onceT (mems a ++ mems b))
def fullT (a : Tr) : Tr := match noK 1 (mems a) with
  | [] => empty
  | x :: r => r.foldl sAlt x
def star1 (a : Tr) : Tr := if rk a = 0 ∨ rk a = 1 then empty else if rk a = 5 then a else .star a
def sStar (a : Tr) : Tr := if rk a = 4 then (if rk (fullT a) = 4 then .star (fullT a) else star1 (fullT a)) else star1 a
def sClean : Tr → Tr
  | .leaf n => .leaf n
  | .cat a b => sCat (sClean a) (sClean b)
  | .alt a b => sAlt (sClean a) (sClean b)
  | .star a => sStar (sClean a)
def sumS (l : List Tr) : Nat := (l.map fun x => sz x + 1).sum
theorem sumS_app (l m : List Tr) : sumS (l ++ m) = sumS l + sumS m := by simp [sumS]
theorem sumS_sub {l m : List Tr} (h : List.Sublist l m) : sumS l ≤ sumS m := by
  induction h with
  | slnil => exact Nat.le_refl _
  | cons a h ih => simp only [sumS, List.map_cons, List.sum_cons] at *; omega
  | cons_cons a h ih => simp only [sumS, List.map_cons, List.sum_cons] at *; omega
theorem sz_foldl_alt : ∀ (r : List Tr) (x : Tr), sz (r.foldl .alt x) = sz x + sumS r
  | [], x => by simp [sumS]
  | y :: r, x => by
    rw [List.foldl_cons, sz_foldl_alt r]
    simp only [sz, sumS, List.map_cons, List.sum_cons]
    omega
theorem sz_altL {l : List Tr} (h : l ≠ []) : sz (altL l) + 1 = sumS l := by
  cases l with
  | nil => exact absurd rfl h
  | cons x r => simp only [altL, sz_foldl_alt]; simp only [sumS, List.map_cons, List.sum_cons]; omega
theorem sumS_mems : ∀ x, sumS (mems x) = sz x + 1
  | .leaf n => by simp [mems, sumS, sz]
  | .cat a b => by simp [mems, sumS, sz]
  | .star a => by simp [mems, sumS, sz]
  | .alt a b => by rw [mems, sumS_app, sumS_mems a, sumS_mems b]; simp only [sz]; omega
theorem mems_ne : ∀ x, mems x ≠ []
  | .leaf n => by simp [mems]
  | .cat a b => by simp [mems]
  | .star a => by simp [mems]
  | .alt a b => by simp [mems, mems_ne a]
theorem dedup_from : ∀ (l out : List Tr), ∃ s, l.foldl (fun out t => if t ∈ out then out else out ++ [t]) out = out ++ s ∧ List.Sublist s l ∧ (∀ x, x ∈ out ++ s ↔ x ∈ out ∨ x ∈ l)
  | [], out => ⟨[], by simp, .slnil, by simp⟩
  | y :: l, out => by
    rw [List.foldl_cons]
    by_cases h : y ∈ out
    · rw [if_pos h]
      obtain ⟨s, h1, h2, h3⟩ := dedup_from l out
      refine ⟨s, h1, h2.cons _, fun x => ?_⟩
      rw [h3]
      simp only [List.mem_cons]
      constructor
      · intro h'
        rcases h' with h' | h'
        · exact .inl h'
        · exact .inr (.inr h')
      · intro h'
        rcases h' with h' | h' | h'
        · exact .inl h'
        · rw [h']; exact .inl h
        · exact .inr h'
    · rw [if_neg h]
      obtain ⟨s, h1, h2, h3⟩ := dedup_from l (out ++ [y])
      refine ⟨y :: s, by rw [h1]; simp, h2.cons_cons _, fun x => ?_⟩
      have := h3 x
      simp only [List.append_assoc, List.singleton_append, List.mem_append, List.mem_cons] at this ⊢
      rw [this]
      simp only [List.not_mem_nil, or_false, or_assoc]
theorem dedup_sub (l : List Tr) : List.Sublist (dedup l) l := by
  obtain ⟨s, h1, h2, _⟩ := dedup_from l []
  unfold dedup
  rw [h1]; exact h2
theorem dedup_mem (l : List Tr) (x : Tr) : x ∈ dedup l ↔ x ∈ l := by
  obtain ⟨s, h1, _, h3⟩ := dedup_from l []
  unfold dedup
  rw [h1, h3]; simp
theorem onceT_sub (l : List Tr) : List.Sublist (onceT l) l := by
  unfold onceT
  split
  · exact (List.filter_sublist).trans (dedup_sub l)
  · exact dedup_sub l
theorem onceT_ne {l : List Tr} (h : l ≠ []) : onceT l ≠ [] := by
  unfold onceT
  split
  · rename_i hs
    rw [List.any_eq_true] at hs
    obtain ⟨x, hx, hk⟩ := hs
    simp only [decide_eq_true_eq] at hk
    intro e
    have : x ∈ noK 1 (dedup l) := List.mem_filter.2 ⟨hx, by simp [hk]⟩
    rw [e] at this
    cases this
  · obtain ⟨x, hx⟩ := List.exists_mem_of_ne_nil l h
    intro e
    have := (dedup_mem l x).2 hx
    rw [e] at this
    cases this
theorem sz_sCat : ∀ (b a : Tr), sz (sCat a b) ≤ sz a + sz b + 1
  | .leaf n, a => by
    simp only [sCat]
    (repeat' split) <;> simp only [sz] <;> omega
  | .alt x y, a => by
    simp only [sCat]
    (repeat' split) <;> simp only [sz] <;> omega
  | .star x, a => by
    simp only [sCat]
    (repeat' split) <;> simp only [sz] <;> omega
  | .cat x y, a => by
    simp only [sCat]
    have h1 := sz_sCat x a
    have h2 := sz_sCat y (sCat a x)
    (repeat' split) <;> simp only [sz] <;> omega
theorem sz_sAlt (a b : Tr) : sz (sAlt a b) ≤ sz a + sz b + 1 := by
  unfold sAlt
  split
  · omega
  split
  · omega
  have h := sz_altL (onceT_ne (l := mems a ++ mems b) (by simp [mems_ne]))
  have h2 := sumS_sub (onceT_sub (mems a ++ mems b))
  rw [sumS_app, sumS_mems, sumS_mems] at h2
  omega
theorem sz_foldl_sAlt : ∀ (r : List Tr) (x : Tr), sz (r.foldl sAlt x) ≤ sz x + sumS r
  | [], x => by simp [sumS]
  | y :: r, x => by
    rw [List.foldl_cons]
    have := sz_foldl_sAlt r (sAlt x y)
    have := sz_sAlt x y
    simp only [sumS, List.map_cons, List.sum_cons] at *
    omega
theorem sz_fullT (a : Tr) : sz (fullT a) ≤ sz a := by
  unfold fullT
  have h1 := sumS_sub (List.filter_sublist (l := mems a) (p := fun t => decide (rk t ≠ 1)))
  rw [sumS_mems] at h1
  split
  · have := sz_pos a; simp only [sz]; omega
  · rename_i x r e
    rw [show (mems a).filter (fun t => decide (rk t ≠ 1)) = x :: r from e] at h1
    have := sz_foldl_sAlt r x
    simp only [sumS, List.map_cons, List.sum_cons] at *
    omega
theorem sz_star1 (a : Tr) : sz (star1 a) ≤ sz a + 1 := by
  unfold star1
  have := sz_pos a
  (repeat' split)
  · simp only [sz]; omega
  · omega
  · simp only [sz]; omega
theorem sz_sStar (a : Tr) : sz (sStar a) ≤ sz a + 1 := by
  unfold sStar
  have h1 := sz_fullT a
  have h2 := sz_star1 (fullT a)
  have h3 := sz_star1 a
  (repeat' split)
  · simp only [sz]; omega
  · omega
  · omega
theorem sz_sClean : ∀ a, sz (sClean a) ≤ sz a
  | .leaf n => Nat.le_refl _
  | .cat a b => by have := sz_sClean a; have := sz_sClean b; have := sz_sCat (sClean b) (sClean a); simp only [sClean, sz]; omega
  | .alt a b => by have := sz_sClean a; have := sz_sClean b; have := sz_sAlt (sClean a) (sClean b); simp only [sClean, sz]; omega
  | .star a => by have := sz_sClean a; have := sz_sStar (sClean a); simp only [sClean, sz]; omega
theorem ok_sCat : ∀ (b a : Tr), Ok a → Ok b → Ok (sCat a b)
  | .leaf n, a, ha, hb => by
    simp only [sCat]
    (repeat' split) <;> first | exact ok_never | exact hb | exact ha | exact ⟨ha, hb⟩
  | .alt x y, a, ha, hb => by
    simp only [sCat]
    (repeat' split) <;> first | exact ok_never | exact hb | exact ha | exact ⟨ha, hb⟩
  | .star x, a, ha, hb => by
    simp only [sCat]
    (repeat' split) <;> first | exact ok_never | exact hb | exact ha | exact ⟨ha, hb⟩
  | .cat x y, a, ha, hb => by
    simp only [sCat]
    (repeat' split)
    · exact ok_never
    · exact hb
    · exact ok_sCat y _ (ok_sCat x a ha hb.1) hb.2
theorem ok_mems : ∀ a, Ok a → ∀ x ∈ mems a, Ok x
  | .leaf n, h, x, hx => by simp only [mems, List.mem_singleton] at hx; subst hx; exact h
  | .cat a b, h, x, hx => by simp only [mems, List.mem_singleton] at hx; subst hx; exact h
  | .star a, h, x, hx => by simp only [mems, List.mem_singleton] at hx; subst hx; exact h
  | .alt a b, h, x, hx => by
    simp only [mems, List.mem_append] at hx
    rcases hx with hx | hx
    · exact ok_mems a h.1 x hx
    · exact ok_mems b h.2 x hx
theorem ok_foldl_alt : ∀ (r : List Tr) (x : Tr), Ok x → (∀ y ∈ r, Ok y) → Ok (r.foldl .alt x)
  | [], x, hx, _ => hx
  | y :: r, x, hx, h => ok_foldl_alt r _ ⟨hx, h y (by simp)⟩ fun z hz => h z (by simp [hz])
theorem ok_altL {l : List Tr} (hne : l ≠ []) (h : ∀ x ∈ l, Ok x) : Ok (altL l) := by
  cases l with
  | nil => exact absurd rfl hne
  | cons x r => exact ok_foldl_alt r x (h x (by simp)) fun y hy => h y (by simp [hy])
theorem ok_sAlt {a b : Tr} (ha : Ok a) (hb : Ok b) : Ok (sAlt a b) := by
  unfold sAlt
  split
  · exact hb
  split
  · exact ha
  refine ok_altL (onceT_ne (by simp [mems_ne])) fun x hx => ?_
  rcases List.mem_append.1 ((onceT_sub _).subset hx) with h | h
  · exact ok_mems a ha x h
  · exact ok_mems b hb x h
theorem ok_foldl_sAlt : ∀ (r : List Tr) (x : Tr), Ok x → (∀ y ∈ r, Ok y) → Ok (r.foldl sAlt x)
  | [], x, hx, _ => hx
  | y :: r, x, hx, h => ok_foldl_sAlt r _ (ok_sAlt hx (h y (by simp))) fun z hz => h z (by simp [hz])
theorem ok_fullT {a : Tr} (ha : Ok a) : Ok (fullT a) := by
  unfold fullT
  split
  · exact ok_empty
  · rename_i x r e
    have h : ∀ y ∈ x :: r, Ok y := fun y hy => by
      rw [← e] at hy
      exact ok_mems a ha y (List.mem_filter.1 hy).1
    exact ok_foldl_sAlt r x (h x (by simp)) fun y hy => h y (by simp [hy])
theorem ok_star1 {a : Tr} (ha : Ok a) : Ok (star1 a) := by
  unfold star1
  (repeat' split) <;> first | exact ok_empty | exact ha
theorem ok_sStar {a : Tr} (ha : Ok a) : Ok (sStar a) := by
  unfold sStar
  (repeat' split)
  · exact ok_fullT ha
  · exact ok_star1 (ok_fullT ha)
  · exact ok_star1 ha
theorem ok_sClean : ∀ a, Ok a → Ok (sClean a)
  | .leaf n, h => h
  | .cat a b, h => ok_sCat _ _ (ok_sClean a h.1) (ok_sClean b h.2)
  | .alt a b, h => ok_sAlt (ok_sClean a h.1) (ok_sClean b h.2)
  | .star a, h => ok_sStar (ok_sClean a h)
end Go.Proofs.Abs

set_option maxRecDepth 100000
set_option maxHeartbeats 4000000
namespace Go.Proofs.Abs
open Go
theorem hset_self {H : Heap} {id : Id} {o : AObj} (h : hget H id = some o) : hset H id o = H := by
  have fs : ∀ (f : Fr), fget f id = some o → fset f id o = f := by
    intro f
    induction f with
    | nil => intro _; rfl
    | cons p f ih =>
      obtain ⟨i, o'⟩ := p
      intro h
      by_cases hi : i = id
      · simp only [fget, hi, if_true, Option.some.injEq] at h
        simp [fset, hi, h]
      · simp only [fget, hi, if_false] at h
        simp [fset, hi, ih h]
  induction H with
  | nil => rfl
  | cons f r ih =>
    cases e : fget f id with
    | none =>
      simp only [hget, e] at h
      simp [hset, e, ih h]
    | some o' =>
      simp only [hget, e, Option.some.injEq] at h
      subst h
      simp [hset, e, fs f e]
theorem hget_set {H : Heap} {id : Id} {o : AObj} (h : hget H id = some o) (x : AObj) : hget (hset H id x) id = some x := by
  rw [hset_some (C := ⟨H, fun _ => .nilFunc, default, fun _ => True, fun _ _ => False⟩) h id]; simp
def eTr1 (x : Tr) : List AV := [AV.list 5 (List.map eNd (enc x))]
theorem pure_eTr1 (l : List Tr) : Pure (.list 1 (List.map eTr1 l)) = True := by
  rw [pure_list]
  refine eq_true fun r hr a ha => ?_
  obtain ⟨x, _, rfl⟩ := List.mem_map.1 hr
  simp only [eTr1, List.mem_singleton] at ha
  subst ha
  exact pure_eTree _
def OkS (x : Tr) : Prop := Ok x ∧ sz x ≤ 40000
theorem OkS.good {x : Tr} (h : OkS x) : goodT (enc x) = true := ok_good x h.1 h.2
theorem OkS.sm {x : Tr} (h : OkS x) : SmS (enc x) := ok_sm x h.1 h.2
theorem OkS.ne {x : Tr} (h : OkS x) : 1 ≤ (enc x).length ∧ (enc x).length ≤ 9223372036854775807 := by
  rw [enc_len]; have := sz_pos x; have := h.2; omega
theorem enc_injS {x y : Tr} (hx : OkS x) (hy : OkS y) (h : enc x = enc y) : x = y := enc_inj x y hx.1 hy.1 hx.2 h
theorem sameT_enc {x y : Tr} (hx : OkS x) (hy : OkS y) : sameT (enc x) (enc y) = decide (x = y) := by
  rw [Bool.eq_iff_iff, sameT_iff, decide_eq_true_eq]
  exact ⟨enc_injS hx hy, fun h => by rw [h]⟩
theorem eTr1_inj {l m : List Tr} (hl : ∀ x ∈ l, OkS x) (hm : ∀ x ∈ m, OkS x) (h : List.map eTr1 l = List.map eTr1 m) : l = m := by
  induction l generalizing m with
  | nil => cases m with
    | nil => rfl
    | cons y m => simp at h
  | cons x l ih => cases m with
    | nil => simp at h
    | cons y m =>
      simp only [List.map_cons, List.cons.injEq, eTr1, and_true] at h
      rw [enc_injS (hl x (by simp)) (hm y (by simp)) (eTree_inj (a := enc x) (b := enc y) h.1), ih (fun z hz => hl z (by simp [hz])) (fun z hz => hm z (by simp [hz])) h.2]
theorem run106 (t : List Nd) (h1 : 1 ≤ t.length) (h2 : t.length ≤ 9223372036854775807) : cwp y7 84 [] [(AV.list 5 (List.map eNd t))] [] (fun r H => r = .agg [.int .i64 (lastN t).kind, .int .i64 (lastN t).a, .int .i64 (lastN t).b, .str (lastN t).name] ∧ H = []) := by
  refine run_fn (fn := fn106) rfl rfl ?_
  have w := wrapm (j := t.length) h1 h2
  have hg := map_get (f := eNd) (l := t) (j := t.length - 1) (by omega) default
  unfold lastN
  generalize t.getD (t.length - 1) default = x at hg ⊢
  obtain ⟨k, a, b, c, z⟩ := x
  simp only [fn106_body, c106, D0, SP0, seval, -Int.reduceNatCast', w, hg, eNd, eSet, Int.natCast_nonneg, Int.toNat_natCast]
  simp only [F1, SF0, SP0, seval, -Int.reduceNatCast', fn106_res, fn106_keep, fz, fzd, fzd.fzcells]
noncomputable def k106 : Kon (List Nd) := ⟨fun x => 1 ≤ x.length ∧ x.length ≤ 9223372036854775807, fun x => [(AV.list 5 (List.map eNd x))], fun x => .agg [.int .i64 (lastN x).kind, .int .i64 (lastN x).a, .int .i64 (lastN x).b, .str (lastN x).name]⟩
theorem e106 (t : List Nd) (hd : 1 ≤ t.length ∧ t.length ≤ 9223372036854775807) (q0 : Id) (H0 : Heap) : k106.ora q0 ([(AV.list 5 (List.map eNd t))]) H0 = some (.agg [.int .i64 (lastN t).kind, .int .i64 (lastN t).a, .int .i64 (lastN t).b, .str (lastN t).name], H0) := k106.eq (treeInj) (t) hd q0 H0
theorem ook106 : OraOK Tryz.prog (84 % 100000) k106.ora := k106.ok orders y7_ok (fun x hd => by simp [k106, PU]) (fun x hd => by simp [k106, PU]) (fun x hd => run106 x hd.1 hd.2)

noncomputable def s1 : FT := upd (y7) 84 k106.ora
theorem s1_ok : FTOK Tryz.prog s1 := upd_ok2 (f := 84) (y7_ok) ook106

theorem run76 (t : List Nd) (k : Int) (hd : 1 ≤ t.length ∧ t.length ≤ 9223372036854775807) : cwp s1 69 [] [(AV.list 5 (List.map eNd t)), .int .i64 k] [] (fun r H => r = .bool (decide ((lastN t).kind = k)) ∧ H = []) := by
  refine run_fn (fn := fn76) rfl rfl ?_
  have he : ((lastN t).kind == k) = decide ((lastN t).kind = k) := by rw [Bool.eq_iff_iff]; simp
  simp only [fn76_body, c76, D0, SP0, seval, -Int.reduceNatCast', @use_all s1 84 k106.ora rfl, e106, hd, he]
  simp only [F1, SF0, SP0, seval, -Int.reduceNatCast', fn76_res, fn76_keep]
noncomputable def k76 : Kon (List Nd × Int) := ⟨fun x => 1 ≤ x.1.length ∧ x.1.length ≤ 9223372036854775807, fun x => [(AV.list 5 (List.map eNd x.1)), .int .i64 x.2], fun x => .bool (decide ((lastN x.1).kind = x.2))⟩
theorem e76 (t : List Nd) (k : Int) (hd : 1 ≤ t.length ∧ t.length ≤ 9223372036854775807) (q0 : Id) (H0 : Heap) : k76.ora q0 ([(AV.list 5 (List.map eNd t)), .int .i64 k]) H0 = some (.bool (decide ((lastN t).kind = k)), H0) := k76.eq (by dsimp only [k76]; rintro ⟨a, m⟩ ⟨b, n⟩ h; simp only [List.cons.injEq, AV.int.injEq, and_true, true_and] at h; rw [eTree_inj (a := a) (b := b) h.1, h.2]) (t, k) hd q0 H0
theorem ook76 : OraOK Tryz.prog (69 % 100000) k76.ora := k76.ok orders s1_ok (fun x hd => by simp [k76, PU]) (fun x hd => by simp [k76, PU]) (fun x hd => run76 x.1 x.2 hd)

theorem bytes_beq2 (z z' : ByteArray) : (z == z') = decide (z = z') := by
  cases z with
  | mk d =>
    cases z' with
    | mk d' =>
      have : ((⟨d⟩ : ByteArray) == ⟨d'⟩) = (d == d') := rfl
      rw [this, Bool.eq_iff_iff]
      simp
theorem face_eq (a b c a' b' c' : Int) (z z' : ByteArray) : acells [0, 0, 0, 2] [.int .i64 a, .int .i64 b, .int .i64 c, .str z] [.int .i64 a', .int .i64 b', .int .i64 c', .str z'] = some (decide (a = a' ∧ b = b' ∧ c = c' ∧ z = z')) := by
  simp only [acells, if_true, bytes_beq2]
  by_cases h1 : a = a' <;> by_cases h2 : b = b' <;> by_cases h3 : c = c' <;> by_cases h4 : z = z' <;> simp [h1, h2, h3, h4]
theorem run109 (a b : List Nd) (ha : SmS a) (h1 : 1 ≤ a.length) (h2 : 1 ≤ b.length ∧ b.length ≤ 9223372036854775807) : cwp s1 87 [] [(AV.list 5 (List.map eNd a)), (AV.list 5 (List.map eNd b))] [] (fun r H => r = .bool (sameT a b) ∧ H = []) := by
  refine run_fn (fn := fn109) rfl rfl ?_
  have hd : 1 ≤ a.length ∧ a.length ≤ 9223372036854775807 := ⟨h1, ha.wf.len⟩
  by_cases he : ((lastN a).kind = (lastN b).kind ∧ (lastN a).a = (lastN b).a ∧ (lastN a).b = (lastN b).b ∧ (lastN a).name = (lastN b).name)
  · have he' := decide_eq_true he
    simp only [fn109_body, c109, D0, SP0, seval, -Int.reduceNatCast', @use_all s1 84 k106.ora rfl, e106, @use_all s1 105 k33.ora rfl, e33, ha, hd, h2, abins, face_eq, he']
    simp only [F1, SF0, SP0, seval, -Int.reduceNatCast', fn109_res, fn109_keep]
  · have he' := decide_eq_false he
    have hs : sameT a b = false := by
      cases e : sameT a b with
      | false => rfl
      | true => rw [sameT_iff] at e; subst e; exact absurd ⟨rfl, rfl, rfl, rfl⟩ he
    simp only [fn109_body, c109, D0, SP0, seval, -Int.reduceNatCast', @use_all s1 84 k106.ora rfl, e106, @use_all s1 105 k33.ora rfl, e33, ha, hd, h2, abins, face_eq, he']
    simp only [F1, SF0, SP0, seval, -Int.reduceNatCast', fn109_res, fn109_keep, hs]
noncomputable def k109 : Kon (List Nd × List Nd) := ⟨fun x => (SmS x.1 ∧ 1 ≤ x.1.length) ∧ 1 ≤ x.2.length ∧ x.2.length ≤ 9223372036854775807, fun x => [(AV.list 5 (List.map eNd x.1)), (AV.list 5 (List.map eNd x.2))], fun x => .bool (sameT x.1 x.2)⟩
theorem e109 (a : List Nd) (b : List Nd) (hd : (SmS a ∧ 1 ≤ a.length) ∧ 1 ≤ b.length ∧ b.length ≤ 9223372036854775807) (q0 : Id) (H0 : Heap) : k109.ora q0 ([(AV.list 5 (List.map eNd a)), (AV.list 5 (List.map eNd b))]) H0 = some (.bool (sameT a b), H0) := k109.eq (tree2Inj) (a, b) hd q0 H0
theorem ook109 : OraOK Tryz.prog (87 % 100000) k109.ora := k109.ok orders s1_ok (fun x hd => by simp [k109, PU]) (fun x hd => by simp [k109, PU]) (fun x hd => run109 x.1 x.2 hd.1.1 hd.1.2 hd.2)

noncomputable def s2 : FT := upd (upd (s1) 69 k76.ora) 87 k109.ora
theorem s2_ok : FTOK Tryz.prog s2 := upd_ok2 (f := 87) (upd_ok2 (f := 69) (s1_ok) ook76) ook109

end Go.Proofs.Abs

set_option maxRecDepth 100000
set_option maxHeartbeats 4000000
namespace Go.Proofs.Abs
open Go
def Idx (p : Tr → Bool) (ts : List Tr) (m : Int) : Prop := (m = -1 ∧ ∀ x ∈ ts, p x = false) ∨ ∃ i : Nat, m = i ∧ i < ts.length ∧ p (ts.getD i default) = true ∧ ∀ k, k < i → p (ts.getD k default) = false
theorem getD_memT {ts : List Tr} {j : Nat} (h : j < ts.length) : ts.getD j default ∈ ts := by
  rw [List.getD_eq_getElem?_getD, List.getElem?_eq_getElem h]
  exact List.getElem_mem h
theorem mem_getD {ts : List Tr} {x : Tr} (h : x ∈ ts) : ∃ j, j < ts.length ∧ ts.getD j default = x := by
  obtain ⟨j, hj, e⟩ := List.getElem_of_mem h
  exact ⟨j, hj, by rw [List.getD_eq_getElem?_getD, List.getElem?_eq_getElem hj]; exact e⟩
section
variable {ft : FT} {H : Heap} {id : Id} {wr fl : Bool} {el : Nat} {ts : List Tr} {c : Nat} {caps : List AV} {p : Tr → Bool}
theorem run127 (h127 : ft 104 = some (.code fn127)) (hH : hget H id = some (.row wr fl el 1 (List.map eTr1 ts))) (hl : ts.length ≤ 1000000) (hc : c < 100000)
    (hcl : ∀ t ∈ ts, ∀ q, cwp ft c q (.list 5 (List.map eNd (enc t)) :: caps) ([] :: [] :: H) (fun r H2 => r = .bool (p t) ∧ H2 = [] :: [] :: H)) (q : Id) :
    cwp ft 104 q [.own id ts.length, .func c caps] H (fun r H2 => (∃ m : Int, r = .int .i64 m ∧ Idx p ts m) ∧ H2 = H) := by
  refine run_fn (fn := fn127) h127 rfl ?_
  simp only [fn127_body, c127, D0, SP0, seval, -Int.reduceNatCast', hH]
  refine lg_rule (fun j e G => e = [(0, .own id ts.length), (1, .func c caps), (4, .int .i64 0), (7, .int .i64 ts.length), (8, .int .i64 j)] ∧ G = [] :: H ∧ j ≤ ts.length ∧ ∀ i, i < j → p (ts.getD i default) = false) ts.length ?_ ?_
  · exact ⟨rfl, rfl, by simp, by simp⟩
  rintro j e G ⟨rfl, rfl, hj, hi⟩
  simp only [D0, SP0, seval, -Int.reduceNatCast']
  by_cases h : j < ts.length
  · have h' : (j : Int) < (ts.length : Int) := by omega
    have hp := wrapp (j := j) (by omega)
    have hg := map_get (f := eTr1) h default
    have hm := getD_memT h
    have step : p (ts.getD j default) = false → ∀ i, i < j + 1 → p (ts.getD i default) = false := fun h1 i h2 => by
      by_cases e : i = j
      · rw [e]; exact h1
      · exact hi i (by omega)
    have yes : p (ts.getD j default) = true → Idx p ts j := fun h1 => .inr ⟨j, rfl, h, h1, hi⟩
    have hcl' := hcl _ hm
    clear hi hcl
    generalize ts.getD j default = x at hg step yes hm hcl'
    simp only [D0, SP0, seval, -Int.reduceNatCast', hH, h', hg, eTr1, rf_func, hc, decide_true, Int.natCast_nonneg, Int.toNat_natCast]
    refine cg_use (hcl' _) ?_
    rintro v H2 ⟨rfl, rfl⟩
    by_cases hpt : p x = true
    · have hy := yes hpt
      simp only [D0, SP0, seval, -Int.reduceNatCast', hpt]
      simp only [F1, SF0, SP0, seval, -Int.reduceNatCast', fn127_res, fn127_keep]
      exact ⟨_, rfl, hy⟩
    · have hpt' : p x = false := by simpa using hpt
      have st := step hpt'
      simp only [D0, SP0, seval, -Int.reduceNatCast', hpt', hp]
      simp only [F1, SF0, SP0, seval, -Int.reduceNatCast']
      exact ⟨h, h, st⟩
  · have h' : ¬ (j : Int) < (ts.length : Int) := by omega
    have he : Idx p ts (-1) := .inl ⟨rfl, fun x hx => by
      obtain ⟨k, hk, rfl⟩ := mem_getD hx
      exact hi k (by omega)⟩
    simp only [D0, SP0, seval, -Int.reduceNatCast', h', decide_false]
    refine .inr ⟨by simp, ?_⟩
    simp only [F1, SF0, SP0, seval, -Int.reduceNatCast', fn127_res, fn127_keep]
    exact ⟨_, rfl, he⟩
theorem run107 (h127 : ft 104 = some (.code fn127)) (h107 : ft 85 = some (.code fn107)) (hH : hget H id = some (.row wr fl el 1 (List.map eTr1 ts))) (hl : ts.length ≤ 1000000) (hc : c < 100000)
    (hcl : ∀ t ∈ ts, ∀ q, cwp ft c q (.list 5 (List.map eNd (enc t)) :: caps) ([] :: [] :: [] :: H) (fun r H2 => r = .bool (p t) ∧ H2 = [] :: [] :: [] :: H)) (q : Id) :
    cwp ft 85 q [.own id ts.length, .func c caps] H (fun r H2 => r = .bool (ts.any p) ∧ H2 = H) := by
  refine run_fn (fn := fn107) h107 rfl ?_
  simp only [fn107_body, c107, D0, SP0, seval, -Int.reduceNatCast']
  have hH' : hget ([] :: H) id = some (.row wr fl el 1 (List.map eTr1 ts)) := by simpa [hget, fget] using hH
  refine cg_use (run127 h127 hH' hl hc hcl _) ?_
  rintro v H2 ⟨⟨m, rfl, hm⟩, rfl⟩
  rcases hm with ⟨rfl, hall⟩ | ⟨i, rfl, hi, hpi, _⟩
  · have hneg : ¬ (-1 : Int) ≥ 0 := by decide
    have hr : ts.any p = false := by
      rw [List.any_eq_false]
      intro x hx
      simp [hall x hx]
    simp only [D0, SP0, seval, -Int.reduceNatCast', hneg, decide_false]
    simp only [F1, SF0, SP0, seval, -Int.reduceNatCast', fn107_res, fn107_keep, hr]
  · have hpos : (i : Int) ≥ 0 := by omega
    have hr : ts.any p = true := List.any_eq_true.2 ⟨_, getD_memT hi, hpi⟩
    simp only [D0, SP0, seval, -Int.reduceNatCast', hpos, decide_true]
    simp only [F1, SF0, SP0, seval, -Int.reduceNatCast', fn107_res, fn107_keep, hr]
theorem take_filter {f : Tr → Bool} {j : Nat} (h : j < ts.length) : (ts.take (j + 1)).filter f = (ts.take j).filter f ++ if f (ts.getD j default) then [ts.getD j default] else [] := by
  have e : ts.take (j + 1) = ts.take j ++ [ts.getD j default] := by
    rw [List.take_succ, List.getD_eq_getElem?_getD, List.getElem?_eq_getElem h]; rfl
  rw [e, List.filter_append]
  congr 1
  generalize ts.getD j default = y
  by_cases hf : f y = true
  · simp [hf]
  · simp [hf]
theorem run128 (h127 : ft 104 = some (.code fn127)) (h128 : ft 106 = some (.code fn128)) (hH : hget H id = some (.row true true 23 1 (List.map eTr1 ts))) (hl : ts.length ≤ 1000000) (hc : c < 100000) {q : Id} (hne : ¬ q ++ [0] = id)
    (K : Heap → Prop) (k0 : K H) (kp : ∀ G, K G → K ([] :: G)) (kf : ∀ G o, K G → K ([(q ++ [0], o)] :: G)) (kset : ∀ G o, K G → K (hset G id o))
    (hcl : ∀ t ∈ ts, ∀ G, K G → ∀ q, cwp ft c q (.list 5 (List.map eNd (enc t)) :: caps) G (fun r H2 => r = .bool (p t) ∧ H2 = G)) :
    cwp ft 106 q [.own id ts.length, .func c caps] H (fun r H2 => r = .list 1 (List.map eTr1 (ts.filter fun t => !p t)) ∧ ∃ o, H2 = hset H id o) := by
  refine run_fn (fn := fn128) h128 rfl ?_
  simp only [fn128_body, c128, D0, SP0, seval, -Int.reduceNatCast']
  have hH' : hget ([(q ++ [0], AObj.row true true 23 1 [])] :: H) id = some (.row true true 23 1 (List.map eTr1 ts)) := by simpa [hget, fget, hne] using hH
  refine cg_use (run127 (p := p) h127 hH' hl hc (fun t ht q' => hcl t ht _ (kp _ (kp _ (kf _ _ k0))) q') _) ?_
  rintro v H2 ⟨⟨m, rfl, hm⟩, rfl⟩
  rcases hm with ⟨rfl, hall⟩ | ⟨i, rfl, hi, hpi, hlt⟩
  · have hr : ts.filter (fun t => !p t) = ts := List.filter_eq_self.2 fun x hx => by simp [hall x hx]
    simp only [D0, SP0, seval, -Int.reduceNatCast']
    simp only [F1, SF0, SP0, seval, -Int.reduceNatCast', fn128_res, fn128_keep, fz, fzd, hH, hne, hr]
    exact ⟨_, rfl⟩
  · have hne1 : ((i : Int) == -1) = false := by simp only [beq_eq_false_iff_ne]; omega
    have hp0 := wrapp (j := i) (by omega)
    have hself : hset H id (.row true true 23 1 (List.map eTr1 ts)) = H := hset_self hH
    simp only [D0, SP0, seval, -Int.reduceNatCast', hne1, hp0]
    refine lg_rule (fun j e G => ∃ (R : List Tr) (i' J : Nat), J = i + 1 + j ∧ e = [(0, .own id ts.length), (1, .func c caps), (4, .own (q ++ [0]) 0), (5, .int .i64 i'), (6, .int .i64 J)] ∧ G = [(q ++ [0], AObj.row true true 23 1 [])] :: hset H id (.row true true 23 1 (List.map eTr1 R)) ∧ R.length = ts.length ∧ i' < J ∧ J ≤ ts.length ∧ R.take i' = (ts.take J).filter (fun t => !p t) ∧ ∀ k, J ≤ k → R.getD k default = ts.getD k default) ts.length ?_ ?_
    · refine ⟨ts, i, i + 1, rfl, rfl, by rw [hself], rfl, by omega, by omega, ?_, fun _ _ => rfl⟩
      rw [take_filter hi, hpi]
      simp only [Bool.not_true, Bool.false_eq_true, if_false, List.append_nil]
      refine (List.filter_eq_self.2 fun x hx => ?_).symm
      obtain ⟨k, hk, e⟩ := List.getElem_of_mem hx
      have hk' : k < i := by simp at hk; omega
      have := hlt k hk'
      rw [List.getD_eq_getElem?_getD, List.getElem?_eq_getElem (by omega)] at this
      rw [List.getElem_take] at e
      rw [← e]
      simpa using this
    rintro j e G ⟨R, i', J, hJ, rfl, rfl, hRl, hi', hJl, htk, hrest⟩
    have hget' := hget_set hH (.row true true 23 1 (List.map eTr1 R))
    have hRle : R.length ≤ 1000000 := by omega
    simp only [D0, SP0, seval, -Int.reduceNatCast', hget', hRl, hne]
    by_cases h : J < ts.length
    · have h' : (J : Int) < (ts.length : Int) := by omega
      have hp := wrapp (j := J) (by omega)
      have hp2 := wrapp (j := i') (by omega)
      have hg := map_get (f := eTr1) (l := R) (j := J) (by omega) default
      rw [hrest J (Nat.le_refl _)] at hg
      have hm := getD_memT h
      have hcl' := hcl _ hm
      have hK : K ([] :: [(q ++ [0], AObj.row true true 23 1 [])] :: hset H id (.row true true 23 1 (List.map eTr1 R))) := kp _ (kf _ _ (kset _ _ k0))
      have hstep := take_filter (f := fun t => !p t) h
      have hi2 : (i' : Int) < (ts.length : Int) := by omega
      have hg2 := map_get (f := eTr1) (l := R) (j := i') (by omega) default
      simp only [eTr1] at hg hg2
      simp only [D0, SP0, seval, -Int.reduceNatCast', hget', hRl, hne, h', hg, rf_func, hc, decide_true, Int.natCast_nonneg, Int.toNat_natCast]
      refine cg_use (hcl' _ hK _) ?_
      rintro v H2 ⟨rfl, rfl⟩
      by_cases hpt : p (ts.getD J default) = true
      · simp only [D0, SP0, seval, -Int.reduceNatCast', hpt, hp]
        simp only [F1, SF0, SP0, seval, -Int.reduceNatCast']
        refine ⟨by omega, R, i', J + 1, by omega, ⟨rfl, rfl⟩, rfl, hRl, by omega, by omega, ?_, fun k hk => hrest k (by omega)⟩
        rw [hstep, htk, hpt]
        simp
      · have hpt' : p (ts.getD J default) = false := by simpa using hpt
        simp only [D0, SP0, seval, -Int.reduceNatCast', hpt', hp, hp2, hget', hRl, hne, hi2, hg2, Int.natCast_nonneg, Int.toNat_natCast, hset_hset]
        simp only [F1, SF0, SP0, seval, -Int.reduceNatCast']
        refine ⟨by omega, R.set i' (ts.getD J default), i' + 1, J + 1, by omega, ⟨rfl, rfl⟩, ?_, by simp [hRl], by omega, by omega, ?_, fun k hk => ?_⟩
        · rw [List.map_set]
          rfl
        · rw [hstep, hpt', ← htk]
          simp only [Bool.not_false, if_true]
          rw [List.take_succ, List.take_set_of_le (Nat.le_refl _)]
          congr 1
          rw [List.getElem?_set_self (by omega)]
          rfl
        · rw [List.getD_eq_getElem?_getD, List.getElem?_set_ne (by omega), ← List.getD_eq_getElem?_getD]
          exact hrest k (by omega)
    · have h' : ¬ (J : Int) < (ts.length : Int) := by omega
      have hJe : J = ts.length := by omega
      have hi2 : (i' : Int) < (ts.length : Int) := by omega
      have hi3 : i' < ts.length := by omega
      have hi4 : ¬ i' = ts.length := by omega
      have hle : i' ≤ ts.length := by omega
      have hlen : (List.take i' (List.map eTr1 R)).length = i' := by simp; omega
      have hlen2 : i' + (ts.length - i') = ts.length := by omega
      have hres : (List.take i' (List.map eTr1 R) ++ List.replicate (ts.length - i') [AV.list 5 []]).take i' = List.map eTr1 (ts.filter fun t => !p t) := by
        rw [List.take_append_of_le_length (by rw [hlen]; exact Nat.le_refl _), List.take_take, Nat.min_self, ← List.map_take, htk, hJe, List.take_length]
      have hg3 := hget_set hH (.row true true 23 1 (List.take i' (List.map eTr1 R) ++ List.replicate (ts.length - i') [AV.list 5 []]))
      simp only [D0, SP0, seval, -Int.reduceNatCast', h', decide_false]
      refine .inr ⟨by simp, ?_⟩
      simp only [D0, SP0, seval, -Int.reduceNatCast', hget', hRl, hne, hi2, hi3, Int.natCast_nonneg, Int.toNat_natCast, hset_hset]
      simp only [D0, SP0, seval, -Int.reduceNatCast', hg3, hne, List.length_append, hlen, List.length_replicate, hlen2, hi4, hle, Nat.zero_le, Nat.le_refl, Int.natCast_nonneg, Int.toNat_natCast, fz, fzd, hset_hset, hres]
      simp only [F1, SF0, SP0, seval, -Int.reduceNatCast', fn128_res, fn128_keep, fz, fzd]
      exact ⟨_, rfl⟩
end
end Go.Proofs.Abs

set_option maxRecDepth 100000
set_option maxHeartbeats 4000000
namespace Go.Proofs.Abs
open Go
theorem OkS.l {a b : Tr} (h : OkS (.alt a b)) : OkS a ∧ OkS b := by
  obtain ⟨⟨h1, h2⟩, h3⟩ := h
  simp only [sz] at h3
  exact ⟨⟨h1, by omega⟩, h2, by omega⟩
theorem OkS.dec {x : Tr} (h : OkS x) : dec (enc x) = x := dec_enc h.1 h.2
theorem OkS.len {x : Tr} (h : OkS x) : (enc x).length ≤ 40000 := by rw [enc_len]; exact h.2
theorem OkS.parts {a b : Tr} (h : OkS (.alt a b)) : partOK (enc (.alt a b)) = true ∧ partA (enc (.alt a b)) = enc a ∧ partB (enc (.alt a b)) = enc b :=
  parts_join (.inr rfl) h.l.1.good h.l.2.good (by rw [enc_len, enc_len]; exact h.2)
theorem okS_of {t : List Nd} (h : SmS t ∧ goodT t = true) : ∃ x, OkS x ∧ enc x = t := by
  obtain ⟨h1, h2, h3, h4⟩ := dec_spec h.1 h.2
  exact ⟨_, ⟨h1, h4⟩, h2⟩
theorem pureL_eTr1 (l : List Tr) : (∀ r ∈ List.map eTr1 l, ∀ a ∈ r, Pure a) = True := by
  have := pure_eTr1 l
  rw [pure_list] at this
  exact this
theorem eTr1_app (l m : List Tr) : List.map eTr1 l ++ List.map eTr1 m = List.map eTr1 (l ++ m) := by simp
theorem mems_len (x : Tr) : (mems x).length ≤ sz x := by
  induction x with
  | alt a b iha ihb => simp only [mems, List.length_append, sz]; omega
  | _ => simp [mems, sz]
noncomputable def k79 : KonO (List Nd) := ⟨fun x => SmS x ∧ goodT x = true, fun x => [(AV.list 5 (List.map eNd x))], 23, 1, fun x => List.map eTr1 (mems (dec x))⟩
theorem i79 : ∀ a b, k79.enc a = k79.enc b → a = b := treeInj2
theorem e79 (t : List Nd) (hd : SmS t ∧ goodT t = true) (q0 : Id) (H0 : Heap) : k79.ora q0 ([(AV.list 5 (List.map eNd t))]) H0 = some (.own (q0 ++ [0]) (List.map eTr1 (mems (dec t))).length, hadd H0 (q0 ++ [0]) (.row true true 23 1 (List.map eTr1 (mems (dec t))))) := k79.eq i79 (t) hd q0 H0
noncomputable def r79 (n : Nat) : KonO (List Nd) := ⟨fun x => k79.dom x ∧ (fun x => x.length) x < n, k79.enc, 23, 1, k79.out⟩
theorem er79 {n : Nat} (t : List Nd) (hd : (SmS t ∧ goodT t = true) ∧ (t.length) < n) (q0 : Id) (H0 : Heap) : (r79 n).ora q0 ([(AV.list 5 (List.map eNd t))]) H0 = some (.own (q0 ++ [0]) (List.map eTr1 (mems (dec t))).length, hadd H0 (q0 ++ [0]) (.row true true 23 1 (List.map eTr1 (mems (dec t))))) := (r79 n).eq i79 (t) hd q0 H0
noncomputable def z79 (n : Nat) : FT := updC (upd s2 73 (r79 n).ora) 200073 fn79

theorem run79 (n : Nat) (t : List Nd) (hd : (SmS t ∧ goodT t = true) ∧ t.length < n + 1) : cwp (z79 n) 200073 [] [(AV.list 5 (List.map eNd t))] [] (fun v H => ∃ id, v = .own id (List.map eTr1 (mems (dec t))).length ∧ H = [[(id, .row true true 23 1 (List.map eTr1 (mems (dec t))))]]) := by
  refine run_fn (fn := fn79) rfl rfl ?_
  obtain ⟨hd, hn⟩ := hd
  obtain ⟨x, hx, rfl⟩ := okS_of hd
  rw [hx.dec]
  have hne := hx.ne
  have hk := lastN_enc x
  by_cases h4 : rk x = 4
  · obtain ⟨a, b, rfl⟩ := rk_alt hx.1 h4
    obtain ⟨h1, h2⟩ := hx.l
    obtain ⟨p1, p2, p3⟩ := hx.parts
    have hl := hx.2
    rw [enc_len] at hn
    simp only [sz] at hn hl
    have da : (SmS (enc a) ∧ goodT (enc a) = true) ∧ (enc a).length < n := ⟨⟨h1.sm, h1.good⟩, by rw [enc_len]; omega⟩
    have db : (SmS (enc b) ∧ goodT (enc b) = true) ∧ (enc b).length < n := ⟨⟨h2.sm, h2.good⟩, by rw [enc_len]; omega⟩
    have dx := h1.dec
    have dy := h2.dec
    have c1 : ((mems a).length + (mems b).length) * 24 ≤ 140737488355328 := by
      have := mems_len a
      have := mems_len b
      omega
    have hs := hx.sm
    have hm : mems (.alt a b) = mems a ++ mems b := rfl
    simp only [fn79_body, c79, D0, SP0, seval, -Int.reduceNatCast', @use_all (z79 n) 69 k76.ora rfl, e76, @use_all (z79 n) 45 k23.ora rfl, e23, @use_all (z79 n) 73 (r79 n).ora rfl, er79, hne, hk, h4, hs, p1, p2, p3, da, db, dx, dy, c1]
    simp only [F1, SF0, SP0, seval, -Int.reduceNatCast', fn79_res, fn79_keep, eTr1_app, hm, List.length_append]
    exact ⟨_, rfl, rfl⟩
  · have hm : mems x = [x] := by cases x <;> first | rfl | exact absurd rfl h4
    simp only [fn79_body, c79, D0, SP0, seval, -Int.reduceNatCast', @use_all (z79 n) 69 k76.ora rfl, e76, @use_all (z79 n) 45 k23.ora rfl, e23, hne, hk, h4, fz, fzd, eTr1, hm]
    simp only [F1, SF0, SP0, seval, -Int.reduceNatCast', fn79_res, fn79_keep, hm, eTr1]
    exact ⟨_, rfl, rfl⟩
theorem ook79 : OraOK Tryz.prog (73 % 100000) k79.ora := oraO_rec (fun x => x.length) (fun a b _ _ h => i79 a b h) fun n h => (r79 (n + 1)).ok (f := 200073) orders (updC_ok (upd_ok2 (f := 73) s2_ok h) ok79) (fun x hd => by simp [r79, k79, PU]) (fun x hd => by dsimp only [r79, k79]; simp only [PU, pureL_eTr1]) (fun x hd => run79 n x hd)

noncomputable def s3 : FT := upd (s2) 73 k79.ora
theorem s3_ok : FTOK Tryz.prog s3 := upd_ok2 (f := 73) (s2_ok) ook79

end Go.Proofs.Abs

set_option maxRecDepth 100000
set_option maxHeartbeats 4000000
namespace Go.Proofs.Abs
open Go
section
variable {ft : FT}
theorem run108 (h108 : ft 86 = some (.code fn108)) (h109 : ft 87 = some (.ora k109.ora)) {t x : Tr} (ht : OkS t) (hx : OkS x) {H : Heap} {id : Id} (hH : hget H id = some (.box [(AV.list 5 (List.map eNd (enc x)))])) (q : Id) :
    cwp ft 86 q [(AV.list 5 (List.map eNd (enc t))), .ref id 1 0 0] H (fun r H2 => r = .bool (decide (t = x)) ∧ H2 = H) := by
  refine run_fn (fn := fn108) h108 rfl ?_
  have hd : (SmS (enc t) ∧ 1 ≤ (enc t).length) ∧ 1 ≤ (enc x).length ∧ (enc x).length ≤ 9223372036854775807 := ⟨⟨ht.sm, ht.ne.1⟩, hx.ne⟩
  have hs := sameT_enc ht hx
  simp only [fn108_body, c108, D0, SP0, seval, -Int.reduceNatCast', @use_all ft 87 k109.ora h109, e109, hd, hs, hH]
  simp only [F1, SF0, SP0, seval, -Int.reduceNatCast', fn108_res, fn108_keep]
theorem run110 (h110 : ft 88 = some (.code fn110)) (h76 : ft 69 = some (.ora k76.ora)) {t : Tr} (ht : OkS t) (H : Heap) (q : Id) :
    cwp ft 88 q [(AV.list 5 (List.map eNd (enc t)))] H (fun r H2 => r = .bool (decide (rk t = 5)) ∧ H2 = H) := by
  refine run_fn (fn := fn110) h110 rfl ?_
  have hn := ht.ne
  have hk := lastN_enc t
  simp only [fn110_body, c110, D0, SP0, seval, -Int.reduceNatCast', @use_all ft 69 k76.ora h76, e76, hn, hk]
  simp only [F1, SF0, SP0, seval, -Int.reduceNatCast', fn110_res, fn110_keep]
theorem run129 (h129 : ft 107 = some (.code fn129)) (h76 : ft 69 = some (.ora k76.ora)) {t : Tr} (ht : OkS t) {H : Heap} {id : Id} {k : Int} (hH : hget H id = some (.box [.int .i64 k])) (q : Id) :
    cwp ft 107 q [(AV.list 5 (List.map eNd (enc t))), .ref id 1 0 0] H (fun r H2 => r = .bool (decide (rk t = k)) ∧ H2 = H) := by
  refine run_fn (fn := fn129) h129 rfl ?_
  have hn := ht.ne
  have hk := lastN_enc t
  simp only [fn129_body, c129, D0, SP0, seval, -Int.reduceNatCast', @use_all ft 69 k76.ora h76, e76, hn, hk, hH]
  simp only [F1, SF0, SP0, seval, -Int.reduceNatCast', fn129_res, fn129_keep]
theorem hget_hset_ne {H : Heap} {i j : Id} (h : ¬ i = j) (o : AObj) : hget (hset H i o) j = hget H j := by
  cases e : hget H i with
  | none =>
    have : hset H i o = H := by
      have fs : ∀ f : Fr, fget f i = none → fset f i o = f := by
        intro f
        induction f with
        | nil => intro _; rfl
        | cons p f ih =>
          obtain ⟨a, b⟩ := p
          intro h'
          by_cases ha : a = i
          · simp [fget, ha] at h'
          · simp only [fget, ha, if_false] at h'
            simp [fset, ha, ih h']
      induction H with
      | nil => rfl
      | cons f r ih =>
        cases e2 : fget f i with
        | some x => simp [hget, e2] at e
        | none => simp only [hget, e2] at e; simp [hset, e2, ih e]
    rw [this]
  | some x =>
    rw [hset_some (C := ⟨H, fun _ => .nilFunc, default, fun _ => True, fun _ _ => False⟩) e j, if_neg h]
theorem run111 (h127 : ft 104 = some (.code fn127)) (h128 : ft 106 = some (.code fn128)) (h111 : ft 89 = some (.code fn111)) (h129 : ft 107 = some (.code fn129)) (h76 : ft 69 = some (.ora k76.ora))
    {H : Heap} {id : Id} {ts : List Tr} (hH : hget H id = some (.row true true 23 1 (List.map eTr1 ts))) (hl : ts.length ≤ 1000000) (hok : ∀ t ∈ ts, OkS t) (k : Int) {q : Id} (hid : ∀ l, ¬ q ++ l = id) :
    cwp ft 89 q [.own id ts.length, .int .i64 k] H (fun r H2 => r = .list 1 (List.map eTr1 (noK k ts)) ∧ ∃ o, H2 = hset H id o) := by
  refine run_fn (fn := fn111) h111 rfl ?_
  have h0 := hid [0]
  have h1 := hid [1]
  have h4 : ¬ q ++ [4] ++ [0] = id := by rw [List.append_assoc]; exact hid _
  simp only [fn111_body, c111, D0, SP0, seval, -Int.reduceNatCast', hH, h0, h1]
  have hH' : hget ([(q ++ [1], AObj.row true true 23 1 []), (q ++ [0], AObj.box [AV.int IntKind.i64 k])] :: H) id = some (.row true true 23 1 (List.map eTr1 ts)) := by simpa [hget, fget, h0, h1] using hH
  refine cg_use (run128 (p := fun t => decide (rk t = k)) (c := 107) h127 h128 hH' hl (by decide) h4 (fun G => hget G (q ++ [0]) = some (.box [.int .i64 k])) ?_ ?_ ?_ ?_ ?_) ?_
  · simp [hget, fget]
  · intro G h; simpa [hget, fget] using h
  · intro G o h; simpa [hget, fget] using h
  · intro G o h; rw [hget_hset_ne (Ne.symm h0)]; exact h
  · intro t ht G hG q'
    exact run129 h129 h76 (hok t ht) hG q'
  rintro v H2 ⟨rfl, o, rfl⟩
  have hr : ts.filter (fun t => !decide (rk t = k)) = noK k ts := by
    unfold noK
    congr 1
    funext t
    simp
  have g0 : fget [(q ++ [1], AObj.row true true 23 1 []), (q ++ [0], AObj.box [AV.int IntKind.i64 k])] id = none := by simp [fget, h0, h1]
  simp only [D0, SP0, seval, -Int.reduceNatCast', hr, g0]
  simp only [F1, SF0, SP0, seval, -Int.reduceNatCast', fn111_res, fn111_keep]
  exact ⟨_, rfl⟩
end
end Go.Proofs.Abs

set_option maxRecDepth 100000
namespace Go.Proofs.Abs
open Go
def joinO (k : Int) (a b : Tr) : Option Tr := if sz a + sz b + 1 ≤ 40000 then some (if k = 3 then .cat a b else .alt a b) else none
def starJ (a : Tr) : Option Tr := if sz a + 1 ≤ 40000 then some (.star a) else none
def cat1 (a b : Tr) : Option Tr := if rk a = 0 ∨ rk b = 0 then some never else if rk a = 1 then some b else if rk b = 1 then some a else joinO 3 a b
def catO (a : Tr) : Tr → Option Tr
  | .cat x y => if rk a = 0 then some never else if rk a = 1 then some (.cat x y) else (catO a x).bind fun c => catO c y
  | b => cat1 a b
def altsO : Tr → List Tr → Option Tr
  | x, [] => some x
  | x, y :: r => (joinO 4 x y).bind fun c => altsO c r
def altLO : List Tr → Option Tr
  | [] => none
  | x :: r => altsO x r
def altO (a b : Tr) : Option Tr := if rk a = 0 then some b else if rk b = 0 then some a else altLO (onceT (mems a ++ mems b))
def star1O (a : Tr) : Option Tr := if rk a = 0 ∨ rk a = 1 then some empty else if rk a = 5 then some a else starJ a
def starO (a : Tr) : Option Tr := if rk a = 4 then (if rk (fullT a) = 4 then starJ (fullT a) else star1O (fullT a)) else star1O a
def encO : Option Tr → List Nd
  | some x => enc x
  | none => []
def resO (o : Option Tr) : AV := .tuple [(AV.list 5 (List.map eNd (encO o))), .bool o.isSome]
noncomputable def catT (a b : List Nd) : Option Tr := if goodT a && goodT b then catO (dec a) (dec b) else none
noncomputable def altT (a b : List Nd) : Option Tr := if goodT a && goodT b then altO (dec a) (dec b) else none
noncomputable def starS (a : List Nd) : Option Tr := if goodT a then starO (dec a) else none
noncomputable def cleanS (a : List Nd) : Option Tr := if goodT a then some (sClean (dec a)) else none
theorem catT_enc {x y : Tr} (hx : OkS x) (hy : OkS y) : catT (enc x) (enc y) = catO x y := by simp [catT, hx.good, hy.good, hx.dec, hy.dec]
theorem altT_enc {x y : Tr} (hx : OkS x) (hy : OkS y) : altT (enc x) (enc y) = altO x y := by simp [altT, hx.good, hy.good, hx.dec, hy.dec]
theorem starS_enc {x : Tr} (hx : OkS x) : starS (enc x) = starO x := by simp [starS, hx.good, hx.dec]
theorem cleanS_enc {x : Tr} (hx : OkS x) : cleanS (enc x) = some (sClean x) := by simp [cleanS, hx.good, hx.dec]
theorem catT_no {a b : List Nd} (h : goodT a = false ∨ goodT b = false) : catT a b = none := by rcases h with h | h <;> simp [catT, h]
theorem altT_no {a b : List Nd} (h : goodT a = false ∨ goodT b = false) : altT a b = none := by rcases h with h | h <;> simp [altT, h]
theorem encO_join {k : Int} (hk : k = 3 ∨ k = 4) {a b : Tr} (ha : OkS a) (hb : OkS b) : pairT k (enc a) (enc b) = encO (joinO k a b) ∧ pairB (enc a) (enc b) = (joinO k a b).isSome := by
  have hB : pairB (enc a) (enc b) = decide (sz a + sz b + 1 ≤ 40000) := by simp [pairB, ha.good, hb.good, enc_len]
  unfold pairT joinO
  rw [hB]
  by_cases h : sz a + sz b + 1 ≤ 40000
  · rcases hk with rfl | rfl <;> simp [h, encO, enc]
  · simp [h, encO]
theorem encO_star {a : Tr} (ha : OkS a) : starTT (enc a) = encO (starJ a) ∧ starB (enc a) = (starJ a).isSome := by
  have hB : starB (enc a) = decide (sz a + 1 ≤ 40000) := by simp [starB, ha.good, enc_len]
  unfold starTT starJ
  rw [hB]
  by_cases h : sz a + 1 ≤ 40000
  · simp [h, encO, enc]
  · simp [h, encO]
theorem ok_joinO {k : Int} {a b c : Tr} (ha : OkS a) (hb : OkS b) (h : joinO k a b = some c) : OkS c := by
  unfold joinO at h
  split at h
  · rename_i hs
    injection h with h
    subst h
    split
    · exact ⟨⟨ha.1, hb.1⟩, hs⟩
    · exact ⟨⟨ha.1, hb.1⟩, hs⟩
  · cases h
theorem okS_never : OkS never := ⟨ok_never, by simp [sz]⟩
theorem okS_empty : OkS empty := ⟨ok_empty, by simp [sz]⟩
theorem OkS.c {a b : Tr} (h : OkS (.cat a b)) : OkS a ∧ OkS b := by
  obtain ⟨⟨h1, h2⟩, h3⟩ := h
  simp only [sz] at h3
  exact ⟨⟨h1, by omega⟩, h2, by omega⟩
theorem OkS.s {a : Tr} (h : OkS (.star a)) : OkS a := by
  obtain ⟨h1, h3⟩ := h
  simp only [sz] at h3
  exact ⟨h1, by omega⟩
theorem OkS.partsC {a b : Tr} (h : OkS (.cat a b)) : partOK (enc (.cat a b)) = true ∧ partA (enc (.cat a b)) = enc a ∧ partB (enc (.cat a b)) = enc b :=
  parts_join (.inl rfl) h.c.1.good h.c.2.good (by rw [enc_len, enc_len]; exact h.2)
theorem ok_cat1 {a b c : Tr} (ha : OkS a) (hb : OkS b) (h : cat1 a b = some c) : OkS c := by
  unfold cat1 at h
  split at h
  · injection h with h; subst h; exact okS_never
  split at h
  · injection h with h; subst h; exact hb
  split at h
  · injection h with h; subst h; exact ha
  exact ok_joinO ha hb h
theorem ok_catO : ∀ {b a c : Tr}, OkS a → OkS b → catO a b = some c → OkS c
  | .leaf n, a, c, ha, hb, h => ok_cat1 ha hb h
  | .alt x y, a, c, ha, hb, h => ok_cat1 ha hb h
  | .star x, a, c, ha, hb, h => ok_cat1 ha hb h
  | .cat x y, a, c, ha, hb, h => by
    simp only [catO] at h
    split at h
    · injection h with h; subst h; exact okS_never
    split at h
    · injection h with h; subst h; exact hb
    · cases e : catO a x with
      | none => rw [e] at h; cases h
      | some d => rw [e] at h; exact ok_catO (ok_catO ha hb.c.1 e) hb.c.2 h
theorem catO_no {a b : Tr} (h : rk b ≠ 3) : catO a b = cat1 a b := by
  cases b with
  | cat => exact absurd rfl h
  | _ => rfl
theorem catO_some : ∀ (b a : Tr), sz a + sz b + 1 ≤ 40000 → catO a b = some (sCat a b)
  | .leaf n, a, h => by
    simp only [catO, cat1, sCat, joinO, h, if_true, rk]
    (repeat' split) <;> first | rfl | simp_all
  | .alt x y, a, h => by
    simp only [catO, cat1, sCat, joinO, h, if_true, rk]
    (repeat' split) <;> first | rfl | simp_all
  | .star x, a, h => by
    simp only [catO, cat1, sCat, joinO, h, if_true, rk]
    (repeat' split) <;> first | rfl | simp_all
  | .cat x y, a, h => by
    simp only [sz] at h
    simp only [catO, sCat]
    have h1 := catO_some x a (by omega)
    have := sz_sCat x a
    have h2 := catO_some y (sCat a x) (by omega)
    rw [h1]
    (repeat' split) <;> first | rfl | exact h2
theorem altsO_some : ∀ (r : List Tr) (x : Tr), sz (r.foldl .alt x) ≤ 40000 → altsO x r = some (r.foldl .alt x)
  | [], x, h => rfl
  | y :: r, x, h => by
    have h1 := h
    rw [List.foldl_cons] at h
    have h3 := sz_foldl_alt r (.alt x y)
    simp only [sz] at h3
    have : joinO 4 x y = some (.alt x y) := by simp [joinO]; omega
    simp only [altsO, this, List.foldl_cons]
    exact altsO_some r _ h
theorem altsO_none : ∀ (r : List Tr) (x : Tr), sz x ≤ 40000 → 40000 < sz (r.foldl .alt x) → altsO x r = none
  | [], x, h, h1 => by simp only [List.foldl_nil] at h1; omega
  | y :: r, x, h, h1 => by
    simp only [altsO]
    by_cases h2 : sz x + sz y + 1 ≤ 40000
    · have : joinO 4 x y = some (.alt x y) := by simp [joinO, h2]
      rw [this]
      exact altsO_none r _ (by simp only [sz]; exact h2) h1
    · have : joinO 4 x y = none := by simp [joinO, h2]
      rw [this]; rfl
theorem ok_altsO : ∀ (r : List Tr) (x : Tr) {c : Tr}, OkS x → (∀ y ∈ r, OkS y) → altsO x r = some c → OkS c
  | [], x, c, hx, _, h => by injection h with h; subst h; exact hx
  | y :: r, x, c, hx, hr, h => by
    simp only [altsO] at h
    cases e : joinO 4 x y with
    | none => rw [e] at h; cases h
    | some d => rw [e] at h; exact ok_altsO r d (ok_joinO hx (hr y (by simp)) e) (fun z hz => hr z (by simp [hz])) h
theorem OkS.mems {x : Tr} (h : OkS x) : ∀ y ∈ mems x, OkS y := fun y hy => ⟨ok_mems x h.1 y hy, by
  have h1 := sumS_mems x
  have h2 : sumS [y] ≤ sumS (Abs.mems x) := sumS_sub (List.singleton_sublist.2 hy)
  simp only [sumS, List.map_cons, List.map_nil, List.sum_cons, List.sum_nil] at h2
  have := h.2
  simp only [sumS] at h1
  omega⟩
theorem ok_altO {a b c : Tr} (ha : OkS a) (hb : OkS b) (h : altO a b = some c) : OkS c := by
  unfold altO at h
  split at h
  · injection h with h; subst h; exact hb
  split at h
  · injection h with h; subst h; exact ha
  have hm : ∀ x ∈ onceT (mems a ++ mems b), OkS x := fun x hx => by
    rcases List.mem_append.1 ((onceT_sub _).subset hx) with h | h
    · exact ha.mems x h
    · exact hb.mems x h
  cases e : onceT (mems a ++ mems b) with
  | nil => rw [e] at h; cases h
  | cons x r => rw [e] at h hm; exact ok_altsO r x (hm x (by simp)) (fun y hy => hm y (by simp [hy])) h
theorem altO_some {a b : Tr} (h : sz a + sz b + 1 ≤ 40000) : altO a b = some (sAlt a b) := by
  have hs := sz_sAlt a b
  unfold altO sAlt at *
  split
  · rfl
  split
  · rfl
  have hne := onceT_ne (l := mems a ++ mems b) (by simp [mems_ne])
  rename_i h1 h2
  rw [if_neg h1, if_neg h2] at hs
  cases e : onceT (mems a ++ mems b) with
  | nil => exact absurd e hne
  | cons x r =>
    rw [e] at hs
    exact altsO_some r x (by simp only [altL] at hs; omega)
theorem star1O_some {a : Tr} (h : sz a + 1 ≤ 40000) : star1O a = some (star1 a) := by
  unfold star1O star1 starJ
  (repeat' split) <;> first | rfl | simp_all
theorem starO_some {a : Tr} (h : sz a + 1 ≤ 40000) : starO a = some (sStar a) := by
  have hf := sz_fullT a
  unfold starO sStar
  rw [star1O_some h, star1O_some (a := fullT a) (by omega)]
  simp only [starJ, show sz (fullT a) + 1 ≤ 40000 by omega, if_true]
  (repeat' split) <;> rfl
theorem OkS.full {a : Tr} (h : OkS a) : OkS (fullT a) := ⟨ok_fullT h.1, by have := sz_fullT a; have := h.2; omega⟩
theorem ok_star1O {a c : Tr} (ha : OkS a) (h : star1O a = some c) : OkS c := by
  unfold star1O at h
  split at h
  · injection h with h; subst h; exact okS_empty
  split at h
  · injection h with h; subst h; exact ha
  unfold starJ at h
  split at h
  · rename_i hs; injection h with h; subst h; exact ⟨ha.1, hs⟩
  · cases h
theorem ok_starO {a c : Tr} (ha : OkS a) (h : starO a = some c) : OkS c := by
  unfold starO at h
  split at h
  · split at h
    · unfold starJ at h
      split at h
      · rename_i hs; injection h with h; subst h; exact ⟨ha.full.1, hs⟩
      · cases h
    · exact ok_star1O ha.full h
  · exact ok_star1O ha h
theorem pure_resO (o : Option Tr) : Pure (resO o) = True := by simp [resO, pure_tuple, pure_treeL, pure_bool]
theorem encO_some {o : Option Tr} {x : Tr} (h : o = some x) : encO o = enc x := by rw [h]; rfl
end Go.Proofs.Abs

set_option maxRecDepth 100000
set_option maxHeartbeats 4000000
namespace Go.Proofs.Abs
open Go
theorem leafT0 : leafT 0 = enc never := rfl
theorem leafT1 : leafT 1 = enc empty := rfl
noncomputable def k38 : Kon (List Nd × List Nd) := ⟨fun x => (SmS x.1 ∧ SmS x.2) ∧ x.1.length ≤ 1000000 ∧ x.2.length ≤ 1000000, fun x => [(AV.list 5 (List.map eNd x.1)), (AV.list 5 (List.map eNd x.2))], fun x => resO (catT x.1 x.2)⟩
theorem i38 : ∀ a b, k38.enc a = k38.enc b → a = b := tree2Inj
theorem e38 (a : List Nd) (b : List Nd) (hd : (SmS a ∧ SmS b) ∧ a.length ≤ 1000000 ∧ b.length ≤ 1000000) (q0 : Id) (H0 : Heap) : k38.ora q0 ([(AV.list 5 (List.map eNd a)), (AV.list 5 (List.map eNd b))]) H0 = some (resO (catT a b), H0) := k38.eq i38 (a, b) hd q0 H0
noncomputable def r38 (n : Nat) : Kon (List Nd × List Nd) := ⟨fun x => k38.dom x ∧ (fun x => x.2.length) x < n, k38.enc, k38.out⟩
theorem er38 {n : Nat} (a : List Nd) (b : List Nd) (hd : ((SmS a ∧ SmS b) ∧ a.length ≤ 1000000 ∧ b.length ≤ 1000000) ∧ (b.length) < n) (q0 : Id) (H0 : Heap) : (r38 n).ora q0 ([(AV.list 5 (List.map eNd a)), (AV.list 5 (List.map eNd b))]) H0 = some (resO (catT a b), H0) := (r38 n).eq i38 (a, b) hd q0 H0
noncomputable def z38 (n : Nat) : FT := updC (upd s3 47 (r38 n).ora) 200047 fn38

theorem run38 (n : Nat) (a b : List Nd) (hd : ((SmS a ∧ SmS b) ∧ a.length ≤ 1000000 ∧ b.length ≤ 1000000) ∧ b.length < n + 1) : cwp (z38 n) 200047 [] [(AV.list 5 (List.map eNd a)), (AV.list 5 (List.map eNd b))] [] (fun r H => r = resO (catT a b) ∧ H = []) := by
  refine run_fn (fn := fn38) rfl rfl ?_
  obtain ⟨⟨⟨sa, sb⟩, la, lb⟩, hn⟩ := hd
  have wa := sa.wf
  have wb := sb.wf
  by_cases g1 : goodT a = true
  case neg =>
    have g1' : goodT a = false := by simpa using g1
    have hr : catT a b = none := catT_no (.inl g1')
    simp only [fn38_body, c38, D0, SP0, seval, -Int.reduceNatCast', @use_all (z38 n) 25 k29.ora rfl, e29, wa, g1']
    simp only [F1, SF0, SP0, seval, -Int.reduceNatCast', fn38_res, fn38_keep, fz, fzd, fzd.fzcells, hr, resO, encO, Option.isSome_none]
  by_cases g2 : goodT b = true
  case neg =>
    have g2' : goodT b = false := by simpa using g2
    have hr : catT a b = none := catT_no (.inr g2')
    simp only [fn38_body, c38, D0, SP0, seval, -Int.reduceNatCast', @use_all (z38 n) 25 k29.ora rfl, e29, wa, wb, g1, g2']
    simp only [F1, SF0, SP0, seval, -Int.reduceNatCast', fn38_res, fn38_keep, fz, fzd, fzd.fzcells, hr, resO, encO, Option.isSome_none]
  obtain ⟨x, hx, rfl⟩ := okS_of ⟨sa, g1⟩
  obtain ⟨y, hy, rfl⟩ := okS_of ⟨sb, g2⟩
  rw [catT_enc hx hy]
  have nx := hx.ne
  have ny := hy.ne
  have lx := hx.len
  have ly := hy.len
  have kx := lastN_enc x
  have ky := lastN_enc y
  by_cases n1 : rk x = 0
  case pos =>
    have hr : catO x y = some never := by cases y <;> simp [catO, cat1, n1]
    simp only [fn38_body, c38, D0, SP0, seval, -Int.reduceNatCast', @use_all (z38 n) 25 k29.ora rfl, e29, @use_all (z38 n) 69 k76.ora rfl, e76, @use_all (z38 n) 46 k34.ora rfl, e34, wa, wb, g1, g2, nx, ny, kx, ky, n1, leafT0]
    simp only [F1, SF0, SP0, seval, -Int.reduceNatCast', fn38_res, fn38_keep, fz, fzd, fzd.fzcells, hr, resO, encO, Option.isSome_some]
  by_cases n2 : rk y = 0
  case pos =>
    have hr : catO x y = some never := by rw [catO_no (by omega)]; simp [cat1, n2]
    simp only [fn38_body, c38, D0, SP0, seval, -Int.reduceNatCast', @use_all (z38 n) 25 k29.ora rfl, e29, @use_all (z38 n) 69 k76.ora rfl, e76, @use_all (z38 n) 46 k34.ora rfl, e34, wa, wb, g1, g2, nx, ny, kx, ky, n1, n2, leafT0]
    simp only [F1, SF0, SP0, seval, -Int.reduceNatCast', fn38_res, fn38_keep, fz, fzd, fzd.fzcells, hr, resO, encO, Option.isSome_some]
  by_cases e1 : rk x = 1
  case pos =>
    have hr : catO x y = some y := by cases y <;> simp_all [catO, cat1]
    simp only [fn38_body, c38, D0, SP0, seval, -Int.reduceNatCast', @use_all (z38 n) 25 k29.ora rfl, e29, @use_all (z38 n) 69 k76.ora rfl, e76, @use_all (z38 n) 70 k77.ora rfl, e77, wa, wb, g1, g2, nx, ny, lx, ly, kx, ky, n1, n2, e1]
    simp only [F1, SF0, SP0, seval, -Int.reduceNatCast', fn38_res, fn38_keep, fz, fzd, fzd.fzcells, hr, resO, encO, Option.isSome_some]
  by_cases e2 : rk y = 1
  case pos =>
    have hr : catO x y = some x := by rw [catO_no (by omega)]; simp [cat1, n1, n2, e1, e2]
    simp only [fn38_body, c38, D0, SP0, seval, -Int.reduceNatCast', @use_all (z38 n) 25 k29.ora rfl, e29, @use_all (z38 n) 69 k76.ora rfl, e76, @use_all (z38 n) 70 k77.ora rfl, e77, wa, wb, g1, g2, nx, ny, lx, ly, kx, ky, n1, n2, e1, e2]
    simp only [F1, SF0, SP0, seval, -Int.reduceNatCast', fn38_res, fn38_keep, fz, fzd, fzd.fzcells, hr, resO, encO, Option.isSome_some]
  by_cases c2 : rk y = 3
  case neg =>
    have hr : catO x y = joinO 3 x y := by rw [catO_no c2]; simp [cat1, n1, n2, e1, e2]
    obtain ⟨j1, j2⟩ := encO_join (k := 3) (.inl rfl) hx hy
    have hd : (SmS (enc x) ∧ SmS (enc y)) ∧ (enc x).length ≤ 1000000 ∧ (enc y).length ≤ 1000000 := ⟨⟨sa, sb⟩, la, lb⟩
    simp only [fn38_body, c38, D0, SP0, seval, -Int.reduceNatCast', @use_all (z38 n) 25 k29.ora rfl, e29, @use_all (z38 n) 69 k76.ora rfl, e76, @use_all (z38 n) 71 k19.ora rfl, e19, wa, wb, g1, g2, nx, ny, kx, ky, n1, n2, e1, e2, c2, hd, j1, j2]
    simp only [F1, SF0, SP0, seval, -Int.reduceNatCast', fn38_res, fn38_keep, fz, fzd, fzd.fzcells, hr, resO]
  obtain ⟨u, v, rfl⟩ := rk_cat hy.1 c2
  obtain ⟨h1, h2⟩ := hy.c
  obtain ⟨p1, p2, p3⟩ := hy.partsC
  have hl := hy.2
  rw [enc_len] at hn
  simp only [sz] at hn hl
  have hr : catO x (.cat u v) = (catO x u).bind fun c => catO c v := by simp [catO, n1, e1]
  have du : ((SmS (enc x) ∧ SmS (enc u)) ∧ (enc x).length ≤ 1000000 ∧ (enc u).length ≤ 1000000) ∧ (enc u).length < n := ⟨⟨⟨sa, h1.sm⟩, la, by have := h1.len; omega⟩, by rw [enc_len]; omega⟩
  have eu := catT_enc hx h1
  cases ec : catO x u with
  | none =>
    simp only [fn38_body, c38, D0, SP0, seval, -Int.reduceNatCast', @use_all (z38 n) 25 k29.ora rfl, e29, @use_all (z38 n) 69 k76.ora rfl, e76, @use_all (z38 n) 45 k23.ora rfl, e23, @use_all (z38 n) 47 (r38 n).ora rfl, er38, wa, wb, sb, g1, g2, nx, ny, kx, ky, n1, n2, e1, e2, c2, p1, p2, p3, du, eu, ec, resO, encO, Option.isSome_none]
    simp only [F1, SF0, SP0, seval, -Int.reduceNatCast', fn38_res, fn38_keep, fz, fzd, fzd.fzcells, hr, ec, Option.bind_none, resO, encO, Option.isSome_none]
  | some c =>
    have hc := ok_catO hx h1 ec
    have ev := catT_enc hc h2
    have dv : ((SmS (enc c) ∧ SmS (enc v)) ∧ (enc c).length ≤ 1000000 ∧ (enc v).length ≤ 1000000) ∧ (enc v).length < n := ⟨⟨⟨hc.sm, h2.sm⟩, by have := hc.len; omega, by have := h2.len; omega⟩, by rw [enc_len]; omega⟩
    simp only [fn38_body, c38, D0, SP0, seval, -Int.reduceNatCast', @use_all (z38 n) 25 k29.ora rfl, e29, @use_all (z38 n) 69 k76.ora rfl, e76, @use_all (z38 n) 45 k23.ora rfl, e23, @use_all (z38 n) 47 (r38 n).ora rfl, er38, wa, wb, sb, g1, g2, nx, ny, kx, ky, n1, n2, e1, e2, c2, p1, p2, p3, du, dv, eu, ev, ec, resO, encO, Option.isSome_some]
    simp only [F1, SF0, SP0, seval, -Int.reduceNatCast', fn38_res, fn38_keep, fz, fzd, fzd.fzcells, hr, ec, Option.bind_some, resO]
theorem ook38 : OraOK Tryz.prog (47 % 100000) k38.ora := ora_rec (fun x => x.2.length) (fun a b _ _ h => i38 a b h) fun n h => (r38 (n + 1)).ok (f := 200047) orders (updC_ok (upd_ok2 (f := 47) s3_ok h) ok38) (fun x hd => by simp [r38, k38, PU]) (fun x hd => by simp [r38, k38, PU, pure_resO]) (fun x hd => run38 n x.1 x.2 hd)

noncomputable def s4 : FT := upd (s3) 47 k38.ora
theorem s4_ok : FTOK Tryz.prog s4 := upd_ok2 (f := 47) (s3_ok) ook38

end Go.Proofs.Abs

set_option maxRecDepth 100000
set_option maxHeartbeats 4000000
namespace Go.Proofs.Abs
open Go
theorem take_snocT {l : List Tr} {j : Nat} (h : j < l.length) : l.take (j + 1) = l.take j ++ [l.getD j default] := by
  rw [List.take_succ, List.getD_eq_getElem?_getD, List.getElem?_eq_getElem h]; rfl
theorem dedup_snoc (l : List Tr) (x : Tr) : dedup (l ++ [x]) = if x ∈ dedup l then dedup l else dedup l ++ [x] := by
  have e : dedup (l ++ [x]) = (fun out t => if t ∈ out then out else out ++ [t]) (dedup l) x := by unfold dedup; rw [List.foldl_append]; rfl
  rw [e]
theorem dedup_len (l : List Tr) : (dedup l).length ≤ l.length := (dedup_sub l).length_le
theorem any_eq (l : List Tr) (x : Tr) : l.any (fun t => decide (t = x)) = decide (x ∈ l) := by
  rw [Bool.eq_iff_iff, List.any_eq_true, decide_eq_true_eq]
  constructor
  · rintro ⟨t, ht, h⟩
    rw [decide_eq_true_eq] at h
    rw [← h]; exact ht
  · intro h; exact ⟨x, h, by simp⟩
theorem run78 (l : List Tr) (ho : ∀ x ∈ l, OkS x) (hl : l.length ≤ 100000) : cwp s4 72 [] [(AV.list 1 (List.map eTr1 l))] [] (fun r H => r = (AV.list 1 (List.map eTr1 (onceT l))) ∧ H = []) := by
  refine run_fn (fn := fn78) rfl rfl ?_
  simp only [fn78_body, c78, D0, SP0, seval, -Int.reduceNatCast']
  refine lg_rule (fun j e H => e = [(0, (AV.list 1 (List.map eTr1 l))), (2, .own [0] 0), (3, .own [1] (dedup (l.take j)).length), (6, (AV.list 1 (List.map eTr1 l))), (7, .int .i64 l.length), (8, .int .i64 j)] ∧ H = [[([1], .row true true 23 1 (List.map eTr1 (dedup (l.take j)))), ([0], .row true true 23 1 [])]] ∧ j ≤ l.length) l.length ?_ ?_
  · exact ⟨rfl, rfl, by simp⟩
  rintro j e H ⟨rfl, rfl, hj⟩
  simp only [D0, SP0, seval, -Int.reduceNatCast']
  by_cases h : j < l.length
  · have h' : (j : Int) < (l.length : Int) := by omega
    have hp := wrapp (j := j) (by omega)
    have hg := map_get (f := eTr1) h default
    have hok := ho _ (getD_memT h)
    have hsn := dedup_snoc (l.take j) (l.getD j default)
    rw [← take_snocT h] at hsn
    have hs : ∀ t ∈ dedup (l.take j), OkS t := fun t ht => ho t (List.mem_of_mem_take ((dedup_sub _).subset ht))
    have hlen : (dedup (l.take j)).length ≤ 100000 := by have := dedup_len (l.take j); simp at this; omega
    generalize l.getD j default = x at hg hok hsn
    generalize dedup (l.take j) = D at hsn hs hlen
    simp only [eTr1] at hg
    simp only [D0, SP0, seval, -Int.reduceNatCast', h', hg, Int.natCast_nonneg, Int.toNat_natCast]
    refine cg_use (run107 (p := fun t => decide (t = x)) (c := 86) (ts := D) (wr := true) (fl := true) (el := 23) rfl rfl rfl (by omega) (by decide) (fun t ht q => run108 rfl rfl (hs t ht) hok (by simp [hget, fget]) q) _) ?_
    rintro v H2 ⟨rfl, rfl⟩
    rw [any_eq]
    by_cases hm : x ∈ D
    · rw [if_pos hm] at hsn
      simp only [D0, SP0, seval, -Int.reduceNatCast', hm, hp]
      simp only [F1, SF0, SP0, seval, -Int.reduceNatCast', hsn]
      exact ⟨h, by omega⟩
    · rw [if_neg hm] at hsn
      have hc : (D.length + 1) * 24 ≤ 140737488355328 := by omega
      have he : List.map eTr1 D ++ [[AV.list 5 (List.map eNd (enc x))]] = List.map eTr1 (D ++ [x]) := by simp [eTr1]
      simp only [D0, SP0, seval, -Int.reduceNatCast', hm, hp, hc, fz, fzd, he]
      simp only [F1, SF0, SP0, seval, -Int.reduceNatCast', hsn, List.length_append]
      exact ⟨h, by omega⟩
  · have h' : ¬ (j : Int) < (l.length : Int) := by omega
    have hj2 : j = l.length := by omega
    subst hj2
    simp only [D0, SP0, seval, -Int.reduceNatCast', h', decide_false, List.take_length]
    refine .inr ⟨by simp, ?_⟩
    have hs : ∀ t ∈ dedup l, OkS t := fun t ht => ho t ((dedup_sub _).subset ht)
    have hlen : (dedup l).length ≤ 100000 := by have := dedup_len l; omega
    have ho : onceT l = if (dedup l).any (fun t => decide (rk t = 5)) then noK 1 (dedup l) else dedup l := rfl
    generalize dedup l = D at hs hlen ho
    refine cg_use (run107 (p := fun t => decide (rk t = 5)) (c := 88) (ts := D) (wr := true) (fl := true) (el := 23) rfl rfl rfl (by omega) (by decide) (fun t ht q => run110 rfl rfl (hs t ht) _ q) _) ?_
    rintro v H2 ⟨rfl, rfl⟩
    by_cases ha : D.any (fun t => decide (rk t = 5)) = true
    · rw [if_pos ha] at ho
      simp only [D0, SP0, seval, -Int.reduceNatCast', ha]
      refine cg_use (run111 (ts := D) (id := [1]) rfl rfl rfl rfl rfl rfl (by omega) hs 1 ?_) ?_
      · intro l e; simp at e
      rintro v H2 ⟨rfl, o, rfl⟩
      simp only [D0, SP0, seval, -Int.reduceNatCast']
      simp only [F1, SF0, SP0, seval, -Int.reduceNatCast', fn78_res, fn78_keep, ho]
    · have ha' : D.any (fun t => decide (rk t = 5)) = false := by simpa using ha
      rw [if_neg ha] at ho
      simp only [D0, SP0, seval, -Int.reduceNatCast', ha']
      simp only [F1, SF0, SP0, seval, -Int.reduceNatCast', fn78_res, fn78_keep, ho, fz, fzd, List.length_map]
noncomputable def k78 : Kon (List Tr) := ⟨fun x => (∀ t ∈ x, OkS t) ∧ x.length ≤ 100000, fun x => [(AV.list 1 (List.map eTr1 x))], fun x => (AV.list 1 (List.map eTr1 (onceT x)))⟩
theorem e78 (l : List Tr) (hd : (∀ t ∈ l, OkS t) ∧ l.length ≤ 100000) (q0 : Id) (H0 : Heap) : k78.ora q0 ([(AV.list 1 (List.map eTr1 l))]) H0 = some ((AV.list 1 (List.map eTr1 (onceT l))), H0) := k78.eqD (by dsimp only [k78]; intro l m hl hm h; simp only [List.cons.injEq, AV.list.injEq, and_true, true_and] at h; exact eTr1_inj hl.1 hm.1 h) (l) hd q0 H0
theorem ook78 : OraOK Tryz.prog (72 % 100000) k78.ora := k78.ok orders s4_ok (fun x hd => by simp [k78, PU, pure_eTr1]) (fun x hd => by simp [k78, PU, pure_eTr1]) (fun x hd => run78 x hd.1 hd.2)

noncomputable def s5 : FT := upd (s4) 72 k78.ora
theorem s5_ok : FTOK Tryz.prog s5 := upd_ok2 (f := 72) (s4_ok) ook78

end Go.Proofs.Abs

set_option maxRecDepth 100000
set_option maxHeartbeats 4000000
namespace Go.Proofs.Abs
open Go
theorem once_ok {x y : Tr} (hx : OkS x) (hy : OkS y) : ∀ t ∈ onceT (mems x ++ mems y), OkS t := fun t ht => by
  rcases List.mem_append.1 ((onceT_sub _).subset ht) with h | h
  · exact hx.mems t h
  · exact hy.mems t h
theorem altsO_step {c y : Tr} {r : List Tr} {j : Nat} (h : j < r.length) (hy : r.getD j default = y) : altsO c (r.drop j) = (joinO 4 c y).bind fun d => altsO d (r.drop (j + 1)) := by
  rw [List.drop_eq_getElem_cons h]
  have : r[j] = y := by rw [← hy, List.getD_eq_getElem?_getD, List.getElem?_eq_getElem h]; rfl
  rw [this]; rfl
theorem run39 (a b : List Nd) (sa : SmS a) (sb : SmS b) (la : a.length ≤ 1000000) (lb : b.length ≤ 1000000) : cwp s5 49 [] [(AV.list 5 (List.map eNd a)), (AV.list 5 (List.map eNd b))] [] (fun r H => r = resO (altT a b) ∧ H = []) := by
  refine run_fn (fn := fn39) rfl rfl ?_
  have wa := sa.wf
  have wb := sb.wf
  by_cases g1 : goodT a = true
  case neg =>
    have g1' : goodT a = false := by simpa using g1
    have hr : altT a b = none := altT_no (.inl g1')
    simp only [fn39_body, c39, D0, SP0, seval, -Int.reduceNatCast', @use_all s5 25 k29.ora rfl, e29, wa, g1']
    simp only [F1, SF0, SP0, seval, -Int.reduceNatCast', fn39_res, fn39_keep, fz, fzd, fzd.fzcells, hr, resO, encO, Option.isSome_none]
  by_cases g2 : goodT b = true
  case neg =>
    have g2' : goodT b = false := by simpa using g2
    have hr : altT a b = none := altT_no (.inr g2')
    simp only [fn39_body, c39, D0, SP0, seval, -Int.reduceNatCast', @use_all s5 25 k29.ora rfl, e29, wa, wb, g1, g2']
    simp only [F1, SF0, SP0, seval, -Int.reduceNatCast', fn39_res, fn39_keep, fz, fzd, fzd.fzcells, hr, resO, encO, Option.isSome_none]
  obtain ⟨x, hx, rfl⟩ := okS_of ⟨sa, g1⟩
  obtain ⟨y, hy, rfl⟩ := okS_of ⟨sb, g2⟩
  rw [altT_enc hx hy]
  have nx := hx.ne
  have ny := hy.ne
  have lx := hx.len
  have ly := hy.len
  have kx := lastN_enc x
  have ky := lastN_enc y
  by_cases n1 : rk x = 0
  case pos =>
    have hr : altO x y = some y := by simp [altO, n1]
    simp only [fn39_body, c39, D0, SP0, seval, -Int.reduceNatCast', @use_all s5 25 k29.ora rfl, e29, @use_all s5 69 k76.ora rfl, e76, @use_all s5 70 k77.ora rfl, e77, wa, wb, g1, g2, nx, ny, kx, ky, n1, ly]
    simp only [F1, SF0, SP0, seval, -Int.reduceNatCast', fn39_res, fn39_keep, fz, fzd, fzd.fzcells, hr, resO, encO, Option.isSome_some]
  by_cases n2 : rk y = 0
  case pos =>
    have hr : altO x y = some x := by simp [altO, n1, n2]
    simp only [fn39_body, c39, D0, SP0, seval, -Int.reduceNatCast', @use_all s5 25 k29.ora rfl, e29, @use_all s5 69 k76.ora rfl, e76, @use_all s5 70 k77.ora rfl, e77, wa, wb, g1, g2, nx, ny, kx, ky, n1, n2, lx]
    simp only [F1, SF0, SP0, seval, -Int.reduceNatCast', fn39_res, fn39_keep, fz, fzd, fzd.fzcells, hr, resO, encO, Option.isSome_some]
  have hr : altO x y = altLO (onceT (mems x ++ mems y)) := by simp [altO, n1, n2]
  have hok := once_ok hx hy
  have hne := onceT_ne (l := mems x ++ mems y) (by simp [mems_ne])
  have dx : SmS (enc x) ∧ goodT (enc x) = true := ⟨sa, g1⟩
  have dy : SmS (enc y) ∧ goodT (enc y) = true := ⟨sb, g2⟩
  have ex := hx.dec
  have ey := hy.dec
  have m1 := mems_len x
  have m2 := mems_len y
  have z1 := hx.2
  have z2 := hy.2
  have hc : ((mems x).length + (mems y).length) * 24 ≤ 140737488355328 := by omega
  have dl : (∀ t ∈ mems x ++ mems y, OkS t) ∧ (mems x ++ mems y).length ≤ 100000 := ⟨fun t ht => by
    rcases List.mem_append.1 ht with h | h
    · exact hx.mems t h
    · exact hy.mems t h, by simp only [List.length_append]; omega⟩
  have hlen : (onceT (mems x ++ mems y)).length ≤ 80000 := by
    have := (onceT_sub (mems x ++ mems y)).length_le
    simp only [List.length_append] at this
    omega
  rw [hr]
  have e78' := e78 (mems x ++ mems y) dl
  clear hr dl
  generalize onceT (mems x ++ mems y) = L at hok hne hlen e78'
  cases L with
  | nil => exact absurd rfl hne
  | cons x0 r =>
    have h0 := hok x0 (by simp)
    have hrr : ∀ t ∈ r, OkS t := fun t ht => hok t (by simp [ht])
    have hz : (0 : Int) ≤ 1 := by decide
    have htk : List.take r.length (List.map eTr1 r) = List.map eTr1 r := List.take_of_length_le (by simp)
    have hl : r.length ≤ 80000 := by simp at hlen; omega
    simp only [fn39_body, c39, D0, SP0, seval, -Int.reduceNatCast', @use_all s5 25 k29.ora rfl, e29, @use_all s5 69 k76.ora rfl, e76, @use_all s5 73 k79.ora rfl, e79, @use_all s5 72 k78.ora rfl, e78', wa, wb, g1, g2, nx, ny, kx, ky, n1, n2, dx, dy, ex, ey, hc, fz, fzd, eTr1_app, eTr1, Int.le_refl, Int.reduceToNat, hz, htk, Nat.le_add_left, Nat.le_refl, List.length_append]
    refine lg_rule (fun j e H => ∃ c, e = [(0, (AV.list 5 (List.map eNd (enc x)))), (1, (AV.list 5 (List.map eNd (enc y)))), (4, .own [0] 0), (5, .bool false), (6, .list 1 ([(AV.list 5 (List.map eNd (enc x0)))] :: List.map eTr1 r)), (7, (AV.list 5 (List.map eNd (enc c)))), (8, .bool true), (40, (AV.list 1 (List.map eTr1 r))), (41, .int .i64 r.length), (42, .int .i64 j)] ∧ (∃ o1 o2 o3, H = [[([20, 0], o1), ([18, 0], o2), ([0], o3)]]) ∧ j ≤ r.length ∧ OkS c ∧ altsO x0 r = altsO c (r.drop j)) r.length ?_ ?_
    · exact ⟨x0, rfl, ⟨_, _, _, rfl⟩, by simp, h0, rfl⟩
    rintro j e H ⟨c, rfl, ⟨o1, o2, o3, rfl⟩, hj, hcc, hO⟩
    simp only [D0, SP0, seval, -Int.reduceNatCast']
    by_cases h : j < r.length
    · have h' : (j : Int) < (r.length : Int) := by omega
      have hp := wrapp (j := j) (by omega)
      have hg := map_get (f := eTr1) h default
      have hy := hrr _ (getD_memT h)
      have hst := altsO_step (c := c) h rfl
      generalize r.getD j default = y' at hg hy hst
      simp only [eTr1] at hg
      obtain ⟨j1, j2⟩ := encO_join (k := 4) (.inr rfl) hcc hy
      have hd : (SmS (enc c) ∧ SmS (enc y')) ∧ (enc c).length ≤ 1000000 ∧ (enc y').length ≤ 1000000 := ⟨⟨hcc.sm, hy.sm⟩, by have := hcc.len; omega, by have := hy.len; omega⟩
      cases ej : joinO 4 c y' with
      | none =>
        have hn : altLO (x0 :: r) = none := by rw [altLO, hO, hst, ej]; rfl
        simp only [D0, SP0, seval, -Int.reduceNatCast', @use_all s5 62 k20.ora rfl, e20, h', hg, hd, j1, j2, ej, encO, Option.isSome_none, Int.natCast_nonneg, Int.toNat_natCast]
        simp only [F1, SF0, SP0, seval, -Int.reduceNatCast', fn39_res, fn39_keep, fz, fzd, fzd.fzcells, hn, resO, encO, Option.isSome_none]
      | some d =>
        have hdo := ok_joinO hcc hy ej
        rw [ej] at hst
        simp only [D0, SP0, seval, -Int.reduceNatCast', @use_all s5 62 k20.ora rfl, e20, h', hg, hd, j1, j2, ej, encO, Option.isSome_some, hp, Int.natCast_nonneg, Int.toNat_natCast]
        simp only [F1, SF0, SP0, seval, -Int.reduceNatCast']
        exact ⟨h, d, rfl, ⟨_, _, _, rfl, rfl, rfl⟩, by omega, hdo, by rw [hO, hst]; rfl⟩
    · have h' : ¬ (j : Int) < (r.length : Int) := by omega
      have hj2 : j = r.length := by omega
      subst hj2
      rw [List.drop_length] at hO
      have hn : altLO (x0 :: r) = some c := hO
      simp only [D0, SP0, seval, -Int.reduceNatCast', h', decide_false]
      refine .inr ⟨by simp, ?_⟩
      simp only [F1, SF0, SP0, seval, -Int.reduceNatCast', fn39_res, fn39_keep, fz, fzd, fzd.fzcells, hn, resO, encO, Option.isSome_some]
noncomputable def k39 : Kon (List Nd × List Nd) := ⟨fun x => (SmS x.1 ∧ SmS x.2) ∧ x.1.length ≤ 1000000 ∧ x.2.length ≤ 1000000, fun x => [(AV.list 5 (List.map eNd x.1)), (AV.list 5 (List.map eNd x.2))], fun x => resO (altT x.1 x.2)⟩
theorem e39 (a : List Nd) (b : List Nd) (hd : (SmS a ∧ SmS b) ∧ a.length ≤ 1000000 ∧ b.length ≤ 1000000) (q0 : Id) (H0 : Heap) : k39.ora q0 ([(AV.list 5 (List.map eNd a)), (AV.list 5 (List.map eNd b))]) H0 = some (resO (altT a b), H0) := k39.eq (tree2Inj) (a, b) hd q0 H0
theorem ook39 : OraOK Tryz.prog (49 % 100000) k39.ora := k39.ok orders s5_ok (fun x hd => by simp [k39, PU]) (fun x hd => by simp [k39, PU, pure_resO]) (fun x hd => run39 x.1 x.2 hd.1.1 hd.1.2 hd.2.1 hd.2.2)

noncomputable def s6 : FT := upd (s5) 49 k39.ora
theorem s6_ok : FTOK Tryz.prog s6 := upd_ok2 (f := 49) (s5_ok) ook39

end Go.Proofs.Abs

set_option maxRecDepth 100000
set_option maxHeartbeats 4000000
namespace Go.Proofs.Abs
open Go
theorem sfold_step {c y : Tr} {r : List Tr} {j : Nat} (h : j < r.length) (hy : r.getD j default = y) : (r.drop j).foldl sAlt c = (r.drop (j + 1)).foldl sAlt (sAlt c y) := by
  rw [List.drop_eq_getElem_cons h]
  have : r[j] = y := by rw [← hy, List.getD_eq_getElem?_getD, List.getElem?_eq_getElem h]; rfl
  rw [this]; rfl
noncomputable def s7 : FT := s6
theorem s7_ok : FTOK Tryz.prog s7 := s6_ok

noncomputable def s8 : FT := s7
theorem s8_ok : FTOK Tryz.prog s8 := s7_ok

end Go.Proofs.Abs

set_option maxRecDepth 100000
namespace Go.Proofs.Abs
open Go
def subs : Tr → List Tr
  | .leaf n => [.leaf n]
  | .cat a b => subs a ++ subs b ++ [.cat a b]
  | .alt a b => subs a ++ subs b ++ [.alt a b]
  | .star a => subs a ++ [.star a]
theorem subs_len : ∀ x, (subs x).length = sz x
  | .leaf n => rfl
  | .cat a b => by simp only [subs, sz, List.length_append, subs_len a, subs_len b, List.length_cons, List.length_nil]
  | .alt a b => by simp only [subs, sz, List.length_append, subs_len a, subs_len b, List.length_cons, List.length_nil]
  | .star a => by simp only [subs, sz, List.length_append, subs_len a, List.length_cons, List.length_nil]
theorem subs_sz : ∀ x, ∀ y ∈ subs x, sz y ≤ sz x
  | .leaf n, y, h => by simp only [subs, List.mem_singleton] at h; subst h; exact Nat.le_refl _
  | .cat a b, y, h => by
    simp only [subs, List.mem_append, List.mem_singleton] at h
    rcases h with (h | h) | h
    · have := subs_sz a y h; simp only [sz]; omega
    · have := subs_sz b y h; simp only [sz]; omega
    · subst h; exact Nat.le_refl _
  | .alt a b, y, h => by
    simp only [subs, List.mem_append, List.mem_singleton] at h
    rcases h with (h | h) | h
    · have := subs_sz a y h; simp only [sz]; omega
    · have := subs_sz b y h; simp only [sz]; omega
    · subst h; exact Nat.le_refl _
  | .star a, y, h => by
    simp only [subs, List.mem_append, List.mem_singleton] at h
    rcases h with h | h
    · have := subs_sz a y h; simp only [sz]; omega
    · subst h; exact Nat.le_refl _
theorem subs_ok : ∀ x, Ok x → ∀ y ∈ subs x, Ok y
  | .leaf n, hx, y, h => by simp only [subs, List.mem_singleton] at h; subst h; exact hx
  | .cat a b, hx, y, h => by
    simp only [subs, List.mem_append, List.mem_singleton] at h
    rcases h with (h | h) | h
    · exact subs_ok a hx.1 y h
    · exact subs_ok b hx.2 y h
    · subst h; exact hx
  | .alt a b, hx, y, h => by
    simp only [subs, List.mem_append, List.mem_singleton] at h
    rcases h with (h | h) | h
    · exact subs_ok a hx.1 y h
    · exact subs_ok b hx.2 y h
    · subst h; exact hx
  | .star a, hx, y, h => by
    simp only [subs, List.mem_append, List.mem_singleton] at h
    rcases h with h | h
    · exact subs_ok a hx y h
    · subst h; exact hx
theorem subs_last : ∀ x, (subs x).getD (sz x - 1) default = x := by
  have key : ∀ (l : List Tr) (y : Tr) (n : Nat), l.length = n → (l ++ [y]).getD n default = y := fun l y n h => by
    rw [List.getD_eq_getElem?_getD, List.getElem?_append_right (by omega), h, Nat.sub_self]; rfl
  intro x
  cases x with
  | leaf n => rfl
  | cat a b => exact key _ _ _ (by simp only [List.length_append, subs_len, sz]; omega)
  | alt a b => exact key _ _ _ (by simp only [List.length_append, subs_len, sz]; omega)
  | star a => exact key _ _ _ (by simp only [subs_len, sz]; omega)
inductive NodeOf (S : List Tr) (j : Nat) : Nd → Tr → Prop
  | leaf (n : Nd) (h : leafN n = true) : NodeOf S j n (.leaf n)
  | cat (i k : Nat) (h : i < j ∧ k < j) : NodeOf S j ⟨3, i, k, [], ⟨#[]⟩⟩ (.cat (S.getD i default) (S.getD k default))
  | alt (i k : Nat) (h : i < j ∧ k < j) : NodeOf S j ⟨4, i, k, [], ⟨#[]⟩⟩ (.alt (S.getD i default) (S.getD k default))
  | star (i : Nat) (h : i < j) : NodeOf S j ⟨5, i, 0, [], ⟨#[]⟩⟩ (.star (S.getD i default))
theorem movN_leafN {n : Nd} (h : leafN n = true) (m : Int) : movN n m = n := by
  obtain ⟨h1, h2⟩ := leaf_fork h
  simp [movN, h1, h2]
theorem NodeOf.shift {S : List Tr} {j : Nat} {n : Nd} {y : Tr} (h : NodeOf S j n y) (hj : j ≤ S.length) (P R : List Tr) (s : Nat) (hs : P.length = s) : NodeOf (P ++ S ++ R) (s + j) (movN n s) y := by
  have get : ∀ i, i < j → S.getD i default = (P ++ S ++ R).getD (s + i) default := fun i hi => by
    rw [List.getD_eq_getElem?_getD, List.getD_eq_getElem?_getD, List.append_assoc, List.getElem?_append_right (by omega), List.getElem?_append_left (by omega)]
    congr 2
    omega
  cases h with
  | leaf _ h => rw [movN_leafN h]; exact .leaf n h
  | cat i k h =>
    rw [get i h.1, get k h.2]
    have : movN ⟨3, i, k, [], ⟨#[]⟩⟩ s = ⟨3, (s + i : Nat), (s + k : Nat), [], ⟨#[]⟩⟩ := by simp [movN, isFork]; omega
    rw [this]
    exact .cat _ _ (by omega)
  | alt i k h =>
    rw [get i h.1, get k h.2]
    have : movN ⟨4, i, k, [], ⟨#[]⟩⟩ s = ⟨4, (s + i : Nat), (s + k : Nat), [], ⟨#[]⟩⟩ := by simp [movN, isFork]; omega
    rw [this]
    exact .alt _ _ (by omega)
  | star i h =>
    rw [get i h]
    have : movN ⟨5, i, 0, [], ⟨#[]⟩⟩ s = ⟨5, (s + i : Nat), 0, [], ⟨#[]⟩⟩ := by simp [movN, isFork]; omega
    rw [this]
    exact .star _ (by omega)
theorem getD_app_l {α : Type} {l m : List α} {j : Nat} (h : j < l.length) (z : α) : (l ++ m).getD j z = l.getD j z := by
  rw [List.getD_eq_getElem?_getD, List.getElem?_append_left h, List.getD_eq_getElem?_getD]
theorem getD_app_r {α : Type} {l m : List α} {j : Nat} (h : l.length ≤ j) (z : α) : (l ++ m).getD j z = m.getD (j - l.length) z := by
  rw [List.getD_eq_getElem?_getD, List.getElem?_append_right h, List.getD_eq_getElem?_getD]
theorem mov_getD {t : List Nd} {m : Int} {j : Nat} (h : j < t.length) : (mov t m).getD j default = movN (t.getD j default) m := by
  unfold mov
  rw [List.getD_eq_getElem?_getD, List.getElem?_map, List.getElem?_eq_getElem h, List.getD_eq_getElem?_getD, List.getElem?_eq_getElem h]
  rfl
theorem join_nodes {k : Int} {a b y : Tr} (ha : ∀ j, j < sz a → NodeOf (subs a) j ((enc a).getD j default) ((subs a).getD j default)) (hb : ∀ j, j < sz b → NodeOf (subs b) j ((enc b).getD j default) ((subs b).getD j default))
    (hy : NodeOf (subs a ++ subs b ++ [y]) (sz a + sz b) ⟨k, ((sz a - 1 : Nat) : Int), ((sz a + sz b - 1 : Nat) : Int), [], ⟨#[]⟩⟩ y) (j : Nat) (hj : j < sz a + sz b + 1) :
    NodeOf (subs a ++ subs b ++ [y]) j ((joinT k (enc a) (enc b)).getD j default) ((subs a ++ subs b ++ [y]).getD j default) := by
  have l1 := subs_len a
  have l2 := subs_len b
  have m1 := enc_len a
  have m2 := enc_len b
  have p1 := sz_pos a
  have p2 := sz_pos b
  unfold joinT
  by_cases h1 : j < sz a
  · rw [getD_app_l (by simp only [List.length_append, mov_len]; omega), getD_app_l (by omega), getD_app_l (by simp only [List.length_append]; omega), getD_app_l (by omega)]
    have := (ha j h1).shift (by omega) [] (subs b ++ [y]) 0 rfl
    rw [show ((0 : Nat) : Int) = 0 from rfl, movN_zero, Nat.zero_add, List.nil_append, ← List.append_assoc] at this
    exact this
  by_cases h2 : j < sz a + sz b
  · rw [getD_app_l (by simp only [List.length_append, mov_len]; omega), getD_app_r (by omega), getD_app_l (by simp only [List.length_append]; omega), getD_app_r (by omega), m1, l1, mov_getD (by omega)]
    have := (hb (j - sz a) (by omega)).shift (by omega) (subs a) [y] (sz a) l1
    rw [show sz a + (j - sz a) = j by omega] at this
    exact this
  · have hj2 : j = sz a + sz b := by omega
    subst hj2
    rw [getD_app_r (by simp only [List.length_append, mov_len]; omega), getD_app_r (by simp only [List.length_append]; omega)]
    have e1 : sz a + sz b - (enc a ++ mov (enc b) ↑(enc a).length).length = 0 := by simp only [List.length_append, mov_len]; omega
    have e2 : sz a + sz b - (subs a ++ subs b).length = 0 := by simp only [List.length_append]; omega
    rw [e1, e2, m1, m2]
    have e3 : ((sz a - 1 : Nat) : Int) = (sz a : Int) - 1 := by omega
    have e4 : ((sz a + sz b - 1 : Nat) : Int) = (sz a : Int) + sz b - 1 := by omega
    rw [e3, e4] at hy
    exact hy
theorem nodes : ∀ x, Ok x → ∀ j, j < sz x → NodeOf (subs x) j ((enc x).getD j default) ((subs x).getD j default)
  | .leaf n, h, j, hj => by
    have : j = 0 := by simp only [sz] at hj; omega
    subst this
    exact .leaf n h.1
  | .cat a b, h, j, hj => by
    have l1 := subs_len a
    have l2 := subs_len b
    have p1 := sz_pos a
    have p2 := sz_pos b
    refine join_nodes (k := 3) (nodes a h.1) (nodes b h.2) ?_ j hj
    have := NodeOf.cat (S := subs a ++ subs b ++ [.cat a b]) (j := sz a + sz b) (sz a - 1) (sz a + sz b - 1) (by omega)
    rw [getD_app_l (by simp only [List.length_append]; omega), getD_app_l (by omega), getD_app_l (by simp only [List.length_append]; omega), getD_app_r (by omega), l1, show sz a + sz b - 1 - sz a = sz b - 1 by omega, subs_last, subs_last] at this
    exact this
  | .alt a b, h, j, hj => by
    have l1 := subs_len a
    have l2 := subs_len b
    have p1 := sz_pos a
    have p2 := sz_pos b
    refine join_nodes (k := 4) (nodes a h.1) (nodes b h.2) ?_ j hj
    have := NodeOf.alt (S := subs a ++ subs b ++ [.alt a b]) (j := sz a + sz b) (sz a - 1) (sz a + sz b - 1) (by omega)
    rw [getD_app_l (by simp only [List.length_append]; omega), getD_app_l (by omega), getD_app_l (by simp only [List.length_append]; omega), getD_app_r (by omega), l1, show sz a + sz b - 1 - sz a = sz b - 1 by omega, subs_last, subs_last] at this
    exact this
  | .star a, h, j, hj => by
    have l1 := subs_len a
    have m1 := enc_len a
    have p1 := sz_pos a
    simp only [sz] at hj
    simp only [enc, subs, starT]
    by_cases h1 : j < sz a
    · rw [getD_app_l (by omega), getD_app_l (by omega)]
      have := (nodes a h j h1).shift (by omega) [] [.star a] 0 rfl
      rw [show ((0 : Nat) : Int) = 0 from rfl, movN_zero, Nat.zero_add, List.nil_append] at this
      exact this
    · have hj2 : j = sz a := by omega
      subst hj2
      rw [getD_app_r (by omega), getD_app_r (by omega), m1, l1, Nat.sub_self]
      have := NodeOf.star (S := subs a ++ [.star a]) (j := sz a) (sz a - 1) (by omega)
      rw [getD_app_l (by omega), subs_last, show ((sz a - 1 : Nat) : Int) = (sz a : Int) - 1 by omega] at this
      exact this
end Go.Proofs.Abs

set_option maxRecDepth 100000
set_option maxHeartbeats 4000000
namespace Go.Proofs.Abs
open Go
def rowsM (M : List Tr) (n j : Nat) : List (List AV) := List.map eTr1 (M.take j) ++ List.replicate (n - j) [AV.list 5 []]
theorem rowsM_get {M : List Tr} {n j i : Nat} (hi : i < j) (hM : j ≤ M.length) : (rowsM M n j)[i]? = some (eTr1 (M.getD i default)) := by
  unfold rowsM
  rw [List.getElem?_append_left (by simp; omega), List.getElem?_map, List.getElem?_take_of_lt hi, List.getD_eq_getElem?_getD, List.getElem?_eq_getElem (by omega)]
  rfl
theorem rowsM_len {M : List Tr} {n j : Nat} (hj : j ≤ n) (hM : M.length = n) : (rowsM M n j).length = n := by
  unfold rowsM
  simp only [List.length_append, List.length_map, List.length_take, List.length_replicate]
  omega
theorem rowsM_old {M : List Tr} {n j : Nat} (hj : j < n) (hM : M.length = n) : (rowsM M n j)[j]? = some [AV.list 5 []] := by
  unfold rowsM
  have l : (List.map eTr1 (M.take j)).length = j := by simp; omega
  rw [List.getElem?_append_right (by omega), l, Nat.sub_self, List.getElem?_replicate, if_pos (by omega)]
theorem rowsM_set {M : List Tr} {n j : Nat} (hj : j < n) (hM : M.length = n) : (rowsM M n j).set j (eTr1 (M.getD j default)) = rowsM M n (j + 1) := by
  have e : n - j = (n - (j + 1)) + 1 := by omega
  have l : (List.map eTr1 (M.take j)).length = j := by simp; omega
  unfold rowsM
  rw [List.set_append, if_neg (by omega), l, Nat.sub_self, e, List.replicate_succ, List.set_cons_zero, take_snocT (by omega)]
  simp
theorem wf_subs {x : Tr} (hx : OkS x) {y : Tr} (h : y ∈ subs x) : OkS (sClean y) ∧ sz (sClean y) ≤ sz y ∧ sz y ≤ 40000 := by
  have h1 := subs_sz x y h
  have h2 := hx.2
  have h3 := sz_sClean y
  exact ⟨⟨ok_sClean y (subs_ok x hx.1 y h), by omega⟩, h3, by omega⟩
noncomputable def s9 : FT := s8
theorem s9_ok : FTOK Tryz.prog s9 := s8_ok

end Go.Proofs.Abs
