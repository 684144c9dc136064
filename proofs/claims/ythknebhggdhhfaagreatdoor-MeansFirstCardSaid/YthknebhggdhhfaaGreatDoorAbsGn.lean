/- A part of a proof: the text that states the row tells what is proved. No condition is laid on anything. -/
import Derived.Test.YthknebhggdhhfaaGreatDoorAbsGm
set_option linter.all false
set_option linter.constructorNameAsVariable false
set_option linter.defProp false
set_option linter.unusedVariables false
set_option linter.unusedSimpArgs false
set_option maxRecDepth 100000
set_option maxHeartbeats 16000000
namespace Go.Proofs.Abs
open Go
theorem mean_app {r : Rs} {l m : List Int} (h : MeanD r l) (hl : l.length ≤ 8) (hm : m.length ≤ 8) : MeanD r (l ++ m) := ⟨h.r, ⟨by rw [List.length_append]; omega⟩⟩
theorem okR_app (r : Rs) (l m : List Int) : okR r (l ++ m) = (okR r l && m.all isS) := by
  unfold okR
  rw [List.all_append, Bool.and_assoc]
theorem at_app {r : Rs} {l m : List Int} (h : okR r l = true) : atOK r (l ++ m) l.length = m.all isS ∧ atB r (l ++ m) l.length = (m.all isS && breakB r l l.length) := by
  have h1 := atOK_in (r := r) (l := l ++ m) (j := l.length) (by rw [List.length_append]; omega)
  have h2 := atB_in (r := r) (l := l ++ m) (j := l.length) (by rw [List.length_append]; omega)
  rw [okR_app, h, Bool.true_and] at h1 h2
  rw [break_pre r l m (Nat.le_refl _)] at h2
  exact ⟨h1, h2⟩
theorem beqH_fr (id : Id) (t t' : Bool) (e z e' z' : Nat) (R R' : List (List AV)) (o o' : Fr) (p p' : Heap) : beqH (((id, .row false t e z R) :: o) :: p) (((id, .row true t' e' z' R') :: o') :: p') = false := by simp [beqH, beqF, beqO]
theorem run1222 (r : Rs) (l more : List Int) (wr : WfR r) (wl : l.length ≤ 9223372036854775807 ∧ ∀ x ∈ l, I64 x) (wm : more.length ≤ 9223372036854775807 ∧ ∀ x ∈ more, I64 x) : cwp o4 4 [] [(AV.agg [(AV.list 2 (List.map eNm (Rs.names r))), (AV.list 3 (List.map eRl (Rs.list r))), AV.bool (Rs.els r)]), (AV.list 1 (List.map (fun x => [AV.int .i64 x]) (l))), (AV.list 1 (List.map (fun x => [AV.int .i64 x]) (more)))] [] (fun v H => v = .bool true ∧ H = []) := by
  refine run_fn (fn := fn1222) rfl rfl ?_
  have dl : WfRow l := ⟨wl.1⟩
  cases g : lightR r l with
  | false =>
    simp (maxSteps := 2000000) only [fn1222_body, c1222, D0, SP0, seval, -Int.reduceNatCast', @use_all o4 11 k1229.ora rfl, e1229, @use_all o4 12 kW.ora rfl, eW, wr, dl, g, fz_rules]
    simp only [F1, SF0, SP0, seval, -Int.reduceNatCast', fn1222_res, fn1222_keep]
  | true =>
  have L := light_rules wr g
  have lm := L.mean
  have lg := L.good
  have ll := L.row
  have lr := L.list
  have ro := L.mean.l
  by_cases h8 : (more.length : Int) > 8
  · simp (maxSteps := 2000000) only [fn1222_body, c1222, D0, SP0, seval, -Int.reduceNatCast', @use_all o4 11 k1229.ora rfl, e1229, @use_all o4 12 kW.ora rfl, eW, wr, dl, g, h8, fz_rules, decide_true]
    simp only [F1, SF0, SP0, seval, -Int.reduceNatCast', fn1222_res, fn1222_keep]
  cases gg : goodR r with
  | false =>
    simp (maxSteps := 2000000) only [fn1222_body, c1222, D0, SP0, seval, -Int.reduceNatCast', @use_all o4 11 k1229.ora rfl, e1229, @use_all o4 22 k1239.ora rfl, e1239, @use_all o4 12 kW.ora rfl, eW, wr, dl, g, h8, gg, lg, goodRef_eq, fz_rules, decide_false]
    simp only [F1, SF0, SP0, seval, -Int.reduceNatCast', fn1222_res, fn1222_keep]
  | true =>
  simp (maxSteps := 2000000) only [fn1222_body, c1222, D0, SP0, seval, -Int.reduceNatCast', @use_all o4 11 k1229.ora rfl, e1229, @use_all o4 22 k1239.ora rfl, e1239, wr, dl, g, h8, gg, lg, goodRef_eq, fz_rules, decide_false]
  refine lg_rule (fun j e H => e = [(0, (AV.agg [(AV.list 2 (List.map eNm (Rs.names r))), (AV.list 3 (List.map eRl (Rs.list r))), AV.bool (Rs.els r)])), (1, (AV.list 1 (List.map (fun x => [AV.int .i64 x]) (l)))), (2, (AV.list 1 (List.map (fun x => [AV.int .i64 x]) (more)))), (3, .ref [0] 1 0 0), (6, .bool false), (7, .int .i64 j)] ∧ H = [[([0], .box [(AV.list 2 (List.map eNm (r.names))), (AV.list 3 (List.map eRl (r.list))), .bool r.els])]] ∧ j ≤ l.length ∧ ∀ i, i < j → isS (l.getD i 0) = true) l.length ?_ ?_
  · exact ⟨rfl, rfl, by simp, by simp⟩
  rintro j e H ⟨rfl, rfl, hj, hji⟩
  by_cases h : j < l.length
  · have h' : (j : Int) < (l.length : Int) := by omega
    have hp := wrapp (j := j) (by omega)
    have hg := map_get (f := fun x : Int => [AV.int .i64 x]) h 0
    have step : isS (l.getD j 0) = true → ∀ i, i < j + 1 → isS (l.getD i 0) = true := fun e i hi => by
      by_cases hij : i = j
      · rw [hij]; exact e
      · exact hji i (by omega)
    cases e : isS (l.getD j 0) with
    | true =>
      simp only [D0, SP0, seval, -Int.reduceNatCast', @use_all o4 23 k66.ora rfl, e66, h', hp, hg, e, decide_true, Int.natCast_nonneg, Int.toNat_natCast]
      simp only [F1, SF0, SP0, seval, -Int.reduceNatCast']
      exact ⟨h, h, step e⟩
    | false =>
      simp only [D0, SP0, seval, -Int.reduceNatCast', @use_all o4 23 k66.ora rfl, e66, @use_all o4 12 kW.ora rfl, eW, h', hp, hg, e, decide_true, Int.natCast_nonneg, Int.toNat_natCast]
      refine .inr ⟨by simp, ?_⟩
      simp only [F1, SF0, SP0, seval, -Int.reduceNatCast', fn1222_res, fn1222_keep]
  have h' : ¬ (j : Int) < (l.length : Int) := by omega
  have hjl : j = l.length := by omega
  have hs := all_of hjl hji
  subst hjl
  have hok : okR r l = true := by simp [okR, gg, hs]
  clear hji
  have wl1 : IntKind.i64.wrap ((r.list.length : Int) - 1) = (r.list.length : Int) - 1 := wrap64 (by omega) (by omega)
  simp only [D0, SP0, seval, -Int.reduceNatCast', h', wl1, decide_false]
  refine .inr ⟨by simp, ?_⟩
  refine lg_rule (fun c e H => e = [(0, (AV.agg [(AV.list 2 (List.map eNm (Rs.names r))), (AV.list 3 (List.map eRl (Rs.list r))), AV.bool (Rs.els r)])), (1, (AV.list 1 (List.map (fun x => [AV.int .i64 x]) (l)))), (2, (AV.list 1 (List.map (fun x => [AV.int .i64 x]) (more)))), (3, .ref [0] 1 0 0), (6, .bool false), (7, .int .i64 l.length), (8, .bool (breakFrom r l l.length (r.list.length - c))), (9, .int .i64 (((r.list.length - c : Nat) : Int) - 1))] ∧ H = [[([0], .box [(AV.list 2 (List.map eNm (r.names))), (AV.list 3 (List.map eRl (r.list))), .bool r.els])]] ∧ c ≤ r.list.length) r.list.length ?_ ?_
  · refine ⟨?_, rfl, by simp⟩
    rw [Nat.sub_zero, breakFrom_end]
  rintro c e H ⟨rfl, rfl, hc⟩
  by_cases h2 : c < r.list.length
  · obtain ⟨k, hk⟩ : ∃ k, r.list.length - c = k + 1 := ⟨r.list.length - c - 1, by omega⟩
    have hkn : k < r.list.length := by omega
    have hk2 : r.list.length - (c + 1) = k := by omega
    have e9 : ((k + 1 : Nat) : Int) - 1 = (k : Int) := by omega
    have ge0 : (k : Int) ≥ 0 := by omega
    have hbs := breakFrom_step (r := r) (l := l) (i := l.length) hkn
    have hg := map_get (f := eRl) hkn default
    have hw : WfL (r.list.getD k default) := wr.list.2 _ (by rw [List.getD_eq_getElem?_getD, List.getElem?_eq_getElem hkn]; exact List.getElem_mem hkn)
    rw [hk, hk2, e9]
    have wk : IntKind.i64.wrap ((k : Int) - 1) = (k : Int) - 1 := wrap64 (by omega) (by omega)
    generalize r.list.getD k default = x at hg hw hbs
    have et := tells_end x l
    simp only [D0, SP0, seval, -Int.reduceNatCast', ge0, decide_true]
    refine lg_rule (fun j e H => e = [(0, (AV.agg [(AV.list 2 (List.map eNm (Rs.names r))), (AV.list 3 (List.map eRl (Rs.list r))), AV.bool (Rs.els r)])), (1, (AV.list 1 (List.map (fun x => [AV.int .i64 x]) (l)))), (2, (AV.list 1 (List.map (fun x => [AV.int .i64 x]) (more)))), (3, .ref [0] 1 0 0), (6, .bool false), (7, .int .i64 l.length), (8, .bool (breakFrom r l l.length (k + 1))), (9, .int .i64 (k : Int)), (10, .bool ((List.range j).any fun j => takesT x.before (l.take j) && takesT x.after (l.drop j))), (11, .int .i64 j)] ∧ H = [] :: [[([0], .box [(AV.list 2 (List.map eNm (r.names))), (AV.list 3 (List.map eRl (r.list))), .bool r.els])]] ∧ j ≤ l.length + 1) (l.length + 1) ?_ ?_
    · exact ⟨rfl, rfl, by simp⟩
    rintro j e H ⟨rfl, rfl, hj⟩
    by_cases h3 : j < l.length + 1
    · have h3' : (j : Int) ≤ (l.length : Int) := by omega
      have hp := wrapp (j := j) (by omega)
      have hs3 := any_succ (fun j => takesT x.before (l.take j) && takesT x.after (l.drop j)) j
      have m1 : List.take j (List.map (fun x : Int => [AV.int .i64 x]) l) = List.map (fun x => [AV.int .i64 x]) (l.take j) := List.map_take.symm
      have m2 : List.drop j (List.map (fun x : Int => [AV.int .i64 x]) l) = List.map (fun x => [AV.int .i64 x]) (l.drop j) := List.map_drop.symm
      have jl : j ≤ l.length := by omega
      have m3 : List.take l.length (List.map (fun x : Int => [AV.int .i64 x]) l) = List.map (fun x => [AV.int .i64 x]) l := List.take_of_length_le (by simp)
      have eb := fun q H => e31 x.before (l.take j) ⟨hw.before, by simp; omega⟩ q H
      have ea := fun q H => e31 x.after (l.drop j) ⟨hw.after, by simp; omega⟩ q H
      have hle : (l.length : Int) ≤ (l.length : Int) := Int.le_refl _
      cases c0 : ((List.range j).any fun j => takesT x.before (l.take j) && takesT x.after (l.drop j)) with
      | true =>
        rw [c0, Bool.true_or] at hs3
        simp only [D0, SP0, seval, -Int.reduceNatCast', h3', hp, lrc_y, lrc_n, lrc_x, apx, apart, apart1, needs, decide_true]
        simp only [F1, SF0, SP0, seval, -Int.reduceNatCast', hs3]
        exact ⟨h3, by omega⟩
      | false =>
        rw [c0, Bool.false_or] at hs3
        cases c1 : takesT x.before (l.take j) with
        | false =>
          simp only [c1, Bool.false_and] at hs3
          simp only [D0, SP0, seval, -Int.reduceNatCast', @use_all o4 24 k31.ora rfl, eb, c1, hg, eRl, m1, jl, h3', hp, fz_rules, lrc_y, lrc_n, lrc_x, apx, apart, apart1, needs, Nat.le_refl, Nat.zero_le, and_self, Nat.sub_zero, List.drop_zero, decide_true, Int.natCast_nonneg, Int.toNat_natCast]
          simp only [F1, SF0, SP0, seval, -Int.reduceNatCast', hs3]
          first | exact ⟨h3, by omega⟩ | exact h3
        | true =>
          simp only [c1, Bool.true_and] at hs3
          cases c2 : takesT x.after (l.drop j) with
          | false =>
            rw [c2] at hs3
            simp only [D0, SP0, seval, -Int.reduceNatCast', @use_all o4 24 k31.ora rfl, eb, ea, c1, c2, hg, eRl, m1, m2, m3, jl, h3', hp, fz_rules, lrc_y, lrc_n, lrc_x, apx, apart, apart1, needs, Nat.le_refl, Nat.zero_le, and_self, Nat.sub_zero, List.drop_zero, decide_true, Int.natCast_nonneg, Int.toNat_natCast]
            simp only [F1, SF0, SP0, seval, -Int.reduceNatCast', hs3]
            first | exact ⟨h3, by omega⟩ | exact h3
          | true =>
            rw [c2] at hs3
            simp only [D0, SP0, seval, -Int.reduceNatCast', @use_all o4 24 k31.ora rfl, eb, ea, c1, c2, hg, eRl, m1, m2, m3, jl, h3', hp, fz_rules, lrc_y, lrc_n, lrc_x, apx, apart, apart1, needs, Nat.le_refl, Nat.zero_le, and_self, Nat.sub_zero, List.drop_zero, decide_true, Int.natCast_nonneg, Int.toNat_natCast]
            simp only [F1, SF0, SP0, seval, -Int.reduceNatCast', hs3]
            first | exact ⟨h3, by omega⟩ | exact h3
    · have h3' : ¬ (j : Int) ≤ (l.length : Int) := by omega
      have hjl : j = l.length + 1 := by omega
      subst hjl
      rw [← et]
      have e1 := fun q H => e1236 x l l.length ⟨hw, ro⟩ q H
      cases c0 : tellsB x l l.length with
      | true =>
        rw [c0, if_pos rfl] at hbs
        simp only [D0, SP0, seval, -Int.reduceNatCast', h3', decide_false]
        refine .inr ⟨by simp, ?_⟩
        simp only [D0, SP0, seval, -Int.reduceNatCast', @use_all o4 19 k1236.ora rfl, e1, c0, hg, eRl, wk, fz_rules, bne_self', Int.natCast_nonneg, Int.toNat_natCast]
        simp only [F1, SF0, SP0, seval, -Int.reduceNatCast', hbs]
        exact ⟨h2, h2⟩
      | false =>
        rw [c0, if_neg (by simp)] at hbs
        simp only [D0, SP0, seval, -Int.reduceNatCast', h3', decide_false]
        refine .inr ⟨by simp, ?_⟩
        simp only [D0, SP0, seval, -Int.reduceNatCast', @use_all o4 19 k1236.ora rfl, e1, c0, hg, eRl, wk, fz_rules, bne_self', Int.natCast_nonneg, Int.toNat_natCast]
        simp only [F1, SF0, SP0, seval, -Int.reduceNatCast', hbs]
        exact ⟨h2, h2⟩
  · have hcn : c = r.list.length := by omega
    subst hcn
    rw [Nat.sub_self, breakFrom_zero]
    have h2' : ¬ (((0 : Nat) : Int) - 1) ≥ 0 := by omega
    have a1 := atOK_in (r := r) (l := l) (j := l.length) (Nat.le_refl _)
    have a2 := atB_in (r := r) (l := l) (j := l.length) (Nat.le_refl _)
    rw [hok] at a1 a2
    rw [Bool.true_and] at a2
    obtain ⟨b1, b2⟩ := at_app (m := more) hok
    have lm2 := mean_app (m := more) lm ll (by omega)
    have ma : List.map (fun x : Int => [AV.int .i64 x]) l ++ List.map (fun x : Int => [AV.int .i64 x]) more = List.map (fun x : Int => [AV.int .i64 x]) (l ++ more) := List.map_append.symm
    have e1 := fun q H => e1234 r (l ++ more) l.length lm2 q H
    have e0 := fun q H => e1234 r l l.length lm q H
    rw [b1, b2] at e1
    rw [a1, a2] at e0
    have hz1 : (l.length = 0 + l.length) = True := eq_true (by omega)
    have hz2 : (l.length + more.length = 0 + l.length + more.length) = True := eq_true (by omega)
    have cap1 : (0 + l.length) * 8 ≤ 140737488355328 := by omega
    have cap2 : (0 + l.length + more.length) * 8 ≤ 140737488355328 := by omega
    simp only [D0, SP0, seval, -Int.reduceNatCast', h2', decide_false]
    refine .inr ⟨by simp, ?_⟩
    simp only [D0, SP0, seval, -Int.reduceNatCast', @use_all o4 16 k1234.ora rfl, e0, e1, ma, beqH_fr, keeps, beqO_refl, hz1, hz2, cap1, cap2, fz_rules, fz, fzd, fzd.fzcells, bne_self', lrc_y, lrc_n, lrc_x, apx, apart, apart1, needs, List.nil_append, List.length_map, List.length_append, decide_true]
    refine lg_rule (fun j e H => e = [(0, (AV.agg [(AV.list 2 (List.map eNm (Rs.names r))), (AV.list 3 (List.map eRl (Rs.list r))), AV.bool (Rs.els r)])), (1, (AV.list 1 (List.map (fun x => [AV.int .i64 x]) (l)))), (2, (AV.list 1 (List.map (fun x => [AV.int .i64 x]) (more)))), (3, .ref [0] 1 0 0), (6, .bool false), (7, .int .i64 l.length), (8, .bool (breakB r l l.length)), (9, .int .i64 (((0 : Nat) : Int) - 1)), (12, .bool (breakB r l l.length)), (13, .bool true), (14, .bool (more.all isS && breakB r l l.length)), (15, .bool (more.all isS)), (16, .bool ((more.take j).all isS)), (17, .int .i64 j)] ∧ H = [[([45], .row false true 3 1 (List.map (fun x => [AV.int .i64 x]) (l ++ more))), ([0], .box [(AV.list 2 (List.map eNm (r.names))), (AV.list 3 (List.map eRl (r.list))), .bool r.els])]] ∧ j ≤ more.length) more.length ?_ ?_
    · exact ⟨by simp, rfl, by simp⟩
    rintro j e H ⟨rfl, rfl, hj⟩
    by_cases h : j < more.length
    · have h' : (j : Int) < (more.length : Int) := by omega
      have hp := wrapp (j := j) (by omega)
      have hg := map_get (f := fun x : Int => [AV.int .i64 x]) h 0
      have hs := all_snoc h
      cases e : (more.take j).all isS with
      | false =>
        rw [e, Bool.false_and] at hs
        simp only [D0, SP0, seval, -Int.reduceNatCast', h', hp, hg, decide_true, Int.natCast_nonneg, Int.toNat_natCast]
        simp only [F1, SF0, SP0, seval, -Int.reduceNatCast', hs]
        exact ⟨h, h⟩
      | true =>
        rw [e, Bool.true_and] at hs
        simp only [D0, SP0, seval, -Int.reduceNatCast', @use_all o4 23 k66.ora rfl, e66, h', hp, hg, decide_true, Int.natCast_nonneg, Int.toNat_natCast]
        simp only [F1, SF0, SP0, seval, -Int.reduceNatCast', hs]
        exact ⟨h, h⟩
    · have h' : ¬ (j : Int) < (more.length : Int) := by omega
      have hjl : j = more.length := by omega
      subst hjl
      rw [List.take_length]
      simp only [D0, SP0, seval, -Int.reduceNatCast', h', decide_false]
      refine .inr ⟨by simp, ?_⟩
      cases e1 : more.all isS with
      | false =>
        simp only [D0, SP0, seval, -Int.reduceNatCast', @use_all o4 12 kW.ora rfl, eW, decide_true, beq_self_eq_true]
        simp only [F1, SF0, SP0, seval, -Int.reduceNatCast', fn1222_res, fn1222_keep]
      | true =>
        simp only [D0, SP0, seval, -Int.reduceNatCast', @use_all o4 12 kW.ora rfl, eW, decide_true, beq_self_eq_true]
        simp only [F1, SF0, SP0, seval, -Int.reduceNatCast', fn1222_res, fn1222_keep]
end Go.Proofs.Abs
