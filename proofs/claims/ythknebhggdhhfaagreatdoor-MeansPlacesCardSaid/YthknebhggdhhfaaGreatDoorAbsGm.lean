/- A part of a proof: the text that states the row tells what is proved. No condition is laid on anything. -/
import Derived.Test.YthknebhggdhhfaaGreatDoorAbsGl
set_option linter.all false
set_option linter.constructorNameAsVariable false
set_option linter.defProp false
set_option linter.unusedVariables false
set_option linter.unusedSimpArgs false
set_option maxRecDepth 100000
set_option maxHeartbeats 16000000
namespace Go.Proofs.Abs
open Go
theorem mean_bare {r : Rs} {l : List Int} (h : MeanD r l) (e : Bool) : MeanD ⟨[], [], e⟩ l := ⟨⟨⟨⟨by simp, by simp⟩, by simp, by simp⟩, ⟨⟨by simp, by simp⟩, by simp, by simp⟩⟩, h.l⟩
theorem okR_bare (l : List Int) (e : Bool) : okR ⟨[], [], e⟩ l = l.all isS := by simp [okR, goodR, namesB]
theorem len_bare (l : List Int) (e : Bool) : (plA ⟨[], [], e⟩ l).length = if (e && l.all isS) = true then l.length + 1 else 0 := by
  rw [plA_len]
  unfold plC
  rw [okR_bare]
  cases l.all isS with
  | false => simp
  | true =>
    cases e with
    | false => simp [cntF_false (f := breakB ⟨[], [], false⟩ l) (fun i => rfl)]
    | true => simp [cntF_true (f := breakB ⟨[], [], true⟩ l) (fun i => rfl)]
theorem all_snoc {l : List Int} {j : Nat} (h : j < l.length) : (l.take (j + 1)).all isS = ((l.take j).all isS && isS (l.getD j 0)) := by
  have : l.take (j + 1) = l.take j ++ [l.getD j 0] := by
    rw [List.getD_eq_getElem?_getD, List.getElem?_eq_getElem h]; simp
  rw [this]; simp
theorem run1225 (r : Rs) (l : List Int) (wr : WfR r) (wl : l.length ≤ 9223372036854775807 ∧ ∀ x ∈ l, I64 x) : cwp o4 7 [] [(AV.agg [(AV.list 2 (List.map eNm (Rs.names r))), (AV.list 3 (List.map eRl (Rs.list r))), AV.bool (Rs.els r)]), (AV.list 1 (List.map (fun x => [AV.int .i64 x]) (l)))] [] (fun v H => v = .bool true ∧ H = []) := by
  refine run_fn (fn := fn1225) rfl rfl ?_
  have dl : WfRow l := ⟨wl.1⟩
  cases g : lightR r l with
  | false =>
    simp (maxSteps := 2000000) only [fn1225_body, c1225, D0, SP0, seval, -Int.reduceNatCast', @use_all o4 11 k1229.ora rfl, e1229, @use_all o4 12 kW.ora rfl, eW, wr, dl, g, fz_rules]
    simp only [F1, SF0, SP0, seval, -Int.reduceNatCast', fn1225_res, fn1225_keep]
  | true =>
  have L := light_rules wr g
  have lm := L.mean
  have ll := L.row
  have hA : (if okR r l then breaksL r l else []) = plA r l := rfl
  simp only [fn1225_body, c1225, D0, SP0, seval, -Int.reduceNatCast', @use_all o4 11 k1229.ora rfl, e1229, @use_all o4 14 k1232.ora rfl, e1232, wr, dl, g, lm, hA, fz_rules]
  refine lg_rule (fun j e H => e = [(0, (AV.agg [(AV.list 2 (List.map eNm (Rs.names r))), (AV.list 3 (List.map eRl (Rs.list r))), AV.bool (Rs.els r)])), (1, (AV.list 1 (List.map (fun x => [AV.int .i64 x]) (l)))), (2, .ref [0] 1 0 0), (4, .bool false), (5, (AV.list 1 (List.map (fun x => [AV.int .i64 x]) (plA r l)))), (6, .bool (okR r l)), (7, .int .i64 (plC r l j : Nat)), (8, .int .i64 j)] ∧ H = [[([0], .box [(AV.list 2 (List.map eNm (r.names))), (AV.list 3 (List.map eRl (r.list))), .bool r.els])]] ∧ j ≤ l.length + 1) (l.length + 1) ?_ ?_
  · have z : plC r l 0 = 0 := by unfold plC; cases okR r l <;> rfl
    rw [z]
    exact ⟨rfl, rfl, by simp⟩
  rintro j e H ⟨rfl, rfl, hj⟩
  by_cases h : j < l.length + 1
  · have h' : (j : Int) ≤ (l.length : Int) := by omega
    have hp := wrapp (j := j) (by omega)
    have a1 := atOK_in (r := r) (l := l) (j := j) (by omega)
    have a2 := atB_in (r := r) (l := l) (j := j) (by omega)
    cases e : (okR r l && breakB r l j) with
    | false =>
      have hc := plC_no e
      rw [e] at a2
      simp only [D0, SP0, seval, -Int.reduceNatCast', @use_all o4 16 k1234.ora rfl, e1234, fz_rules, lm, a1, a2, h', hp, bne_self', decide_true]
      simp only [F1, SF0, SP0, seval, -Int.reduceNatCast', hc]
      exact ⟨h, by omega⟩
    | true =>
      obtain ⟨hc, hat⟩ := plC_yes (by omega) e
      rw [e] at a2
      have hlt : plC r l j < (plA r l).length := (List.getElem?_eq_some_iff.1 hat).1
      have hn : ¬ ((plC r l j : Nat) : Int) ≥ ((plA r l).length : Int) := by omega
      have hgt : (List.map (fun x : Int => [AV.int .i64 x]) (plA r l))[plC r l j]? = some [AV.int .i64 (j : Int)] := by rw [List.getElem?_map, hat]; rfl
      have hle := plC_le r l (j := l.length + 1) (by omega)
      have hb := cntF_le (breakB r l) (p := 0) (n := j) (by omega)
      have hcj := plA_le r l
      have hp2 := wrapp (j := plC r l j) (by omega)
      simp only [D0, SP0, seval, -Int.reduceNatCast', @use_all o4 16 k1234.ora rfl, e1234, fz_rules, lm, a1, a2, h', hp, hp2, hn, hgt, bne_self', decide_true, decide_false, Int.natCast_nonneg, Int.toNat_natCast]
      simp only [F1, SF0, SP0, seval, -Int.reduceNatCast', hc]
      exact ⟨h, by omega⟩
  · have h' : ¬ (j : Int) ≤ (l.length : Int) := by omega
    have hjl : j = l.length + 1 := by omega
    subst hjl
    have mb := mean_bare lm r.els
    have hA2 : (if okR ⟨[], [], r.els⟩ l then breaksL ⟨[], [], r.els⟩ l else []) = plA ⟨[], [], r.els⟩ l := rfl
    have eb := fun q H => e1232 ⟨[], [], r.els⟩ l mb q H
    simp only [List.map_nil, hA2] at eb
    simp only [okR_bare] at eb
    simp only [D0, SP0, seval, -Int.reduceNatCast', @use_all o4 14 k1232.ora rfl, eb, h', decide_false]
    refine .inr ⟨by simp, ?_⟩
    simp only [D0, SP0, seval, -Int.reduceNatCast', @use_all o4 14 k1232.ora rfl, eb, fz_rules]
    refine lg_rule (fun j e H => e = [(0, (AV.agg [(AV.list 2 (List.map eNm (Rs.names r))), (AV.list 3 (List.map eRl (Rs.list r))), AV.bool (Rs.els r)])), (1, (AV.list 1 (List.map (fun x => [AV.int .i64 x]) (l)))), (2, .ref [0] 1 0 0), (4, .bool false), (5, (AV.list 1 (List.map (fun x => [AV.int .i64 x]) (plA r l)))), (6, .bool (okR r l)), (7, .int .i64 (plC r l (l.length + 1) : Nat)), (8, .int .i64 (l.length + 1 : Nat)), (11, (AV.list 1 (List.map (fun x => [AV.int .i64 x]) (plA ⟨[], [], r.els⟩ l)))), (12, .bool (l.all isS)), (13, .bool ((l.take j).all isS)), (14, .int .i64 j)] ∧ H = [[([0], .box [(AV.list 2 (List.map eNm (r.names))), (AV.list 3 (List.map eRl (r.list))), .bool r.els])]] ∧ j ≤ l.length) l.length ?_ ?_
    · exact ⟨by simp, rfl, by simp⟩
    rintro j e H ⟨rfl, rfl, hj⟩
    by_cases h : j < l.length
    · have h' : (j : Int) < (l.length : Int) := by omega
      have hp := wrapp (j := j) (by omega)
      have hg := map_get (f := fun x : Int => [AV.int .i64 x]) h 0
      have hs := all_snoc h
      cases e : (l.take j).all isS with
      | false =>
        rw [e, Bool.false_and] at hs
        simp only [D0, SP0, seval, -Int.reduceNatCast', h', hp, hg, decide_true, Int.natCast_nonneg, Int.toNat_natCast]
        simp only [F1, SF0, SP0, seval, -Int.reduceNatCast', hs]
        exact ⟨h, h⟩
      | true =>
        rw [e, Bool.true_and] at hs
        simp only [D0, SP0, seval, -Int.reduceNatCast', @use_all o4 23 k66.ora rfl, e66, h', hp, hg, decide_true, Int.natCast_nonneg, Int.toNat_natCast]
        simp only [F1, SF0, SP0, seval, -Int.reduceNatCast', hs]
        exact ⟨h, h⟩
    · have h' : ¬ (j : Int) < (l.length : Int) := by omega
      have hjl : j = l.length := by omega
      subst hjl
      have hb := len_bare l r.els
      have hpl := plA_len r l
      have hp := wrapp (j := l.length) (by omega)
      rw [List.take_length]
      simp only [D0, SP0, seval, -Int.reduceNatCast', h', decide_false]
      refine .inr ⟨by simp, ?_⟩
      generalize l.all isS = sc at hb
      have z0 : ((((0 : Nat) : Int)) == 0) = true := rfl
      cases e1 : r.els with
      | false =>
        rw [e1] at hb
        simp only [Bool.false_and, Bool.false_eq_true, if_false] at hb
        simp only [D0, SP0, seval, -Int.reduceNatCast', @use_all o4 12 kW.ora rfl, eW, hb, hpl, z0, decide_true, beq_self_eq_true, List.length_map]
        simp only [F1, SF0, SP0, seval, -Int.reduceNatCast', fn1225_res, fn1225_keep]
      | true =>
        rw [e1] at hb
        cases sc with
        | false =>
          simp only [Bool.true_and, Bool.false_eq_true, if_false] at hb
          simp only [D0, SP0, seval, -Int.reduceNatCast', @use_all o4 12 kW.ora rfl, eW, hb, hpl, z0, decide_true, beq_self_eq_true, List.length_map]
          simp only [F1, SF0, SP0, seval, -Int.reduceNatCast', fn1225_res, fn1225_keep]
        | true =>
          simp only [Bool.true_and, if_true] at hb
          simp only [D0, SP0, seval, -Int.reduceNatCast', @use_all o4 12 kW.ora rfl, eW, hb, hpl, z0, hp, decide_true, beq_self_eq_true, List.length_map]
          simp only [F1, SF0, SP0, seval, -Int.reduceNatCast', fn1225_res, fn1225_keep]
end Go.Proofs.Abs
