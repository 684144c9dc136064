/- A part of a proof: the text that states the row tells what is proved. No condition is laid on anything. -/
import Derived.Test.YtdmnnbmjhpoipaaGreatDoorAbsGm
set_option linter.all false
set_option linter.constructorNameAsVariable false
set_option linter.defProp false
set_option linter.unusedVariables false
set_option linter.unusedSimpArgs false
set_option maxRecDepth 100000
set_option maxHeartbeats 16000000
namespace Go.Proofs.Abs
open Go
theorem allP_scal : ∀ {l : List Int} {x c : Tr}, allP x l = some c → l.all isS = true
  | [], _, _, _ => rfl
  | v :: l, x, c, h => by
    simp only [allP, Option.bind_eq_some_iff] at h
    obtain ⟨y, h1, h2⟩ := h
    have hv : isS v = true := by
      unfold oneP at h1
      split at h1
      · assumption
      · cases h1
    rw [List.all_cons, hv, allP_scal h2]; rfl
theorem takes_sem {x : Tr} (h : OkS x) (l : List Int) (b : Bool) (hb : b = true ↔ Sem x l) : takesT (enc x) l = b := by
  rw [Bool.eq_iff_iff, lk_sem x h, hb]
theorem all_snoc {l : List Int} {j : Nat} (h : j < l.length) : (l.take (j + 1)).all isS = ((l.take j).all isS && isS (l.getD j 0)) := by
  rw [take_snocI h, List.all_append]; simp
theorem run1137 (t : List Nd) (l : List Int) (wt : WfT t) (wl : l.length ≤ 9223372036854775807 ∧ ∀ x ∈ l, I64 x) : cwp d11 5 [] [(AV.list 5 (List.map eNd t)), (AV.list 1 (List.map (fun x => [AV.int .i64 x]) (l)))] [] (fun r H => r = .bool true ∧ H = []) := by
  refine run_fn (fn := fn1137) rfl rfl ?_
  have ll := wl.1
  by_cases g : light t = true
  case neg =>
    have g' : light t = false := by simpa using g
    simp (maxSteps := 2000000) only [fn1137_body, c1137, D0, SP0, seval, -Int.reduceNatCast', @use_all d11 7 k1139.ora rfl, e1139, @use_all d11 8 kW.ora rfl, eW, wt, g']
    simp only [F1, SF0, SP0, seval, -Int.reduceNatCast', fn1137_res, fn1137_keep]
  by_cases gt : goodT t = true
  case neg =>
    have gt' : goodT t = false := by simpa using gt
    simp (maxSteps := 2000000) only [fn1137_body, c1137, D0, SP0, seval, -Int.reduceNatCast', @use_all d11 7 k1139.ora rfl, e1139, @use_all d11 17 k30.ora rfl, e30, @use_all d11 8 kW.ora rfl, eW, wt, g, gt']
    simp only [F1, SF0, SP0, seval, -Int.reduceNatCast', fn1137_res, fn1137_keep]
  by_cases l4 : (l.length : Int) > 4
  case pos =>
    simp (maxSteps := 2000000) only [fn1137_body, c1137, D0, SP0, seval, -Int.reduceNatCast', @use_all d11 7 k1139.ora rfl, e1139, @use_all d11 17 k30.ora rfl, e30, @use_all d11 8 kW.ora rfl, eW, wt, g, gt, l4, decide_true]
    simp only [F1, SF0, SP0, seval, -Int.reduceNatCast', fn1137_res, fn1137_keep]
  obtain ⟨st, lt⟩ := light_iff wt g
  obtain ⟨x, hx, rfl⟩ := okS_of ⟨st, gt⟩
  have en : nullT (enc x) = nul x := by simp [nullT, gt, hx.dec]
  have tn := takes_nul hx
  have e31n := e31 (enc x) [] ⟨wt, by simp⟩
  rw [List.map_nil, tn] at e31n
  have hb0 : (!(nul x == nul x)) = false := by simp
  have ea := allT_enc hx l
  have d1143 : SmS (enc x) ∧ l.length ≤ 9223372036854775807 := ⟨st, ll⟩
  have E3 := e1143 (enc x) l d1143
  rw [ea] at E3
  simp (maxSteps := 2000000) only [fn1137_body, c1137, D0, SP0, seval, -Int.reduceNatCast', @use_all d11 7 k1139.ora rfl, e1139, @use_all d11 17 k30.ora rfl, e30, @use_all d11 15 k1145.ora rfl, e1145, @use_all d11 20 k31.ora rfl, e31n, @use_all d11 12 k1143.ora rfl, E3, wt, g, gt, l4, st, en, hb0, resO, decide_false]
  refine lg_rule (fun j e H => e = [(0, (AV.list 5 (List.map eNd (enc x)))), (1, (AV.list 1 (List.map (fun x => [AV.int .i64 x]) (l)))), (4, .bool false), (5, (AV.list 5 (List.map eNd (encO (allP x l))))), (6, .bool (allP x l).isSome), (7, .bool ((l.take j).all isS)), (8, .int .i64 j)] ∧ H = [[]] ∧ j ≤ l.length) l.length ?_ ?_
  · exact ⟨rfl, rfl, by simp⟩
  rintro j e H ⟨rfl, rfl, hj⟩
  simp (maxSteps := 2000000) only [D0, SP0, seval, -Int.reduceNatCast']
  by_cases h : j < l.length
  · have h' : (j : Int) < (l.length : Int) := by omega
    have hp := wrapp (j := j) (by omega)
    have hg := map_get (f := fun x : Int => [AV.int .i64 x]) h 0
    have hs := all_snoc h
    generalize l.getD j 0 = v at hg hs
    generalize hc : (l.take j).all isS = c at hs
    cases c with
    | false =>
      rw [Bool.false_and] at hs
      simp (maxSteps := 2000000) only [D0, SP0, seval, -Int.reduceNatCast', h', hp, decide_true]
      simp only [F1, SF0, SP0, seval, -Int.reduceNatCast']
      rw [hs]
      exact ⟨h, rfl, h⟩
    | true =>
      rw [Bool.true_and] at hs
      simp (maxSteps := 2000000) only [D0, SP0, seval, -Int.reduceNatCast', @use_all d11 18 k66.ora rfl, e66, hg, h', hp, Int.natCast_nonneg, Int.toNat_natCast, decide_true]
      simp only [F1, SF0, SP0, seval, -Int.reduceNatCast']
      rw [hs]
      exact ⟨h, rfl, h⟩
  · have h' : ¬ (j : Int) < (l.length : Int) := by omega
    have hjl : j = l.length := by omega
    subst hjl
    rw [List.take_length]
    simp (maxSteps := 2000000) only [D0, SP0, seval, -Int.reduceNatCast', h', decide_false]
    refine .inr ⟨by simp, ?_⟩
    cases eA : allP x l with
    | none =>
      have eR : allR x l = none := by
        cases er : allR x l with
        | none => rfl
        | some c => rw [allR_P l x c er] at eA; cases eA
      have hrt := allRT_enc hx l
      rw [eR] at hrt
      cases es : l.all isS with
      | false =>
        simp (maxSteps := 2000000) only [D0, SP0, seval, -Int.reduceNatCast', @use_all d11 8 kW.ora rfl, eW, encO, n0e, Option.isSome_none]
        simp only [F1, SF0, SP0, seval, -Int.reduceNatCast', fn1137_res, fn1137_keep]
      | true =>
        simp (maxSteps := 2000000) only [D0, SP0, seval, -Int.reduceNatCast', @use_all d11 13 k1144.ora rfl, e1144, @use_all d11 8 kW.ora rfl, eW, d1143, hrt, encO, n0e, Option.isSome_none]
        simp only [F1, SF0, SP0, seval, -Int.reduceNatCast', fn1137_res, fn1137_keep]
    | some a =>
      have es := allP_scal eA
      have oa := ok_allP hx eA
      have na : nullT (enc a) = nul a := by simp [nullT, oa.good, oa.dec]
      have sa := oa.sm
      have wa := sa.wf
      have ga := oa.good
      have hsem := sem_allP hx eA []
      rw [List.append_nil] at hsem
      have tk := takes_sem hx l (nul a) (by rw [sem_nul a oa.1, hsem])
      have d31 : WfT (enc x) ∧ l.length ≤ 1000000 := ⟨wt, by omega⟩
      have hb1 : (!(nul a == nul a)) = false := by simp
      by_cases hl : l = []
      · have hl0 : ((l.length : Int) == 0) = true := by rw [hl]; rfl
        simp (maxSteps := 2000000) only [D0, SP0, seval, -Int.reduceNatCast', @use_all d11 15 k1145.ora rfl, e1145, @use_all d11 20 k31.ora rfl, e31, @use_all d11 17 k30.ora rfl, e30, @use_all d11 8 kW.ora rfl, eW, encO, es, sa, na, tk, d31, hb1, wa, ga, hl0, Option.isSome_some]
        simp only [F1, SF0, SP0, seval, -Int.reduceNatCast', fn1137_res, fn1137_keep]
      · obtain ⟨v, r, hv⟩ : ∃ v r, l = v :: r := by
          cases l with
          | nil => exact absurd rfl hl
          | cons v r => exact ⟨v, r, rfl⟩
        have eA' := eA
        rw [hv] at eA'
        simp only [allP, Option.bind_eq_some_iff] at eA'
        obtain ⟨b, e1, e2⟩ := eA'
        have ob := ok_oneP hx e1
        have E1 := e1141 (enc x) v st
        rw [byT_enc hx, e1] at E1
        have hlen : l.length = r.length + 1 := by rw [hv]; rfl
        have hl0 : ((l.length : Int) == 0) = false := beq_no (by omega)
        have hl1 : (0 : Int) < (l.length : Int) := by omega
        have tb : takesT (enc b) r = nul a := takes_sem ob r _ (by
          rw [sem_nul a oa.1, hsem, hv]
          have e3 : b = sDer v x := by
            unfold oneP at e1
            split at e1
            · exact derP_eq v e1
            · cases e1
          rw [e3, sem_sDer v x hx.1])
        have sb := ob.sm
        have db : WfT (enc b) ∧ r.length ≤ 1000000 := ⟨sb.wf, by omega⟩
        have hg0 : (List.map (fun x => [AV.int .i64 x]) l)[0]? = some [AV.int .i64 v] := by rw [hv]; rfl
        have hdr : List.drop 1 (List.map (fun x => [AV.int .i64 x]) l) = List.map (fun x => [AV.int .i64 x]) r := by rw [hv]; rfl
        have h1l : 1 ≤ l.length := by omega
        have hll : (l.length ≤ l.length) = True := eq_true (Nat.le_refl _)
        have htk : List.take l.length (List.map (fun x => [AV.int .i64 x]) l) = List.map (fun x => [AV.int .i64 x]) l := List.take_of_length_le (by simp)
        have E31 := e31 (enc b) r db
        rw [tb] at E31
        simp only [resO, encO, Option.isSome_some] at E1
        simp (maxSteps := 2000000) only [D0, SP0, seval, -Int.reduceNatCast', @use_all d11 15 k1145.ora rfl, e1145, @use_all d11 17 k30.ora rfl, e30, @use_all d11 20 k31.ora rfl, e31 (enc x) l d31, E31, @use_all d11 10 k1141.ora rfl, E1, @use_all d11 8 kW.ora rfl, eW, encO, es, sa, na, tk, hb1, wa, ga, hl0, hl1, hg0, hdr, htk, h1l, hll, Int.reduceLE, Int.toNat_zero, beq_self_eq_true, Option.isSome_some]
        simp only [F1, SF0, SP0, seval, -Int.reduceNatCast', fn1137_res, fn1137_keep]
end Go.Proofs.Abs
