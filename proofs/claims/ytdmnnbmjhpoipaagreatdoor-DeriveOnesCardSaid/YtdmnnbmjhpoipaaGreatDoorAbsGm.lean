/- A part of a proof: the text that states the row tells what is proved. No condition is laid on anything. -/
import Derived.Test.YtdmnnbmjhpoipaaGreatDoorAbsGl
import Derived.Test.YtdmnnbmjhpoipaaGreatDoorAbsWZ
set_option linter.all false
set_option linter.constructorNameAsVariable false
set_option linter.defProp false
set_option linter.unusedVariables false
set_option linter.unusedSimpArgs false
set_option maxRecDepth 100000
set_option maxHeartbeats 16000000
namespace Go.Proofs.Abs
open Go
noncomputable def allRT (t : List Nd) (l : List Int) : Option Tr := if goodT t then allR (dec t) l else none
theorem allRT_enc {x : Tr} (hx : OkS x) (l : List Int) : allRT (enc x) l = allR x l := by simp [allRT, hx.good, hx.dec]
theorem allR_snoc : ∀ (l : List Int) (x : Tr) (v : Int), allR x (l ++ [v]) = (allR x l).bind fun y => oneR v y
  | [], x, v => by
    simp only [List.nil_append, allR, Option.bind_some]
    cases oneR v x <;> rfl
  | w :: l, x, v => by
    simp only [List.cons_append, allR]
    cases oneR w x with
    | none => rfl
    | some y => simp only [Option.bind_some]; exact allR_snoc l y v
theorem allR_take_none {l : List Int} {x : Tr} {j : Nat} (h : allR x (l.take j) = none) : allR x l = none := by
  have key : ∀ (m k : List Int) (x : Tr), allR x m = none → allR x (m ++ k) = none := by
    intro m
    induction m with
    | nil => intro k x h; cases h
    | cons v m ih =>
      intro k x h
      simp only [allR, List.cons_append] at h ⊢
      cases e : oneR v x with
      | none => rfl
      | some y => rw [e] at h; simp only [Option.bind_some] at h ⊢; exact ih k y h
  have := key (l.take j) (l.drop j) x h
  rwa [List.take_append_drop] at this
theorem ok_allR {l : List Int} {x c : Tr} (hx : OkS x) (h : allR x l = some c) : OkS c := ok_allP hx (allR_P l x c h)
theorem run1144 (t : List Nd) (l : List Int) (st : SmS t) (ll : l.length ≤ 9223372036854775807) : cwp d10 13 [] [(AV.list 5 (List.map eNd t)), (AV.list 1 (List.map (fun x => [AV.int .i64 x]) (l)))] [] (fun r H => r = (AV.list 5 (List.map eNd (encO (allRT t l)))) ∧ H = []) := by
  refine run_fn (fn := fn1144) rfl rfl ?_
  have wt := st.wf
  by_cases g : goodT t = true
  case neg =>
    have g' : goodT t = false := by simpa using g
    have hr : allRT t l = none := by simp [allRT, g']
    simp only [fn1144_body, c1144, D0, SP0, seval, -Int.reduceNatCast', @use_all d10 17 k30.ora rfl, e30, wt, g']
    simp only [F1, SF0, SP0, seval, -Int.reduceNatCast', fn1144_res, fn1144_keep, fz, fzd, fzd.fzcells, hr, encO]
  obtain ⟨x, hx, rfl⟩ := okS_of ⟨st, g⟩
  rw [allRT_enc hx]
  simp only [fn1144_body, c1144, D0, SP0, seval, -Int.reduceNatCast', @use_all d10 17 k30.ora rfl, e30, wt, g]
  refine lg_rule (fun j e H => ∃ y : Option Tr, allR x (l.take j) = y ∧ e = [(0, (AV.list 5 (List.map eNd (encO y)))), (1, (AV.list 1 (List.map (fun x => [AV.int .i64 x]) (l)))), (4, .own [0] 0), (5, .int .i64 j)] ∧ H = [[([0], .row true true 39 5 [])]] ∧ j ≤ l.length) l.length ?_ ?_
  · exact ⟨some x, rfl, rfl, rfl, by simp⟩
  rintro j e H ⟨y, hy, rfl, rfl, hj⟩
  have hno := allR_take_none (l := l) (x := x) (j := j)
  cases y with
  | none =>
    have hr := hno hy
    by_cases h : (j : Int) < (l.length : Int)
    · simp only [D0, SP0, seval, -Int.reduceNatCast', encO, h, n0g]
      refine .inr ⟨by simp, ?_⟩
      simp only [F1, SF0, SP0, seval, -Int.reduceNatCast', fn1144_res, fn1144_keep, fz, fzd, fzd.fzcells, hr, encO]
    · simp only [D0, SP0, seval, -Int.reduceNatCast', encO, h]
      refine .inr ⟨by simp, ?_⟩
      simp only [F1, SF0, SP0, seval, -Int.reduceNatCast', fn1144_res, fn1144_keep, fz, fzd, fzd.fzcells, hr, encO]
  | some y =>
    have oy := ok_allR hx hy
    have sy := oy.sm
    have ly := oy.len
    have ny := oy.ne
    have ey := byR_enc oy
    have hl0 : ((enc y).length : Int) > 0 := by omega
    by_cases h : j < l.length
    · have h' : (j : Int) < (l.length : Int) := by omega
      have hp := wrapp (j := j) (by omega)
      have hg := map_get (f := fun x : Int => [AV.int .i64 x]) h 0
      have hs := allR_snoc (l.take j) x (l.getD j 0)
      rw [← take_snocI h, hy, Option.bind_some] at hs
      generalize l.getD j 0 = v at hg hs
      have eyv := ey v
      have hd : SmS (enc y) ∧ (enc y).length ≤ 1000000 := ⟨sy, by omega⟩
      simp only [D0, SP0, seval, -Int.reduceNatCast', @use_all d10 11 k1142.ora rfl, e1142, encO, hg, h', hl0, hp, hd, eyv, decide_true, Int.natCast_nonneg, Int.toNat_natCast]
      simp only [F1, SF0, SP0, seval, -Int.reduceNatCast']
      refine ⟨h, _, hs, ?_⟩
      simp
      omega
    · have h' : ¬ (j : Int) < (l.length : Int) := by omega
      have hjl : j = l.length := by omega
      subst hjl
      rw [List.take_length] at hy
      simp only [D0, SP0, seval, -Int.reduceNatCast', encO, h', decide_false]
      refine .inr ⟨by simp, ?_⟩
      simp only [F1, SF0, SP0, seval, -Int.reduceNatCast', fn1144_res, fn1144_keep, fz, fzd, fzd.fzcells, hy, encO]
noncomputable def k1144 : Kon (List Nd × List Int) := ⟨fun x => SmS x.1 ∧ x.2.length ≤ 9223372036854775807, fun x => [(AV.list 5 (List.map eNd x.1)), (AV.list 1 (List.map (fun x => [AV.int .i64 x]) (x.2)))], fun x => (AV.list 5 (List.map eNd (encO (allRT x.1 x.2))))⟩
theorem e1144 (t : List Nd) (l : List Int) (hd : SmS t ∧ l.length ≤ 9223372036854775807) (q0 : Id) (H0 : Heap) : k1144.ora q0 ([(AV.list 5 (List.map eNd t)), (AV.list 1 (List.map (fun x => [AV.int .i64 x]) (l)))]) H0 = some ((AV.list 5 (List.map eNd (encO (allRT t l)))), H0) := k1144.eq (treeRowInj) (t, l) hd q0 H0
theorem ook1144 : OraOK Tryz.prog (13 % 100000) k1144.ora := k1144.ok orders d10_ok (fun x hd => by simp [k1144, PU]) (fun x hd => by simp [k1144, PU]) (fun x hd => run1144 x.1 x.2 hd.1 hd.2)

theorem run1146 (t : List Nd) (st : SmS t) : cwp d10 16 [] [(AV.list 5 (List.map eNd t))] [] (fun r H => r = .bool (nullT t) ∧ H = []) := by
  refine run_fn (fn := fn1146) rfl rfl ?_
  have wt := st.wf
  by_cases g1 : goodT t = true
  case neg =>
    have g1' : goodT t = false := by simpa using g1
    have hr : nullT t = false := by simp [nullT, g1']
    simp only [fn1146_body, c1146, D0, SP0, seval, -Int.reduceNatCast', @use_all d10 17 k30.ora rfl, e30, wt, g1']
    simp only [F1, SF0, SP0, seval, -Int.reduceNatCast', fn1146_res, fn1146_keep, hr]
  obtain ⟨x, hx, rfl⟩ := okS_of ⟨st, g1⟩
  have hr : nullT (enc x) = nul x := by simp [nullT, g1, dec_enc hx.1 hx.2]
  have lx := enc_len x
  have px := sz_pos x
  have zx := hx.2
  have wm := wrapm (j := sz x) (by omega) (by omega)
  have hlen : (List.map (fun b => [AV.bool b]) (nuls x)).length = sz x := by simp [nuls, subs_len]
  have hlast := nuls_get (x := x) (i := sz x - 1) (by omega)
  rw [subs_last] at hlast
  have hl2 : ((sz x - 1 : Nat) : Int) < (sz x : Int) := by omega
  simp only [fn1146_body, c1146, D0, SP0, seval, -Int.reduceNatCast', @use_all d10 17 k30.ora rfl, e30, @use_all d10 28 k1149.ora rfl, e1149, wt, g1, hx, lx, wm]
  generalize List.map (fun b => [AV.bool b]) (nuls x) = R at hlen hlast ⊢
  simp only [D0, SP0, seval, -Int.reduceNatCast', hlen, hlast, hl2, Int.natCast_nonneg, Int.toNat_natCast]
  simp only [F1, SF0, SP0, seval, -Int.reduceNatCast', fn1146_res, fn1146_keep, hr]
noncomputable def k1146 : Kon (List Nd) := ⟨fun x => SmS x, fun x => [(AV.list 5 (List.map eNd x))], fun x => .bool (nullT x)⟩
theorem e1146 (t : List Nd) (hd : SmS t) (q0 : Id) (H0 : Heap) : k1146.ora q0 ([(AV.list 5 (List.map eNd t))]) H0 = some (.bool (nullT t), H0) := k1146.eq (treeInj) (t) hd q0 H0
theorem ook1146 : OraOK Tryz.prog (16 % 100000) k1146.ora := k1146.ok orders d10_ok (fun x hd => by simp [k1146, PU]) (fun x hd => by simp [k1146, PU]) (fun x hd => run1146 x hd)

def light (t : List Nd) : Bool := !large t && decide (t.length ≤ 60)
theorem run1139 (t : List Nd) (wt : WfT t) : cwp d10 7 [] [(AV.list 5 (List.map eNd t))] [] (fun r H => r = .bool (light t) ∧ H = []) := by
  refine run_fn (fn := fn1139) rfl rfl ?_
  cases e : large t with
  | true =>
    have hr : light t = false := by simp [light, e]
    simp only [fn1139_body, c1139, D0, SP0, seval, -Int.reduceNatCast', @use_all d10 23 k16.ora rfl, e16, wt, e]
    simp only [F1, SF0, SP0, seval, -Int.reduceNatCast', fn1139_res, fn1139_keep, hr]
  | false =>
    by_cases h : t.length ≤ 60
    · have h' : (t.length : Int) ≤ 60 := by omega
      have hr : light t = true := by simp [light, e, h]
      simp only [fn1139_body, c1139, D0, SP0, seval, -Int.reduceNatCast', @use_all d10 23 k16.ora rfl, e16, wt, e, h', decide_true]
      simp only [F1, SF0, SP0, seval, -Int.reduceNatCast', fn1139_res, fn1139_keep, hr]
    · have h' : ¬ (t.length : Int) ≤ 60 := by omega
      have hr : light t = false := by simp [light, e, h]
      simp only [fn1139_body, c1139, D0, SP0, seval, -Int.reduceNatCast', @use_all d10 23 k16.ora rfl, e16, wt, e, h', decide_false]
      simp only [F1, SF0, SP0, seval, -Int.reduceNatCast', fn1139_res, fn1139_keep, hr]
noncomputable def k1139 : Kon (List Nd) := ⟨fun x => WfT x, fun x => [(AV.list 5 (List.map eNd x))], fun x => .bool (light x)⟩
theorem e1139 (t : List Nd) (hd : WfT t) (q0 : Id) (H0 : Heap) : k1139.ora q0 ([(AV.list 5 (List.map eNd t))]) H0 = some (.bool (light t), H0) := k1139.eq (treeInj) (t) hd q0 H0
theorem ook1139 : OraOK Tryz.prog (7 % 100000) k1139.ora := k1139.ok orders d10_ok (fun x hd => by simp [k1139, PU]) (fun x hd => by simp [k1139, PU]) (fun x hd => run1139 x hd)

noncomputable def d11' : FT := upd (upd (upd (upd (upd (upd (upd (d10) 13 k1144.ora) 16 k1146.ora) 7 k1139.ora) 9 k18.ora) 14 k28.ora) 21 k25.ora) 22 k26.ora
theorem d11'_ok : FTOK Tryz.prog d11' := upd_ok2 (f := 22) (upd_ok2 (f := 21) (upd_ok2 (f := 14) (upd_ok2 (f := 9) (upd_ok2 (f := 7) (upd_ok2 (f := 16) (upd_ok2 (f := 13) (d10_ok) ook1144) ook1146) ook1139) ook18) ook28) ook25) ook26

noncomputable def d11 : FT := upd d11' 8 kW.ora
theorem d11_ok : FTOK Tryz.prog d11 := upd_ok2 (f := 8) d11'_ok ook1140
end Go.Proofs.Abs

set_option maxRecDepth 100000
set_option maxHeartbeats 16000000
namespace Go.Proofs.Abs
open Go
theorem light_iff {t : List Nd} (wt : WfT t) (h : light t = true) : SmS t ∧ t.length ≤ 60 := by
  simp only [light, Bool.and_eq_true, Bool.not_eq_true', decide_eq_true_eq] at h
  exact ⟨large_set wt h.1, h.2⟩
structure Opt (o : Option Tr) : Prop where
  dom : (∀ n ∈ encO o, n.set.length ≤ 600) ∧ (encO o).length ≤ 9223372036854775807
  has : (o.isSome == decide (((encO o).length : Int) > 0)) = true
theorem opt_of {o : Option Tr} (h : ∀ y, o = some y → OkS y) : Opt o := by
  cases o with
  | none => exact ⟨⟨fun n hn => (by cases hn), by simp [encO]⟩, rfl⟩
  | some y =>
    have hy := h y rfl
    have := hy.ne
    refine ⟨⟨hy.sm.set, this.2⟩, ?_⟩
    have e : decide (((enc y).length : Int) > 0) = true := by rw [decide_eq_true_eq]; omega
    show (true == decide (((enc y).length : Int) > 0)) = true
    rw [e]; rfl
theorem ok_byT {t : List Nd} {v : Int} (st : SmS t) : ∀ y, byT t v = some y → OkS y := by
  intro y h
  by_cases g : goodT t = true
  · obtain ⟨x, hx, rfl⟩ := okS_of ⟨st, g⟩
    rw [byT_enc hx] at h
    exact ok_oneP hx h
  · simp [byT, g] at h
theorem ok_allT {t : List Nd} {l : List Int} (st : SmS t) : ∀ y, allT t l = some y → OkS y := by
  intro y h
  by_cases g : goodT t = true
  · obtain ⟨x, hx, rfl⟩ := okS_of ⟨st, g⟩
    rw [allT_enc hx] at h
    exact ok_allP hx h
  · simp [allT, g] at h
theorem byR_eq {t : List Nd} {v : Int} (st : SmS t) (h : t.length ≤ 199) : byR t v = byT t v := by
  by_cases g : goodT t = true
  · obtain ⟨x, hx, rfl⟩ := okS_of ⟨st, g⟩
    rw [enc_len] at h
    rw [byT_enc hx, byR_enc hx]
    unfold oneR oneP
    rw [derR_eq v x (rb_small x h)]
  · simp [byT, byR, g]
theorem allR_eqT {t : List Nd} {l : List Int} (st : SmS t) (h : t.length ≤ 199) : allRT t l = allT t l := by
  by_cases g : goodT t = true
  · obtain ⟨x, hx, rfl⟩ := okS_of ⟨st, g⟩
    rw [enc_len] at h
    rw [allT_enc hx, allRT_enc hx]
    exact allR_eq l x (rb_small x h)
  · simp [allT, allRT, g]
theorem run1135 (t : List Nd) (v : Int) (l : List Int) (wt : WfT t) (_ : I64 v) (wl : l.length ≤ 9223372036854775807 ∧ ∀ x ∈ l, I64 x) : cwp d11 3 [] [(AV.list 5 (List.map eNd t)), .int .i64 v, (AV.list 1 (List.map (fun x => [AV.int .i64 x]) (l)))] [] (fun r H => r = .bool true ∧ H = []) := by
  refine run_fn (fn := fn1135) rfl rfl ?_
  have ll := wl.1
  by_cases g : light t = true
  case neg =>
    have g' : light t = false := by simpa using g
    simp (maxSteps := 2000000) only [fn1135_body, c1135, D0, SP0, seval, -Int.reduceNatCast', @use_all d11 7 k1139.ora rfl, e1139, @use_all d11 8 kW.ora rfl, eW, wt, g']
    simp only [F1, SF0, SP0, seval, -Int.reduceNatCast', fn1135_res, fn1135_keep]
  by_cases l3 : (l.length : Int) > 3
  case pos =>
    simp (maxSteps := 2000000) only [fn1135_body, c1135, D0, SP0, seval, -Int.reduceNatCast', @use_all d11 7 k1139.ora rfl, e1139, @use_all d11 8 kW.ora rfl, eW, wt, g, l3, decide_true]
    simp only [F1, SF0, SP0, seval, -Int.reduceNatCast', fn1135_res, fn1135_keep]
  obtain ⟨st, lt⟩ := light_iff wt g
  have d18 : (∀ n ∈ t, n.set.length ≤ 600) ∧ t.length ≤ 1000000 := ⟨st.set, by omega⟩
  have d1142 : SmS t ∧ t.length ≤ 1000000 := ⟨st, by omega⟩
  have d1143 : SmS t ∧ l.length ≤ 9223372036854775807 := ⟨st, ll⟩
  have d28 : (∀ n ∈ t, n.set.length ≤ 600) ∧ t.length ≤ 9223372036854775807 := ⟨st.set, by omega⟩
  have e1 := byR_eq (v := v) st (by omega)
  have e2 := allR_eqT (l := l) st (by omega)
  have p1 := opt_of (ok_byT (v := v) st)
  have p2 := opt_of (ok_allT (l := l) st)
  have same := sameT_self
  have E1 := e1141 t v st
  have E2 := e1143 t l d1143
  generalize byT t v = o1 at e1 p1 E1
  generalize allT t l = o2 at e2 p2 E2
  have q1 := p1.dom
  have q2 := p2.dom
  have h1 := p1.has
  have h2 := p2.has
  have hz : (l.length = 0 + l.length) = True := eq_true (by omega)
  have hcap : (0 + l.length) * 8 ≤ 140737488355328 := by omega
  simp (maxSteps := 2000000) only [fn1135_body, c1135, D0, SP0, seval, -Int.reduceNatCast', @use_all d11 10 k1141.ora rfl, E1, @use_all d11 12 k1143.ora rfl, E2, @use_all d11 9 k18.ora rfl, e18 t d18, @use_all d11 14 k28.ora rfl, e28 t t d28, e28 (encO o1) (encO o1) q1, e28 (encO o2) (encO o2) q2, @use_all d11 7 k1139.ora rfl, e1139, @use_all d11 11 k1142.ora rfl, e1142, @use_all d11 13 k1144.ora rfl, e1144, @use_all d11 15 k1145.ora rfl, e1145, @use_all d11 16 k1146.ora rfl, e1146, @use_all d11 8 kW.ora rfl, eW, wt, g, l3, d1142, d1143, e1, e2, h1, h2, st, same, hcap, hz, resO, fz, fzd, decide_false, beq_self_eq_true, List.nil_append, List.length_map]
  simp only [F1, SF0, SP0, seval, -Int.reduceNatCast', fn1135_res, fn1135_keep]
theorem same_in {v w : Int} : ∀ x : Tr, (∀ n ∈ enc x, n.kind = 2 → hasS n.set v = hasS n.set w) → SameIn v w x
  | .leaf n, h => h n (by simp [enc])
  | .star a, h => same_in a fun n hn => h n (by simp only [enc, starT, List.mem_append]; exact .inl hn)
  | .cat a b, h => ⟨same_in a fun n hn => h n (by simp only [enc, joinT, List.mem_append]; exact .inl (.inl hn)), same_in b fun n hn => by
      have := h (movN n (enc a).length) (by simp only [enc, joinT, List.mem_append]; exact .inl (.inr (List.mem_map.2 ⟨n, hn, rfl⟩)))
      rw [movN_kind, movN_set] at this
      exact this⟩
  | .alt a b, h => ⟨same_in a fun n hn => h n (by simp only [enc, joinT, List.mem_append]; exact .inl (.inl hn)), same_in b fun n hn => by
      have := h (movN n (enc a).length) (by simp only [enc, joinT, List.mem_append]; exact .inl (.inr (List.mem_map.2 ⟨n, hn, rfl⟩)))
      rw [movN_kind, movN_set] at this
      exact this⟩
theorem enc_empty0 : (List.map eNd (enc empty))[0]? = some [AV.int .i64 1, AV.int .i64 0, AV.int .i64 0, AV.list 2 [], AV.str ⟨#[]⟩] := rfl
theorem enc_never0 : (List.map eNd (enc never))[0]? = some [AV.int .i64 0, AV.int .i64 0, AV.int .i64 0, AV.list 2 [], AV.str ⟨#[]⟩] := rfl
theorem n1e : ((((1 : Nat) : Int)) == 1) = true := rfl
theorem n1p : ((0 : Int) < ((1 : Nat) : Int)) = True := eq_true (by decide)
theorem len_empty : (enc empty).length = 1 := rfl
theorem len_never : (enc never).length = 1 := rfl
theorem one_leaf {x : Tr} (h : sz x = 1) : ∃ n, x = .leaf n := by
  cases x with
  | leaf n => exact ⟨n, rfl⟩
  | cat a b => simp only [sz] at h; have := sz_pos a; omega
  | alt a b => simp only [sz] at h; have := sz_pos a; omega
  | star a => simp only [sz] at h; have := sz_pos a; omega
theorem run1136 (t : List Nd) (v w : Int) (wt : WfT t) (_ : I64 v) (_ : I64 w) : cwp d11 4 [] [(AV.list 5 (List.map eNd t)), .int .i64 v, .int .i64 w] [] (fun r H => r = .bool true ∧ H = []) := by
  refine run_fn (fn := fn1136) rfl rfl ?_
  by_cases g : light t = true
  case neg =>
    have g' : light t = false := by simpa using g
    simp (maxSteps := 2000000) only [fn1136_body, c1136, D0, SP0, seval, -Int.reduceNatCast', @use_all d11 7 k1139.ora rfl, e1139, @use_all d11 8 kW.ora rfl, eW, wt, g']
    simp only [F1, SF0, SP0, seval, -Int.reduceNatCast', fn1136_res, fn1136_keep]
  by_cases gt : goodT t = true
  case neg =>
    have gt' : goodT t = false := by simpa using gt
    simp (maxSteps := 2000000) only [fn1136_body, c1136, D0, SP0, seval, -Int.reduceNatCast', @use_all d11 7 k1139.ora rfl, e1139, @use_all d11 17 k30.ora rfl, e30, @use_all d11 8 kW.ora rfl, eW, wt, g, gt']
    simp only [F1, SF0, SP0, seval, -Int.reduceNatCast', fn1136_res, fn1136_keep]
  by_cases iv : isS v = true
  case neg =>
    have iv' : isS v = false := by simpa using iv
    simp (maxSteps := 2000000) only [fn1136_body, c1136, D0, SP0, seval, -Int.reduceNatCast', @use_all d11 7 k1139.ora rfl, e1139, @use_all d11 17 k30.ora rfl, e30, @use_all d11 18 k66.ora rfl, e66, @use_all d11 8 kW.ora rfl, eW, wt, g, gt, iv']
    simp only [F1, SF0, SP0, seval, -Int.reduceNatCast', fn1136_res, fn1136_keep]
  by_cases iw : isS w = true
  case neg =>
    have iw' : isS w = false := by simpa using iw
    simp (maxSteps := 2000000) only [fn1136_body, c1136, D0, SP0, seval, -Int.reduceNatCast', @use_all d11 7 k1139.ora rfl, e1139, @use_all d11 17 k30.ora rfl, e30, @use_all d11 18 k66.ora rfl, e66, @use_all d11 8 kW.ora rfl, eW, wt, g, gt, iv, iw']
    simp only [F1, SF0, SP0, seval, -Int.reduceNatCast', fn1136_res, fn1136_keep]
  obtain ⟨st, lt⟩ := light_iff wt g
  simp (maxSteps := 2000000) only [fn1136_body, c1136, D0, SP0, seval, -Int.reduceNatCast', @use_all d11 7 k1139.ora rfl, e1139, @use_all d11 17 k30.ora rfl, e30, @use_all d11 18 k66.ora rfl, e66, @use_all d11 8 kW.ora rfl, eW, wt, g, gt, iv, iw]
  refine lg_rule (fun j e H => e = [(0, (AV.list 5 (List.map eNd t))), (1, .int .i64 v), (2, .int .i64 w), (6, .bool false), (7, .int .i64 j)] ∧ H = [[]] ∧ j ≤ t.length ∧ ∀ i, i < j → (t.getD i default).kind = 2 → hasS (t.getD i default).set v = hasS (t.getD i default).set w) t.length ?_ ?_
  · exact ⟨rfl, rfl, by simp, by simp⟩
  rintro j e H ⟨rfl, rfl, hj, hi⟩
  simp (maxSteps := 2000000) only [D0, SP0, seval, -Int.reduceNatCast']
  by_cases h : j < t.length
  · have h' : (j : Int) < (t.length : Int) := by omega
    have hp := wrapp (j := j) (by omega)
    have hg := map_get (f := eNd) (l := t) (j := j) h default
    have hs := st.set (t.getD j default) (by rw [List.getD_eq_getElem?_getD, List.getElem?_eq_getElem h]; exact List.getElem_mem h)
    have step : ((t.getD j default).kind = 2 → hasS (t.getD j default).set v = hasS (t.getD j default).set w) → ∀ i, i < j + 1 → (t.getD i default).kind = 2 → hasS (t.getD i default).set v = hasS (t.getD i default).set w := fun h1 i h2 => by
      by_cases e : i = j
      · rw [e]; exact h1
      · exact hi i (by omega)
    clear hi
    generalize t.getD j default = nd at hg hs step
    obtain ⟨kk, a, b, c, z⟩ := nd
    simp only at hs step
    have hcl : c.length ≤ 9223372036854775807 := by omega
    by_cases k2 : kk = 2
    · subst k2
      by_cases hh : hasS c v = hasS c w
      · have hn := step (fun _ => hh)
        have hb : (!(hasS c v == hasS c w)) = false := by rw [hh]; simp
        simp (maxSteps := 2000000) only [D0, SP0, seval, -Int.reduceNatCast', @use_all d11 19 k59.ora rfl, e59, hg, eNd, eSet, h', hcl, hb, hp, lrc_x, apx, apart, apart1, needs, Int.natCast_nonneg, Int.toNat_natCast, decide_true]
        simp only [F1, SF0, SP0, seval, -Int.reduceNatCast']
        exact ⟨h, h, hn⟩
      · have hb : (!(hasS c v == hasS c w)) = true := by simpa using hh
        simp (maxSteps := 2000000) only [D0, SP0, seval, -Int.reduceNatCast', @use_all d11 19 k59.ora rfl, e59, @use_all d11 8 kW.ora rfl, eW, hg, eNd, eSet, h', hcl, hb, hp, lrc_x, apx, apart, apart1, needs, Int.natCast_nonneg, Int.toNat_natCast, decide_true]
        simp only [F1, SF0, SP0, seval, -Int.reduceNatCast', fn1136_res, fn1136_keep]
    · have hk2 : (kk == 2) = false := by simpa using k2
      have hn := step (fun e => absurd e k2)
      simp (maxSteps := 2000000) only [D0, SP0, seval, -Int.reduceNatCast', hg, eNd, eSet, h', hk2, hp, lrc_x, apx, apart, apart1, needs, Int.natCast_nonneg, Int.toNat_natCast, decide_true]
      simp only [F1, SF0, SP0, seval, -Int.reduceNatCast']
      exact ⟨h, h, hn⟩
  · have h' : ¬ (j : Int) < (t.length : Int) := by omega
    have hjl : j = t.length := by omega
    subst hjl
    simp only [D0, SP0, seval, -Int.reduceNatCast', h', decide_false]
    refine .inr ⟨by simp, ?_⟩
    obtain ⟨x, hx, rfl⟩ := okS_of ⟨st, gt⟩
    have lx := enc_len x
    have hsame : SameIn v w x := same_in x fun n hn hk => by
      obtain ⟨i, h1, rfl⟩ := List.getElem_of_mem hn
      have := hi i h1
      rw [List.getD_eq_getElem?_getD, List.getElem?_eq_getElem h1] at this
      exact this hk
    have ebv : byT (enc x) v = derP v x := by rw [byT_enc hx]; simp [oneP, iv]
    have ebw : byT (enc x) w = derP v x := by rw [byT_enc hx]; simp [oneP, iw, derP_same x hsame]
    have E1 := e1141 (enc x) v st
    have E2 := e1141 (enc x) w st
    rw [ebv] at E1
    rw [ebw] at E2
    have same := sameT_self
    by_cases s1 : sz x = 1
    · obtain ⟨n, rfl⟩ := one_leaf s1
      have hl1 : (((sz (.leaf n) : Nat) : Int) == 1) = true := by rw [s1]; rfl
      have hd : derP v (.leaf n) = some (derL v n) := rfl
      rw [hd] at E1 E2
      have hg : (List.map eNd (enc (.leaf n)))[0]? = some (eNd n) := rfl
      have hz : (0 : Int) < ((sz (.leaf n) : Nat) : Int) := by rw [s1]; decide
      have hcl : n.set.length ≤ 9223372036854775807 := by have := hx.1.2.2; omega
      have o1 := ok_derP v hx hd
      have q1 := (opt_of (o := some (derL v n)) (fun y e => by injection e with e; subst e; exact o1)).dom
      simp only [encO] at q1
      have c1 : n.kind = 2 → hasS n.set v = true → derL v n = empty := fun h1 h2 => by simp [derL, h1, h2]
      have c2 : ¬ (n.kind = 2 ∧ hasS n.set v = true) → derL v n = never := fun h1 => by unfold derL; rw [if_neg h1]
      simp only [resO, encO, Option.isSome_some] at E1 E2
      clear hsame hd
      generalize derL v n = D at *
      generalize Tr.leaf n = x at *
      obtain ⟨kk, a, b, c, z⟩ := n
      simp only at c1 c2 hcl
      have E28 := e28 (enc D) (enc D) q1
      by_cases k2 : kk = 2
      · subst k2
        cases hh : hasS c v with
        | true =>
          rw [c1 rfl hh] at E1 E2 E28
          simp (maxSteps := 2000000) only [D0, SP0, seval, -Int.reduceNatCast', @use_all d11 10 k1141.ora rfl, E1, E2, @use_all d11 14 k28.ora rfl, E28, same, @use_all d11 19 k59.ora rfl, e59, @use_all d11 8 kW.ora rfl, eW, lx, hl1, hg, hz, eNd, eSet, hcl, hh, enc_empty0, len_empty, n1e, n1p, Int.reduceLE, Int.toNat_zero, decide_true, beq_self_eq_true]
          simp only [F1, SF0, SP0, seval, -Int.reduceNatCast', fn1136_res, fn1136_keep]
        | false =>
          rw [c2 (by simp [hh])] at E1 E2 E28
          simp (maxSteps := 2000000) only [D0, SP0, seval, -Int.reduceNatCast', @use_all d11 10 k1141.ora rfl, E1, E2, @use_all d11 14 k28.ora rfl, E28, same, @use_all d11 19 k59.ora rfl, e59, @use_all d11 8 kW.ora rfl, eW, lx, hl1, hg, hz, eNd, eSet, hcl, hh, enc_never0, len_never, n1e, n1p, Int.reduceLE, Int.toNat_zero, decide_true, beq_self_eq_true]
          simp only [F1, SF0, SP0, seval, -Int.reduceNatCast', fn1136_res, fn1136_keep]
      · have hk2 : (kk == 2) = false := by simpa using k2
        rw [c2 (by simp [k2])] at E1 E2 E28
        simp (maxSteps := 2000000) only [D0, SP0, seval, -Int.reduceNatCast', @use_all d11 10 k1141.ora rfl, E1, E2, @use_all d11 14 k28.ora rfl, E28, same, @use_all d11 19 k59.ora rfl, e59, @use_all d11 8 kW.ora rfl, eW, lx, hl1, hg, hz, eNd, eSet, hk2, enc_never0, len_never, n1e, n1p, Int.reduceLE, Int.toNat_zero, decide_true, beq_self_eq_true]
        simp only [F1, SF0, SP0, seval, -Int.reduceNatCast', fn1136_res, fn1136_keep]
    · have hl1 : (((sz x : Nat) : Int) == 1) = false := beq_no (by omega)
      have q1 := (opt_of (fun y e => ok_derP v hx e)).dom
      generalize derP v x = o1 at *
      have E28 := e28 (encO o1) (encO o1) q1
      simp (maxSteps := 2000000) only [D0, SP0, seval, -Int.reduceNatCast', @use_all d11 10 k1141.ora rfl, E1, E2, @use_all d11 14 k28.ora rfl, E28, same, @use_all d11 8 kW.ora rfl, eW, lx, hl1, resO, beq_self_eq_true]
      simp only [F1, SF0, SP0, seval, -Int.reduceNatCast', fn1136_res, fn1136_keep]
end Go.Proofs.Abs
