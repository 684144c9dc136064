/- A part of a proof: the text that states the row tells what is proved. No condition is laid on anything. -/
import Derived.Test.YtligpalonlliaaaGreatAbsP
import Derived.Test.YtligpalonlliaaaGreatAbsQ8
import Derived.Test.YtligpalonlliaaaGreatAbsV1
import Derived.Test.YtligpalonlliaaaGreatAbsV7
set_option linter.all false
set_option linter.constructorNameAsVariable false
set_option linter.defProp false
set_option linter.unusedVariables false
set_option linter.unusedSimpArgs false
namespace Go.Proofs.Abs
open Go Go.RowKit
/-! ### Codes with a call that may answer in more ways than one -/
def SpOK (P : Program) (nt : Nat) (ac : ACode) (s : St) (Q : AExit → St → Prop) : Prop := ∀ c C a, chkCode P nt c ac = true → SimE nt s.env C a → C.H = s.heap → HRep C → Pre s C →
  c.wp P (fun ex a' w' => ∃ e s', Q e s' ∧ ex = liftE e ∧ ∃ C', C'.w = w' ∧ Post nt s s' C a' C') a C.w
theorem sp_run {P : Program} {ft : FT} (hmo : P.follows .mixedOrders = true) (hft : FTOK P ft) {nt : Nat} {ac : ACode} {s : St} {Q : AExit → St → Prop} (h : run ft ac [] Q s) : SpOK P nt ac s Q := by
  obtain ⟨x, s', he, hQ⟩ := awp_sound ac _ s h
  intro c C a hc sim hH hr hpre
  obtain ⟨n, hn⟩ := he.get
  refine Go.wp_mono ((sound P ft hmo hft n).1 nt c ac s x s' hc hn C a sim hH hr hpre) ?_
  rintro ex a' w' ⟨h1, C', h2, h3⟩
  exact ⟨x, s', hQ, h1, C', h2, h3⟩
theorem sp_seq {P : Program} {ft : FT} (hmo : P.follows .mixedOrders = true) (hft : FTOK P ft) {nt : Nat} {x y : ACode} {s : St} {Q : AExit → St → Prop} (h : run ft x [] (fun e s1 => sq e (SpOK P nt y s1 Q) (Q e s1)) s) : SpOK P nt (.seq x y) s Q := by
  intro c C a hc sim hH hr hpre
  cases c with
  | seq cx cy =>
    simp only [chkCode, Bool.and_eq_true] at hc
    refine wp_seq (Go.wp_mono (sp_run hmo hft h cx C a hc.1 sim hH hr hpre) ?_)
    rintro ex a' w' ⟨e, s1, hQ, rfl, C1, rfl, hp⟩
    cases e with
    | normal =>
      refine Go.wp_mono (hQ cy C1 a' hc.2 hp.sim hp.heap hp.hrep (fun id k' h1 h2 => hp.av id k' h1 h2)) ?_
      rintro ex a2 w2 ⟨e2, s2, q2, h1, C2, h2, hp2⟩
      exact ⟨e2, s2, q2, h1, C2, h2, hp.trans hp2⟩
    | exit id => exact ⟨_, s1, hQ, rfl, C1, rfl, hp⟩
    | ret => exact ⟨_, s1, hQ, rfl, C1, rfl, hp⟩
  | _ => simp [chkCode] at hc
/-- A function's run from its code. -/
theorem sp_body {P : Program} {f : Nat} {fn : AFn} (hfn : fnOK P f fn = true) {q : Id} {args : List AV} {H H' : Heap} {r : AV} (hlen : args.length = fn.np) (h : SpOK P fn.nt fn.body { env := params 0 args, heap := [] :: H, p := q, k := 0 } (fun e s1 => bodyRes fn e s1 = some (r, H'))) :
    (∀ vals w, (callFunc f vals).run P w = .ok (.enter f vals) w) ∧
    ∀ C vs, C.H = H → HRep C → (∀ id, q <+: id → C.Av id) → RepL C args vs → Calls P f vs.toArray C.w (CallPost C q r H') := by
  unfold fnOK at hfn
  split at hfn
  · rename_i g hg
    split at hfn
    · rename_i c hb
      simp only [Bool.and_eq_true, Bool.not_eq_true', beq_iff_eq, decide_eq_true_eq] at hfn
      obtain ⟨⟨⟨⟨h1, h2⟩, h3⟩, h4⟩, h5⟩ := hfn
      refine ⟨fun vals w => enter_run hg hb h4 vals w, fun C vs hH hr hav hl => ?_⟩
      have hr0 : HRep { C with H := [] :: H } := hr.heq ⟨by simp [fget], by rw [← hH]; exact hr.nd⟩ (fun id => by rw [hH]; rfl)
      have hx0 : Ext C { C with H := [] :: H } := Ext.less (A := C.Av) (fun id o h => by rw [hH]; exact h) (fun _ h => h)
      have sim0 : SimE fn.nt (params 0 args) { C with H := [] :: H } { tmps := vs.toArray ++ Array.replicate (g.ntmps - vs.toArray.size) undef, defers := [] } := by
        have hvl : vs.length = fn.np := by rw [← hl.1]; exact hlen
        refine ⟨by simp [h2, hvl]; omega, rfl, fun i => ?_⟩
        rw [params_get]
        simp only [Nat.zero_le, if_true, Nat.sub_zero]
        by_cases hi : i < args.length
        · rw [List.getElem?_eq_getElem hi]
          have hi' : i < vs.length := by rw [← hl.1]; exact hi
          have e : (vs.toArray ++ Array.replicate (g.ntmps - vs.toArray.size) undef).getD i undef = vs[i] := by
            rw [Array.getD_eq_getD_getElem?, Array.getElem?_append_left (by simpa using hi')]
            simp [hi']
          rw [e]
          exact (hl.2 i _ _ (List.getElem?_eq_getElem hi) (List.getElem?_eq_getElem hi')).ext hx0
        · rw [List.getElem?_eq_none (by omega)]
          exact .undef _
      have hpre : Pre { env := params 0 args, heap := [] :: H, p := q, k := 0 } { C with H := [] :: H } := fun id k' _ hp => hav id (prefix_up hp)
      refine calls_of_wp hg hb (Go.wp_mono (h c { C with H := [] :: H } _ h1 sim0 rfl hr0 hpre) ?_)
      rintro ex a' w' ⟨e, s1, hres, rfl, C1, rfl, hp⟩
      have he : e = .normal ∨ e = .ret := by
        cases e with
        | normal => exact .inl rfl
        | ret => exact .inr rfl
        | exit i => cases hres
      have body : ∃ v, (results g a'.tmps).run P C1.w = .ok v C1.w ∧ CallPost C q r H' (.returned v) C1.w := by
        have hres : (match resOf s1.env s1.heap fn.res with | some l => (if fn.keep = 0 then (match fz s1.heap (one l) with | some (v, H') => some (v, hpop H') | none => none) else if fn.keep = 1 then (match one l with | .own id n => (match hget s1.heap id with | some (.row wr flat e sz rows) => if rows.length = n then (match hget (hpop s1.heap) id with | some _ => some (.own id n, hpop s1.heap) | none => some (.own id n, hadd (hpop s1.heap) id (.row wr flat e sz rows))) else none | _ => none) | _ => none) else some (one l, hmerge s1.heap)) | none => none) = some (r, H') := by
          rcases he with rfl | rfl <;> exact hres
        split at hres
        · rename_i l el
          rw [← hp.heap] at el
          obtain ⟨us, e1, e2⟩ := resOf_rep hp.sim hp.hrep g.results.toList fn.res l h5 el
          have hone := one_rep e2
          refine ⟨oneV us, run_results e1, ?_⟩
          have hout : ∀ id, C.Av id → ¬ q <+: id → C1.Av id := fun id h6 h7 => hp.out id h6 h7
          have hnd := hp.hrep.nd
          rw [hp.heap] at hnd
          split at hres
          · split at hres
            · rename_i v H2 ez
              simp only [Option.some.injEq, Prod.mk.injEq] at hres
              obtain ⟨rfl, rfl⟩ := hres
              rw [← hp.heap] at ez
              obtain ⟨f1, _, f3⟩ := fzd_ok 4 _ _ _ _ ez
              have hv := f3 C1 _ rfl hp.hrep hone
              have hr2 : HRep { C1 with H := H2 } := f1.hrep hp.hrep
              have hx2 : Ext C1 { C1 with H := H2 } := f1.ext
              have hx3 : Ext { C1 with H := H2 } { C1 with H := hpop H2 } := Ext.less (C := { C1 with H := H2 }) (A := C1.Av) (fun id o ho => hpop_sub hr2.nd ho) (fun _ h => h)
              exact ⟨_, { C1 with H := hpop H2 }, rfl, rfl, rfl, HRep.less (C := { C1 with H := H2 }) (A := C1.Av) hr2 (hpop_nd hr2.nd) (fun id o ho => hpop_sub hr2.nd ho) (fun _ h => h), hv.ext hx3, hx0.trans (hp.ext.trans (hx2.trans hx3)), hout⟩
            · cases hres
          · split at hres
            · split at hres
              · rename_i id n eone
                split at hres
                · rename_i wr flat el2 sz rows ho
                  split at hres
                  · rename_i hn
                    rw [eone] at hone
                    split at hres
                    · simp only [Option.some.injEq, Prod.mk.injEq] at hres
                      obtain ⟨rfl, rfl⟩ := hres
                      have hsub : ∀ id o, hget (hpop s1.heap) id = some o → hget C1.H id = some o := fun id o ho => by rw [hp.heap]; exact hpop_sub hnd ho
                      have hx3 : Ext C1 { C1 with H := hpop s1.heap } := Ext.less (A := C1.Av) hsub (fun _ h => h)
                      exact ⟨_, { C1 with H := hpop s1.heap }, rfl, rfl, rfl, HRep.less (A := C1.Av) hp.hrep (hpop_nd hnd) hsub (fun _ h => h), hone.ext hx3, hx0.trans (hp.ext.trans hx3), hout⟩
                    · rename_i hno
                      simp only [Option.some.injEq, Prod.mk.injEq] at hres
                      obtain ⟨rfl, rfl⟩ := hres
                      have hsub : ∀ id' o, hget (hadd (hpop s1.heap) id (.row wr flat el2 sz rows)) id' = some o → hget C1.H id' = some o := fun id' o ho' => by
                        rw [hget_hadd] at ho'
                        rw [hp.heap]
                        split at ho'
                        · rename_i hid; subst hid; injection ho' with ho'; subst ho'; exact ho
                        · exact hpop_sub hnd ho'
                      have hx3 : Ext C1 { C1 with H := hadd (hpop s1.heap) id (.row wr flat el2 sz rows) } := Ext.less (A := C1.Av) hsub (fun _ h => h)
                      exact ⟨_, { C1 with H := hadd (hpop s1.heap) id (.row wr flat el2 sz rows) }, rfl, rfl, rfl, HRep.less (A := C1.Av) hp.hrep ((hpop_nd hnd).hadd _ _ hno) hsub (fun _ h => h), hone.ext hx3, hx0.trans (hp.ext.trans hx3), hout⟩
                  · cases hres
                · cases hres
              · cases hres
            · simp only [Option.some.injEq, Prod.mk.injEq] at hres
              obtain ⟨rfl, rfl⟩ := hres
              have hsub : ∀ id o, hget (hmerge s1.heap) id = some o → hget C1.H id = some o := fun id o ho => by rw [hget_hmerge, ← hp.heap] at ho; exact ho
              have hx3 : Ext C1 { C1 with H := hmerge s1.heap } := Ext.less (A := C1.Av) hsub (fun _ h => h)
              exact ⟨_, { C1 with H := hmerge s1.heap }, rfl, rfl, rfl, hp.hrep.heq (hmerge_nd hnd) (fun id => by rw [hget_hmerge, hp.heap]), hone.ext hx3, hx0.trans (hp.ext.trans hx3), hout⟩
        · cases hres
      rcases he with rfl | rfl
      · exact ⟨hp.sim.defers, body⟩
      · exact ⟨hp.sim.defers, body⟩
    · cases hfn
  · cases hfn
def RelCall (P : Program) (f : Nat) (q : Id) (l : List AV) (H : Heap) (R : AV → Heap → Prop) : Prop := (∀ vals w, (callFunc (f % 100000) vals).run P w = .ok (.enter (f % 100000) vals) w) ∧
  ∀ C vs, C.H = H → HRep C → (∀ id, q <+: id → C.Av id) → RepL C l vs → Calls P (f % 100000) vs.toArray C.w fun e w' => ∃ r H', R r H' ∧ CallPost C q r H' e w'
def RR (P : Program) : List AIn → Nat → St → (St → Prop) → Prop
  | [], k, s, K => K { s with k := k }
  | i :: r, k, s, K => wanted s.env i.g = some true ∧
      ((∃ f args l H1 R, i.i = .call f args ∧ argsOf s.env s.heap args = some (l, H1) ∧ RelCall P f (s.p ++ [k]) l H1 R ∧ ∀ v H', R v H' → RR P r (k + 1) { env := putd s.env i.d v, heap := H', p := s.p, k := k + 1 } K) ∨
       (isCall i.i = false ∧ ∃ v s1, ains i.i { s with k := k } = some (v, s1) ∧ RR P r (k + 1) { s1 with env := putd s1.env i.d v } K))
theorem region_okR {P : Program} {nt : Nat} {ops : Array Oper} {Q : Exit → Act → World → Prop} {K : St → Prop} : ∀ (l : List Oper) (is : List AIn) (k : Nat) (s : St) (C : Ctx) (a : Act),
    chkOps P nt ops l is = true → RR P is k s K → SimE nt s.env C a → C.H = s.heap → HRep C → (∀ id k', k ≤ k' → (s.p ++ [k']) <+: id → C.Av id) →
    (∀ s' a' C', K s' → Post nt s s' C a' C' → Q .normal a' C'.w) → wpList P ops Q l a C.w
  | [], is, k, s, C, a, hc, h, sim, hH, hr, hav, hQ => by
    cases is with
    | cons => simp [chkOps] at hc
    | nil => exact wpList_nil (hQ _ a C h ⟨hH, sim, hr, Ext.refl C, hav, fun _ h _ => h, rfl⟩)
  | o :: l, is, k, s, C, a, hc, h, sim, hH, hr, hav, hQ => by
    cases is with
    | nil => simp [chkOps] at hc
    | cons i is =>
      simp only [chkOps, Bool.and_eq_true, chkIn] at hc
      obtain ⟨⟨⟨hg, hd⟩, hi⟩, hc⟩ := hc
      have hdst : o.dst = i.d ∧ ∀ d, i.d = some d → d < nt := by
        unfold dstOK at hd
        split at hd
        · rename_i e1 e2; exact ⟨by rw [e1, e2], fun d e => by rw [e2] at e; cases e⟩
        · rename_i d d' e1 e2
          simp only [Bool.and_eq_true, beq_iff_eq, decide_eq_true_eq] at hd
          obtain ⟨rfl, hd⟩ := hd
          exact ⟨by rw [e1, e2], fun x e => by rw [e2] at e; injection e with e; subst e; exact hd⟩
        · cases hd
      obtain ⟨hw, h⟩ := h
      -- what is left, behind this operation
      have rest : ∀ (v : Value) (av : AV) (s1 : St) (C1 : Ctx), RR P is (k + 1) { s1 with env := putd s1.env i.d av } K → s1.env = s.env → s1.p = s.p → C1.H = s1.heap → HRep C1 → Ext C C1 → (∀ id, C.Av id → ¬ (s.p ++ [k]) <+: id → C1.Av id) → Rep C1 av v →
          wpList P ops Q l (a.put o.dst v) C1.w := by
        intro v av s1 C1 h1 he hp hH1 hr1 hx hav1 hv
        refine region_okR l is (k + 1) { s1 with env := putd s1.env i.d av } C1 (a.put o.dst v) hc h1 ?_ hH1 hr1 (fun id k' hk' hpre => ?_) (fun s' a' C' hK hp' => hQ s' a' C' hK ?_)
        · rw [hdst.1, he]
          exact (sim.ext hx).put hdst.2 hv
        · have hpre' : (s.p ++ [k']) <+: id := by rw [← hp]; exact hpre
          exact hav1 id (hav id k' (by omega) hpre') (fun hh => by have := prefix_last hh hpre'; omega)
        · refine ⟨hp'.heap, hp'.sim, hp'.hrep, hx.trans hp'.ext, hp'.av, fun id h3 h4 => hp'.out id (hav1 id h3 (fun hh => h4 (prefix_up hh))) (by show ¬ s1.p <+: id; rw [hp]; exact h4), ?_⟩
          rw [hp'.path]; exact hp
      have hwd := wanted_ok sim hg hw
      unfold wpList
      rw [if_pos hwd]
      refine .inl ?_
      rcases h with ⟨f, args, l', H1, R, hii, eargs, ⟨c1, c2⟩, h⟩ | ⟨hkf, av, s1, hs1', h⟩
      · rw [hii] at hi
        simp only [chkIns] at hi
        split at hi
        · rename_i f' args' ats eo
          simp only [Bool.and_eq_true, beq_iff_eq] at hi
          obtain ⟨rfl, hi⟩ := hi
          rw [← hH] at eargs
          obtain ⟨f1, f2⟩ := argsOf_ok args'.toList args C l' H1 hi eargs sim hr
          have hcalls := c2 { C with H := H1 } (args'.toList.map a.eval ++ []) rfl (f1.hrep hr) (fun id hid => hav id k (Nat.le_refl _) hid) (by rw [List.append_nil]; exact f2)
          have hrun : (execOp a.eval o).run P C.w = (callFunc (f % 100000) (args'.toList.map a.eval ++ []).toArray).run P C.w := by
            simp only [execOp, eo, resolve, Act.eval, Deferred.ofValue]
            simp [invoke]
            congr 2
            apply Array.ext'
            simp
          unfold Oper.wp
          rw [hrun, c1]
          rw [Oper.upon_enter]
          refine hcalls.mono ?_
          rintro e w' ⟨r, H2, hR, v, C', rfl, rfl, hH', hr', hv, hx, hav'⟩
          exact rest v r { s with heap := H2, k := k + 1 } C' (h r H2 hR) rfl rfl hH' hr' (f1.ext.trans hx) hav' hv
        · cases hi
      · obtain ⟨C1, nv, hrun, hnv, hH1, hr1, hx, hav1⟩ := ins_ok (P := P) (o := o) (a := a) (nt := nt) (s := { s with k := k }) hkf sim hH hr (fun id hid => hav id k (Nat.le_refl _) hid) hi hs1'
        obtain ⟨he, hp⟩ := ains_env hs1'
        unfold Oper.wp
        rw [hrun]
        rcases hnv with ⟨v, rfl, hv⟩ | ⟨rfl, rfl⟩
        · rw [Oper.upon_value]
          exact rest v av s1 C1 h he hp hH1 hr1 hx hav1 hv
        · rw [Oper.upon_skip]
          exact rest undef .undef s1 C1 h he hp hH1 hr1 hx hav1 (.undef _)
theorem sp_reg {P : Program} {nt : Nat} {is : List AIn} {drop : List Nat} {y : ACode} {s : St} {Q : AExit → St → Prop} (h : RR P is s.k s fun s' => SpOK P nt y { s' with env := edrop s'.env drop } Q) : SpOK P nt (.seq (.reg is drop) y) s Q := by
  intro c C a hc sim hH hr hpre
  cases c with
  | seq cx cy =>
    simp only [chkCode, Bool.and_eq_true] at hc
    obtain ⟨hc1, hc2⟩ := hc
    refine wp_seq ?_
    cases cx with
    | region id ops draw =>
      cases draw with
      | true => simp [chkCode] at hc1
      | false =>
        simp only [chkCode] at hc1
        refine wp_region_list (region_okR (nt := nt) ops.toList is s.k s C a hc1 h sim hH hr hpre fun s1 a1 C1 hK hp => ?_)
        refine Go.wp_mono (hK cy C1 a1 hc2 (hp.sim.drop drop) hp.heap hp.hrep (fun id k' h1 h2 => hp.av id k' h1 h2)) ?_
        rintro ex a2 w2 ⟨e2, s2, q2, h1, C2, h2, hp2⟩
        exact ⟨e2, s2, q2, h1, C2, h2, ⟨hp2.heap, hp2.sim, hp2.hrep, hp.ext.trans hp2.ext, hp2.av, fun id h3 h4 => hp2.out id (hp.out id h3 h4) (by show ¬ s1.p <+: id; rw [hp.path]; exact h4), hp2.path.trans hp.path⟩⟩
    | _ => simp [chkCode] at hc1
  | _ => simp [chkCode] at hc
theorem sp_seq2 {P : Program} {ft : FT} (hmo : P.follows .mixedOrders = true) (hft : FTOK P ft) {nt : Nat} {x y : ACode} {s : St} {Q : AExit → St → Prop} {K : St → Prop} (hK : ∀ s1, K s1 → SpOK P nt y s1 Q) (h : run ft x [] (fun e s1 => sq e (K s1) (Q e s1)) s) : SpOK P nt (.seq x y) s Q := by
  obtain ⟨x0, s', he, hQ⟩ := awp_sound x _ s h
  intro c C a hc sim hH hr hpre
  cases c with
  | seq cx cy =>
    simp only [chkCode, Bool.and_eq_true] at hc
    obtain ⟨n, hn⟩ := he.get
    refine wp_seq (Go.wp_mono ((sound P ft hmo hft n).1 nt cx x s x0 s' hc.1 hn C a sim hH hr hpre) ?_)
    rintro ex a' w' ⟨rfl, C1, rfl, hp⟩
    cases x0 with
    | normal =>
      refine Go.wp_mono (hK s' hQ cy C1 a' hc.2 hp.sim hp.heap hp.hrep (fun id k' h1 h2 => hp.av id k' h1 h2)) ?_
      rintro ex a2 w2 ⟨e2, s2, q2, h1, C2, h2, hp2⟩
      exact ⟨e2, s2, q2, h1, C2, h2, hp.trans hp2⟩
    | exit id => exact ⟨_, s', hQ, rfl, C1, rfl, hp⟩
    | ret => exact ⟨_, s', hQ, rfl, C1, rfl, hp⟩
  | _ => simp [chkCode] at hc
theorem sp_mono {P : Program} {nt : Nat} {y : ACode} {s : St} {Q Q' : AExit → St → Prop} (h : SpOK P nt y s Q) (k : ∀ e s1, Q e s1 → Q' e s1) : SpOK P nt y s Q' := by
  intro c C a hc sim hH hr hpre
  refine Go.wp_mono (h c C a hc sim hH hr hpre) ?_
  rintro ex a' w' ⟨e, s1, h1, h2, h3⟩
  exact ⟨e, s1, k e s1 h1, h2, h3⟩
theorem ob_eq {o : Option (AV × Heap)} {v : AV} {H : Heap} (h : ob o fun r => r.1 = v ∧ r.2 = H) : o = some (v, H) := by
  obtain ⟨⟨a, b⟩, rfl, rfl, rfl⟩ := h
  rfl
/-- A contract, from what is told of a run that sees no one's objects. -/
theorem kon_rel {P : Program} {f : Nat} {α : Type} {K : Kon α} (hin : ∀ a, K.dom a → ∀ x ∈ K.enc a, Pure x) (hout : ∀ a, K.dom a → Pure (K.out a))
    (h : ∀ a, K.dom a → (∀ vals w, (callFunc f vals).run P w = .ok (.enter f vals) w) ∧ ∀ C vs, C.H = [] → HRep C → (∀ id, [] <+: id → C.Av id) → RepL C (K.enc a) vs → Calls P f vs.toArray C.w (CallPost C [] (K.out a) [])) : OraOK P f K.ora := by
  intro q args H r H' ho
  unfold Kon.ora oraF at ho
  split at ho
  · rename_i hex
    simp only [Option.some.injEq, Prod.mk.injEq] at ho
    obtain ⟨rfl, rfl⟩ := ho
    obtain ⟨hd, he⟩ := Classical.choose_spec hex
    generalize Classical.choose hex = a at hd he
    subst he
    obtain ⟨h1, h2⟩ := h a hd
    refine ⟨h1, fun C vs hH hr hav hl => ?_⟩
    have := h2 (hide C) vs rfl (hide_rep hr) (fun _ _ => trivial) (hl.pure (hin a hd) fun _ _ _ h => hide_fro h)
    refine this.mono ?_
    rintro e w' ⟨v, C2, rfl, rfl, hH2, hr2, hv, hx, _⟩
    exact ⟨v, { C with w := C2.w }, rfl, rfl, hH, hide_hrep hr hx, hv.pure (hout a hd) fun _ _ _ h => hide_back hx h, hide_ext hr hx, fun _ h _ => h⟩
  · cases ho
end Go.Proofs.Abs

set_option linter.all false
set_option linter.constructorNameAsVariable false
set_option linter.defProp false
set_option linter.unusedVariables false
set_option linter.unusedSimpArgs false
namespace Go.Proofs.Rg
open Go Go.Proofs Go.RowKit Go.Sort Go.Shelf Go.Lib
/-! slices.SortFunc at stretches, whatever order it leaves among equals. -/
theorem sortT_any (w : World) (g cap : Nat) (cur : Array Value) (zs : List T3) (hg : w.heap[g]? = some (.cells cur 69 (0, 0))) (hcap : zs.length ≤ cap) (hm : cap ≤ maxLen) (hcur : cur.size = cap * 3) (hx : cur.toList.take (zs.length * 3) = cellsT zs) (hz : zs.length < 1000001) :
    Calls Tryz.prog 32 #[.slice (some ⟨g, 0, none⟩) zs.length cap, .func (.func 33) #[] #[]] w fun e w' => e = .returned (.tuple #[]) ∧ ∃ W : List T3, W.Perm zs ∧ w'.ownsRow 0 69 3 (.slice (some ⟨g, 0, none⟩) zs.length cap) zs.length (cellsT W) ∧ w'.tape = w.tape ∧ w'.os = w.os ∧ w'.output = w.output ∧ w.heap.size ≤ w'.heap.size ∧ ∀ k, k < w.heap.size → k ≠ g → w'.heap[k]? = w.heap[k]? := by
  have hlt : g < w.heap.size := (Array.getElem?_eq_some_iff.1 hg).1
  have hsz : (flatK encT 3 zs.toArray).size = zs.length * 3 := by simp
  have hH : HoldsK encT 3 w g 0 zs.toArray := fun j hj => by
    rw [hsz] at hj
    have hjc : j < cur.size := by omega
    have e1 : cur[j]? = some ((flatK encT 3 zs.toArray)[j]!) := by
      have a : cur.toList[j]? = (cellsT zs)[j]? := by rw [← hx, List.getElem?_take, if_pos hj]
      rw [← flatT_cells] at a
      rw [← Array.getElem?_toList, a, Array.getElem?_toList]
      have : j < (flatK encT 3 zs.toArray).size := by rw [hsz]; exact hj
      rw [getElem!_pos (flatK encT 3 zs.toArray) j this, Array.getElem?_eq_getElem this]
    constructor
    · simp only [World.cell?, hg, Nat.zero_add]
      exact e1
    · simp [World.frozen?, hg]
  have h := AnyQ.slices_SortFunc Tryz.sortSt 3 isAggT sizeOfT encT (fun _ => rfl) (fun x v hv => by simp at hv; rcases hv with rfl | rfl | rfl <;> rfl) cmpT swoT 33 #[] g 0 cap zs.toArray w (enters_of Tryz.func33 (by kernel_rfl) rfl) (cmpLaysT _ _ _ w) hH hlt (by simp; omega)
  refine h.mono ?_
  rintro e w' ⟨rfl, d', n, os, hp, hs, rfl⟩
  obtain ⟨hsz', _, hperm⟩ := hp
  have e1 : d'.extract 0 zs.toArray.size = d' := by rw [← hsz']; exact Array.extract_size
  rw [e1, Array.extract_size] at hperm
  have hperm' : d'.toList.Perm zs := hperm
  obtain ⟨W, rfl⟩ : ∃ W : List T3, d' = W.toArray := ⟨d'.toList, by simp⟩
  have hpW : W.Perm zs := by simpa using hperm'
  have hWl : W.length = zs.length := hpW.length_eq
  have hsz2 : (flatK encT 3 W.toArray).size = zs.length * 3 := by simp [hWl]
  have hmod : ∀ k, k < w.heap.size → (sortWorldK encT 3 w g 0 n W.toArray os).heap[k]? = if g = k then some (.cells (putCells id 0 (flatK encT 3 W.toArray) cur) 69 (0, 0)) else w.heap[k]? := fun k hk => by
    show ((w.heap.modify g _) ++ os)[k]? = _
    rw [Array.getElem?_append_left (by simpa using hk), Array.getElem?_modify]
    split
    · rename_i e; subst e; rw [hg]; rfl
    · rfl
  refine ⟨rfl, W, hpW, ⟨by rw [cellsT_length, hWl], .inr ⟨g, cap, _, rfl, Nat.zero_le _, (hmod g hlt).trans (if_pos rfl), hcap, hm, by simp [putCells, hcur], ?_⟩⟩, rfl, rfl, rfl, by simp [sortWorldK, grow, putRowK, putRow, mapBlock, ahead], fun k hk hne => (hmod k hk).trans (if_neg (Ne.symm hne))⟩
  rw [← hsz2, putCells_take _ _ (by rw [hsz2, hcur]; omega), flatT_cells]
end Go.Proofs.Rg
namespace Go.Proofs.Abs
open Go Go.Proofs Go.RowKit
theorem sort_rel (q : Id) (id : Id) (H : Heap) (l : List Rg.T3) (hget : hget H id = some (.row true true 69 3 (t3Rows l))) (hn3 : l.length ≤ 1000000) :
    RelCall Tryz.prog 32 q [.own id l.length, .func 33 []] H (fun r H' => r = .tuple [] ∧ ∃ W : List Rg.T3, W.Perm l ∧ H' = hset H id (.row true true 69 3 (t3Rows W))) := by
  refine ⟨enters_of Tryz.func32 (by kernel_rfl) rfl, ?_⟩
  intro C vs hH hr hav hL
  obtain ⟨hll, hlv⟩ := hL
  match vs, hll with
  | [v0, v1], _ =>
    have r0 := hlv 0 _ _ rfl rfl
    have r1 := hlv 1 _ _ rfl rfl
    subst hH
    cases r1 with
    | func _ _ us ul uv =>
    match us, ul with
    | [], _ =>
    cases r0 with
    | own _ _ _ ha hs hoo =>
    obtain ⟨h0, h1, h2, xs, h3, h4⟩ := hr.obj id _ hget
    have hxs : xs = Rg.cellsT l := by
      have hc := (t3Rows_cells l C).2
      refine List.ext_getElem (by rw [← h4.1, hc.1]) fun j j1 j2 => ?_
      have hj : j < (t3Rows l).flatten.length := by rw [h4.1]; exact j1
      have e0 := List.getElem?_eq_getElem hj
      have a := h4.2 j _ _ e0 (List.getElem?_eq_getElem j1)
      have b := hc.2 j _ _ e0 (List.getElem?_eq_getElem j2)
      have hi : ∃ x, (t3Rows l).flatten[j] = .int .i64 x := by
        have := List.getElem_mem hj
        obtain ⟨r, hr1, hr2⟩ := List.mem_flatten.1 this
        obtain ⟨x, _, rfl⟩ := List.mem_map.1 hr1
        simp only [List.mem_cons, List.not_mem_nil, or_false] at hr2
        rcases hr2 with h | h | h <;> exact ⟨_, h⟩
      obtain ⟨x, hx⟩ := hi
      rw [hx] at a b
      have ra : ∀ {v : Value}, Rep C (.int .i64 x) v → v = .int .i64 x := fun h => by cases h; rfl
      rw [ra a, ra b]
    subst hxs
    have hφ := (hoo _ hget).2 (by simp only [asize]; rw [t3Rows_length])
    by_cases hz : l.length = 0
    · have hl0 : l = [] := List.eq_nil_of_length_eq_zero hz
      subst hl0
      have hv0 : ∃ p cap, v0 = .slice p 0 cap := by
        rcases hφ with rfl | ⟨_, _, b, rfl⟩
        · rcases h3.2 with ⟨e, _⟩ | ⟨g, cap, cur, e, _⟩
          · exact ⟨_, _, e⟩
          · exact ⟨_, _, e⟩
        · exact ⟨_, _, rfl⟩
      obtain ⟨p, cap, rfl⟩ := hv0
      refine (AnyF.slices_SortFunc_none Tryz.sortSt p cap _ C.w).mono ?_
      rintro e w' ⟨rfl, rfl⟩
      exact ⟨_, _, ⟨rfl, [], .nil, rfl⟩, sort_post (rows' := t3Rows []) hr hget rfl (fun r hr' => by cases hr') (t3Rows_cells [] C).1 (fun C' => (t3Rows_cells [] C').2) h3 (Nat.le_refl _) rfl rfl rfl (fun _ _ _ => rfl)⟩
    rcases hφ with rfl | ⟨hz', _⟩
    rotate_left
    · exact absurd hz' hz
    rcases h3.2 with ⟨_, hn0⟩ | ⟨g, cap, cur, hv, _, hg, hcap, hcm, hcs, htk⟩
    · rw [t3Rows_length] at hn0; omega
    · rw [t3Rows_length] at hv hcap htk
      have hsort := Rg.sortT_any C.w g cap cur l hg hcap hcm hcs htk (by omega)
      rw [← hv] at hsort
      refine hsort.mono ?_
      rintro e w' ⟨rfl, W, hW, hrow, ht, ho, hou, hsz, hoth⟩
      have hlen : (t3Rows W).length = (t3Rows l).length := by simp [t3Rows_length, hW.length_eq]
      refine ⟨_, _, ⟨rfl, W, hW, rfl⟩, sort_post hr hget hlen (fun r hr' => ?_) (t3Rows_cells _ C).1 (fun C' => (t3Rows_cells _ C').2) ?_ hsz ht ho hou (fun k hk hne => hoth k hk ?_)⟩
      · obtain ⟨x, _, rfl⟩ := List.mem_map.1 hr'; rfl
      · rw [t3Rows_length, hW.length_eq]; exact hrow
      · intro e; subst e; exact hne (by rw [hv]; rfl)
end Go.Proofs.Abs

set_option linter.all false
set_option linter.constructorNameAsVariable false
set_option linter.defProp false
set_option linter.unusedVariables false
set_option linter.unusedSimpArgs false
set_option maxRecDepth 100000
set_option maxHeartbeats 16000000
namespace Go.Proofs.Abs
open Go
/-! 1008: refine.Bands, of any sets: where two of them begin alike there are no bands, whatever the order of these. -/
theorem swp_up : ∀ (W : List Rg.T3) (out : List R2) (f : Int) (m : Bool) (b : List R2), (∀ x ∈ W, WhT x) → swp W out f m = some b → W.Pairwise (fun x y => x.1 < y.1) ∧ ∀ x ∈ W, f ≤ x.1
  | [], _, _, _, _, _, _ => ⟨.nil, by simp⟩
  | x :: r, out, f, m, b, hw, h => by
    simp only [swp] at h
    split at h
    · rename_i hc
      obtain ⟨_, hxf⟩ := hc
      obtain ⟨p, q⟩ := swp_up r _ _ _ b (fun y hy => hw y (List.mem_cons_of_mem _ hy)) h
      obtain ⟨w1, w2, w3⟩ := hw x (List.mem_cons_self ..)
      have key : ∀ y ∈ r, x.1 < y.1 := fun y hy => by
        have hm : nextB x.2.1 = true := by
          cases r with
          | nil => cases hy
          | cons z r' =>
            cases e : nextB x.2.1 with
            | true => rfl
            | false => rw [e] at h; simp [swp] at h
        have := nextV_gt (by simpa [nextB] using hm : x.2.1 < 1114111)
        have := q y hy
        omega
      refine ⟨List.pairwise_cons.2 ⟨key, p⟩, fun y hy => ?_⟩
      rcases List.mem_cons.1 hy with rfl | hy
      · omega
      · have := key y hy; omega
    · cases h
theorem swp_no {ps : List (List R2)} (hg : ∀ s ∈ ps, goodS s = true) (hd : distB (stL ps) = false) {W : List Rg.T3} (hW : W.Perm (stL ps)) : swp W [] 0 true = none := by
  cases e : swp W [] 0 true with
  | none => rfl
  | some b =>
    have h := (swp_up W [] 0 true b (fun x hx => stL_wh hg x (hW.mem_iff.1 hx)) e).1
    have h2 : Rg.DistT W := h.imp fun k e => by omega
    have h3 := Rg.DistT.perm hW h2
    rw [distB_iff.2 h3] at hd
    cases hd
theorem bands_no {ps : List (List R2)} (hd : distB (stL ps) = false) : bandsO ps = none := by
  cases hg : ps.all goodS with
  | false => simp [bandsO, hg]
  | true =>
    unfold bandsO
    split
    · exact swp_no (List.all_eq_true.1 hg) hd (Rg.sortT_perm _)
    · rfl
theorem rel1008 (ps : List (List R2)) (h0 : ps.length ≤ 1000) (hl : lenS ps ≤ 1000) (hps : ∀ s ∈ ps, s.length ≤ 1000000) (hd : distB (stL ps) = false) :
    SpOK Tryz.prog fn1008.nt fn1008.body { env := params 0 [(AV.list 1 (List.map (fun s => [(AV.list 2 (List.map (fun x => [AV.int .i64 x.1, AV.int .i64 x.2]) (s)))]) (ps)))], heap := [[]], p := [], k := 0 } (fun e s1 => ob (bodyRes fn1008 e s1) fun r => r.1 = .tuple [.list 2 [], .bool false] ∧ r.2 = []) := by
  have d2 : ps.length ≤ 1000000 ∧ ∀ s ∈ ps, s.length ≤ 9223372036854775807 := ⟨by omega, fun s hs => by have := hps s hs; omega⟩
  cases g2 : ps.all goodS with
  | false =>
    refine sp_run orders r9_ok ?_
    simp only [fn1008_body, c1008, D0, ains, appG, clsOf, abin, aint, aun, dnext, rowsOf, loadObj, cellsOf, ofCells, bnd, hmerge, Nat.reduceBEq, Nat.reduceAdd, reduceIte, Nat.reduceEqDiff, Nat.reduceLeDiff, Int.reduceEq, reduceCtorEq, Int.reduceBEq, Int.reduceBNe, Int.reduceLT, Int.reduceNeg, @use_all r9 23 k1017.ora rfl, e1017 ps d2, g2, params]
    simp only [F1, bodyRes, one, ains, appG, clsOf, abin, aint, aun, dnext, rowsOf, loadObj, cellsOf, ofCells, bnd, hmerge, Nat.reduceBEq, Nat.reduceAdd, reduceIte, Nat.reduceEqDiff, Nat.reduceLeDiff, Int.reduceEq, reduceCtorEq, Int.reduceBEq, Int.reduceBNe, Int.reduceLT, Int.reduceNeg, fn1008_res, fn1008_keep, fz, fzd, fzd.fzcells, List.map_nil]
  | true =>
    rw [fn1008_body]
    unfold c1008
    refine sp_seq2 orders r9_ok (K := fun s1 => s1 = { env := [(0, (AV.list 1 (List.map (fun s => [(AV.list 2 (List.map (fun x => [AV.int .i64 x.1, AV.int .i64 x.2]) (s)))]) (ps)))), (2, .own [0] 0), (3, .bool false)], heap := [[([0], .row true true 40 2 [])]], p := [], k := 2 }) ?_ ?_
    rotate_left
    · simp only [D0, ains, appG, clsOf, abin, aint, aun, dnext, rowsOf, loadObj, cellsOf, ofCells, bnd, hmerge, Nat.reduceBEq, Nat.reduceAdd, reduceIte, Nat.reduceEqDiff, Nat.reduceLeDiff, Int.reduceEq, reduceCtorEq, Int.reduceBEq, Int.reduceBNe, Int.reduceLT, Int.reduceNeg, params]
      exact trivial
    rintro _ rfl
    refine sp_seq2 orders r9_ok (K := fun s1 => s1 = { env := [(0, (AV.list 1 (List.map (fun s => [(AV.list 2 (List.map (fun x => [AV.int .i64 x.1, AV.int .i64 x.2]) (s)))]) (ps)))), (2, .own [0] 0), (3, .bool false)], heap := [[([0], .row true true 40 2 [])]], p := [], k := 5 }) ?_ ?_
    rotate_left
    · simp only [D0, ains, appG, clsOf, abin, aint, aun, dnext, rowsOf, loadObj, cellsOf, ofCells, bnd, hmerge, Nat.reduceBEq, Nat.reduceAdd, reduceIte, Nat.reduceEqDiff, Nat.reduceLeDiff, Int.reduceEq, reduceCtorEq, Int.reduceBEq, Int.reduceBNe, Int.reduceLT, Int.reduceNeg, @use_all r9 23 k1017.ora rfl, e1017 ps d2, g2]
      exact trivial
    rintro _ rfl
    refine sp_seq2 orders r9_ok (K := fun s1 => s1 = { env := [(0, (AV.list 1 (List.map (fun s => [(AV.list 2 (List.map (fun x => [AV.int .i64 x.1, AV.int .i64 x.2]) (s)))]) (ps)))), (2, .own [0] 0), (3, .bool false), (4, .own [5] 0)], heap := [[([5], .row true true 69 3 []), ([0], .row true true 40 2 [])]], p := [], k := 6 }) ?_ ?_
    rotate_left
    · simp only [D0, ains, appG, clsOf, abin, aint, aun, dnext, rowsOf, loadObj, cellsOf, ofCells, bnd, hmerge, Nat.reduceBEq, Nat.reduceAdd, reduceIte, Nat.reduceEqDiff, Nat.reduceLeDiff, Int.reduceEq, reduceCtorEq, Int.reduceBEq, Int.reduceBNe, Int.reduceLT, Int.reduceNeg]
      exact trivial
    rintro _ rfl
    refine sp_seq2 orders r9_ok (K := fun s1 => s1 = { env := [(0, (AV.list 1 (List.map (fun s => [(AV.list 2 (List.map (fun x => [AV.int .i64 x.1, AV.int .i64 x.2]) (s)))]) (ps)))), (2, .own [0] 0), (3, .bool false), (4, .own [5] (stL ps).length), (17, (AV.list 1 (List.map (fun s => [(AV.list 2 (List.map (fun x => [AV.int .i64 x.1, AV.int .i64 x.2]) (s)))]) (ps)))), (18, .int .i64 ps.length), (19, .int .i64 ps.length)], heap := [[([5], .row true true 69 3 (List.map (fun x => [AV.int .i64 x.1, AV.int .i64 x.2.1, AV.int .i64 x.2.2]) (stL ps))), ([0], .row true true 40 2 [])]], p := [], k := 10 }) ?_ ?_
    rotate_left
    · simp only [D0, ains, appG, clsOf, abin, aint, aun, dnext, rowsOf, loadObj, cellsOf, ofCells, bnd, hmerge, Nat.reduceBEq, Nat.reduceAdd, reduceIte, Nat.reduceEqDiff, Nat.reduceLeDiff, Int.reduceEq, reduceCtorEq, Int.reduceBEq, Int.reduceBNe, Int.reduceLT, Int.reduceNeg]
      refine lg_rule (fun j e H => e = [(0, (AV.list 1 (List.map (fun s => [(AV.list 2 (List.map (fun x => [AV.int .i64 x.1, AV.int .i64 x.2]) (s)))]) (ps)))), (2, .own [0] 0), (3, .bool false), (4, .own [5] (stU ps j).length), (17, (AV.list 1 (List.map (fun s => [(AV.list 2 (List.map (fun x => [AV.int .i64 x.1, AV.int .i64 x.2]) (s)))]) (ps)))), (18, .int .i64 ps.length), (19, .int .i64 j)] ∧
        H = [[([5], .row true true 69 3 (List.map (fun x => [AV.int .i64 x.1, AV.int .i64 x.2.1, AV.int .i64 x.2.2]) (stU ps j))), ([0], .row true true 40 2 [])]] ∧ j ≤ ps.length) ps.length ?_ ?_
      · exact ⟨rfl, rfl, by simp⟩
      rintro j e H ⟨rfl, rfl, hj⟩
      simp only [D0, ains, appG, clsOf, abin, aint, aun, dnext, rowsOf, loadObj, cellsOf, ofCells, bnd, hmerge, Nat.reduceBEq, Nat.reduceAdd, reduceIte, Nat.reduceEqDiff, Nat.reduceLeDiff, Int.reduceEq, reduceCtorEq, Int.reduceBEq, Int.reduceBNe, Int.reduceLT, Int.reduceNeg]
      by_cases h : j < ps.length
      · have h' : (j : Int) < (ps.length : Int) := by omega
        have hp := wrapp (j := j) (by omega)
        have hg := map_get (f := fun s : List R2 => [(AV.list 2 (List.map (fun x => [AV.int .i64 x.1, AV.int .i64 x.2]) (s)))]) h []
        have hsl := hps _ (getD_memL h)
        have hn := stU_next ps j
        have hul := stU_len hl hj
        have hul2 := stU_len hl (j := j + 1) (by omega)
        generalize ps.getD j [] = s at hg hsl hn
        by_cases hs0 : s.length = 0
        · have hs0' : ((s.length : Int) == 0) = true := by simp [hs0]
          simp only [D0, ains, appG, clsOf, abin, aint, aun, dnext, rowsOf, loadObj, cellsOf, ofCells, bnd, hmerge, Nat.reduceBEq, Nat.reduceAdd, reduceIte, Nat.reduceEqDiff, Nat.reduceLeDiff, Int.reduceEq, reduceCtorEq, Int.reduceBEq, Int.reduceBNe, Int.reduceLT, Int.reduceNeg, h', hg, hs0', decide_true, Int.natCast_nonneg, Int.toNat_natCast, List.length_map]
          simp only [F1, bodyRes, one, ains, appG, clsOf, abin, aint, aun, dnext, rowsOf, loadObj, cellsOf, ofCells, bnd, hmerge, Nat.reduceBEq, Nat.reduceAdd, reduceIte, Nat.reduceEqDiff, Nat.reduceLeDiff, Int.reduceEq, reduceCtorEq, Int.reduceBEq, Int.reduceBNe, Int.reduceLT, Int.reduceNeg, sq_ret, fn1008_res, fn1008_keep, fz, fzd, fzd.fzcells, List.map_nil]
        · have hs0' : ((s.length : Int) == 0) = false := beq_eq_false_iff_ne.2 (by omega)
          simp only [D0, ains, appG, clsOf, abin, aint, aun, dnext, rowsOf, loadObj, cellsOf, ofCells, bnd, hmerge, Nat.reduceBEq, Nat.reduceAdd, reduceIte, Nat.reduceEqDiff, Nat.reduceLeDiff, Int.reduceEq, reduceCtorEq, Int.reduceBEq, Int.reduceBNe, Int.reduceLT, Int.reduceNeg, h', hg, hs0', decide_true, Int.natCast_nonneg, Int.toNat_natCast, List.length_map]
          have hst := fun i : Nat => stOf_take j s (i := i)
          have hls : ∀ i, (stOf j (s.take i)).length ≤ s.length := fun i => by simp [stOf]; omega
          have hsn : (stU ps j ++ stOf j s).length ≤ 1000 := by rw [← hn]; exact hul2
          generalize stU ps j = U at hn hul hsn ⊢
          refine lg_rule (fun i e H => e = [(0, (AV.list 1 (List.map (fun s => [(AV.list 2 (List.map (fun x => [AV.int .i64 x.1, AV.int .i64 x.2]) (s)))]) (ps)))), (2, .own [0] 0), (3, .bool false), (4, .own [5] (U ++ stOf j (s.take i)).length), (17, (AV.list 1 (List.map (fun s => [(AV.list 2 (List.map (fun x => [AV.int .i64 x.1, AV.int .i64 x.2]) (s)))]) (ps)))), (18, .int .i64 ps.length), (19, .int .i64 j), (5, .int .i64 j), (6, (AV.list 2 (List.map (fun x => [AV.int .i64 x.1, AV.int .i64 x.2]) (s)))), (27, (AV.list 2 (List.map (fun x => [AV.int .i64 x.1, AV.int .i64 x.2]) (s)))), (28, .int .i64 s.length), (29, .int .i64 i)] ∧
            H = [[], [([5], .row true true 69 3 (List.map (fun x => [AV.int .i64 x.1, AV.int .i64 x.2.1, AV.int .i64 x.2.2]) (U ++ stOf j (s.take i)))), ([0], .row true true 40 2 [])]] ∧ i ≤ s.length) s.length ?_ ?_
          · refine ⟨?_, ?_, by simp⟩
            · simp [stOf]
            · simp [stOf]
          rintro i e H ⟨rfl, rfl, hi⟩
          simp only [D0, ains, appG, clsOf, abin, aint, aun, dnext, rowsOf, loadObj, cellsOf, ofCells, bnd, hmerge, Nat.reduceBEq, Nat.reduceAdd, reduceIte, Nat.reduceEqDiff, Nat.reduceLeDiff, Int.reduceEq, reduceCtorEq, Int.reduceBEq, Int.reduceBNe, Int.reduceLT, Int.reduceNeg]
          by_cases k : i < s.length
          · have k' : (i : Int) < (s.length : Int) := by omega
            have hpi := wrapp (j := i) (by omega)
            have hgi := map_get (f := fun x : Int × Int => [AV.int .i64 x.1, AV.int .i64 x.2]) k (0, 0)
            have hst := hst i k
            have hlt : (U ++ stOf j (s.take i)).length ≤ 1000 := by
              have : (stOf j (s.take i)).length ≤ (stOf j s).length := by simp [stOf]; omega
              simp only [List.length_append] at hsn ⊢
              omega
            have hst2 : U ++ stOf j (s.take (i + 1)) = (U ++ stOf j (s.take i)) ++ [((s.getD i (0, 0)).1, (s.getD i (0, 0)).2, (j : Int))] := by rw [hst, List.append_assoc]
            generalize s.getD i (0, 0) = x at hgi hst2
            obtain ⟨a, b⟩ := x
            generalize U ++ stOf j (s.take i) = V at hst2 hlt ⊢
            have hc1 : (V.length + 1) * 24 ≤ 140737488355328 := by omega
            simp only [D0, ains, appG, clsOf, abin, aint, aun, dnext, rowsOf, loadObj, cellsOf, ofCells, bnd, hmerge, Nat.reduceBEq, Nat.reduceAdd, reduceIte, Nat.reduceEqDiff, Nat.reduceLeDiff, Int.reduceEq, reduceCtorEq, Int.reduceBEq, Int.reduceBNe, Int.reduceLT, Int.reduceNeg, fz, fzd, fzd.fzcells, setRows, k', hgi, hpi, hc1, decide_true, Int.natCast_nonneg, Int.toNat_natCast, List.length_map]
            simp only [F1, bodyRes, one, ains, appG, clsOf, abin, aint, aun, dnext, rowsOf, loadObj, cellsOf, ofCells, bnd, hmerge, Nat.reduceBEq, Nat.reduceAdd, reduceIte, Nat.reduceEqDiff, Nat.reduceLeDiff, Int.reduceEq, reduceCtorEq, Int.reduceBEq, Int.reduceBNe, Int.reduceLT, Int.reduceNeg]
            rw [hst2]
            exact ⟨k, by simp, by simp, k⟩
          · have k' : ¬ (i : Int) < (s.length : Int) := by omega
            have hil : i = s.length := by omega
            subst hil
            simp only [D0, ains, appG, clsOf, abin, aint, aun, dnext, rowsOf, loadObj, cellsOf, ofCells, bnd, hmerge, Nat.reduceBEq, Nat.reduceAdd, reduceIte, Nat.reduceEqDiff, Nat.reduceLeDiff, Int.reduceEq, reduceCtorEq, Int.reduceBEq, Int.reduceBNe, Int.reduceLT, Int.reduceNeg, k', decide_false]
            refine .inr ⟨by simp, ?_⟩
            simp only [D0, ains, appG, clsOf, abin, aint, aun, dnext, rowsOf, loadObj, cellsOf, ofCells, bnd, hmerge, Nat.reduceBEq, Nat.reduceAdd, reduceIte, Nat.reduceEqDiff, Nat.reduceLeDiff, Int.reduceEq, reduceCtorEq, Int.reduceBEq, Int.reduceBNe, Int.reduceLT, Int.reduceNeg, hp]
            simp only [F1, bodyRes, one, ains, appG, clsOf, abin, aint, aun, dnext, rowsOf, loadObj, cellsOf, ofCells, bnd, hmerge, Nat.reduceBEq, Nat.reduceAdd, reduceIte, Nat.reduceEqDiff, Nat.reduceLeDiff, Int.reduceEq, reduceCtorEq, Int.reduceBEq, Int.reduceBNe, Int.reduceLT, Int.reduceNeg, List.take_length]
            rw [hn]
            exact ⟨h, rfl, rfl, h⟩
      · have h' : ¬ (j : Int) < (ps.length : Int) := by omega
        have hjl : j = ps.length := by omega
        subst hjl
        simp only [D0, ains, appG, clsOf, abin, aint, aun, dnext, rowsOf, loadObj, cellsOf, ofCells, bnd, hmerge, Nat.reduceBEq, Nat.reduceAdd, reduceIte, Nat.reduceEqDiff, Nat.reduceLeDiff, Int.reduceEq, reduceCtorEq, Int.reduceBEq, Int.reduceBNe, Int.reduceLT, Int.reduceNeg, h', decide_false]
        refine .inr ⟨by simp, ?_⟩
        rw [sq_normal]
        rfl
    rintro _ rfl
    have hul := stU_len hl (Nat.le_refl ps.length)
    have hln : (stL ps).length ≤ 1000000 := by
      have : (stL ps).length = (stU ps ps.length).length := rfl
      omega
    refine sp_reg ⟨rfl, .inr ⟨rfl, _, _, rfl, rfl, .inl ⟨_, _, _, _, _, rfl, rfl, sort_rel _ [5] _ (stL ps) rfl hln, ?_⟩⟩⟩
    rintro v H' ⟨rfl, W, hW, rfl⟩
    have hno := swp_no (List.all_eq_true.1 g2) hd hW
    have hul : W.length ≤ 1000 := by
      have : (stL ps).length = (stU ps ps.length).length := rfl
      rw [hW.length_eq]; omega
    rw [← hW.length_eq]
    clear hW hln hd
    refine sp_run orders r9_ok ?_
    simp only [D0, ains, appG, clsOf, abin, aint, aun, dnext, rowsOf, loadObj, cellsOf, ofCells, bnd, hmerge, Nat.reduceBEq, Nat.reduceAdd, reduceIte, Nat.reduceEqDiff, Nat.reduceLeDiff, Int.reduceEq, reduceCtorEq, Int.reduceBEq, Int.reduceBNe, Int.reduceLT, Int.reduceNeg, t3Rows]
    refine lg_rule (fun i e H => ∃ (out : List R2) (f : Int) (m : Bool), e = [(0, (AV.list 1 (List.map (fun s => [(AV.list 2 (List.map (fun x => [AV.int .i64 x.1, AV.int .i64 x.2]) (s)))]) (ps)))), (2, .own [0] 0), (3, .bool false), (4, .own [5] W.length), (17, (AV.list 1 (List.map (fun s => [(AV.list 2 (List.map (fun x => [AV.int .i64 x.1, AV.int .i64 x.2]) (s)))]) (ps)))), (18, .int .i64 ps.length), (19, .int .i64 ps.length), (9, .own [12] out.length), (10, .int .i64 f), (11, .bool m), (43, .own [5] W.length), (44, .int .i64 W.length), (45, .int .i64 i)] ∧
      H = [[([12], .row true true 40 2 (List.map (fun x => [AV.int .i64 x.1, AV.int .i64 x.2]) out)), ([5], .row true true 69 3 (List.map (fun x => [AV.int .i64 x.1, AV.int .i64 x.2.1, AV.int .i64 x.2.2]) W)), ([0], .row true true 40 2 [])]] ∧ i ≤ W.length ∧ out.length = i ∧ swp W [] 0 true = swp (W.drop i) out f m) W.length ?_ ?_
    · exact ⟨[], 0, true, rfl, rfl, by simp, rfl, rfl⟩
    rintro i e H ⟨out, f, m, rfl, rfl, hi, hol, hsw⟩
    simp only [D0, ains, appG, clsOf, abin, aint, aun, dnext, rowsOf, loadObj, cellsOf, ofCells, bnd, hmerge, Nat.reduceBEq, Nat.reduceAdd, reduceIte, Nat.reduceEqDiff, Nat.reduceLeDiff, Int.reduceEq, reduceCtorEq, Int.reduceBEq, Int.reduceBNe, Int.reduceLT, Int.reduceNeg]
    by_cases k : i < W.length
    · have k' : (i : Int) < (W.length : Int) := by omega
      have hpi := wrapp (j := i) (by omega)
      have hgi := map_get (f := fun x : Rg.T3 => [AV.int .i64 x.1, AV.int .i64 x.2.1, AV.int .i64 x.2.2]) k (0, 0, 0)
      have hdr : W.drop i = W.getD i (0, 0, 0) :: W.drop (i + 1) := by rw [List.drop_eq_getElem_cons k]; simp [List.getElem?_eq_getElem k]
      rw [hdr] at hsw
      generalize W.getD i (0, 0, 0) = x at hgi hsw
      obtain ⟨a, b, c⟩ := x
      have hc1 : (out.length + 1) * 16 ≤ 140737488355328 := by omega
      cases m with
      | false =>
        simp only [D0, ains, appG, clsOf, abin, aint, aun, dnext, rowsOf, loadObj, cellsOf, ofCells, bnd, hmerge, Nat.reduceBEq, Nat.reduceAdd, reduceIte, Nat.reduceEqDiff, Nat.reduceLeDiff, Int.reduceEq, reduceCtorEq, Int.reduceBEq, Int.reduceBNe, Int.reduceLT, Int.reduceNeg, k', hgi, hpi, decide_true, Int.natCast_nonneg, Int.toNat_natCast, List.length_map]
        simp only [F1, bodyRes, one, ains, appG, clsOf, abin, aint, aun, dnext, rowsOf, loadObj, cellsOf, ofCells, bnd, hmerge, Nat.reduceBEq, Nat.reduceAdd, reduceIte, Nat.reduceEqDiff, Nat.reduceLeDiff, Int.reduceEq, reduceCtorEq, Int.reduceBEq, Int.reduceBNe, Int.reduceLT, Int.reduceNeg, fn1008_res, fn1008_keep, fz, fzd, fzd.fzcells, List.map_nil]
      | true =>
        by_cases ha : a = f
        · subst ha
          have hna : (a != a) = false := by simp
          have hyes : swp W [] 0 true = swp (W.drop (i + 1)) (out ++ [(a, c)]) (nextV b) (nextB b) := by rw [hsw]; simp [swp]
          simp only [D0, ains, appG, clsOf, abin, aint, aun, dnext, rowsOf, loadObj, cellsOf, ofCells, bnd, hmerge, Nat.reduceBEq, Nat.reduceAdd, reduceIte, Nat.reduceEqDiff, Nat.reduceLeDiff, Int.reduceEq, reduceCtorEq, Int.reduceBEq, Int.reduceBNe, Int.reduceLT, Int.reduceNeg, fz, fzd, fzd.fzcells, setRows, @use_all r9 35 k92.ora rfl, e92, k', hgi, hpi, hna, hc1, decide_true, Int.natCast_nonneg, Int.toNat_natCast, List.length_map]
          simp only [F1, bodyRes, one, ains, appG, clsOf, abin, aint, aun, dnext, rowsOf, loadObj, cellsOf, ofCells, bnd, hmerge, Nat.reduceBEq, Nat.reduceAdd, reduceIte, Nat.reduceEqDiff, Nat.reduceLeDiff, Int.reduceEq, reduceCtorEq, Int.reduceBEq, Int.reduceBNe, Int.reduceLT, Int.reduceNeg]
          exact ⟨k, out ++ [(a, c)], nextV b, nextB b, by simp, by simp, k, by simp [hol], hyes⟩
        · have hna : (a != f) = true := by simpa using ha
          simp only [D0, ains, appG, clsOf, abin, aint, aun, dnext, rowsOf, loadObj, cellsOf, ofCells, bnd, hmerge, Nat.reduceBEq, Nat.reduceAdd, reduceIte, Nat.reduceEqDiff, Nat.reduceLeDiff, Int.reduceEq, reduceCtorEq, Int.reduceBEq, Int.reduceBNe, Int.reduceLT, Int.reduceNeg, k', hgi, hpi, hna, decide_true, Int.natCast_nonneg, Int.toNat_natCast, List.length_map]
          simp only [F1, bodyRes, one, ains, appG, clsOf, abin, aint, aun, dnext, rowsOf, loadObj, cellsOf, ofCells, bnd, hmerge, Nat.reduceBEq, Nat.reduceAdd, reduceIte, Nat.reduceEqDiff, Nat.reduceLeDiff, Int.reduceEq, reduceCtorEq, Int.reduceBEq, Int.reduceBNe, Int.reduceLT, Int.reduceNeg, fn1008_res, fn1008_keep, fz, fzd, fzd.fzcells, List.map_nil]
    · have k' : ¬ (i : Int) < (W.length : Int) := by omega
      have hil : i = W.length := by omega
      rw [hil, List.drop_length] at hsw
      simp only [D0, ains, appG, clsOf, abin, aint, aun, dnext, rowsOf, loadObj, cellsOf, ofCells, bnd, hmerge, Nat.reduceBEq, Nat.reduceAdd, reduceIte, Nat.reduceEqDiff, Nat.reduceLeDiff, Int.reduceEq, reduceCtorEq, Int.reduceBEq, Int.reduceBNe, Int.reduceLT, Int.reduceNeg, k', decide_false]
      refine .inr ⟨by simp, ?_⟩
      cases m with
      | true =>
        simp only [D0, ains, appG, clsOf, abin, aint, aun, dnext, rowsOf, loadObj, cellsOf, ofCells, bnd, hmerge, Nat.reduceBEq, Nat.reduceAdd, reduceIte, Nat.reduceEqDiff, Nat.reduceLeDiff, Int.reduceEq, reduceCtorEq, Int.reduceBEq, Int.reduceBNe, Int.reduceLT, Int.reduceNeg]
        simp only [F1, bodyRes, one, ains, appG, clsOf, abin, aint, aun, dnext, rowsOf, loadObj, cellsOf, ofCells, bnd, hmerge, Nat.reduceBEq, Nat.reduceAdd, reduceIte, Nat.reduceEqDiff, Nat.reduceLeDiff, Int.reduceEq, reduceCtorEq, Int.reduceBEq, Int.reduceBNe, Int.reduceLT, Int.reduceNeg, fn1008_res, fn1008_keep, fz, fzd, fzd.fzcells, List.map_nil]
      | false =>
        have hyes : swp W [] 0 true = some out := by rw [hsw]; rfl
        rw [hno] at hyes
        cases hyes
noncomputable def kB : Kon (List (List (Int × Int))) := ⟨fun x => x.length ≤ 1000 ∧ lenS x ≤ 1000 ∧ ∀ s ∈ x, s.length ≤ 1000000, fun x => [(AV.list 1 (List.map (fun s => [(AV.list 2 (List.map (fun x => [AV.int .i64 x.1, AV.int .i64 x.2]) (s)))]) (x)))], fun x => .tuple [(AV.list 2 (List.map (fun x => [AV.int .i64 x.1, AV.int .i64 x.2]) ((bandsO x).getD []))), .bool (bandsO x).isSome]⟩
theorem eB (ps : List (List (Int × Int))) (hd : ps.length ≤ 1000 ∧ lenS ps ≤ 1000 ∧ ∀ s ∈ ps, s.length ≤ 1000000) (q0 : Id) (H0 : Heap) : kB.ora q0 [(AV.list 1 (List.map (fun s => [(AV.list 2 (List.map (fun x => [AV.int .i64 x.1, AV.int .i64 x.2]) (s)))]) (ps)))] H0 = some (.tuple [(AV.list 2 (List.map (fun x => [AV.int .i64 x.1, AV.int .i64 x.2]) ((bandsO ps).getD []))), .bool (bandsO ps).isSome], H0) := kB.eq setsInj ps hd q0 H0
theorem ookB : OraOK Tryz.prog (10 % 100000) kB.ora := by
  refine kon_rel (fun x hd => by simp [kB, PU]) (fun x hd => by simp [kB, PU]) fun ps hd => ?_
  obtain ⟨h0, hl, hps⟩ := hd
  cases hdb : distB (stL ps) with
  | true =>
    have h := ook1008 [] [(AV.list 1 (List.map (fun s => [(AV.list 2 (List.map (fun x => [AV.int .i64 x.1, AV.int .i64 x.2]) (s)))]) (ps)))] [] _ _ (e1008 ps ⟨h0, hl, hdb, hps⟩ [] [])
    exact ⟨h.1, fun C vs hH hr hav hL => h.2 C vs hH hr hav hL⟩
  | false =>
    have hno := bands_no hdb
    have h := sp_body ok1008 (q := []) (args := [(AV.list 1 (List.map (fun s => [(AV.list 2 (List.map (fun x => [AV.int .i64 x.1, AV.int .i64 x.2]) (s)))]) (ps)))]) (H := []) (H' := []) (r := .tuple [.list 2 [], .bool false]) rfl (sp_mono (rel1008 ps h0 hl hps hdb) fun e s1 h => ob_eq h)
    have e : kB.out ps = .tuple [.list 2 [], .bool false] := by simp [kB, hno]
    rw [e]
    exact h
end Go.Proofs.Abs
