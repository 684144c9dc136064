/- A part of a proof: the text that states the row tells what is proved. No condition is laid on anything. -/
import Derived.Test.YtgcncpedpjjjeaaAbs18
set_option linter.all false
set_option linter.constructorNameAsVariable false
set_option linter.defProp false
set_option linter.unusedVariables false
set_option linter.unusedSimpArgs false
namespace Go.Proofs.Abs
open Go

def ExecOK (P : Program) (exec : ACode → St → Option (AExit × St)) : Prop := ∀ nt c ac s e s', chkCode P nt c ac = true → exec ac s = some (e, s') → ∀ C a, SimE nt s.env C a → C.H = s.heap → HRep C → Pre s C →
  c.wp P (fun ex a' w' => ex = liftE e ∧ ∃ C', C'.w = w' ∧ Post nt s s' C a' C') a C.w

theorem endr_sub {mg : Bool} {H : Heap} (hn : HND H) {id : Id} {o : AObj} (h : hget (endr mg H) id = some o) : hget H id = some o := by
  cases mg with
  | true => rw [← hget_hmerge]; exact h
  | false => exact hpop_sub hn h
theorem endr_nd {mg : Bool} {H : Heap} (hn : HND H) : HND (endr mg H) := by
  cases mg with
  | true => exact hmerge_nd hn
  | false => exact hpop_nd hn
theorem around_ok {P : Program} {exec : ACode → St → Option (AExit × St)} (hex : ExecOK P exec) {nt : Nat} {c : Code} {ac : ACode} (hc : chkCode P nt c ac = true) {q : Id} {sl : List Nat} {mg : Bool} : ∀ (m j : Nat) (e : Env) (H : Heap) (x : AExit) (e' : Env) (H' : Heap),
    around exec ac q sl mg m j e H = some (x, e', H') → ∀ C a, SimE nt e C a → C.H = H → HRep C → (∀ id j', j ≤ j' → (q ++ [j']) <+: id → C.Av id) →
    Code.rounds P c (fun ex a' w' => ex = liftE x ∧ ∃ C', C'.w = w' ∧ C'.H = H' ∧ SimE nt e' C' a' ∧ HRep C' ∧ Ext C C' ∧ ∀ id, C.Av id → ¬ q <+: id → C'.Av id) m a C.w
  | 0, j, e, H, x, e', H', h, C, a, sim, hH, hr, hav => by simp [around] at h
  | m + 1, j, e, H, x, e', H', h, C, a, sim, hH, hr, hav => by
    simp only [around] at h
    rw [rounds_succ]
    have hr0 : HRep { C with H := [] :: H } := hr.heq ⟨by simp [fget], by rw [← hH]; exact hr.nd⟩ (fun id => by rw [hH]; rfl)
    have hx0 : Ext C { C with H := [] :: H } := Ext.less (A := C.Av) (fun id o h => by rw [hH]; exact h) (fun _ h => h)
    have hpre : Pre { env := e, heap := [] :: H, p := q ++ [j], k := 0 } { C with H := [] :: H } := fun id k' _ hp => hav id j (Nat.le_refl _) (prefix_up hp)
    cases hb : exec ac { env := e, heap := [] :: H, p := q ++ [j], k := 0 } with
    | none => rw [hb] at h; cases h
    | some r =>
      obtain ⟨y, s1⟩ := r
      rw [hb] at h
      have hw := hex nt c ac _ y s1 hc hb { C with H := [] :: H } a (sim.ext hx0) rfl hr0 hpre
      refine Go.wp_mono hw ?_
      rintro ex a' w' ⟨rfl, C1, rfl, hp⟩
      have hout : ∀ id, C.Av id → ¬ (q ++ [j]) <+: id → C1.Av id := fun id h1 h2 => hp.out id h1 h2
      cases y with
      | normal =>
        simp only at h
        have hsub : ∀ id o, hget (endr mg s1.heap) id = some o → hget C1.H id = some o := fun id o ho => by
          rw [hp.heap]; exact endr_sub (by rw [← hp.heap]; exact hp.hrep.nd) ho
        have hr2 : HRep { C1 with H := endr mg s1.heap } := HRep.less (A := C1.Av) hp.hrep (endr_nd (by rw [← hp.heap]; exact hp.hrep.nd)) hsub (fun _ h => h)
        have hx2 : Ext C1 { C1 with H := endr mg s1.heap } := Ext.less (A := C1.Av) hsub (fun _ h => h)
        have ih := around_ok hex hc m (j + 1) _ _ x e' H' h { C1 with H := endr mg s1.heap } a' ((hp.sim.keep sl).ext hx2) rfl hr2
          (fun id j' hj' hpre' => hout id (hav id j' (by omega) hpre') (fun hh => by have := prefix_last hh hpre'; omega))
        show Code.rounds P c _ m a' C1.w
        have hxx : Ext C { C1 with H := endr mg s1.heap } := hx0.trans (hp.ext.trans hx2)
        -- the same, seen from the first round
        have mono : ∀ (m : Nat) (a : Act) (w : World) (Q Q' : Exit → Act → World → Prop), (∀ e a w, Q e a w → Q' e a w) → Code.rounds P c Q m a w → Code.rounds P c Q' m a w := by
          intro m
          induction m with
          | zero => intro a w Q Q' _ h; exact h
          | succ m ih =>
            intro a w Q Q' hq h
            rw [rounds_succ] at h ⊢
            refine Go.wp_mono h ?_
            intro ex a w hh
            cases ex with
            | normal => exact ih _ _ _ _ hq hh
            | exit => exact hq _ _ _ hh
            | goto => exact hq _ _ _ hh
            | ret => exact hq _ _ _ hh
            | panic => exact hq _ _ _ hh
            | outgrown => exact hq _ _ _ hh
        refine mono m a' C1.w _ _ ?_ ih
        rintro ex a2 w2 ⟨h1, C', h2, h3, h4, h5, h6, h7⟩
        exact ⟨h1, C', h2, h3, h4, h5, hxx.trans h6, fun id h8 h9 => h7 id (hout id h8 (fun hh => h9 (prefix_up hh))) h9⟩
      | exit id0 =>
        simp only [Option.some.injEq, Prod.mk.injEq] at h
        obtain ⟨rfl, rfl, rfl⟩ := h
        have hnd := hp.hrep.nd
        rw [hp.heap] at hnd
        refine ⟨rfl, { C1 with H := hmerge s1.heap }, rfl, rfl, ?_, ?_, ?_, fun id h8 h9 => hout id h8 (fun hh => h9 (prefix_up hh))⟩
        · exact hp.sim.ext (Ext.less (A := C1.Av) (fun id o ho => by rw [hget_hmerge, ← hp.heap] at ho; exact ho) (fun _ h => h))
        · exact hp.hrep.heq (hmerge_nd hnd) (fun id => by rw [hget_hmerge, hp.heap])
        · exact hx0.trans (hp.ext.trans (Ext.less (A := C1.Av) (fun id o ho => by rw [hget_hmerge, ← hp.heap] at ho; exact ho) (fun _ h => h)))
      | ret =>
        simp only [Option.some.injEq, Prod.mk.injEq] at h
        obtain ⟨rfl, rfl, rfl⟩ := h
        have hnd := hp.hrep.nd
        rw [hp.heap] at hnd
        refine ⟨rfl, { C1 with H := hmerge s1.heap }, rfl, rfl, ?_, ?_, ?_, fun id h8 h9 => hout id h8 (fun hh => h9 (prefix_up hh))⟩
        · exact hp.sim.ext (Ext.less (A := C1.Av) (fun id o ho => by rw [hget_hmerge, ← hp.heap] at ho; exact ho) (fun _ h => h))
        · exact hp.hrep.heq (hmerge_nd hnd) (fun id => by rw [hget_hmerge, hp.heap])
        · exact hx0.trans (hp.ext.trans (Ext.less (A := C1.Av) (fun id o ho => by rw [hget_hmerge, ← hp.heap] at ho; exact ho) (fun _ h => h)))

/-! ### Functions -/
def fnOK (P : Program) (f : Nat) (fn : AFn) : Bool :=
  match P.funcs[f]? with
  | some g => match g.body with
    | some c => chkCode P fn.nt c fn.body && g.ntmps == fn.nt && decide (fn.np ≤ fn.nt) && !(g.name == "runtime.NumGoroutine") && resOK P g.results.toList fn.res
    | none => false
  | none => false

def OraOK (P : Program) (f : Nat) (spec : Id → List AV → Heap → Option (AV × Heap)) : Prop := ∀ q args H r H', spec q args H = some (r, H') →
  (∀ vals w, (callFunc f vals).run P w = .ok (.enter f vals) w) ∧
  ∀ C vs, C.H = H → HRep C → (∀ id, q <+: id → C.Av id) → RepL C args vs → Calls P f vs.toArray C.w (CallPost C q r H')

def FunOK (P : Program) (f : Nat) : AFun → Prop
  | .code fn => fnOK P f fn = true
  | .fork fn => fnOK P f fn = true
  | .ora spec => OraOK P f spec
def FTOK (P : Program) (ft : FT) : Prop := ∀ f x, ft f = some x → FunOK P (f % 100000) x

theorem params_get : ∀ (l : List AV) (i j : Nat), eget (params i l) j = if i ≤ j then (l[j - i]?).getD .undef else .undef
  | [], i, j => by simp [params, eget]
  | v :: r, i, j => by
    simp only [params, eget, params_get r (i + 1) j]
    by_cases h : i = j
    · subst h; simp
    · rw [if_neg h]
      by_cases h2 : i ≤ j
      · rw [if_pos h2, if_pos (by omega)]
        obtain ⟨d, rfl⟩ : ∃ d, j = i + d + 1 := ⟨j - i - 1, by omega⟩
        have e1 : i + d + 1 - (i + 1) = d := by omega
        have e2 : i + d + 1 - i = d + 1 := by omega
        rw [e1, e2, List.getElem?_cons_succ]
      · rw [if_neg h2, if_neg (by omega)]

def oneV (vs : List Value) : Value := if h : vs.length = 1 then vs[0] else .tuple vs.toArray

theorem one_rep {C : Ctx} {l : List AV} {vs : List Value} (h : RepL C l vs) : Rep C (one l) (oneV vs) := by
  unfold one oneV
  split
  · rename_i v
    have hl : vs.length = 1 := by have := h.1; simpa using this.symm
    rw [dif_pos hl]
    exact h.2 0 _ _ rfl (List.getElem?_eq_getElem (by omega))
  · rename_i hne
    have hl : vs.length ≠ 1 := by
      intro hh
      have hll : l.length = 1 := h.1.trans hh
      obtain ⟨v, rfl⟩ := List.length_eq_one_iff.1 hll
      exact hne v rfl
    rw [dif_neg hl]
    exact .tuple l vs h.1 h.2

theorem run_results {P : Program} {g : Func} {tmps : Array Value} {w : World} {vs : List Value} (h : (g.results.toList.mapM (resRun tmps)).run P w = .ok vs w) : (results g tmps).run P w = .ok (oneV vs) w := by
  have e : results g tmps = (do let vs ← g.results.mapM (resRun tmps); pure (if h : vs.size = 1 then vs[0] else .tuple vs)) := by
    rfl
  rw [e]
  simp only [Sem.run_bind, Array.mapM_eq_mapM_toList, Sem.run_map, h, Result.andThen_ok, Sem.run_pure]
  rfl

theorem enter_run {P : Program} {f : Nat} {g : Func} {c : Code} (hf : P.funcs[f]? = some g) (hb : g.body = some c) (hn : (g.name == "runtime.NumGoroutine") = false) (vals : Array Value) (w : World) : (callFunc f vals).run P w = .ok (.enter f vals) w := by
  have : (g.name = "runtime.NumGoroutine") = False := by simpa using hn
  simp [callFunc, hf, hb, this]

theorem body_ok {P : Program} {exec : ACode → St → Option (AExit × St)} (hex : ExecOK P exec) {f : Nat} {fn : AFn} (hfn : fnOK P f fn = true) {q : Id} {args : List AV} {H H' : Heap} {r : AV} (h : abody exec fn q args H = some (r, H')) :
    (∀ vals w, (callFunc f vals).run P w = .ok (.enter f vals) w) ∧
    ∀ C vs, C.H = H → HRep C → (∀ id, q <+: id → C.Av id) → RepL C args vs → Calls P f vs.toArray C.w (CallPost C q r H') := by
  unfold fnOK at hfn
  split at hfn
  · rename_i g hg
    split at hfn
    · rename_i c hb
      simp only [Bool.and_eq_true, Bool.not_eq_true', beq_iff_eq, decide_eq_true_eq] at hfn
      obtain ⟨⟨⟨⟨h1, h2⟩, h3⟩, h4⟩, h5⟩ := hfn
      refine ⟨fun vals w => enter_run hg hb h4 vals w, fun C vs hH hr hav hl => ?_⟩
      unfold abody at h
      split at h
      · rename_i hlen
        have hr0 : HRep { C with H := [] :: H } := hr.heq ⟨by simp [fget], by rw [← hH]; exact hr.nd⟩ (fun id => by rw [hH]; rfl)
        have hx0 : Ext C { C with H := [] :: H } := Ext.less (A := C.Av) (fun id o h => by rw [hH]; exact h) (fun _ h => h)
        have sim0 : SimE fn.nt (params 0 args) { C with H := [] :: H } { tmps := vs.toArray ++ Array.replicate (g.ntmps - vs.toArray.size) undef, defers := [] } := by
          have hvl : vs.length = fn.np := by rw [← hl.1]; exact hlen
          refine ⟨by simp [h2, hvl]; omega, rfl, fun i => ?_⟩
          rw [params_get]
          simp only [Nat.zero_le, if_true, Nat.sub_zero]
          by_cases hi : i < args.length
          · rw [List.getElem?_eq_getElem hi]
            have hi' : i < vs.length := by rw [← hl.1]; exact hi
            have e : (vs.toArray ++ Array.replicate (g.ntmps - vs.toArray.size) undef).getD i undef = vs[i] := by
              rw [Array.getD_eq_getD_getElem?, Array.getElem?_append_left (by simpa using hi')]
              simp [hi']
            rw [e]
            exact (hl.2 i _ _ (List.getElem?_eq_getElem hi) (List.getElem?_eq_getElem hi')).ext hx0
          · rw [List.getElem?_eq_none (by omega)]
            exact .undef _
        have hpre : Pre { env := params 0 args, heap := [] :: H, p := q, k := 0 } { C with H := [] :: H } := fun id k' _ hp => hav id (prefix_up hp)
        have fin : ∀ (e : AExit) (s1 : St), exec fn.body { env := params 0 args, heap := [] :: H, p := q, k := 0 } = some (e, s1) → (e = .normal ∨ e = .ret) →
            (match resOf s1.env s1.heap fn.res with
              | some l =>
                if fn.keep = 0 then
                  match fz s1.heap (one l) with
                  | some (v, H') => some (v, hpop H')
                  | none => none
                else if fn.keep = 1 then
                  match one l with
                  | .own id n => match hget s1.heap id with
                    | some (.row wr flat e sz rows) => if rows.length = n then
                        match hget (hpop s1.heap) id with
                        | some _ => some (.own id n, hpop s1.heap)
                        | none => some (.own id n, hadd (hpop s1.heap) id (.row wr flat e sz rows))
                      else none
                    | _ => none
                  | _ => none
                else some (one l, hmerge s1.heap)
              | none => none) = some (r, H') → Calls P f vs.toArray C.w (CallPost C q r H') := by
          intro e s1 hb1 he hres
          have hw := hex fn.nt c fn.body _ e s1 h1 hb1 { C with H := [] :: H } _ sim0 rfl hr0 hpre
          refine calls_of_wp hg hb (Go.wp_mono hw ?_)
          rintro ex a' w' ⟨rfl, C1, rfl, hp⟩
          have body : ∃ v, (results g a'.tmps).run P C1.w = .ok v C1.w ∧ CallPost C q r H' (.returned v) C1.w := by
            split at hres
            · rename_i l el
              rw [← hp.heap] at el
              obtain ⟨us, e1, e2⟩ := resOf_rep hp.sim hp.hrep g.results.toList fn.res l h5 el
              have hone := one_rep e2
              refine ⟨oneV us, run_results e1, ?_⟩
              have hout : ∀ id, C.Av id → ¬ q <+: id → C1.Av id := fun id h6 h7 => hp.out id h6 h7
              have hnd := hp.hrep.nd
              rw [hp.heap] at hnd
              split at hres
              · split at hres
                · rename_i v H2 ez
                  simp only [Option.some.injEq, Prod.mk.injEq] at hres
                  obtain ⟨rfl, rfl⟩ := hres
                  rw [← hp.heap] at ez
                  obtain ⟨f1, _, f3⟩ := fzd_ok 4 _ _ _ _ ez
                  have hv := f3 C1 _ rfl hp.hrep hone
                  have hr2 : HRep { C1 with H := H2 } := f1.hrep hp.hrep
                  have hx2 : Ext C1 { C1 with H := H2 } := f1.ext
                  have hx3 : Ext { C1 with H := H2 } { C1 with H := hpop H2 } := Ext.less (C := { C1 with H := H2 }) (A := C1.Av) (fun id o ho => hpop_sub hr2.nd ho) (fun _ h => h)
                  exact ⟨_, { C1 with H := hpop H2 }, rfl, rfl, rfl, HRep.less (C := { C1 with H := H2 }) (A := C1.Av) hr2 (hpop_nd hr2.nd) (fun id o ho => hpop_sub hr2.nd ho) (fun _ h => h), hv.ext hx3, hx0.trans (hp.ext.trans (hx2.trans hx3)), hout⟩
                · cases hres
              · split at hres
                · split at hres
                  · rename_i id n eone
                    split at hres
                    · rename_i wr flat el2 sz rows ho
                      split at hres
                      · rename_i hn
                        rw [eone] at hone
                        split at hres
                        · simp only [Option.some.injEq, Prod.mk.injEq] at hres
                          obtain ⟨rfl, rfl⟩ := hres
                          have hsub : ∀ id o, hget (hpop s1.heap) id = some o → hget C1.H id = some o := fun id o ho => by rw [hp.heap]; exact hpop_sub hnd ho
                          have hx3 : Ext C1 { C1 with H := hpop s1.heap } := Ext.less (A := C1.Av) hsub (fun _ h => h)
                          exact ⟨_, { C1 with H := hpop s1.heap }, rfl, rfl, rfl, HRep.less (A := C1.Av) hp.hrep (hpop_nd hnd) hsub (fun _ h => h), hone.ext hx3, hx0.trans (hp.ext.trans hx3), hout⟩
                        · rename_i hno
                          simp only [Option.some.injEq, Prod.mk.injEq] at hres
                          obtain ⟨rfl, rfl⟩ := hres
                          have hsub : ∀ id' o, hget (hadd (hpop s1.heap) id (.row wr flat el2 sz rows)) id' = some o → hget C1.H id' = some o := fun id' o ho' => by
                            rw [hget_hadd] at ho'
                            rw [hp.heap]
                            split at ho'
                            · rename_i hid; subst hid; injection ho' with ho'; subst ho'; exact ho
                            · exact hpop_sub hnd ho'
                          have hx3 : Ext C1 { C1 with H := hadd (hpop s1.heap) id (.row wr flat el2 sz rows) } := Ext.less (A := C1.Av) hsub (fun _ h => h)
                          exact ⟨_, { C1 with H := hadd (hpop s1.heap) id (.row wr flat el2 sz rows) }, rfl, rfl, rfl, HRep.less (A := C1.Av) hp.hrep ((hpop_nd hnd).hadd _ _ hno) hsub (fun _ h => h), hone.ext hx3, hx0.trans (hp.ext.trans hx3), hout⟩
                      · cases hres
                    · cases hres
                  · cases hres
                · simp only [Option.some.injEq, Prod.mk.injEq] at hres
                  obtain ⟨rfl, rfl⟩ := hres
                  have hsub : ∀ id o, hget (hmerge s1.heap) id = some o → hget C1.H id = some o := fun id o ho => by rw [hget_hmerge, ← hp.heap] at ho; exact ho
                  have hx3 : Ext C1 { C1 with H := hmerge s1.heap } := Ext.less (A := C1.Av) hsub (fun _ h => h)
                  exact ⟨_, { C1 with H := hmerge s1.heap }, rfl, rfl, rfl, hp.hrep.heq (hmerge_nd hnd) (fun id => by rw [hget_hmerge, hp.heap]), hone.ext hx3, hx0.trans (hp.ext.trans hx3), hout⟩
            · cases hres
          rcases he with rfl | rfl
          · exact ⟨hp.sim.defers, body⟩
          · exact ⟨hp.sim.defers, body⟩
        split at h
        · rename_i s1 hb1
          exact fin _ s1 hb1 (.inl rfl) h
        · rename_i s1 hb1
          exact fin _ s1 hb1 (.inr rfl) h
        · cases h
      · cases h
    · cases hfn
  · cases hfn

theorem sound (P : Program) (ft : FT) (hmo : P.follows .mixedOrders = true) (hft : FTOK P ft) : ∀ n, ExecOK P (aexec ft n) ∧ CallOK P (acall ft n)
  | 0 => ⟨fun nt c ac s e s' _ h => by simp [aexec] at h, fun f q args H r H' h => by simp [acall] at h⟩
  | n + 1 => by
    obtain ⟨ihE, ihC⟩ := sound P ft hmo hft n
    refine ⟨fun nt c ac s e s' hc h C a sim hH hr hpre => ?_, fun f q args H r H' h => ?_⟩
    · cases ac with
      | skip =>
        cases c <;> simp [chkCode] at hc
        simp only [aexec, Option.some.injEq, Prod.mk.injEq] at h
        obtain ⟨rfl, rfl⟩ := h
        exact wp_skip ⟨rfl, C, rfl, hH, sim, hr, Ext.refl C, hpre, fun _ h _ => h, rfl⟩
      | reg is drop =>
        cases c with
        | region id ops draw =>
          cases draw with
          | true => simp [chkCode] at hc
          | false =>
            simp only [chkCode] at hc
            simp only [aexec] at h
            split at h
            · rename_i s1 h1
              simp only [Option.some.injEq, Prod.mk.injEq] at h
              obtain ⟨rfl, rfl⟩ := h
              exact wp_region_list (region_ok ihC ops.toList is s.k s s1 C a hc h1 sim hH hr hpre fun a' C' hp => ⟨rfl, C', rfl, hp.heap, hp.sim.drop drop, hp.hrep, hp.ext, hp.av, hp.out, hp.path⟩)
            · cases h
        | _ => simp [chkCode] at hc
      | dreg is drop =>
        cases c with
        | region id ops draw =>
          cases draw with
          | false => simp [chkCode] at hc
          | true =>
            simp only [chkCode, Bool.and_eq_true] at hc
            obtain ⟨⟨hc1, hc2⟩, hc3⟩ := hc
            simp only [aexec] at h
            split at h
            · rename_i s1 h1
              simp only [Option.some.injEq, Prod.mk.injEq] at h
              obtain ⟨rfl, rfl⟩ := h
              exact dreg_ok ihC hmo hc1 hc2 hc3 h1 sim hH hr hpre fun a' C' hp => ⟨rfl, C', rfl, hp.heap, hp.sim.drop drop, hp.hrep, hp.ext, hp.av, hp.out, hp.path⟩
            · cases h
        | _ => simp [chkCode] at hc
      | seq x y =>
        cases c with
        | seq x' y' =>
          simp only [chkCode, Bool.and_eq_true] at hc
          simp only [aexec] at h
          cases hx : aexec ft n x s with
          | none => rw [hx] at h; cases h
          | some r =>
            obtain ⟨e1, s1⟩ := r
            rw [hx] at h
            have hw := ihE nt x' x s e1 s1 hc.1 hx C a sim hH hr hpre
            refine wp_seq (Go.wp_mono hw ?_)
            rintro ex a' w' ⟨rfl, C1, rfl, hp⟩
            cases e1 with
            | normal =>
              simp only at h
              have hw2 := ihE nt y' y s1 e s' hc.2 h C1 a' hp.sim hp.heap hp.hrep (by intro id k' h1 h2; exact hp.av id k' h1 h2)
              refine Go.wp_mono hw2 ?_
              rintro ex a2 w2 ⟨rfl, C2, rfl, hp2⟩
              exact ⟨rfl, C2, rfl, hp.trans hp2⟩
            | exit id =>
              simp only [Option.some.injEq, Prod.mk.injEq] at h
              obtain ⟨rfl, rfl⟩ := h
              exact ⟨rfl, C1, rfl, hp⟩
            | ret =>
              simp only [Option.some.injEq, Prod.mk.injEq] at h
              obtain ⟨rfl, rfl⟩ := h
              exact ⟨rfl, C1, rfl, hp⟩
        | _ => simp [chkCode] at hc
      | cond x drop y z =>
        cases c with
        | cond x' y' z' =>
          simp only [chkCode, Bool.and_eq_true] at hc
          obtain ⟨⟨hc1, hc2⟩, hc3⟩ := hc
          have hx := rep_opd sim hc1
          simp only [aexec] at h
          split at h
          · rename_i t et
            rw [et] at hx
            refine wp_cond hx.bool_inv ?_
            cases t with
            | true =>
              simp only [if_true] at h ⊢
              exact Go.wp_mono (ihE nt y' y _ e s' hc2 h C a (sim.drop drop) hH hr hpre) (by rintro ex a' w' ⟨rfl, C', rfl, hp⟩; exact ⟨rfl, C', rfl, hp.heap, hp.sim, hp.hrep, hp.ext, hp.av, hp.out, hp.path⟩)
            | false =>
              simp only [Bool.false_eq_true, if_false] at h ⊢
              exact Go.wp_mono (ihE nt z' z _ e s' hc3 h C a (sim.drop drop) hH hr hpre) (by rintro ex a' w' ⟨rfl, C', rfl, hp⟩; exact ⟨rfl, C', rfl, hp.heap, hp.sim, hp.hrep, hp.ext, hp.av, hp.out, hp.path⟩)
          · cases h
        | _ => simp [chkCode] at hc
      | block id x =>
        cases c with
        | block id' x' =>
          simp only [chkCode, Bool.and_eq_true, beq_iff_eq] at hc
          obtain ⟨rfl, hc⟩ := hc
          simp only [aexec] at h
          cases hx : aexec ft n x s with
          | none => rw [hx] at h; cases h
          | some r =>
            obtain ⟨e1, s1⟩ := r
            rw [hx] at h
            refine wp_block (Go.wp_mono (ihE nt x' x s e1 s1 hc hx C a sim hH hr hpre) ?_)
            rintro ex a' w' ⟨rfl, C1, rfl, hp⟩
            cases e1 with
            | normal =>
              simp only [Option.some.injEq, Prod.mk.injEq] at h
              obtain ⟨rfl, rfl⟩ := h
              exact ⟨rfl, C1, rfl, hp⟩
            | ret =>
              simp only [Option.some.injEq, Prod.mk.injEq] at h
              obtain ⟨rfl, rfl⟩ := h
              exact ⟨rfl, C1, rfl, hp⟩
            | exit id2 =>
              simp only at h
              by_cases hid : id2 = id'
              · rw [if_pos hid] at h
                simp only [Option.some.injEq, Prod.mk.injEq] at h
                obtain ⟨rfl, rfl⟩ := h
                show (if id2 = id' then _ else _ : Prop)
                rw [if_pos hid]
                exact ⟨rfl, C1, rfl, hp.heap, hp.sim.keep _, hp.hrep, hp.ext, hp.av, hp.out, hp.path⟩
              · rw [if_neg hid] at h
                simp only [Option.some.injEq, Prod.mk.injEq] at h
                obtain ⟨rfl, rfl⟩ := h
                show (if id2 = id' then _ else _ : Prop)
                rw [if_neg hid]
                exact ⟨rfl, C1, rfl, hp⟩
        | _ => simp [chkCode] at hc
      | loop mg x =>
        cases c with
        | loop x' =>
          simp only [chkCode] at hc
          simp only [aexec] at h
          split at h
          · rename_i y e1 H1 h1
            simp only [Option.some.injEq, Prod.mk.injEq] at h
            obtain ⟨rfl, rfl⟩ := h
            have hk := around_ok ihE hc n 0 s.env s.heap y e1 H1 h1 C a sim hH hr (fun id j' _ hp => hpre id s.k (Nat.le_refl _) (prefix_up hp))
            refine Go.wp_mono (wp_loop_rounds n hk) ?_
            rintro ex a' w' ⟨rfl, C', rfl, h2, h3, h4, h5, h6⟩
            refine ⟨rfl, C', rfl, h2, h3, h4, h5, fun id k' hk' hp => ?_, fun id h7 h8 => h6 id h7 (fun hh => h8 (prefix_up hh)), rfl⟩
            have hp' : (s.p ++ [k']) <+: id := hp
            have hk2 : s.k + 1 ≤ k' := hk'
            exact h6 id (hpre id k' (by omega) hp') (fun hh => by have := prefix_last hh hp'; omega)
          · cases h
        | _ => simp [chkCode] at hc
      | exit id =>
        cases c with
        | exit id' =>
          simp only [chkCode, beq_iff_eq] at hc
          subst hc
          simp only [aexec, Option.some.injEq, Prod.mk.injEq] at h
          obtain ⟨rfl, rfl⟩ := h
          exact wp_exit ⟨rfl, C, rfl, hH, sim, hr, Ext.refl C, hpre, fun _ h _ => h, rfl⟩
        | _ => simp [chkCode] at hc
      | ret =>
        cases c <;> simp [chkCode] at hc
        simp only [aexec, Option.some.injEq, Prod.mk.injEq] at h
        obtain ⟨rfl, rfl⟩ := h
        exact wp_ret ⟨rfl, C, rfl, hH, sim, hr, Ext.refl C, hpre, fun _ h _ => h, rfl⟩
    · simp only [acall] at h
      split at h
      · rename_i fn ef
        exact body_ok ihE (hft f _ ef) h
      · rename_i fn ef
        have hfn : fnOK P (f % 100000) fn = true := hft f _ ef
        split at h
        · rename_i sz ar
          split at h
          · rename_i v H1 v2 H2 e1 e2
            split at h
            · rename_i hb
              simp only [Bool.and_eq_true] at hb
              simp only [Option.some.injEq, Prod.mk.injEq] at h
              obtain ⟨rfl, rfl⟩ := h
              have hb1 := beqA_eq hb.1
              have hb2 := beqH_eq hb.2
              subst hb1; subst hb2
              have b1 := body_ok ihE hfn e1
              have b2 := body_ok ihE hfn e2
              refine ⟨b1.1, fun C vs hH hr hav hl => ?_⟩
              cases vs with
              | nil => have := hl.1; simp at this
              | cons u vs =>
                have hu := hl.2 0 _ _ rfl rfl
                have rest : ∀ x : AV, Rep C x u → RepL C (x :: ar) (u :: vs) := fun x hx => by
                  refine .cons hx ⟨by have := hl.1; simpa using this, fun j av v e e' => hl.2 (j + 1) av v e e'⟩
                cases hu with
                | list _ _ base cap vals h0 hcap hz =>
                  cases base with
                  | none =>
                    have hc0 := hz rfl
                    subst hc0
                    exact b1.2 C _ hH hr hav (rest .nils .nils)
                  | some ad => exact b2.2 C _ hH hr hav (rest .emp (.emp ad cap))
            · cases h
          · cases h
        · exact body_ok ihE hfn h
      · rename_i spec ef
        exact hft f _ ef q args H r H' h
      · cases h

end Go.Proofs.Abs
