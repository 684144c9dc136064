/- A part of a proof: the text that states the row tells what is proved. No condition is laid on anything. -/
import Derived.Test.YtgcncpedpjjjeaaAbs20
import Derived.LoopN
set_option linter.all false
set_option linter.constructorNameAsVariable false
set_option linter.defProp false
set_option linter.unusedVariables false
set_option linter.unusedSimpArgs false
namespace Go.Proofs.Abs
open Go

theorem ains_env {ins : AIns} {s s' : St} {v : AV} (h : ains ins s = some (v, s')) : s'.env = s.env ∧ s'.p = s.p := by
  cases ins <;> simp only [ains] at h
  all_goals (repeat' split at h)
  all_goals first
    | (simp only [reduceCtorEq] at h; done)
    | (simp only [Option.some.injEq, Prod.mk.injEq] at h; obtain ⟨_, rfl⟩ := h; exact ⟨rfl, rfl⟩)
    | (simp only [Option.map_eq_some_iff, Prod.mk.injEq] at h; obtain ⟨_, _, _, rfl⟩ := h; exact ⟨rfl, rfl⟩)

section
variable {P : Program} {o : Oper} {a : Act} {C : Ctx} {nt : Nat} {s s' : St} {av : AV}

def isCall : AIns → Bool
  | .call _ _ | .callv _ _ => true
  | _ => false

theorem ins_ok {ins : AIns} (hk : isCall ins = false) (sim : SimE nt s.env C a) (hH : C.H = s.heap) (hr : HRep C) (hq : ∀ id, (s.p ++ [s.k]) <+: id → C.Av id) (hc : chkIns P o ins = true) (h : ains ins s = some (av, s')) :
    OpRes C (s.p ++ [s.k]) ((execOp a.eval o).run P C.w) av s'.heap := by
  cases ins with
  | mov => exact ok_mov sim hH hr hc h
  | anil => exact ok_anil sim hH hr hq hc h
  | pick => exact ok_pick sim hH hr hc h
  | new => exact ok_new sim hH hr hq hc h
  | box => exact ok_box sim hH hr hq hc h
  | agg => exact ok_agg sim hH hr hc h
  | mkl => exact ok_mkl sim hH hr hq hc h
  | load => exact ok_load sim hH hr hc h
  | store => exact ok_store sim hH hr hc h
  | nilck => exact ok_nilck sim hH hr hc h
  | bin => exact ok_bin sim hH hr hc h
  | bins => exact ok_bins sim hH hr hc h
  | un => exact ok_un sim hH hr hc h
  | conv => exact ok_conv sim hH hr hc h
  | faddr => exact ok_faddr sim hH hr hc h
  | fld => exact ok_fld sim hH hr hc h
  | iaddr => exact ok_iaddr sim hH hr hc h
  | sidx => exact ok_sidx sim hH hr hc h
  | isnil => exact ok_isnil sim hH hr hc h
  | zap => exact ok_zap sim hH hr hq hc h
  | slc => exact ok_slc sim hH hr hc h
  | sslc => exact ok_sslc sim hH hr hc h
  | ext => exact ok_ext sim hH hr hc h
  | mks => exact ok_mks sim hH hr hq hc h
  | mkf => exact ok_mkf sim hH hr hc h
  | mkm => exact ok_mkm sim hH hr hq hc h
  | look => exact ok_look sim hH hr hc h
  | mset => exact ok_mset sim hH hr hc h
  | len => exact ok_len sim hH hr hc h
  | app => exact ok_app sim hH hr hc h
  | mm => exact ok_mm sim hH hr hc h
  | call => cases hk
  | callv => cases hk

/-- What a call does, told by what the abstract call does. -/
def CallPost (C : Ctx) (q : Id) (r : AV) (H' : Heap) (e : Ending) (w' : World) : Prop :=
  ∃ v C', e = .returned v ∧ C'.w = w' ∧ C'.H = H' ∧ HRep C' ∧ Rep C' r v ∧ Ext C C' ∧ ∀ id, C.Av id → ¬ q <+: id → C'.Av id

def CallOK (P : Program) (call : CallF) : Prop := ∀ f q args H r H', call f q args H = some (r, H') →
  (∀ vals w, (callFunc (f % 100000) vals).run P w = .ok (.enter (f % 100000) vals) w) ∧
  ∀ C vs, C.H = H → HRep C → (∀ id, q <+: id → C.Av id) → RepL C args vs → Calls P (f % 100000) vs.toArray C.w (CallPost C q r H')

theorem argsOf_ok {env : Env} : ∀ (xs : List Operand) (ys : List (Bool × AX)) (C : Ctx) (l : List AV) (H : Heap), argsOK xs ys = true → argsOf env C.H ys = some (l, H) → SimE nt env C a → HRep C →
    FlagLe C.H H ∧ RepL { C with H := H } l (xs.map a.eval)
  | [], ys, C, l, H, h1, h2, sim, hr => by
    cases ys with
    | cons => simp [argsOK] at h1
    | nil =>
      simp only [argsOf, Option.some.injEq, Prod.mk.injEq] at h2
      obtain ⟨rfl, rfl⟩ := h2
      exact ⟨.refl _, .nil⟩
  | x :: xs, ys, C, l, H, h1, h2, sim, hr => by
    cases ys with
    | nil => simp [argsOK] at h1
    | cons y ys =>
      obtain ⟨b, y⟩ := y
      simp only [argsOK, Bool.and_eq_true] at h1
      have hx := rep_opd sim h1.1
      simp only [argsOf] at h2
      have key : ∀ v H1, FlagLe C.H H1 → Rep { C with H := H1 } v (a.eval x) → (match argsOf env H1 ys with
          | some (l, H2) => some (v :: l, H2)
          | none => none) = some (l, H) → FlagLe C.H H ∧ RepL { C with H := H } l ((x :: xs).map a.eval) := by
        intro v H1 hf hv h
        split at h
        · rename_i l' H2 ep
          simp only [Option.some.injEq, Prod.mk.injEq] at h
          obtain ⟨rfl, rfl⟩ := h
          obtain ⟨g1, g2⟩ := argsOf_ok xs ys { C with H := H1 } l' H2 h1.2 ep (sim.ext hf.ext) (hf.hrep hr)
          exact ⟨hf.trans g1, .cons (hv.ext (C := { C with H := H1 }) (C' := { C with H := H2 }) g1.ext) g2⟩
        · cases h
      cases b with
      | true =>
        simp only [if_true] at h2
        cases hz : fz C.H (y.ev env) with
        | none => rw [hz] at h2; cases h2
        | some q =>
          obtain ⟨v, H1⟩ := q
          rw [hz] at h2
          obtain ⟨f1, _, f3⟩ := fzd_ok 4 _ _ _ _ hz
          exact key v H1 f1 (f3 C _ rfl hr hx) h2
      | false =>
        simp only [Bool.false_eq_true, if_false] at h2
        exact key _ _ (.refl _) hx h2

theorem prefix_last {p : Id} {k k' : Nat} {id : Id} (h : (p ++ [k]) <+: id) (h' : (p ++ [k']) <+: id) : k = k' := by
  obtain ⟨t, rfl⟩ := h
  obtain ⟨t', h'⟩ := h'
  simp only [List.append_assoc, List.append_cancel_left_eq, List.cons_append, List.nil_append, List.cons.injEq] at h'
  exact h'.1.symm
theorem prefix_up {p : Id} {k : Nat} {id : Id} (h : (p ++ [k]) <+: id) : p <+: id := (List.prefix_append p [k]).trans h

/-! ### A region in the text's order -/
def guardOK (ops : Array Oper) (o : Oper) (i : AIn) : Bool :=
  match o.guard, i.g with
  | none, none => true
  | some (j, want), some (slot, want') => want == want' && decide ((ops[j]?).bind (·.dst) = some slot)
  | _, _ => false
def dstOK (nt : Nat) (o : Oper) (i : AIn) : Bool :=
  match o.dst, i.d with
  | none, none => true
  | some d, some d' => d == d' && decide (d < nt)
  | _, _ => false
def chkIn (P : Program) (nt : Nat) (ops : Array Oper) (o : Oper) (i : AIn) : Bool := guardOK ops o i && dstOK nt o i && chkIns P o i.i
def chkOps (P : Program) (nt : Nat) (ops : Array Oper) : List Oper → List AIn → Bool
  | [], [] => true
  | o :: r, i :: r' => chkIn P nt ops o i && chkOps P nt ops r r'
  | _, _ => false

theorem eget_eset (e : Env) (i j : Nat) (v : AV) : eget (eset e i v) j = if i = j then v else eget e j := by
  induction e with
  | nil => by_cases h : i = j <;> simp [eset, eget, h]
  | cons p r ih =>
    obtain ⟨k, u⟩ := p
    by_cases hk : k = i
    · subst hk
      by_cases h : k = j <;> simp [eset, eget, h]
    · simp only [eset, if_neg hk, eget, ih]
      by_cases hkj : k = j
      · subst hkj; simp [Ne.symm hk]
      · simp [hkj]

theorem SimE.put {v : Value} {d : Option Nat} {env : Env} (sim : SimE nt env C a) (hd : ∀ i, d = some i → i < nt) (hv : Rep C av v) : SimE nt (putd env d av) C (a.put d v) := by
  cases d with
  | none => exact sim
  | some i =>
    have hi := hd i rfl
    refine ⟨by simp [Act.put, sim.size], sim.defers, fun j => ?_⟩
    simp only [putd, Act.put, eget_eset]
    by_cases hij : i = j
    · subst hij
      have : i < a.tmps.size := by rw [sim.size]; exact hi
      simp [Array.getD, this]
      exact hv
    · simp only [hij, if_false]
      have := sim.env j
      have e : (a.tmps.setIfInBounds i v).getD j undef = a.tmps.getD j undef := by
        simp only [Array.getD_eq_getD_getElem?, Array.getElem?_setIfInBounds, hij, if_false]
      rw [e]
      exact this

theorem wanted_ok {ops : Array Oper} {i : AIn} {b : Bool} {env : Env} (sim : SimE nt env C a) (hg : guardOK ops o i = true) (h : wanted env i.g = some b) : Region.wanted o (yielded ops a.tmps) = b := by
  unfold guardOK at hg
  unfold wanted at h
  split at hg
  · rename_i e1 e2
    rw [e2] at h
    simp only [Option.some.injEq] at h
    subst h
    simp [Region.wanted, e1]
  · rename_i j want slot want' e1 e2
    rw [e2] at h
    simp only [Bool.and_eq_true, beq_iff_eq, decide_eq_true_eq] at hg
    obtain ⟨rfl, hd⟩ := hg
    simp only at h
    have hv := sim.env slot
    simp only [Region.wanted, e1, yielded, hd, Option.bind_some]
    split at h
    · rename_i b' e
      rw [e] at hv
      injection h with h
      have hb := hv.bool_inv
      have hs : a.tmps[slot]? = some (.bool b') := by
        rw [Array.getD_eq_getD_getElem?] at hb
        cases ht : a.tmps[slot]? with
        | none => rw [ht] at hb; simp [undef] at hb
        | some u => rw [ht] at hb; simpa using hb
      rw [hs]
      simpa using h
    · rename_i e
      rw [e] at hv
      injection h with h
      subst h
      obtain ⟨us, hu, hl⟩ := hv.tuple_inv
      have hus : us = [] := List.eq_nil_of_length_eq_zero hl.1.symm
      subst hus
      cases ht : a.tmps[slot]? with
      | none => simp
      | some u =>
        rw [Array.getD_eq_getD_getElem?, ht] at hu
        simp only [Option.getD_some] at hu
        subst hu
        simp
    · cases h
  · cases hg

/-- Behind a piece of code. -/
structure Post (nt : Nat) (s s' : St) (C : Ctx) (a' : Act) (C' : Ctx) : Prop where
  heap : C'.H = s'.heap
  sim : SimE nt s'.env C' a'
  hrep : HRep C'
  ext : Ext C C'
  av : ∀ id k', s'.k ≤ k' → (s'.p ++ [k']) <+: id → C'.Av id
  out : ∀ id, C.Av id → ¬ s.p <+: id → C'.Av id
  path : s'.p = s.p

def Pre (s : St) (C : Ctx) : Prop := ∀ id k', s.k ≤ k' → (s.p ++ [k']) <+: id → C.Av id

theorem region_ok {call : CallF} (hcall : CallOK P call) {ops : Array Oper} {Q : Exit → Act → World → Prop} : ∀ (l : List Oper) (is : List AIn) (k : Nat) (s s' : St) (C : Ctx) (a : Act),
    chkOps P nt ops l is = true → aregion call is k s = some s' → SimE nt s.env C a → C.H = s.heap → HRep C → (∀ id k', k ≤ k' → (s.p ++ [k']) <+: id → C.Av id) →
    (∀ a' C', Post nt s s' C a' C' → Q .normal a' C'.w) → wpList P ops Q l a C.w
  | [], is, k, s, s', C, a, hc, h, sim, hH, hr, hav, hQ => by
    cases is with
    | cons => simp [chkOps] at hc
    | nil =>
      simp only [aregion, Option.some.injEq] at h
      subst h
      exact wpList_nil (hQ a C ⟨hH, sim, hr, Ext.refl C, hav, fun _ h _ => h, rfl⟩)
  | o :: l, is, k, s, s', C, a, hc, h, sim, hH, hr, hav, hQ => by
    cases is with
    | nil => simp [chkOps] at hc
    | cons i is =>
      simp only [chkOps, Bool.and_eq_true, chkIn] at hc
      obtain ⟨⟨⟨hg, hd⟩, hi⟩, hc⟩ := hc
      have hdst : o.dst = i.d ∧ ∀ d, i.d = some d → d < nt := by
        unfold dstOK at hd
        split at hd
        · rename_i e1 e2; exact ⟨by rw [e1, e2], fun d e => by rw [e2] at e; cases e⟩
        · rename_i d d' e1 e2
          simp only [Bool.and_eq_true, beq_iff_eq, decide_eq_true_eq] at hd
          obtain ⟨rfl, hd⟩ := hd
          exact ⟨by rw [e1, e2], fun x e => by rw [e2] at e; injection e with e; subst e; exact hd⟩
        · cases hd
      simp only [aregion] at h
      -- what is left, behind this operation
      have rest : ∀ (v : Value) (av : AV) (s1 : St) (C1 : Ctx), aregion call is (k + 1) { s1 with env := putd s1.env i.d av } = some s' → s1.env = s.env → s1.p = s.p → C1.H = s1.heap → HRep C1 → Ext C C1 → (∀ id, C.Av id → ¬ (s.p ++ [k]) <+: id → C1.Av id) → Rep C1 av v →
          wpList P ops Q l (a.put o.dst v) C1.w := by
        intro v av s1 C1 h1 he hp hH1 hr1 hx hav1 hv
        refine region_ok hcall l is (k + 1) { s1 with env := putd s1.env i.d av } s' C1 (a.put o.dst v) hc h1 ?_ hH1 hr1 (fun id k' hk' hpre => ?_) (fun a' C' hp' => hQ a' C' ?_)
        · rw [hdst.1, he]
          exact (sim.ext hx).put hdst.2 hv
        · have hpre' : (s.p ++ [k']) <+: id := by rw [← hp]; exact hpre
          exact hav1 id (hav id k' (by omega) hpre') (fun hh => by have := prefix_last hh hpre'; omega)
        · refine ⟨hp'.heap, hp'.sim, hp'.hrep, hx.trans hp'.ext, hp'.av, fun id h3 h4 => hp'.out id (hav1 id h3 (fun hh => h4 (prefix_up hh))) (by show ¬ s1.p <+: id; rw [hp]; exact h4), ?_⟩
          rw [hp'.path]; exact hp
      split at h
      · rename_i hw
        have hwd := wanted_ok sim hg hw
        split at h
        · rename_i av s1 hs1
          unfold wpList
          rw [if_pos hwd]
          refine .inl ?_
          by_cases hk : isCall i.i = true
          · -- a call
            have go : ∀ (f : Nat) (pre : List AV) (preV : List Value) (xs : List Operand) (args : List (Bool × AX)), argsOK xs args = true → RepL C pre preV → acallIns call { s with k := k } f pre args = some (av, s1) → (execOp a.eval o).run P C.w = (callFunc (f % 100000) (xs.map a.eval ++ preV).toArray).run P C.w → o.wp P a C.w (wpList P ops Q l) Q := by
              intro f pre preV xs args hargs hpre hac hrun
              unfold acallIns at hac
              split at hac
              · rename_i l' H1 eargs
                rw [← hH] at eargs
                obtain ⟨f1, f2⟩ := argsOf_ok xs args C l' H1 hargs eargs sim hr
                split at hac
                · rename_i r H2 ecall
                  simp only [Option.some.injEq, Prod.mk.injEq] at hac
                  obtain ⟨rfl, rfl⟩ := hac
                  obtain ⟨c1, c2⟩ := hcall _ _ _ _ _ _ ecall
                  have hcalls := c2 { C with H := H1 } (xs.map a.eval ++ preV) rfl (f1.hrep hr) (fun id hid => hav id k (Nat.le_refl _) hid) (f2.app (hpre.mono fun _ _ r => r.ext f1.ext))
                  unfold Oper.wp
                  rw [hrun, c1]
                  rw [Oper.upon_enter]
                  refine hcalls.mono ?_
                  rintro e w' ⟨v, C', rfl, rfl, hH', hr', hv, hx, hav'⟩
                  exact rest v _ _ C' h rfl rfl hH' hr' (f1.ext.trans hx) hav' hv
                · cases hac
              · cases hac
            cases hii : i.i <;> rw [hii] at hk hi hs1 <;> simp only [isCall, Bool.false_eq_true] at hk
            · rename_i f args
              simp only [astep] at hs1
              simp only [chkIns] at hi
              split at hi
              · rename_i f' args' ats eo
                simp only [Bool.and_eq_true, beq_iff_eq] at hi
                obtain ⟨rfl, hi⟩ := hi
                refine go f [] [] args'.toList args hi .nil hs1 ?_
                simp only [execOp, eo, resolve, Act.eval, Deferred.ofValue]
                simp [invoke]
                congr 2
                apply Array.ext'
                simp
              · cases hi
            · rename_i x args
              simp only [astep] at hs1
              simp only [chkIns] at hi
              split at hi
              · rename_i x' args' ats eo
                simp only [Bool.and_eq_true] at hi
                have hx := rep_opd sim hi.1
                split at hs1
                · rename_i f caps ex
                  split at hs1
                  case isFalse => cases hs1
                  rename_i hf5
                  have ex' : x.ev s.env = .func f caps := ex
                  rw [ex'] at hx
                  obtain ⟨vs, hv, hl⟩ := hx.func_inv
                  refine go f caps vs args'.toList args hi.2 hl hs1 ?_
                  rw [Nat.mod_eq_of_lt hf5]
                  simp only [execOp, eo, resolve, hv, Deferred.ofValue]
                  simp [invoke]
                  congr 2
                  apply Array.ext'
                  simp
                · cases hs1
              · cases hi
          · -- no call
            have hkf : isCall i.i = false := by simpa using hk
            have hs1' : ains i.i { s with k := k } = some (av, s1) := by
              revert hs1 hkf
              cases i.i <;> simp [astep, isCall]
            obtain ⟨C1, nv, hrun, hnv, hH1, hr1, hx, hav1⟩ := ins_ok (P := P) (o := o) (a := a) (nt := nt) (s := { s with k := k }) hkf sim hH hr (fun id hid => hav id k (Nat.le_refl _) hid) hi hs1'
            obtain ⟨he, hp⟩ := ains_env hs1'
            unfold Oper.wp
            rw [hrun]
            rcases hnv with ⟨v, rfl, hv⟩ | ⟨rfl, rfl⟩
            · rw [Oper.upon_value]
              exact rest v av s1 C1 h he hp hH1 hr1 hx hav1 hv
            · rw [Oper.upon_skip]
              exact rest undef .undef s1 C1 h he hp hH1 hr1 hx hav1 (.undef _)
        · cases h
      · rename_i hw
        have hwd := wanted_ok sim hg hw
        unfold wpList
        rw [if_neg (by rw [hwd]; simp)]
        exact rest undef (.tuple []) s C h rfl rfl hH hr (Ext.refl C) (fun _ h _ => h) (.tuple [] [] rfl (by simp))
      · cases h

end
/-! ### What the orders promise -/
def preOK1 (ops : Array Oper) (is : List AIn) (j : Nat) : Bool :=
  match ops[j]?, is[j]? with
  | some o, some i => (o.after.all fun e => !Region.binds .any e || decide (e.on < j)) &&
      i.pre.all fun x => o.after.any fun e => Region.binds .any e && (e.on == x || ((is[e.on]?).map fun i' => i'.pre.contains x).getD false)
  | _, _ => false
def preOK (ops : Array Oper) (is : List AIn) : Bool := (List.range ops.size).all (preOK1 ops is)

end Go.Proofs.Abs
