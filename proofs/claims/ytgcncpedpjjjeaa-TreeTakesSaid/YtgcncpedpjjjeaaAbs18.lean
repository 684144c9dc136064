/- A part of a proof: the text that states the row tells what is proved. No condition is laid on anything. -/
import Derived.Test.YtgcncpedpjjjeaaAbs17
import Derived.Orders
set_option linter.all false
set_option linter.constructorNameAsVariable false
set_option linter.defProp false
set_option linter.unusedVariables false
set_option linter.unusedSimpArgs false
namespace Go.Proofs.Abs
open Go

section
variable {P : Program} {o : Oper} {a : Act} {C : Ctx} {nt : Nat} {s s1 : St} {av : AV}
theorem op_ok {call : CallF} (hcall : CallOK P call) {i : AIns} {K : Act → World → Prop} {Q : Exit → Act → World → Prop} (sim : SimE nt s.env C a) (hH : C.H = s.heap) (hr : HRep C) (hav : ∀ id, (s.p ++ [s.k]) <+: id → C.Av id)
    (hi : chkIns P o i = true) (hs1 : astep call i s = some (av, s1))
    (hK : ∀ v C1, C1.H = s1.heap → HRep C1 → Ext C C1 → (∀ id, C.Av id → ¬ (s.p ++ [s.k]) <+: id → C1.Av id) → Rep C1 av v → K (a.put o.dst v) C1.w) : o.wp P a C.w K Q := by
  by_cases hk : isCall i = true
  · have go : ∀ (f : Nat) (pre : List AV) (preV : List Value) (xs : List Operand) (args : List (Bool × AX)), argsOK xs args = true → RepL C pre preV → acallIns call s f pre args = some (av, s1) → (execOp a.eval o).run P C.w = (callFunc (f % 100000) (xs.map a.eval ++ preV).toArray).run P C.w → o.wp P a C.w K Q := by
      intro f pre preV xs args hargs hpre hac hrun
      unfold acallIns at hac
      split at hac
      · rename_i l' H1 eargs
        rw [← hH] at eargs
        obtain ⟨f1, f2⟩ := argsOf_ok xs args C l' H1 hargs eargs sim hr
        split at hac
        · rename_i r H2 ecall
          simp only [Option.some.injEq, Prod.mk.injEq] at hac
          obtain ⟨rfl, rfl⟩ := hac
          obtain ⟨c1, c2⟩ := hcall _ _ _ _ _ _ ecall
          have hcalls := c2 { C with H := H1 } (xs.map a.eval ++ preV) rfl (f1.hrep hr) hav (f2.app (hpre.mono fun _ _ r => r.ext f1.ext))
          unfold Oper.wp
          rw [hrun, c1]
          rw [Oper.upon_enter]
          refine hcalls.mono ?_
          rintro e w' ⟨v, C', rfl, rfl, hH', hr', hv, hx, hav'⟩
          exact hK v C' hH' hr' (f1.ext.trans hx) hav' hv
        · cases hac
      · cases hac
    cases i <;> simp only [isCall, Bool.false_eq_true] at hk
    · rename_i f args
      simp only [astep] at hs1
      simp only [chkIns] at hi
      split at hi
      · rename_i f' args' ats eo
        simp only [Bool.and_eq_true, beq_iff_eq] at hi
        obtain ⟨rfl, hi⟩ := hi
        refine go f [] [] args'.toList args hi .nil hs1 ?_
        simp only [execOp, eo, resolve, Act.eval, Deferred.ofValue]
        simp [invoke]
        congr 2
        apply Array.ext'
        simp
      · cases hi
    · rename_i x args
      simp only [astep] at hs1
      simp only [chkIns] at hi
      split at hi
      · rename_i x' args' ats eo
        simp only [Bool.and_eq_true] at hi
        have hx := rep_opd sim hi.1
        split at hs1
        · rename_i f caps ex
          split at hs1
          case isFalse => cases hs1
          rename_i hf5
          have ex' : x.ev s.env = .func f caps := ex
          rw [ex'] at hx
          obtain ⟨vs, hv, hl⟩ := hx.func_inv
          refine go f caps vs args'.toList args hi.2 hl hs1 ?_
          rw [Nat.mod_eq_of_lt hf5]
          simp only [execOp, eo, resolve, hv, Deferred.ofValue]
          simp [invoke]
          congr 2
          apply Array.ext'
          simp
        · cases hs1
      · cases hi
  · have hkf : isCall i = false := by simpa using hk
    have hs1' : ains i s = some (av, s1) := by
      revert hs1 hkf
      cases i <;> simp [astep, isCall]
    obtain ⟨C1, nv, hrun, hnv, hH1, hr1, hx, hav1⟩ := ins_ok (P := P) (o := o) (a := a) (nt := nt) (s := s) hkf sim hH hr hav hi hs1'
    unfold Oper.wp
    rw [hrun]
    rcases hnv with ⟨v, rfl, hv⟩ | ⟨rfl, rfl⟩
    · rw [Oper.upon_value]
      exact hK v C1 hH1 hr1 hx hav1 hv
    · rw [Oper.upon_skip]
      exact hK undef C1 hH1 hr1 hx hav1 (.undef _)
end

theorem chkOps_at {P : Program} {nt : Nat} {ops : Array Oper} : ∀ {l : List Oper} {is : List AIn} {j : Nat} {o : Oper}, chkOps P nt ops l is = true → l[j]? = some o → ∃ i, is[j]? = some i ∧ chkIn P nt ops o i = true
  | [], is, j, o, _, h => by simp at h
  | x :: l, [], j, o, h, _ => by simp [chkOps] at h
  | x :: l, y :: is, j, o, h, hj => by
    simp only [chkOps, Bool.and_eq_true] at h
    cases j with
    | zero =>
      simp only [List.getElem?_cons_zero, Option.some.injEq] at hj
      subst hj
      exact ⟨y, rfl, h.1⟩
    | succ j => exact chkOps_at (j := j) h.2 (by simpa using hj)
theorem chkOps_len {P : Program} {nt : Nat} {ops : Array Oper} : ∀ {l : List Oper} {is : List AIn}, chkOps P nt ops l is = true → l.length = is.length
  | [], [], _ => rfl
  | [], _ :: _, h => by simp [chkOps] at h
  | _ :: _, [], h => by simp [chkOps] at h
  | x :: l, y :: is, h => by
    simp only [chkOps, Bool.and_eq_true] at h
    simp [chkOps_len h.2]

/-- What holds between two operations of a region that draws. -/
structure Mid (nt : Nat) (is : List AIn) (e0 : Env) (H0 : Heap) (p : Id) (k : Nat) (Hh : Nat → Heap) (V : Nat → AV) (l : List Rec) (C0 : Ctx) (S : Nat → Bool) (a : Act) (C : Ctx) : Prop where
  closed : ∀ m i, is[m]? = some i → S m = true → ∀ x ∈ i.pre, S x = true
  sim : ∃ env, SimE nt env C a ∧ ∀ t, eget env t = LS is e0 V S is.length t
  heap : C.H = HS l H0 Hh p k S is.length
  hrep : HRep C
  ext : Ext C0 C
  av : ∀ j, S j = false → ∀ id, (p ++ [k + j]) <+: id → C.Av id
  out : ∀ id, C0.Av id → ¬ p <+: id → C.Av id

section
variable {P : Program} {nt : Nat} {call : CallF} {is : List AIn} {e0 : Env} {H0 : Heap} {p : Id} {k : Nat} {E : Nat → Env} {Hh : Nat → Heap} {V : Nat → AV} {l : List Rec} {C0 : Ctx}

theorem Mid.next (hcall : CallOK P call) (ht : Trace call is e0 H0 p k E Hh V l) (hs : slotsOK 0 is = true) (ha : apart 0 l = true) {ops : Array Oper} {S : Nat → Bool} {j : Nat} {o : Oper} {i : AIn} {a : Act} {C : Ctx} {Q : Exit → Act → World → Prop} {K : Act → World → Prop}
    (hm : Mid nt is e0 H0 p k Hh V l C0 S a C) (hn : Now is S j) (ho : ops[j]? = some o) (hi : is[j]? = some i) (hc : chkIn P nt ops o i = true)
    (hK : ∀ a' C', Mid nt is e0 H0 p k Hh V l C0 (more S j) a' C' → K a' C'.w) : wpOp P ops Q j K a C.w := by
  obtain ⟨env, sim, henv⟩ := hm.sim
  obtain ⟨r, s1, h2, h3, h3', h4, h5, h6⟩ := ht.step j i hi
  have hreads : ∀ t ∈ readsG i, eget (E j) t = eget env t := fun t htr => by rw [henv, LS_reads ht hs hn hi htr]
  simp only [chkIn, Bool.and_eq_true] at hc
  obtain ⟨⟨hg, hd⟩, hci⟩ := hc
  have hdst : o.dst = i.d ∧ ∀ d, i.d = some d → d < nt := by
    unfold dstOK at hd
    split at hd
    · rename_i e1 e2; exact ⟨by rw [e1, e2], fun d e => by rw [e2] at e; cases e⟩
    · rename_i d d' e1 e2
      simp only [Bool.and_eq_true, beq_iff_eq, decide_eq_true_eq] at hd
      obtain ⟨rfl, hd⟩ := hd
      exact ⟨by rw [e1, e2], fun x e => by rw [e2] at e; injection e with e; subst e; exact hd⟩
    · cases hd
  have hdof : dof is j = i.d := by simp [dof, hi]
  have hclosed : ∀ m i', is[m]? = some i' → more S j m = true → ∀ x ∈ i'.pre, more S j x = true := by
    intro m i' h7 h8 x hx
    simp only [more, Bool.or_eq_true, beq_iff_eq] at h8 ⊢
    rcases h8 with h8 | h8
    · exact .inl (hm.closed m i' h7 h8 x hx)
    · subst h8
      rw [hi] at h7; injection h7 with h7; subst h7
      exact .inl (hn.ahead i hi x hx)
  -- behind it
  have rest : ∀ v C1, HRep C1 → Ext C C1 → C1.H = HS l H0 Hh p k (more S j) is.length → (∀ id, C.Av id → ¬ (p ++ [k + j]) <+: id → C1.Av id) → Rep C1 (V j) v → K (a.put o.dst v) C1.w := by
    intro v C1 hr1 hx hH1 hav1 hv
    refine hK _ C1 ⟨hclosed, ⟨putd env i.d (V j), ?_, fun t => ?_⟩, hH1, hr1, hm.ext.trans hx, fun m hm' id hp => ?_, fun id h7 h8 => hav1 id (hm.out id h7 h8) (fun hh => h8 (prefix_up hh))⟩
    · rw [hdst.1]; exact (sim.ext hx).put hdst.2 hv
    · rw [eget_putd, LS_next ht hs hn t, hdof, henv]
    · simp only [more, Bool.or_eq_false_iff, beq_eq_false_iff_ne] at hm'
      exact hav1 id (hm.av m hm'.1 id hp) (fun hh => hm'.2 (by have := prefix_last hh hp; omega))
  have hwc : wanted env i.g = wanted (E j) i.g := wanted_congr hreads
  unfold wpOp
  rw [ho]
  simp only
  unfold adstep at h4
  split at h4
  · rename_i hw
    have hwd := wanted_ok sim hg (hwc.trans hw)
    rw [if_pos hwd]
    refine .inl ?_
    split at h4
    · rename_i v' s' hst
      -- the step where the world stands
      have step : ∀ (h' : ∃ s2, astep call i.i ⟨E j, C.H, p, k + j⟩ = some (V j, s2) ∧ ∀ C1 : Ctx, C1.H = s2.heap → HRep C1 → ∃ C2 : Ctx, C2.w = C1.w ∧ C2.Av = C1.Av ∧ C2.H = HS l H0 Hh p k (more S j) is.length ∧ HRep C2 ∧ Ext C1 C2), o.wp P a C.w K Q := by
        rintro ⟨s2, h7, h8⟩
        have hreads' : ∀ t ∈ reads i.i, eget (E j) t = eget env t := fun t htr => hreads t (by unfold readsG; exact List.mem_append_right _ htr)
        have h9 := astep_congr (call := call) hreads' C.H p (k + j)
        rw [h7] at h9
        refine op_ok (s := ⟨env, C.H, p, k + j⟩) hcall sim rfl hm.hrep (hm.av j hn.no) hci h9 fun v C1 e1 e2 e3 e4 e5 => ?_
        obtain ⟨C2, g1, g2, g3, g4, g5⟩ := h8 C1 e1 e2
        rw [← g1]
        exact rest v C2 g4 (e3.trans g5) g3 (by rw [g2]; exact e4) (e5.ext g5)
      have still : ∀ s2 : St, s2.heap = HS l H0 Hh p k (more S j) is.length → ∀ C1 : Ctx, C1.H = s2.heap → HRep C1 → ∃ C2 : Ctx, C2.w = C1.w ∧ C2.Av = C1.Av ∧ C2.H = HS l H0 Hh p k (more S j) is.length ∧ HRep C2 ∧ Ext C1 C2 := fun s2 e C1 e1 e2 => ⟨C1, rfl, rfl, e1.trans e, e2, Ext.refl _⟩
      have noCall : clsOf i.i (E j) ≠ .c → ains i.i ⟨E j, Hh j, p, k + j⟩ = some (v', s') ∧ ∀ H, astep call i.i ⟨E j, H, p, k + j⟩ = ains i.i ⟨E j, H, p, k + j⟩ := fun hne => by
        have hk : isCall i.i = false := by
          cases hk : isCall i.i with
          | false => rfl
          | true => exact absurd (cls_call hk) hne
        have e : ∀ H, astep call i.i ⟨E j, H, p, k + j⟩ = ains i.i ⟨E j, H, p, k + j⟩ := fun H => by
          revert hk
          cases i.i <;> simp [astep, isCall]
        exact ⟨by rw [← e]; exact hst, e⟩
      split at h4
      · rename_i oo hcl
        split at h4
        · simp only [Option.some.injEq, Prod.mk.injEq] at h4
          obtain ⟨hrc, rfl, rfl⟩ := h4
          obtain ⟨g1, g2⟩ := noCall (by simp only at hcl; rw [hcl]; simp)
          refine step ⟨_, (g2 _).trans (cls_n hcl g1 C.H), fun C1 e1 e2 => ?_⟩
          have hnew := HS_new ht ha hn h2 hrc.symm
          have hnone : hget C.H (p ++ [k + j]) = none := hm.hrep.none (hm.av j hn.no _ (List.prefix_refl _))
          rw [← hm.heap] at hnew
          simp only at e1
          have hg2 : ∀ id, hget (hins C.H (p ++ [k + j]) oo) id = hget C1.H id := fun id => by
            rw [e1, hget_hins _ _ _ _ hnone, hget_hadd]
          have hnd : HND (hins C.H (p ++ [k + j]) oo) := hm.hrep.nd.hins _ _ hnone
          refine ⟨{ C1 with H := hins C.H (p ++ [k + j]) oo }, rfl, rfl, hnew.symm, e2.heq hnd hg2, ?_⟩
          exact Ext.less (A := C1.Av) (fun id o h => by rw [← hg2]; exact h) (fun _ h => h)
        · cases h4
      · rename_i hcl
        split at h4
        · rename_i hb
          simp only [Option.some.injEq, Prod.mk.injEq] at h4
          obtain ⟨hrc, rfl, rfl⟩ := h4
          have he := beqH_eq hb
          obtain ⟨x1, x2⟩ := HS_exact ht ha hn h2 (.inl hrc.symm)
          have x3 := HS_still ht hn h2 (.inr (.inr hrc.symm))
          rw [← hm.heap] at x1
          rw [← x1] at hst he
          exact step ⟨s', hst, still s' (by rw [he, x3, ← hm.heap])⟩
        · simp only [Option.some.injEq, Prod.mk.injEq] at h4
          obtain ⟨hrc, rfl, rfl⟩ := h4
          obtain ⟨x1, x2⟩ := HS_exact ht ha hn h2 (.inr hrc.symm)
          rw [← hm.heap] at x1
          rw [← x1] at hst
          exact step ⟨s', hst, still s' (by rw [h5, x2])⟩
      · rename_i c' hne1 hne2
        simp only [Option.some.injEq, Prod.mk.injEq] at h4
        obtain ⟨hrc, rfl, rfl⟩ := h4
        obtain ⟨g1, g2⟩ := noCall hne2
        cases hcl : clsOf i.i (E j) with
        | l =>
          obtain ⟨g3, g4⟩ := cls_l hcl g1
          have x3 := HS_still ht hn h2 (.inl (hrc.symm.trans hcl))
          exact step ⟨_, (g2 _).trans (g4 C.H), still _ (by rw [x3, ← hm.heap])⟩
        | r id =>
          obtain ⟨g3, g4, g5⟩ := cls_r hcl g1
          have x3 := HS_still ht hn h2 (.inr (.inl ⟨id, hrc.symm.trans hcl⟩))
          have x4 := HS_read ht ha hn h2 (hrc.symm.trans hcl)
          rw [← hm.heap] at x4
          exact step ⟨_, (g2 _).trans (g5 C.H x4), still _ (by rw [x3, ← hm.heap])⟩
        | n oo => exact (hne1 oo hcl).elim
        | c => exact (hne2 hcl).elim
        | x =>
          obtain ⟨x1, x2⟩ := HS_exact ht ha hn h2 (.inr (hrc.symm.trans hcl))
          rw [← hm.heap] at x1
          rw [← x1] at hst
          exact step ⟨_, hst, still _ (by rw [h5, x2])⟩
    · cases h4
  · rename_i hw
    have hwd := wanted_ok sim hg (hwc.trans hw)
    rw [if_neg (by rw [hwd]; simp)]
    simp only [Option.some.injEq, Prod.mk.injEq] at h4
    obtain ⟨hrc, hv, rfl⟩ := h4
    have x3 := HS_still ht hn h2 (.inl hrc.symm)
    refine rest undef C hm.hrep (Ext.refl C) (by rw [x3, hm.heap]) (fun _ h _ => h) ?_
    rw [← hv]
    exact .tuple [] [] rfl (by simp)
  · cases h4

theorem count_more {S : Nat → Bool} {j : Nat} (hS : S j = false) : ∀ n, j < n → ((List.range n).countP fun i => !more S j i) + 1 = (List.range n).countP fun i => !S i
  | 0, h => by omega
  | n + 1, h => by
    rw [List.range_succ, List.countP_append, List.countP_append]
    rcases Nat.lt_or_ge j n with h1 | h1
    · have hm : more S j n = S n := by simp only [more]; rw [show (n == j) = false by simp; omega]; simp
      have := count_more hS n h1
      simp only [List.countP_cons, List.countP_nil, hm]
      omega
    · have : j = n := by omega
      subst this
      have low : ((List.range j).countP fun i => !more S j i) = (List.range j).countP fun i => !S i := by
        apply List.countP_congr
        intro x hx
        rw [List.mem_range] at hx
        simp only [more]
        rw [show (x == j) = false by simp; omega]
        simp
      rw [low]
      simp [more, hS]

theorem region_any_ok (hcall : CallOK P call) (ht : Trace call is e0 H0 p k E Hh V l) (hs : slotsOK 0 is = true) (ha : apart 0 l = true) {ops : Array Oper} {Q : Exit → Act → World → Prop}
    (hc : chkOps P nt ops ops.toList is = true) (hp : preOK ops is = true)
    (hQ : ∀ a' C', (∀ j, j < is.length → True) → SimE nt (E is.length) C' a' → C'.H = Hh is.length → HRep C' → Ext C0 C' → (∀ j, is.length ≤ j → ∀ id, (p ++ [k + j]) <+: id → C'.Av id) → (∀ id, C0.Av id → ¬ p <+: id → C'.Av id) → Q .normal a' C'.w) :
    ∀ (fuel : Nat) (listed : Array Bool) (a : Act) (C : Ctx), listed.size = ops.size → ((List.range ops.size).countP fun i => !listed.getD i false) ≤ fuel → Mid nt is e0 H0 p k Hh V l C0 (fun i => listed.getD i false) a C →
      wpAny P .any ops Q fuel listed a C.w := by
  have hlen : ops.size = is.length := by have := chkOps_len hc; simpa using this
  have fin : ∀ (S : Nat → Bool) a C, (∀ i, i < ops.size → S i = true) → (∀ i, ops.size ≤ i → S i = false) → Mid nt is e0 H0 p k Hh V l C0 S a C → Q .normal a C.w := by
    intro S a C hall hbe hm
    obtain ⟨env, sim, henv⟩ := hm.sim
    rw [hlen] at hall hbe
    refine hQ a C (fun _ _ => trivial) ⟨sim.size, sim.defers, fun t => ?_⟩ (by rw [hm.heap, HS_all ht is.length (Nat.le_refl _) hall]) hm.hrep hm.ext (fun j hj => hm.av j (hbe j hj)) hm.out
    rw [← LS_upto ht is.length (Nat.le_refl _) fun i hi _ => hall i hi, ← henv]
    exact sim.env t
  have beyond : ∀ (listed : Array Bool), listed.size = ops.size → ∀ i, ops.size ≤ i → listed.getD i false = false := fun listed hsz i hi => by
    rw [Array.getD_eq_getD_getElem?, Array.getElem?_eq_none (by omega)]; rfl
  have hnil : ∀ (listed : Array Bool), listed.size = ops.size → Region.ready .any ops listed = [] → ∀ i, i < ops.size → listed.getD i false = true := by
    intro listed hsz hr
    intro i
    induction i using Nat.strongRecOn with
    | ind i ih =>
      intro hi
      cases hL : listed.getD i false with
      | true => rfl
      | false =>
        exfalso
        have : i ∈ Region.ready .any ops listed := by
          rw [mem_ready]
          refine ⟨?_, ops[i], Array.getElem?_eq_getElem hi, fun e he hb => ?_⟩
          · rw [Array.getD_eq_getD_getElem?, Array.getElem?_eq_getElem (by omega)] at hL ⊢
            exact hL
          · simp only [preOK, List.all_eq_true, List.mem_range] at hp
            have h1 := hp i hi
            unfold preOK1 at h1
            rw [Array.getElem?_eq_getElem hi, List.getElem?_eq_getElem (by omega)] at h1
            simp only [Bool.and_eq_true] at h1
            have h2 := Array.all_eq_true_iff_forall_mem.1 h1.1 e he
            simp only [hb, Bool.not_true, Bool.false_or, decide_eq_true_eq] at h2
            exact ih e.on h2 (by omega)
        rw [hr] at this
        cases this
  intro fuel
  induction fuel with
  | zero =>
    intro listed a C hsz hcnt hm
    have hall : ∀ i, i < ops.size → listed.getD i false = true := fun i hi => by
      have h0 : ((List.range ops.size).countP fun i => !listed.getD i false) = 0 := by omega
      rw [List.countP_eq_zero] at h0
      simpa using h0 i (List.mem_range.2 hi)
    refine ⟨?_, fin _ a C hall (beyond listed hsz) hm⟩
    cases hr : Region.ready .any ops listed with
    | nil => rfl
    | cons x xs =>
      have hx : x ∈ Region.ready .any ops listed := by rw [hr]; simp
      rw [mem_ready] at hx
      obtain ⟨h1, oo, h2, _⟩ := hx
      have hlt : x < ops.size := (Array.getElem?_eq_some_iff.1 h2).1
      have h3 := hall x hlt
      rw [Array.getD_eq_getD_getElem?, Array.getElem?_eq_getElem (by omega)] at h1 h3
      simp only [Option.getD_some] at h1 h3
      rw [h1] at h3
      cases h3
  | succ fuel ih =>
    intro listed a C hsz hcnt hm
    refine ⟨fun hr => fin _ a C (hnil listed hsz hr) (beyond listed hsz) hm, fun j hj => ?_⟩
    rw [mem_ready] at hj
    obtain ⟨h1, o, h2, h3⟩ := hj
    have hlt : j < ops.size := (Array.getElem?_eq_some_iff.1 h2).1
    have hno : listed.getD j false = false := by
      rw [Array.getD_eq_getD_getElem?, Array.getElem?_eq_getElem (by omega)] at h1 ⊢
      exact h1
    obtain ⟨i, hi, hci⟩ := chkOps_at (j := j) hc (by simpa using h2)
    have hn : Now is (fun i => listed.getD i false) j := by
      refine ⟨by omega, hno, hm.closed, fun i' hi' x hx => ?_⟩
      rw [hi] at hi'; injection hi' with hi'; subst hi'
      simp only [preOK, List.all_eq_true, List.mem_range] at hp
      have h4 := hp j hlt
      unfold preOK1 at h4
      rw [h2, hi] at h4
      simp only [Bool.and_eq_true, List.all_eq_true] at h4
      obtain ⟨e, he, h5⟩ := Array.any_eq_true'.1 (h4.2 x hx)
      simp only [Bool.and_eq_true, Bool.or_eq_true, beq_iff_eq] at h5
      obtain ⟨hb, h5⟩ := h5
      have h6 := h3 e he hb
      rcases h5 with rfl | h5
      · exact h6
      · cases h7 : is[e.on]? with
        | none => rw [h7] at h5; cases h5
        | some i'' =>
          rw [h7] at h5
          exact hm.closed e.on i'' h7 h6 x (by simpa using h5)
    refine hm.next hcall ht hs ha hn h2 hi hci fun a' C' hm' => ?_
    have hS : (fun i => (listed.setIfInBounds j true).getD i false) = more (fun i => listed.getD i false) j := by
      funext x
      simp only [more]
      by_cases hx : x = j
      · subst hx
        simp [Array.getD_eq_getD_getElem?, Array.getElem?_setIfInBounds, hsz, hlt]
      · rw [show (x == j) = false by simpa using hx]
        rw [getD_set_ne false (Ne.symm hx)]
        simp
    refine ih (listed.setIfInBounds j true) a' C' (by simpa using hsz) ?_ (by rw [hS]; exact hm')
    have h8 := count_more (S := fun i => listed.getD i false) hno ops.size hlt
    have h9 : ((List.range ops.size).countP fun i => !(listed.setIfInBounds j true).getD i false) = (List.range ops.size).countP fun i => !more (fun i => listed.getD i false) j i := by
      congr 1
      funext x
      rw [← hS]
    omega
end

theorem dreg_ok {P : Program} {nt : Nat} {call : CallF} (hcall : CallOK P call) (hmo : P.follows .mixedOrders = true) {ops : Array Oper} {is : List AIn} {id : Nat} {s s' : St} {C : Ctx} {a : Act} {Q : Exit → Act → World → Prop}
    (hc : chkOps P nt ops ops.toList is = true) (hs : slotsOK 0 is = true) (hp : preOK ops is = true) (h : adreg call is s = some s') (sim : SimE nt s.env C a) (hH : C.H = s.heap) (hr : HRep C) (hpre : Pre s C)
    (hQ : ∀ a' C', Post nt s s' C a' C' → Q .normal a' C'.w) : (Code.region id ops true).wp P Q a C.w := by
  unfold adreg at h
  split at h
  · rename_i s2 l h1
    split at h
    · rename_i ha
      injection h with h
      subst h
      obtain ⟨E, Hh, V, ht, rfl⟩ := trace_of is s.k s s2 l rfl h1
      refine wp_region_any hmo ?_
      have hlen : ops.size = is.length := by have := chkOps_len hc; simpa using this
      have hx : Ext C { C with w := { C.w with drawn := C.w.drawn + 1 } } := Ext.drawn C _
      refine region_any_ok (C0 := C) hcall ht hs ha hc hp (fun a' C' _ e1 e2 e3 e4 e5 e6 => hQ a' C' ⟨e2, e1, e3, e4, fun id k' hk hpr => ?_, e6, rfl⟩) ops.size (Array.replicate ops.size false) a { C with w := { C.w with drawn := C.w.drawn + 1 } } (by simp) ?_ ?_
      · have hk' : s.k + is.length ≤ k' := hk
        have hpr' : (s.p ++ [k']) <+: id := hpr
        exact e5 (k' - s.k) (by omega) id (by rw [show s.k + (k' - s.k) = k' by omega]; exact hpr')
      · exact Nat.le_trans List.countP_le_length (by simp)
      · have hno : ∀ i, (Array.replicate ops.size false).getD i false = false := fun i => by
          rw [Array.getD_eq_getD_getElem?, Array.getElem?_replicate]
          split <;> rfl
        refine ⟨fun m i _ h => (by simp only [hno] at h; cases h), ⟨s.env, sim.ext hx, fun t => ?_⟩, ?_, hr.drawn _, hx, fun j _ id hpr => hpre id (s.k + j) (by omega) hpr, fun _ h _ => h⟩
        · rw [LS_from (m := 0) is.length (Nat.zero_le _) fun i _ _ h => by simp only [hno] at h; cases h]
          rfl
        · have : ∀ n, HS l s.heap Hh s.p s.k (fun i => (Array.replicate ops.size false).getD i false) n = s.heap := by
            intro n
            induction n with
            | zero => rfl
            | succ n ih => unfold HS; rw [if_neg (by rw [hno]; simp)]; exact ih
          rw [this]; exact hH
    · cases h
  · cases h

end Go.Proofs.Abs
