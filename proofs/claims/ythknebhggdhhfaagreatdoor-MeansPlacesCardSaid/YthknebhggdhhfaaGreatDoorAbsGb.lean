/- A part of a proof: the text that states the row tells what is proved. No condition is laid on anything. -/
import Derived.Test.YthknebhggdhhfaaGreatDoorAbsGa
import Derived.Laws.StructEq
import Derived.WideKeyRuns
import Derived.Lib.ConvBytes
set_option linter.all false
set_option linter.constructorNameAsVariable false
set_option linter.defProp false
set_option linter.unusedVariables false
set_option linter.unusedSimpArgs false
namespace Go.Proofs.Abs
open Go
variable [Globs] {D : List Deferred}

section
variable {P : Program} {o : Oper} {a : Act} {C : Ctx} {nt : Nat} {s s' : St} {av : AV}

theorem run_bin0 {op : BinOp} {t : TypeId} {x y : Operand} {k k' : IntKind} {m n : Int} {r : AV} (w : World) (h : abin op 0 (.int k m) (.int k' n) = some r) :
    ∃ v, (do eqGuard op t x y (.int k m) (.int k' n); binOp op t (.int k m) (.int k' n) : Sem Value).run P w = .ok v w ∧ ∀ C : Ctx, Rep C r v := by
  unfold abin at h
  simp only at h
  have hg : (eqGuard op t x y (.int k m) (.int k' n)).run P w = .ok () w := by cases op <;> simp [eqGuard]
  simp only [Sem.run_bind, hg, Result.andThen_ok]
  split at h
  · unfold ashift at h
    split at h
    · cases h
    · rename_i hn
      simp only [Option.some.injEq] at h
      subst h
      exact ⟨_, by simp [binOp, Op.shift, hn], fun C => .int _ _⟩
  · unfold ashift at h
    split at h
    · cases h
    · rename_i hn
      simp only [Option.some.injEq] at h
      subst h
      exact ⟨_, by simp [binOp, Op.shift, hn], fun C => .int _ _⟩
  · rename_i hs1 hs2
    split at h
    · rename_i hk
      subst hk
      cases op <;> simp only [aint, Option.some.injEq, reduceCtorEq] at h <;> first
        | (subst h; exact ⟨_, by simp [binOp, Op.intArith, Op.intCmp], fun C => .int _ _⟩)
        | (subst h; exact ⟨_, by simp [binOp, Op.intArith, Op.intCmp], fun C => .bool _⟩)
        | (split at h
           · cases h
           · rename_i hz
             simp only [Option.some.injEq] at h
             subst h
             exact ⟨_, by simp [binOp, Op.intDiv, hz], fun C => .int _ _⟩)
        | exact (hs1 rfl).elim
        | exact (hs2 rfl).elim
    · cases h

theorem run_bin0s {op : BinOp} {t : TypeId} {x y : Operand} {m n : ByteArray} {r : AV} (w : World) (h : abin op 0 (.str m) (.str n) = some r) :
    ∃ v, (do eqGuard op t x y (.string m) (.string n); binOp op t (.string m) (.string n) : Sem Value).run P w = .ok v w ∧ ∀ C : Ctx, Rep C r v := by
  unfold abin at h
  simp only at h
  have hg : (eqGuard op t x y (.string m) (.string n)).run P w = .ok () w := by cases op <;> simp [eqGuard]
  simp only [Sem.run_bind, hg, Result.andThen_ok]
  unfold astr at h
  split at h
  · split at h
    · cases h
    · rename_i hn
      simp only [Option.some.injEq] at h
      subst h
      exact ⟨.string (m ++ n), by simp only [binOp, Op.stringOp]; rw [if_neg hn]; rfl, fun C => .str _⟩
  · simp only [Option.some.injEq] at h
    subst h
    exact ⟨_, by simp [binOp, Op.stringOp], fun C => .bool _⟩
  · simp only [Option.some.injEq] at h
    subst h
    exact ⟨_, by simp [binOp, Op.stringOp], fun C => .bool _⟩
  · cases h

theorem run_bin2 {op : BinOp} {t : TypeId} {x : Operand} {ms : Array (String × TypeId)} {r : AV} (w : World) (ht : P.underlying t = some (.interface ms)) (h : abin op 2 .nili .nili = some r) :
    ∃ v, (do eqGuard op t x (.const .nilIface) .nilIface .nilIface; binOp op t .nilIface .nilIface : Sem Value).run P w = .ok v w ∧ ∀ C : Ctx, Rep C r v := by
  unfold abin at h
  simp only at h
  have hg : (eqGuard op t x (.const .nilIface) .nilIface .nilIface).run P w = .ok () w := by cases op <;> simp [eqGuard]
  have hd : ∀ d, (Op.equalIn (d + 1) t .nilIface .nilIface).run P w = .ok true w := fun d => by simp [Op.equalIn, run_underlying ht]
  have he : (Op.equal t .nilIface .nilIface).run P w = .ok true w := hd 9999
  simp only [Sem.run_bind, hg, Result.andThen_ok]
  split at h
  · simp only [Option.some.injEq] at h
    subst h
    exact ⟨_, by simp [binOp, he], fun C => .bool _⟩
  · simp only [Option.some.injEq] at h
    subst h
    exact ⟨_, by simp [binOp, he], fun C => .bool _⟩
  · cases h
theorem run_bin1 {op : BinOp} {t : TypeId} {x y : Operand} {m n : Bool} {r : AV} (w : World) (ht : P.underlying t = some .bool) (h : abin op 1 (.bool m) (.bool n) = some r) :
    ∃ v, (do eqGuard op t x y (.bool m) (.bool n); binOp op t (.bool m) (.bool n) : Sem Value).run P w = .ok v w ∧ ∀ C : Ctx, Rep C r v := by
  unfold abin at h
  simp only at h
  have hg : (eqGuard op t x y (.bool m) (.bool n)).run P w = .ok () w := by cases op <;> simp [eqGuard]
  have he : (Op.equal t (.bool m) (.bool n)).run P w = .ok (m == n) w := run_equalIn_bool' w 9999 t m n ht
  simp only [Sem.run_bind, hg, Result.andThen_ok]
  split at h
  · simp only [Option.some.injEq] at h
    subst h
    exact ⟨_, by simp [binOp, he], fun C => .bool _⟩
  · simp only [Option.some.injEq] at h
    subst h
    exact ⟨_, by simp [binOp, he], fun C => .bool _⟩
  · cases h

theorem kind_agg {t k : Nat} (h : kindIs P t k = true) : aggIs P t false = true := by
  unfold kindIs at h
  split at h
  · split at h
    · rename_i e; unfold aggIs; rw [e]; rfl
    · cases h
  · split at h
    · rename_i e; unfold aggIs; rw [e]; rfl
    · cases h
  · split at h
    · rename_i e; unfold aggIs; rw [e]; rfl
    · cases h
  · cases h

theorem run_fields {d : Nat} {xs ys : List Value} {w : World} : ∀ (fs : List Field) (n : Nat) (ks : List Nat) (as bs : List AV) (r : Bool), structCmp P fs n ks = true →
    RepL C as (xs.drop n) → RepL C bs (ys.drop n) → acells ks as bs = some r → (Op.eqFields (d + 1) xs.toArray ys.toArray fs).run P w = .ok r w
  | [], n, ks, as, bs, r, hs, r1, r2, h => by
    cases ks with
    | cons k ks => simp [structCmp] at hs
    | nil =>
      have : r = true := by
        unfold acells at h
        split at h <;> simp_all
      subst this
      simp [Op.eqFields]
  | f :: fs, n, ks, as, bs, r, hs, r1, r2, h => by
    cases ks with
    | nil => simp [structCmp] at hs
    | cons k ks =>
      simp only [structCmp, Bool.and_eq_true, beq_iff_eq, bne_iff_ne] at hs
      obtain ⟨⟨⟨s1, s2⟩, s3⟩, s4⟩ := hs
      have key : ∀ (x y : AV) (as' bs' : List AV), as = x :: as' → bs = y :: bs' → (∀ u v, Rep C x u → Rep C y v → ∃ b : Bool, (Op.equalIn (d + 1) f.type u v).run P w = .ok b w ∧ (b = true → acells ks as' bs' = some r) ∧ (b = false → r = false)) →
          (Op.eqFields (d + 1) xs.toArray ys.toArray (f :: fs)).run P w = .ok r w := by
        intro x y as' bs' ea eb hk
        subst ea; subst eb
        have hl1 : n < xs.length := by have := r1.1; simp at this; omega
        have hl2 : n < ys.length := by have := r2.1; simp at this; omega
        have d1 : xs.drop n = xs[n] :: xs.drop (n + 1) := List.drop_eq_getElem_cons hl1
        have d2 : ys.drop n = ys[n] :: ys.drop (n + 1) := List.drop_eq_getElem_cons hl2
        rw [d1] at r1
        rw [d2] at r2
        have hx := r1.2 0 _ _ rfl rfl
        have hy := r2.2 0 _ _ rfl rfl
        have t1 : RepL C as' (xs.drop (n + 1)) := ⟨by have := r1.1; simp only [List.length_cons] at this; omega, fun j av v e e' => r1.2 (j + 1) av v e e'⟩
        have t2 : RepL C bs' (ys.drop (n + 1)) := ⟨by have := r2.1; simp only [List.length_cons] at this; omega, fun j av v e e' => r2.2 (j + 1) av v e e'⟩
        have hag : aggIs P f.type false = true := kind_agg s3
        have hp1 : (part f.type xs.toArray f.offset).run P w = .ok xs[n] w := by
          simp only [part, Sem.run_bind, run_isAgg hag, Result.andThen_ok, s2]
          simp [hl1]
        have hp2 : (part f.type ys.toArray f.offset).run P w = .ok ys[n] w := by
          simp only [part, Sem.run_bind, run_isAgg hag, Result.andThen_ok, s2]
          simp [hl2]
        obtain ⟨b, hb, ht, hf⟩ := hk _ _ hx hy
        simp only [Op.eqFields]
        rw [if_pos s1]
        simp only [Sem.run_bind, hp1, hp2, hb, Result.andThen_ok]
        cases b with
        | true => simpa using run_fields fs (n + 1) ks as' bs' r s4 t1 t2 (ht rfl)
        | false => simp [hf rfl]
      unfold acells at h
      split at h
      · exact absurd ‹k :: ks = []› (List.cons_ne_nil _ _)
      · rename_i ks' k0 m r0 k0' m' r0' e0
        injection e0 with e0 e0'
        subst e0; subst e0'
        split at h
        · rename_i hkk
          subst hkk
          refine key _ _ _ _ rfl rfl fun u v hu hv => ?_
          rw [hu.int_inv, hv.int_inv]
          unfold kindIs at s3
          simp only at s3
          split at s3
          · rename_i k2 hk2
            refine ⟨m == m', run_equalIn_int w d f.type _ k2 m m' hk2, fun hb => ?_, fun hb => ?_⟩
            · rw [hb] at h; simpa using h
            · rw [hb] at h; simpa using h.symm
          · cases s3
        · cases h
      · rename_i ks' m r0 m' r0' e0
        injection e0 with e0 e0'
        subst e0; subst e0'
        refine key _ _ _ _ rfl rfl fun u v hu hv => ?_
        rw [hu.bool_inv, hv.bool_inv]
        unfold kindIs at s3
        simp only at s3
        split at s3
        · rename_i hk2
          refine ⟨m == m', run_equalIn_bool' w d f.type m m' hk2, fun hb => ?_, fun hb => ?_⟩
          · rw [hb] at h; simpa using h
          · rw [hb] at h; simpa using h.symm
        · cases s3
      · rename_i ks' m r0 m' r0' e0
        injection e0 with e0 e0'
        subst e0; subst e0'
        refine key _ _ _ _ rfl rfl fun u v hu hv => ?_
        rw [hu.str_inv, hv.str_inv]
        unfold kindIs at s3
        simp only at s3
        split at s3
        · rename_i hk2
          refine ⟨m == m', by rw [beq_toListBytes]; exact run_equalIn_string w d f.type m m' hk2, fun hb => ?_, fun hb => ?_⟩
          · rw [hb] at h; simpa using h
          · rw [hb] at h; simpa using h.symm
        · cases s3
      · cases h

theorem ok_bin {op : BinOp} {ty : Nat} {x y : AX} (sim : SimE D nt s.env C a) (hH : C.H = s.heap) (hr : HRep C) (hc : chkIns P o (.bin op ty x y) = true) (h : ains (.bin op ty x y) s = some (av, s')) :
    OpRes C (s.p ++ [s.k]) ((execOp a.eval o).run P C.w) av s'.heap := by
  simp only [ains] at h
  simp only [chkIns] at hc
  split at hc
  · rename_i op' t x' y' yt eo
    simp only [Bool.and_eq_true, decide_eq_true_eq] at hc
    obtain ⟨⟨⟨rfl, c1⟩, c2⟩, c3⟩ := hc
    have hx := rep_opd sim c1
    have hy := rep_opd sim c2
    cases hb : abin op' ty (x.ev s.env) (y.ev s.env) with
    | none => rw [hb] at h; simp at h
    | some r =>
      rw [hb] at h
      simp only [Option.map_some, Option.some.injEq, Prod.mk.injEq] at h
      obtain ⟨rfl, rfl⟩ := h
      have fin : ∀ v, (do eqGuard op' t x' y' (a.eval x') (a.eval y'); binOp op' t (a.eval x') (a.eval y') : Sem Value).run P C.w = .ok v C.w → Rep C r v → OpRes C (s.p ++ [s.k]) ((execOp a.eval o).run P C.w) r s.heap := by
        intro v h1 h2
        refine .pure hr (v := v) ?_ h2 hH
        simp only [execOp, eo]
        rw [Sem.run_bind, h1]
        rfl
      have hb' := hb
      unfold abin at hb'
      split at hb'
      · rename_i k m k' n e1 e2
        rw [e1, e2] at hb
        rw [e1] at hx
        rw [e2] at hy
        obtain ⟨v, h1, h2⟩ := run_bin0 (P := P) (t := t) (x := x') (y := y') C.w hb
        exact fin v (by rw [hx.int_inv, hy.int_inv]; exact h1) (h2 C)
      · rename_i m n e1 e2
        rw [e1, e2] at hb
        rw [e1] at hx
        rw [e2] at hy
        obtain ⟨v, h1, h2⟩ := run_bin0s (P := P) (t := t) (x := x') (y := y') C.w hb
        exact fin v (by rw [hx.str_inv, hy.str_inv]; exact h1) (h2 C)
      · rename_i m n e1 e2
        rw [e1, e2] at hb
        rw [e1] at hx
        rw [e2] at hy
        simp only at c3
        split at c3
        · rename_i hu
          obtain ⟨v, h1, h2⟩ := run_bin1 (P := P) (t := t) (x := x') (y := y') C.w hu hb
          exact fin v (by rw [hx.bool_inv, hy.bool_inv]; exact h1) (h2 C)
        · cases c3
      · rename_i e1 e2
        rw [e1, e2] at hb
        rw [e1] at hx
        simp only [Bool.and_eq_true] at c3
        obtain ⟨c4, c5⟩ := c3
        split at c4
        · split at c5
          · rename_i ms hu
            obtain ⟨v, h1, h2⟩ := run_bin2 (P := P) (t := t) (x := x') C.w hu hb
            have hxi : a.eval x' = .nilIface := by
              generalize a.eval x' = xv at hx
              cases hx; rfl
            exact fin v (by rw [hxi]; exact h1) (h2 C)
          · cases c5
        · cases c4
      · cases hb'
  · cases hc

theorem ok_bins {op : BinOp} {ks : List Nat} {x y : AX} (sim : SimE D nt s.env C a) (hH : C.H = s.heap) (hr : HRep C) (hc : chkIns P o (.bins op ks x y) = true) (h : ains (.bins op ks x y) s = some (av, s')) :
    OpRes C (s.p ++ [s.k]) ((execOp a.eval o).run P C.w) av s'.heap := by
  simp only [ains] at h
  simp only [chkIns] at hc
  split at hc
  · rename_i op' t x' y' yt eo
    simp only [Bool.and_eq_true, decide_eq_true_eq] at hc
    obtain ⟨⟨⟨rfl, c1⟩, c2⟩, c3⟩ := hc
    have hx := rep_opd sim c1
    have hy := rep_opd sim c2
    cases hb : abins op' ks (x.ev s.env) (y.ev s.env) with
    | none => rw [hb] at h; simp at h
    | some r =>
      rw [hb] at h
      simp only [Option.map_some, Option.some.injEq, Prod.mk.injEq] at h
      obtain ⟨rfl, rfl⟩ := h
      unfold abins at hb
      split at hb
      · rename_i as bs e1 e2
        rw [e1] at hx
        rw [e2] at hy
        obtain ⟨xs, hx1, hx2, _⟩ := hx.agg_inv
        obtain ⟨ys, hy1, hy2, _⟩ := hy.agg_inv
        split at c3
        · rename_i fs hu
          simp only [Bool.and_eq_true, Bool.not_eq_true'] at c3
          obtain ⟨⟨c4, c5⟩, c6⟩ := c3
          have hfo : P.fieldsOf t = fs := by simp [Program.fieldsOf, hu]
          have hrun : ∀ r0 : Bool, acells ks as bs = some r0 → (Op.equalIn 10000 t (.agg xs.toArray) (.agg ys.toArray)).run P C.w = .ok r0 C.w := by
            intro r0 h0
            have := run_equalIn_struct (P := P) C.w 9999 t xs.toArray ys.toArray (by rw [hfo]; exact hu) c5
            rw [this, hfo]
            exact run_fields (d := 9998) fs.toList 0 ks as bs r0 c6 (by simpa using hx2) (by simpa using hy2) h0
          have hg := run_eqGuard_agg (P := P) C.w op' t x' y' xs.toArray ys.toArray c4
          split at hb
          · cases hac : acells ks as bs with
            | none => rw [hac] at hb; cases hb
            | some r0 =>
              rw [hac] at hb
              simp only [Option.map_some, Option.some.injEq] at hb
              subst hb
              refine .pure hr (v := .bool r0) ?_ (.bool _) hH
              simp only [execOp, eo, Sem.run_bind, hx1, hy1, hg, Result.andThen_ok, run_eql_struct, hrun r0 hac]
              rfl
          · cases hac : acells ks as bs with
            | none => rw [hac] at hb; cases hb
            | some r0 =>
              rw [hac] at hb
              simp only [Option.map_some, Option.some.injEq] at hb
              subst hb
              refine .pure hr (v := .bool (!r0)) ?_ (.bool _) hH
              simp only [execOp, eo, Sem.run_bind, hx1, hy1, hg, Result.andThen_ok, run_neq_struct, hrun r0 hac]
              rfl
          · cases hb
        · cases c3
      · cases hb
  · cases hc

end
end Go.Proofs.Abs

namespace Go.Proofs.Abs
open Go
variable [Globs] {D : List Deferred}

section
variable {P : Program} {o : Oper} {a : Act} {C : Ctx} {nt : Nat} {s s' : St} {av : AV}

theorem call_args {o : Oper} {b : Builtin} {args : Array Operand} {ats : Array TypeId} (eo : o.op = .call { callee := .builtin b, args := args, argTypes := ats }) (w : World) :
    (execOp a.eval o).run P w = (builtin b ats o.type (args.map fun | .const _ => true | _ => false) (args.map a.eval)).run P w := by
  simp only [execOp, eo, resolve]
  simp [invoke]
  rfl

theorem Rep.nils_inv {u : Value} (h : Rep C .nils u) : u = .slice none 0 0 := by cases h; rfl

theorem own_len {id : Id} {n : Nat} {wr fl : Bool} {e sz : Nat} {rows : List (List AV)} {u : Value} (hr : HRep C) (ho : hget C.H id = some (.row wr fl e sz rows)) (hn : rows.length = n) (hv : Rep C (.own id n) u) : ∃ base cap, u = .slice base n cap := by
  have h0 := (hr.obj id _ ho).1
  have := rowsOf_rep (sz := sz) (rows := rows) hr (by simp only [rowsOf, ho, hn, and_self, if_true]) hv h0
  obtain ⟨base, cap, h1, _⟩ := this
  exact ⟨base, cap, by rw [← hn]; exact h1⟩

theorem ok_len {ty : Nat} {x : AX} (sim : SimE D nt s.env C a) (hH : C.H = s.heap) (hr : HRep C) (hc : chkIns P o (.len ty x) = true) (h : ains (.len ty x) s = some (av, s')) :
    OpRes C (s.p ++ [s.k]) ((execOp a.eval o).run P C.w) av s'.heap := by
  simp only [ains] at h
  simp only [chkIns] at hc
  split at hc
  · rename_i args ats eo
    split at hc
    · rename_i x' t eargs eats
      simp only [Bool.and_eq_true] at hc
      obtain ⟨c1, c2⟩ := hc
      have hv := rep_opd sim c1
      have ea : args = #[x'] := by apply Array.ext'; simpa using eargs
      have et : ats = #[t] := by apply Array.ext'; simpa using eats
      subst ea; subst et
      have fin : ∀ (v : Value) (av : AV), (Builtin.len_ #[t] o.type #[a.eval x']).run P C.w = .ok v C.w → Rep C av v → OpRes C (s.p ++ [s.k]) ((execOp a.eval o).run P C.w) av s.heap := by
        intro v av h1 h2
        refine .pure hr (v := v) ?_ h2 hH
        rw [call_args eo]
        simp [builtin, h1]
      split at h
      · rename_i b e
        simp only [Option.some.injEq, Prod.mk.injEq] at h
        obtain ⟨rfl, rfl⟩ := h
        rw [e] at hv
        simp only at c2
        split at c2
        · rename_i hu
          exact fin _ _ (by simp only [hv.str_inv]; simp [Builtin.len_, run_underlying hu]; rfl) (.int _ _)
        · cases c2
      · rename_i sz rows e
        simp only [Option.some.injEq, Prod.mk.injEq] at h
        obtain ⟨rfl, rfl⟩ := h
        rw [e] at hv
        simp only at c2
        split at c2
        · rename_i el hu
          obtain ⟨base, cap, hx⟩ := hv.list_inv
          exact fin _ _ (by rw [hx]; simp [Builtin.len_, run_underlying hu]; rfl) (.int _ _)
        · cases c2
      · rename_i e
        simp only [Option.some.injEq, Prod.mk.injEq] at h
        obtain ⟨rfl, rfl⟩ := h
        rw [e] at hv
        simp only at c2
        split at c2
        · rename_i el hu
          have hx : a.eval x' = .slice none 0 0 := hv.nils_inv
          exact fin _ _ (by rw [hx]; simp [Builtin.len_, run_underlying hu]; rfl) (.int _ _)
        · cases c2
      · rename_i e
        simp only [Option.some.injEq, Prod.mk.injEq] at h
        obtain ⟨rfl, rfl⟩ := h
        rw [e] at hv
        simp only at c2
        split at c2
        · rename_i el hu
          obtain ⟨ad, cap, hx⟩ : ∃ ad cap, a.eval x' = .slice (some ad) 0 cap := by
            generalize a.eval x' = xv at hv
            cases hv
            exact ⟨_, _, rfl⟩
          exact fin _ _ (by rw [hx]; simp [Builtin.len_, run_underlying hu]; rfl) (.int _ _)
        · cases c2
      · rename_i id n e
        rw [e] at hv
        split at h
        · rename_i wr fl el sz rows ho
          rw [← hH] at ho
          split at h
          · rename_i hn
            simp only [Option.some.injEq, Prod.mk.injEq] at h
            obtain ⟨rfl, rfl⟩ := h
            simp only at c2
            split at c2
            · rename_i el hu
              obtain ⟨base, cap, hx⟩ := own_len hr ho hn hv
              exact fin _ _ (by rw [hx]; simp [Builtin.len_, run_underlying hu]; rfl) (.int _ _)
            · cases c2
          · cases h
        · cases h
      · rename_i id e
        rw [e] at hv
        split at h
        · rename_i es ho
          rw [← hH] at ho
          simp only [Option.some.injEq, Prod.mk.injEq] at h
          obtain ⟨rfl, rfl⟩ := h
          simp only at c2
          split at c2
          · rename_i kt el hu
            obtain ⟨g, ents, clock, h1, h2, h3, h4⟩ := hr.obj id _ ho
            generalize hxv : a.eval x' = xv at hv
            cases hv with
            | map _ _ ha hs hoo =>
              have hx := hoo _ ho rfl
              rw [h1] at hx
              have hlen : ents.size = es.length := by have := h3.1; simp at this; exact this.symm
              exact fin _ _ (by rw [hxv, hx]; simp [Builtin.len_, run_underlying hu, getObj, Sem.run, h2, hlen]; rfl) (.int _ _)
          · cases c2
        · cases h
      · cases h
    · cases hc
  · cases hc

theorem run_fold {mx : Bool} {w : World} : ∀ (r : List AV) (us : List Value) (k : IntKind) (x : Int) (av : AV), RepL C r us → foldMin mx k x r = some av →
    ∃ v, (us.foldlM (if mx then Builtin.max2 else Builtin.min2) (.int k x)).run P w = .ok v w ∧ Rep C av v
  | [], us, k, x, av, hl, h => by
    have : us = [] := List.eq_nil_of_length_eq_zero hl.1.symm
    subst this
    simp only [foldMin, Option.some.injEq] at h
    subst h
    exact ⟨_, by simp, .int _ _⟩
  | y :: r, us, k, x, av, hl, h => by
    cases us with
    | nil => have := hl.1; simp at this
    | cons u us =>
      have h0 := hl.2 0 _ _ rfl rfl
      have ht : RepL C r us := ⟨by have := hl.1; simpa using this, fun j av v e e' => hl.2 (j + 1) av v (by simpa using e) (by simpa using e')⟩
      unfold foldMin at h
      split at h
      · cases ‹y :: r = []›
      · rename_i k' b r' e
        injection e with e1 e2
        subst e1; subst e2
        split at h
        · rename_i hk
          subst hk
          obtain ⟨v, h1, h2⟩ := run_fold _ _ _ _ _ ht h
          refine ⟨v, ?_, h2⟩
          rw [h0.int_inv]
          cases mx with
          | true =>
            simp only [if_true] at h1 ⊢
            simp only [List.foldlM_cons, Sem.run_bind, Builtin.max2, Sem.run_pure, Result.andThen_ok]
            exact h1
          | false =>
            simp only [Bool.false_eq_true, if_false] at h1 ⊢
            simp only [List.foldlM_cons, Sem.run_bind, Builtin.min2, Sem.run_pure, Result.andThen_ok]
            exact h1
        · cases h
      · cases h

theorem ok_mm {mx : Bool} {xs : List AX} (sim : SimE D nt s.env C a) (hH : C.H = s.heap) (hr : HRep C) (hc : chkIns P o (.mm mx xs) = true) (h : ains (.mm mx xs) s = some (av, s')) :
    OpRes C (s.p ++ [s.k]) ((execOp a.eval o).run P C.w) av s'.heap := by
  simp only [ains] at h
  simp only [chkIns] at hc
  split at hc
  · rename_i b args ats eo
    simp only [Bool.and_eq_true] at hc
    obtain ⟨c1, c2⟩ := hc
    have hl := opds_rep sim c2
    split at h
    · rename_i k x r e
      cases hf : foldMin mx k x r with
      | none => rw [hf] at h; simp at h
      | some av' =>
        rw [hf] at h
        simp only [Option.map_some, Option.some.injEq, Prod.mk.injEq] at h
        obtain ⟨rfl, rfl⟩ := h
        rw [e] at hl
        cases hus : args.toList.map a.eval with
        | nil => rw [hus] at hl; have := hl.1; simp at this
        | cons u us =>
          rw [hus] at hl
          have h0 := hl.2 0 _ _ rfl rfl
          have ht : RepL C r us := ⟨by have := hl.1; simpa using this, fun j av v e e' => hl.2 (j + 1) av v (by simpa using e) (by simpa using e')⟩
          obtain ⟨v, h1, h2⟩ := run_fold (P := P) (w := C.w) r us k x av' ht hf
          have hargs : (args.map a.eval).toList = .int k x :: us := by rw [Array.toList_map, hus, h0.int_inv]
          refine .pure hr (v := v) ?_ h2 hH
          rw [call_args eo]
          cases b <;> simp only [reduceCtorEq, Bool.false_eq_true] at c1
          · subst c1
            simp only [builtin, Sem.run_bind, Builtin.max_, hargs]
            simp only [if_true] at h1
            rw [h1]; rfl
          · have : mx = false := by simpa using c1
            subst this
            simp only [builtin, Sem.run_bind, Builtin.min_, hargs]
            simp only [Bool.false_eq_true, if_false] at h1
            rw [h1]; rfl
    · cases h
  · cases hc

theorem fill_step {place : Nat → Option (Nat × Nat)} {i off sz : Nat} {v : Value} {cells : Array Value} {rest : List (Nat × Value)} (hp : place i = some (off, sz)) (hs : v.cells.size = sz) (hle : off + sz ≤ cells.size) :
    ∃ cells', Instr.fill place cells ((i, v) :: rest) = Instr.fill place cells' rest ∧ cells'.toList = cells.toList.take off ++ v.cells.toList ++ cells.toList.drop (off + sz) := by
  have hno : ¬ (v.cells.size ≠ sz ∨ off + v.cells.size > cells.size) := by omega
  refine ⟨_, by simp only [Instr.fill, hp]; rw [if_neg (by simpa using hno)], ?_⟩
  obtain ⟨h1, h2⟩ := Great.foldl_set off v.cells.toList 0 cells
  have ez : v.cells.zipIdx.foldl (fun cs (x : Value × Nat) => cs.setIfInBounds (off + x.2) x.1) cells = (v.cells.toList.zipIdx 0).foldl (fun cs (x : Value × Nat) => cs.setIfInBounds (off + x.2) x.1) cells := by
    rw [← Array.foldl_toList, Array.toList_zipIdx]
  have goal : (v.cells.zipIdx.foldl (fun cs (x : Value × Nat) => cs.setIfInBounds (off + x.2) x.1) cells).toList = cells.toList.take off ++ v.cells.toList ++ cells.toList.drop (off + sz) := by
    rw [ez]
    apply List.ext_getElem?
    intro j
    rw [Array.getElem?_toList, h2 j]
    simp only [Nat.add_zero, Array.length_toList, List.append_assoc]
    by_cases hj : j < off
    · rw [if_neg (by omega), List.getElem?_append_left (by simp; omega), List.getElem?_take, if_pos hj, Array.getElem?_toList]
    · rw [List.getElem?_append_right (by simp; omega)]
      simp only [List.length_take, Array.length_toList]
      have hm : min off cells.size = off := by omega
      rw [hm]
      by_cases hj2 : j < off + sz
      · rw [if_pos ⟨by omega, by omega, by omega⟩, List.getElem?_append_left (by simp; omega)]
      · rw [if_neg (by omega), List.getElem?_append_right (by simp; omega), List.getElem?_drop, Array.getElem?_toList]
        congr 1
        simp
        omega
  exact goal

theorem fill_afill {place : Nat → Option (Nat × Nat)} (sim : SimE D nt s.env C a) : ∀ (ps : List (Nat × Operand)) (parts : List (Nat × Nat × AX)) (l : List (Nat × Nat × List AV)) (zs : List AV) (cells : Array Value) (out : List AV),
    partsOK place ps parts = true → partsOfA s.env parts = some l → RepL C zs cells.toList → Cells zs → afill zs l = some out →
    ∃ cells', Instr.fill place cells (ps.map fun x => (x.1, a.eval x.2)) = some cells' ∧ RepL C out cells'.toList ∧ Cells out
  | [], parts, l, zs, cells, out, h1, h2, h3, h4, h5 => by
    cases parts with
    | cons p ps => simp [partsOK] at h1
    | nil =>
      simp only [partsOfA, Option.some.injEq] at h2
      subst h2
      simp only [afill, Option.some.injEq] at h5
      subst h5
      exact ⟨cells, rfl, h3, h4⟩
  | (i, x) :: ps, parts, l, zs, cells, out, h1, h2, h3, h4, h5 => by
    cases parts with
    | nil => simp [partsOK] at h1
    | cons p parts =>
      obtain ⟨off, sz, y⟩ := p
      simp only [partsOK, Bool.and_eq_true, decide_eq_true_eq] at h1
      obtain ⟨⟨p1, p2⟩, p3⟩ := h1
      simp only [partsOfA] at h2
      split at h2
      · rename_i cs l' ecs el
        injection h2 with h2
        subst h2
        simp only [afill] at h5
        split at h5
        · rename_i hcond
          obtain ⟨q1, q2⟩ := hcond
          obtain ⟨r1, r2⟩ := cellsOf_rep (rep_opd sim p2) ecs
          have hsz : (a.eval x).cells.size = sz := by have := r1.1; simp at this; omega
          have hzl : zs.length = cells.size := by have := h3.1; simpa using this
          obtain ⟨cells', e1, e2⟩ := fill_step (place := place) (v := a.eval x) (cells := cells) (rest := ps.map fun x => (x.1, a.eval x.2)) p1 hsz (by omega)
          have h3' : RepL C (zs.take off ++ cs ++ zs.drop (off + sz)) cells'.toList := by
            rw [e2]
            exact ((h3.take off).app r1).app (h3.drop (off + sz))
          have h4' : Cells (zs.take off ++ cs ++ zs.drop (off + sz)) := ((h4.take off).app r2).app (h4.drop (off + sz))
          obtain ⟨c2, f1, f2, f3⟩ := fill_afill sim ps parts l' _ cells' out p3 el h3' h4' h5
          exact ⟨c2, by rw [List.map_cons, e1, f1], f2, f3⟩
        · cases h5
      · cases h2

theorem ok_agg {zero : List AV} {parts : List (Nat × Nat × AX)} (sim : SimE D nt s.env C a) (hH : C.H = s.heap) (hr : HRep C) (hc : chkIns P o (.agg zero parts) = true) (h : ains (.agg zero parts) s = some (av, s')) :
    OpRes C (s.p ++ [s.k]) ((execOp a.eval o).run P C.w) av s'.heap := by
  simp only [ains] at h
  simp only [chkIns] at hc
  split at hc
  · rename_i t ps eo
    simp only [Bool.and_eq_true] at hc
    obtain ⟨c1, c2⟩ := hc
    split at c2
    · rename_i pl epl
      obtain ⟨ti, z, h1, h2, h3⟩ := zeroIs_iff c1
      obtain ⟨z1, z2⟩ := rep_constCells C h3
      split at h
      · rename_i l el
        cases haf : afill zero l with
        | none => rw [haf] at h; simp at h
        | some out =>
          rw [haf] at h
          simp only [Option.map_some, Option.some.injEq, Prod.mk.injEq] at h
          obtain ⟨rfl, rfl⟩ := h
          obtain ⟨cells', f1, f2, f3⟩ := fill_afill sim ps.toList parts l zero z.cells out c2 el z1 z2 haf
          have hb : P.built t (ps.map fun (i, x) => (i, a.eval x)).toList = some cells' := by
            unfold Program.built
            unfold placesOf at epl
            rw [h1]
            have em : (ps.map fun (i, x) => (i, a.eval x)).toList = ps.toList.map fun x => (x.1, a.eval x.2) := by simp
            rw [em]
            split at epl
            · rename_i n e hu
              split at epl
              · rename_i ie hie
                injection epl with epl
                subst epl
                simp only [hu, h2, hie]
                exact f1
              · cases epl
            · rename_i fields hu
              split at epl
              · rename_i places hpl
                injection epl with epl
                subst epl
                simp only [hu, h2, hpl]
                have : (fun i : Nat => places.toArray[i]?) = fun i => places[i]? := by funext i; simp
                rw [this]
                exact f1
              · cases epl
            · cases epl
          refine .pure hr (v := .agg cells') ?_ ?_ hH
          · simp only [execOp, eo, Sem.run_bind, run_build C.w t _ cells' hb]
            rfl
          · have := Rep.agg (C := C) out cells'.toList f2.1 f3 f2.2
            simpa using this
      · cases h
    · cases c2
  · cases hc

end
end Go.Proofs.Abs

namespace Go.Proofs.Abs
open Go
variable [Globs] {D : List Deferred}

theorem flat_seg {sz : Nat} {cs : List AV} {j : Nat} (hj : j + cs.length ≤ sz) : ∀ {rows : List (List AV)} {i : Nat} {old : List AV}, (∀ r ∈ rows, r.length = sz) → rows[i]? = some old →
    (rows.set i (old.take j ++ cs ++ old.drop (j + cs.length))).flatten = rows.flatten.take (i * sz + j) ++ cs ++ rows.flatten.drop (i * sz + j + cs.length)
  | [], i, old, _, h => by simp at h
  | r0 :: rest, 0, old, hr, h => by
    simp only [List.getElem?_cons_zero, Option.some.injEq] at h
    subst h
    have h0 := hr r0 (by simp)
    simp only [List.set_cons_zero, List.flatten_cons, Nat.zero_mul, Nat.zero_add]
    rw [List.take_append_of_le_length (by omega), List.drop_append_of_le_length (by omega)]
    simp
  | r0 :: rest, i + 1, old, hr, h => by
    simp only [List.getElem?_cons_succ] at h
    have h0 := hr r0 (by simp)
    have ih := flat_seg hj (fun r hr' => hr r (by simp [hr'])) h
    simp only [List.set_cons_succ, List.flatten_cons, ih]
    have e1 : (i + 1) * sz + j = r0.length + (i * sz + j) := by rw [h0, Nat.succ_mul]; omega
    rw [e1, List.take_length_add_append, Nat.add_assoc r0.length, List.drop_length_add_append]
    simp

theorem set_len {sz : Nat} {rows : List (List AV)} {i : Nat} {c : List AV} (hr : ∀ r ∈ rows, r.length = sz) (hc : c.length = sz) : ∀ r ∈ rows.set i c, r.length = sz := by
  intro r h
  rcases List.mem_or_eq_of_mem_set h with h | rfl
  · exact hr r h
  · exact hc

section
variable {P : Program} {o : Oper} {a : Act} {C : Ctx} {nt : Nat} {s s' : St} {av : AV}

inductive PL (C : Ctx) (a : Act) : List (Nat × Operand) → List (Nat × List AV) → Prop
  | nil : PL C a [] []
  | cons {i : Nat} {x : Operand} {cs : List AV} {ps : List (Nat × Operand)} {l : List (Nat × List AV)} (h1 : RepL C cs (a.eval x).cells.toList) (h2 : Cells cs) (h3 : PL C a ps l) : PL C a ((i, x) :: ps) ((i, cs) :: l)

theorem PL.mono {C C' : Ctx} (h : ∀ av v, Rep C av v → Rep C' av v) {ps : List (Nat × Operand)} {l : List (Nat × List AV)} (hp : PL C a ps l) : PL C' a ps l := by
  induction hp with
  | nil => exact .nil
  | cons h1 h2 h3 ih => exact .cons (h1.mono h) h2 ih

theorem partsOf_ok {raw : Bool} {env : Env} : ∀ (ps : List (Nat × Operand)) (parts : List (Nat × AX)) (C : Ctx) (l : List (Nat × List AV)) (H : Heap), partsOKl ps parts = true → partsOf env C.H raw parts = some (l, H) → SimE D nt env C a → HRep C →
    FlagLe C.H H ∧ PL { C with H := H } a ps l
  | [], parts, C, l, H, h1, h2, sim, hr => by
    cases parts with
    | cons p ps => simp [partsOKl] at h1
    | nil =>
      simp only [partsOf, Option.some.injEq, Prod.mk.injEq] at h2
      obtain ⟨rfl, rfl⟩ := h2
      exact ⟨.refl _, .nil⟩
  | (i, x) :: ps, parts, C, l, H, h1, h2, sim, hr => by
    cases parts with
    | nil => simp [partsOKl] at h1
    | cons p parts =>
      obtain ⟨j, y⟩ := p
      simp only [partsOKl, Bool.and_eq_true, beq_iff_eq] at h1
      obtain ⟨⟨rfl, p2⟩, p3⟩ := h1
      have hx := rep_opd sim p2
      simp only [partsOf] at h2
      have key : ∀ v H1, FlagLe C.H H1 → Rep { C with H := H1 } v (a.eval x) → (match cellsOf v, partsOf env H1 raw parts with
          | some cs, some (l, H2) => some ((i, cs) :: l, H2)
          | _, _ => none) = some (l, H) → FlagLe C.H H ∧ PL { C with H := H } a ((i, x) :: ps) l := by
        intro v H1 hf hv h
        split at h
        · rename_i cs l' H2 ecs ep
          simp only [Option.some.injEq, Prod.mk.injEq] at h
          obtain ⟨rfl, rfl⟩ := h
          obtain ⟨r1, r2⟩ := cellsOf_rep hv ecs
          obtain ⟨g1, g2⟩ := partsOf_ok ps parts { C with H := H1 } l' H2 p3 ep (sim.ext hf.ext) (hf.hrep hr)
          exact ⟨hf.trans g1, .cons (r1.mono fun _ _ r => r.ext (C := { C with H := H1 }) (C' := { C with H := H2 }) g1.ext) r2 g2⟩
        · cases h
      cases raw with
      | true =>
        simp only [if_true] at h2
        exact key _ _ (.refl _) hx h2
      | false =>
        simp only [Bool.false_eq_true, if_false] at h2
        cases hz : fz C.H (y.ev env) with
        | none => rw [hz] at h2; cases h2
        | some q =>
          obtain ⟨v, H1⟩ := q
          rw [hz] at h2
          obtain ⟨f1, _, f3⟩ := fzd_ok 4 _ _ _ _ hz
          exact key v H1 f1 (f3 C _ rfl hr hx) h2

theorem fill_rows {sz : Nat} : ∀ (ps : List (Nat × Operand)) (l : List (Nat × List AV)) (rows out : List (List AV)) (cells : Array Value), PL C a ps l → (∀ r ∈ rows, r.length = sz) → RepL C rows.flatten cells.toList → Cells rows.flatten → setRows rows l = some out →
    ∃ cells', Instr.fill (fun i => some (i * sz, sz)) cells (ps.map fun x => (x.1, a.eval x.2)) = some cells' ∧ RepL C out.flatten cells'.toList ∧ Cells out.flatten ∧ (∀ r ∈ out, r.length = sz) ∧ out.length = rows.length
  | [], l, rows, out, cells, hp, h1, h2, h3, h4 => by
    cases hp
    simp only [setRows, Option.some.injEq] at h4
    subst h4
    exact ⟨cells, rfl, h2, h3, h1, rfl⟩
  | (i, x) :: ps, l, rows, out, cells, hp, h1, h2, h3, h4 => by
    cases hp with
    | cons r1 r2 r3 =>
      rename_i cs l
      simp only [setRows] at h4
      split at h4
      · rename_i old eold
        split at h4
        · rename_i hlen
          have hol := h1 old (List.mem_of_getElem? eold)
          have hil := (List.getElem?_eq_some_iff.1 eold).1
          have hsz : (a.eval x).cells.size = sz := by have := r1.1; simp at this; omega
          have hfl : rows.flatten.length = cells.size := by have := h2.1; simpa using this
          have hfl2 : rows.flatten.length = rows.length * sz := flat_len h1
          have hle : i * sz + sz ≤ cells.size := by
            rw [← hfl, hfl2, ← Nat.succ_mul]
            exact Nat.mul_le_mul_right _ hil
          obtain ⟨cells', e1, e2⟩ := fill_step (place := fun i => some (i * sz, sz)) (i := i) (v := a.eval x) (cells := cells) (rest := ps.map fun x => (x.1, a.eval x.2)) rfl hsz hle
          have hcl : cs.length = sz := by omega
          have hset : rows.set i cs = rows.set i (old.take 0 ++ cs ++ old.drop (0 + cs.length)) := by
            have : old.drop (0 + cs.length) = [] := by rw [List.drop_eq_nil_iff]; omega
            rw [this]; simp
          have hflat : (rows.set i cs).flatten = rows.flatten.take (i * sz) ++ cs ++ rows.flatten.drop (i * sz + sz) := by
            rw [hset, flat_seg (sz := sz) (by omega) h1 eold]
            simp [hcl]
          obtain ⟨c2, f1, f2, f3, f4, f5⟩ := fill_rows ps l (rows.set i cs) out cells' r3 (set_len h1 hcl) (by rw [hflat, e2]; exact ((h2.take _).app r1).app (h2.drop _)) (by rw [hflat]; exact ((h3.take _).app r2).app (h3.drop _)) h4
          exact ⟨c2, by rw [List.map_cons, e1, f1], f2, f3, f4, by rw [f5]; simp⟩
        · cases h4
      · cases h4

theorem const_zero {vs : List Value} {xs : List AV} (h : constCells vs xs = true) : vs.length = xs.length := by
  have : RepL ⟨[], fun _ => undef, default, fun _ => False, fun _ _ => False⟩ xs vs := (rep_constCells _ h).1
  exact this.1.symm

theorem zero_rep (C : Ctx) {z : Array Value} {zero : List AV} (h : constCells z.toList zero = true) (n : Nat) (hz : 0 < zero.length) :
    RepL C (List.replicate n zero).flatten ((Array.range (n * zero.length)).map (z[· % z.size]!)).toList ∧ Cells (List.replicate n zero).flatten := by
  obtain ⟨h1, h2⟩ := rep_constCells C h
  have hl : z.size = zero.length := by have := h1.1; simp at this; omega
  have hrow : ∀ r ∈ List.replicate n zero, r.length = zero.length := fun r hr => by rw [(List.mem_replicate.1 hr).2]
  have hfl : (List.replicate n zero).flatten.length = n * zero.length := by rw [flat_len hrow]; simp
  have hget : ∀ j, j < n * zero.length → (List.replicate n zero).flatten[j]? = zero[j % zero.length]? := by
    intro j hj
    have hd : j / zero.length < n := Nat.div_lt_of_lt_mul (by rw [Nat.mul_comm]; exact hj)
    have ej : j = (j / zero.length) * zero.length + j % zero.length := by rw [Nat.mul_comm]; exact (Nat.div_add_mod j _).symm
    have := rows_flat hrow (i := j / zero.length) (row := zero) (by simp [hd]) (j % zero.length) (Nat.mod_lt _ hz)
    rw [← ej] at this
    exact this
  refine ⟨⟨by rw [hfl]; simp, fun j av v e1 e2 => ?_⟩, fun j av e1 => ?_⟩
  · have hj : j < n * zero.length := by have := (List.getElem?_eq_some_iff.1 e1).1; rw [hfl] at this; exact this
    rw [hget j hj] at e1
    have hm : j % z.size < z.size := Nat.mod_lt _ (by omega)
    rw [Array.getElem?_toList] at e2
    simp only [Array.getElem?_map, Array.getElem?_range, hj, if_true, Option.map_some, Option.some.injEq] at e2
    rw [getElem!_pos z _ hm] at e2
    refine h1.2 (j % zero.length) av v e1 ?_
    rw [Array.getElem?_toList, ← hl, Array.getElem?_eq_getElem hm, e2]
  · have hj : j < n * zero.length := by have := (List.getElem?_eq_some_iff.1 e1).1; rw [hfl] at this; exact this
    rw [hget j hj] at e1
    exact h2 _ _ e1

theorem alloc_ext (hr : HRep C) (ob : Obj) : Ext C { C with w := C.w.alloc ob } :=
  ⟨by simp [alloc_heap], rfl, rfl, rfl, fun k hk _ => alloc_old _ _ _ hk, fun k off hk _ => World.cell?_of_block (alloc_old _ _ _ hk), fun _ _ _ h => h, fun _ _ h => h, fun _ h => h, rfl, fun _ o' _ h => ⟨o', h, rfl, Nat.le_refl _, fun _ => rfl⟩⟩
theorem alloc_hrep (hr : HRep C) (ob : Obj) : HRep { C with w := C.w.alloc ob } :=
  ⟨hr.nd, hr.av, fun id o e => (hr.obj id o e).step rfl (fun g hg => alloc_old _ _ _ (obj_lt (hr.obj id o e) hg)) (fun _ _ r => r.ext (alloc_ext hr ob)), hr.inj, hr.own, fun g off hm => Nat.lt_of_lt_of_le (hr.xlt g off hm) (by simp [alloc_heap]), hr.glob.ext (alloc_ext hr ob)⟩
theorem ok_lst {e sz : Nat} {zero : List AV} {n : Nat} {parts : List (Nat × AX)} (sim : SimE D nt s.env C a) (hH : C.H = s.heap) (hr : HRep C)
    (hc : chkIns P o (.lst e sz zero n parts) = true) (h : ains (.lst e sz zero n parts) s = some (av, s')) : OpRes C (s.p ++ [s.k]) ((execOp a.eval o).run P C.w) av s'.heap := by
  simp only [ains] at h
  simp only [chkIns] at hc
  split at hc
  · rename_i t len ps eo
    simp only [Bool.and_eq_true, decide_eq_true_eq, beq_iff_eq] at hc
    obtain ⟨⟨⟨⟨⟨⟨⟨c1, c2⟩, c3⟩, c4⟩, rfl⟩, c6⟩, c8⟩, c7⟩ := hc
    have hu := sliceIs_iff c1
    obtain ⟨ie, hie, hsz⟩ := sizeIs_iff c2
    obtain ⟨ie', z, hie', hz, hzc⟩ := zeroIs_iff c3
    rw [hie] at hie'; injection hie' with hie'; subst hie'
    split at h
    · rename_i l H epo
      split at h
      · rename_i rows erows
        split at h
        · cases h
        rename_i hlen
        simp only [Option.some.injEq, Prod.mk.injEq] at h
        obtain ⟨rfl, rfl⟩ := h
        have hHe : H = C.H := by
          rw [← hH] at epo
          have : ∀ (pp : List (Nat × AX)) l0 H0, partsOf s.env C.H true pp = some (l0, H0) → H0 = C.H := by
            intro pp
            induction pp with
            | nil => intro l0 H0 h; simp only [partsOf, Option.some.injEq, Prod.mk.injEq] at h; exact h.2.symm
            | cons p pp ih =>
              obtain ⟨i, x⟩ := p
              intro l0 H0 h
              simp only [partsOf, if_true] at h
              split at h
              · rename_i cs l1 H1 e1 e2
                simp only [Option.some.injEq, Prod.mk.injEq] at h
                rw [← h.2]
                exact ih _ _ e2
              · cases h
          exact this _ _ _ epo
        subst hHe
        rw [← hH] at epo
        obtain ⟨f1, f2⟩ := partsOf_ok ps.toList parts C l C.H c7 epo sim hr
        have em : (ps.map fun (i, x) => (i, a.eval x)).toList = ps.toList.map fun x => (x.1, a.eval x.2) := by simp
        have hpos : ¬ len * ie.size = 0 := by
          rw [hsz]
          intro h0
          rcases Nat.mul_eq_zero.1 h0 with h0 | h0
          · exact hlen h0
          · omega
        obtain ⟨z1, z2⟩ := zero_rep C hzc len (by omega)
        rw [c8] at z1
        have hrow0 : ∀ r ∈ List.replicate len zero, r.length = sz := fun r hr => by rw [(List.mem_replicate.1 hr).2]; exact c8
        obtain ⟨cells', g1, g2, g3, g4, g5⟩ := fill_rows (C := C) ps.toList l _ rows _ f2 hrow0 z1 z2 erows
        have hlr : rows.length = len := by rw [g5]; simp
        have hcs : cells'.size = len * sz := by have := g2.1; rw [flat_len g4, hlr] at this; simpa using this.symm
        have hrun : (execOp a.eval o).run P C.w = .ok (.value (.slice (some ⟨C.w.heap.size, 0, none⟩) len len)) (C.w.alloc (.cells cells' e)) := by
          have := run_buildSlice (P := P) C.w t e len (ps.map fun (i, x) => (i, a.eval x)) cells' ie z hu hie hz (by rw [hsz]; omega) hpos (by rw [em, hsz]; exact g1)
          simp only [execOp, eo, Sem.run_bind, this]
          rfl
        have hx := alloc_ext hr (.cells cells' e)
        refine ⟨{ C with w := C.w.alloc (.cells cells' e) }, _, hrun, .inl ⟨_, rfl, ?_⟩, hH, alloc_hrep hr _, hx, fun id h _ => h⟩
        rw [← hlr]
        refine .list sz rows (some ⟨C.w.heap.size, 0, none⟩) rows.length (fun j => cells'[j]!) c4 (Nat.le_refl _) (by simp) g4 (fun _ => ⟨_, rfl, rfl⟩) (fun j av hj => ⟨g3 j av hj, fun ad ead => ?_⟩) (fun j av hj => ?_)
        · injection ead with ead
          subst ead
          have hjl : j < cells'.size := by
            have h1 := (List.getElem?_eq_some_iff.1 hj).1
            rw [g2.1] at h1
            simpa using h1
          refine ⟨?_, fun hm => ?_⟩
          · simp only [World.cell?, alloc_new, Nat.zero_add]
            rw [getElem!_pos cells' j hjl]
            simp
          · rcases hm with hm | ⟨id, ob, e1, e2, _⟩
            · exact absurd (hr.xlt _ _ hm) (Nat.lt_irrefl _)
            · exact absurd (obj_lt (hr.obj id ob e1) e2) (Nat.lt_irrefl _)
        · have hjl : j < cells'.size := by
            have h1 := (List.getElem?_eq_some_iff.1 hj).1
            rw [g2.1] at h1
            simpa using h1
          have := g2.2 j av cells'[j]! hj (by rw [getElem!_pos cells' j hjl]; simp)
          exact this.ext hx
      · cases h
    · cases h
  · cases hc
theorem ok_mkl {e sz : Nat} {zero : List AV} {n : Nat} {parts : List (Nat × AX)} {raw : Bool} (sim : SimE D nt s.env C a) (hH : C.H = s.heap) (hr : HRep C) (hq : ∀ id, (s.p ++ [s.k]) <+: id → C.Av id)
    (hc : chkIns P o (.mkl e sz zero n parts raw) = true) (h : ains (.mkl e sz zero n parts raw) s = some (av, s')) : OpRes C (s.p ++ [s.k]) ((execOp a.eval o).run P C.w) av s'.heap := by
  simp only [ains] at h
  simp only [chkIns] at hc
  split at hc
  · rename_i t len ps eo
    simp only [Bool.and_eq_true, decide_eq_true_eq, beq_iff_eq] at hc
    obtain ⟨⟨⟨⟨⟨⟨⟨c1, c2⟩, c3⟩, c4⟩, rfl⟩, c6⟩, c8⟩, c7⟩ := hc
    have hu := sliceIs_iff c1
    obtain ⟨ie, hie, hsz⟩ := sizeIs_iff c2
    obtain ⟨ie', z, hie', hz, hzc⟩ := zeroIs_iff c3
    rw [hie] at hie'; injection hie' with hie'; subst hie'
    split at h
    · rename_i l H epo
      split at h
      · rename_i rows erows
        simp only [Option.some.injEq, Prod.mk.injEq] at h
        obtain ⟨rfl, rfl⟩ := h
        rw [← hH] at epo
        obtain ⟨f1, f2⟩ := partsOf_ok ps.toList parts C l H c7 epo sim hr
        have em : (ps.map fun (i, x) => (i, a.eval x)).toList = ps.toList.map fun x => (x.1, a.eval x.2) := by simp
        by_cases hlen : len = 0
        · subst hlen
          have hl0 : l = [] := by
            cases l with
            | nil => rfl
            | cons p l => obtain ⟨i, cs⟩ := p; simp [setRows] at erows
          subst hl0
          simp only [List.replicate_zero, setRows, Option.some.injEq] at erows
          subst erows
          have hps : ps.toList = [] := by cases hps : ps.toList with
            | nil => rfl
            | cons p ps' => rw [hps] at f2; cases f2
          have hps' : ps = #[] := by apply Array.ext'; simpa using hps
          subst hps'
          refine .new (C := { C with H := H }) (C0 := C) (o := .row true (!raw) e sz []) (v := .slice (some ⟨C.w.heap.size, 0, none⟩) 0 0) (w := C.w.alloc (.cells #[] e)) (f1.hrep hr) hq ⟨rfl, rfl⟩ f1.ext ?_ rfl (by simp [alloc_heap]) (fun k hk => alloc_old _ _ _ hk) rfl rfl rfl (by intro g hg; simp [blk] at hg; subst hg; exact Nat.le_refl _) (fun _ => rep_own_new rfl ⟨_, _, _, rfl⟩) (fun _ => ?_)
          · have e0 : Array.range 0 = #[] := rfl
            simp [execOp, eo, Instr.buildSlice, run_underlying hu, sizeOf, typeInfo, hie, Instr.fill, newRow, e0]
          · refine ⟨c4, by simp, by intro j av; simp, [], ⟨by simp, .inr ⟨C.w.heap.size, 0, #[], by rw [put_self]; rfl, Nat.zero_le _, alloc_new _ _, Nat.le_refl _, Nat.zero_le _, by simp, by simp⟩⟩, .nil⟩
        · have hpos : ¬ len * ie.size = 0 := by
            rw [hsz]
            intro h0
            rcases Nat.mul_eq_zero.1 h0 with h0 | h0
            · exact hlen h0
            · omega
          obtain ⟨z1, z2⟩ := zero_rep { C with H := H } hzc len (by omega)
          rw [c8] at z1
          have hrow0 : ∀ r ∈ List.replicate len zero, r.length = sz := fun r hr => by rw [(List.mem_replicate.1 hr).2]; exact c8
          obtain ⟨cells', g1, g2, g3, g4, g5⟩ := fill_rows (C := { C with H := H }) ps.toList l _ rows _ f2 hrow0 z1 z2 erows
          have hlr : rows.length = len := by rw [g5]; simp
          have hcs : cells'.size = len * sz := by have := g2.1; rw [flat_len g4, hlr] at this; simpa using this.symm
          have hrun : (execOp a.eval o).run P C.w = .ok (.value (.slice (some ⟨C.w.heap.size, 0, none⟩) len len)) (C.w.alloc (.cells cells' e)) := by
            have := run_buildSlice (P := P) C.w t e len (ps.map fun (i, x) => (i, a.eval x)) cells' ie z hu hie hz (by rw [hsz]; omega) hpos (by rw [em, hsz]; exact g1)
            simp only [execOp, eo, Sem.run_bind, this]
            rfl
          refine .new (C := { C with H := H }) (C0 := C) (o := .row true (!raw) e sz rows) (v := .slice (some ⟨C.w.heap.size, 0, none⟩) len len) (w := C.w.alloc (.cells cells' e)) (f1.hrep hr) hq ⟨rfl, rfl⟩ f1.ext hrun rfl (by simp [alloc_heap]) (fun k hk => alloc_old _ _ _ hk) rfl rfl rfl (by intro g hg; simp [blk] at hg; subst hg; exact Nat.le_refl _) (fun _ => rep_own_new hlr ⟨_, _, _, rfl⟩) (fun he => ?_)
          have hlen2 : len ≤ len * sz := Nat.le_mul_of_pos_right _ c4
          refine ⟨c4, g4, g3, cells'.toList, ⟨by simp [hcs, hlr], .inr ⟨C.w.heap.size, len, cells', by rw [put_self, hlr], Nat.zero_le _, alloc_new _ _, by omega, by simp only [maxLen]; omega, hcs, ?_⟩⟩, g2.mono fun _ _ r => r.ext he⟩
          rw [hlr, ← hcs]
          exact List.take_of_length_le (by simp)
      · cases h
    · cases h
  · cases hc

theorem ok_mks {e sz bytes : Nat} {zero : List AV} {l : AX} (sim : SimE D nt s.env C a) (hH : C.H = s.heap) (hr : HRep C) (hq : ∀ id, (s.p ++ [s.k]) <+: id → C.Av id)
    (hc : chkIns P o (.mks e sz bytes zero l) = true) (h : ains (.mks e sz bytes zero l) s = some (av, s')) : OpRes C (s.p ++ [s.k]) ((execOp a.eval o).run P C.w) av s'.heap := by
  simp only [ains] at h
  simp only [chkIns] at hc
  split at hc
  · rename_i t l' c' eo
    simp only [Bool.and_eq_true, decide_eq_true_eq, beq_iff_eq] at hc
    obtain ⟨⟨⟨⟨⟨⟨⟨⟨c1, c2⟩, c3⟩, c4⟩, c5⟩, c6⟩, c7⟩, c8⟩, c9⟩ := hc
    have hu := sliceIs_iff c3
    obtain ⟨ie, hie, hsz⟩ := sizeIs_iff c4
    obtain ⟨ie', hie', hby⟩ := bytesIs_iff c5
    rw [hie] at hie'; injection hie' with hie'; subst hie'
    obtain ⟨ie', z, hie', hz, hzc⟩ := zeroIs_iff c6
    rw [hie] at hie'; injection hie' with hie'; subst hie'
    have hl := rep_opd sim c1
    have hcap := rep_opd sim c2
    split at h
    · rename_i n en
      rw [en] at hl hcap
      split at h
      · rename_i hn
        obtain ⟨h0, hb⟩ := hn
        simp only [Option.some.injEq, Prod.mk.injEq] at h
        obtain ⟨rfl, rfl⟩ := h
        have hn1 : n ≤ n * bytes := by
          have h1 : (1 : Int) ≤ bytes := by omega
          have := Int.mul_le_mul_of_nonneg_left h1 h0
          simpa using this
        have hrun := run_make (P := P) C.w t e ie z hu hie hz .i64 .i64 n n h0 (Int.le_refl _) (by rw [hby, Int.mul_comm]; omega) (by omega)
        obtain ⟨z1, z2⟩ := zero_rep (C.put (hadd C.H (s.p ++ [s.k]) (.row true true e sz (List.replicate n.toNat zero))) (s.p ++ [s.k]) (.slice (some ⟨C.w.heap.size, 0, none⟩) n.toNat n.toNat) (C.w.alloc (.cells (madeCells z.cells (n.toNat * ie.size)) e)) (less C.Av (s.p ++ [s.k]))) hzc n.toNat (by omega)
        have hrow0 : ∀ r ∈ List.replicate n.toNat zero, r.length = sz := fun r hr => by rw [(List.mem_replicate.1 hr).2]; exact c9
        refine .new (o := .row true true e sz (List.replicate n.toNat zero)) (v := .slice (some ⟨C.w.heap.size, 0, none⟩) n.toNat n.toNat) (w := C.w.alloc (.cells (madeCells z.cells (n.toNat * ie.size)) e)) hr hq ⟨rfl, rfl⟩ (Ext.refl C) ?_ (by simp [St.add, hH]) (by simp [alloc_heap]) (fun k hk => alloc_old _ _ _ hk) rfl rfl rfl (by intro g hg; simp [blk] at hg; subst hg; exact Nat.le_refl _) (fun _ => rep_own_new (by simp [asize]) ⟨_, _, _, rfl⟩) (fun he => ?_)
        · simp only [execOp, eo, hl.int_inv, hcap.int_inv, Sem.run_bind, hrun]
          rfl
        · have hms : (madeCells z.cells (n.toNat * ie.size)).size = n.toNat * sz := by rw [size_madeCells, hsz]
          refine ⟨c7, hrow0, z2, (madeCells z.cells (n.toNat * ie.size)).toList, ⟨by simp [hms], .inr ⟨C.w.heap.size, n.toNat, madeCells z.cells (n.toNat * ie.size), by rw [put_self]; simp, Nat.zero_le _, alloc_new _ _, by simp, by simp only [maxLen]; omega, hms, ?_⟩⟩, ?_⟩
          · rw [List.length_replicate, ← hms]
            exact List.take_of_length_le (by simp)
          · have hzl : zero.length = ie.size := c9.trans hsz.symm
            rw [hzl] at z1
            exact z1
      · cases h
    · cases h
  · cases hc

end
end Go.Proofs.Abs

namespace Go.Proofs.Abs
open Go
variable [Globs] {D : List Deferred}

section
variable {P : Program} {o : Oper} {a : Act} {C : Ctx} {nt : Nat} {s s' : St} {av : AV}

theorem OpRes.set {C C0 : Ctx} {q : Id} {r : Result Next} {av : AV} {H' : Heap} {id : Id} {ob ob' : AObj} {v : Value} {w : World} {nv : Next} (hr : HRep C) (he0 : Ext C0 C) (h0 : C0.Av = C.Av)
    (hs : SetOk C id ob ob' v w) (ho : Ext C (C.put (hset C.H id ob') id v w C.Av) → ObjRep (C.put (hset C.H id ob') id v w C.Av) id ob')
    (hrun : r = .ok nv w) (hnv : (∃ u, nv = .value u ∧ (Ext C (C.put (hset C.H id ob') id v w C.Av) → Rep (C.put (hset C.H id ob') id v w C.Av) av u)) ∨ (nv = .skip ∧ av = .undef)) (hH : H' = hset C.H id ob') : OpRes C0 q r av H' := by
  have he := Ext.set hs
  refine ⟨_, nv, hrun, ?_, hH.symm, HRep.set hr hs ho, he0.trans he, fun i h1 _ => h0 ▸ h1⟩
  rcases hnv with ⟨u, h1, h2⟩ | h
  · exact .inl ⟨u, h1, h2 he⟩
  · exact .inr h

theorem RepL.of_eq {C : Ctx} {xs : List AV} {vs vs' : List Value} (h : RepL C xs vs) (e : vs = vs') : RepL C xs vs' := e ▸ h

theorem rep_own_set {C : Ctx} {id : Id} {ob ob' : AObj} {v : Value} {w : World} {n : Nat} (hg : hget C.H id = some ob) (ha : ¬ C.Av id) (hn : asize ob' = n) (hs : ∃ a l c, v = .slice a l c) : Rep (C.put (hset C.H id ob') id v w C.Av) (.own id n) v := by
  refine .own id n v ha hs fun o' e => ?_
  have e' : hget (hset C.H id ob') id = some o' := e
  rw [hset_some hg, if_pos rfl] at e'
  injection e' with e'
  subst e'
  exact ⟨by omega, fun _ => .inl (put_self _ _ _ _ _ _).symm⟩

theorem run_append_zero (w : World) (t ty e : TypeId) (i : TypeInfo) (ht : P.underlying t = some (.slice e)) (hi : P.info? e = some i) (b : Option Addr) (n cap : Nat) (hle : n ≤ cap) (x : Option Addr) (c : Nat) :
    (Builtin.append_ #[t, t] ty #[.slice b n cap, .slice x 0 c]).run P w = .ok (.slice b n cap) w := by
  have hf : (Builtin.firstCells i.size 0 (.slice x 0 c)).run P w = .ok #[] w := by
    cases x <;> simp [Builtin.firstCells, loadCells, loadCellsFrom]
  cases b with
  | none => simp [Builtin.append_, run_underlying ht, sizeOf, typeInfo, hi, Builtin.lenOf, hf, hle]
  | some ad => simp [Builtin.append_, run_underlying ht, sizeOf, typeInfo, hi, Builtin.lenOf, hf, hle, storeCells]

theorem run_append_other {w : World} {t u e : TypeId} (ht : P.underlying t = some (.slice e)) (hu : P.underlying u = some (.slice e)) {ty : TypeId} {args : Array Value} :
    (Builtin.append_ #[t, u] ty args).run P w = (Builtin.append_ #[t, t] ty args).run P w := by
  simp only [Builtin.append_, List.getElem?_toArray, List.getElem?_cons_zero, List.getElem?_cons_succ]
  cases args[0]? with
  | none => rfl
  | some s => cases args[1]? with
    | none => rfl
    | some x => cases s <;> simp [run_underlying ht, run_underlying hu]
theorem app_core {e sz bytes : Nat} {x' y' : Operand} {t t' : Nat} {ie : TypeInfo} {z : Value} {q : Id} {H H' : Heap} {xv yv : AV} (hH : C.H = H) (hr : HRep C)
    (eo : o.op = .call { callee := .builtin .append, args := #[x', y'], argTypes := #[t, t'] }) (hu : P.underlying t = some (.slice e)) (hu' : P.underlying t' = some (.slice e)) (hie : P.info? e = some ie) (hsz : ie.size = sz) (hby : ie.bytes = bytes) (hz : ie.zero = some z) (hzs : z.cells.size = sz) (c8 : 0 < sz) (c9 : 0 < bytes)
    (hx : Rep C xv (a.eval x')) (hy : Rep C yv (a.eval y')) (h : appG e sz bytes xv yv H = some (av, H')) :
    OpRes C q ((execOp a.eval o).run P C.w) av H' := by
  simp only [appG] at h
  split at h
  · rename_i new enew
    rw [← hH] at enew
    obtain ⟨base, ycap, hyv, hycap, hnr, hnc, news, hnl, hna⟩ := rowsOf_rep hr enew hy c8
    have hnlen : news.length = new.length * sz := by rw [← hnl.1, flat_len hnr]
    have hnone : ∀ u ∈ news, u.oneCell' = true := by
      intro u hu'
      obtain ⟨j, hj, ej⟩ := List.getElem_of_mem hu'
      have hj' : j < new.flatten.length := by rw [hnl.1]; exact hj
      exact ((hnl.2 j _ _ (List.getElem?_eq_getElem hj') (by rw [List.getElem?_eq_getElem hj, ej])).cell (hnc j _ (List.getElem?_eq_getElem hj'))).1
    split at h
    · rename_i id n
      split at h
      · rename_i wr flat el sz' rows ho
        rw [← hH] at ho
        split at h
        · rename_i hcond
          obtain ⟨rfl, rfl, hn, hbound⟩ := hcond
          simp only [Option.some.injEq, Prod.mk.injEq] at h
          obtain ⟨rfl, rfl⟩ := h
          generalize hfl : (flat && _ : Bool) = flg'
          obtain ⟨h0, h1, h2, xs, h3, h4⟩ := hr.obj id _ ho
          have hxv : a.eval x' = C.φ id ∨ (n = 0 ∧ C.φ id = .slice none 0 0 ∧ ∃ b, a.eval x' = .slice b 0 0) := by
            generalize a.eval x' = xv at hx ⊢
            cases hx with
            | own _ _ _ ha hs hoo => exact (hoo _ ho).2 hn
          have hnav := hr.av id _ ho
          have hrr : ∀ r ∈ rows ++ new, r.length = sz' := fun r hr' => (List.mem_append.1 hr').elim (h1 r) (hnr r)
          have hcc : Cells (rows ++ new).flatten := by rw [List.flatten_append]; exact h2.app hnc
          have hsize : asize (AObj.row wr flg' el sz' (rows ++ new)) = n + new.length := by simp [asize, hn]
          have hrunc : ∀ v w, (Builtin.append_ #[t, t] o.type #[a.eval x', a.eval y']).run P C.w = .ok v w → (execOp a.eval o).run P C.w = .ok (.value v) w := by
            intro v w hv
            rw [call_args eo]
            simp only [builtin, Sem.run_bind]
            rw [show (#[x', y'].map a.eval) = #[a.eval x', a.eval y'] from by simp, run_append_other (w := C.w) hu hu', hv]
            rfl
          have hn63 : n + new.length ≤ 140737488355328 := Nat.le_trans (Nat.le_mul_of_pos_right _ c9) hbound
          by_cases hm : new.length = 0
          · -- nothing is appended
            have hnn : new = [] := List.eq_nil_of_length_eq_zero hm
            subst hnn
            obtain ⟨b0, cap0, hhd, hcap0⟩ : ∃ b0 cap0, a.eval x' = .slice b0 n cap0 ∧ n ≤ cap0 := by
              rcases hxv with hxv | ⟨hn0, _, b, hxv⟩
              case inr => exact ⟨b, 0, by rw [hxv, hn0], by omega⟩
              rw [hxv]
              rcases h3.2 with ⟨hv, hn1⟩ | ⟨g, cap, cur, hv, _, _, hnc', _⟩
              · exact ⟨none, 0, by rw [hv]; congr 1; omega, by omega⟩
              · exact ⟨_, cap, by rw [hv, hn], by omega⟩
            have hrun := run_append_zero (P := P) C.w t o.type el ie hu hie b0 n cap0 hcap0 base ycap
            refine .set (ob := .row wr flat el sz' rows) (ob' := .row wr flg' el sz' (rows ++ [])) (v := C.φ id) (w := C.w) hr (Ext.refl C) rfl
              ⟨ho, rfl, by simp [asize], fun _ => rfl, Nat.le_refl _, rfl, rfl, rfl, fun _ _ _ => rfl, fun _ _ _ _ => rfl, .inl ⟨rfl, fun off hmm => by simpa [mutAt] using hmm⟩⟩
              (fun he => ⟨h0, by simpa using h1, by simpa using h2, xs, by rw [put_self, List.append_nil]; exact h3, by have h5 := h4.mono (fun _ _ r => r.ext he); rw [show (rows ++ ([] : List (List AV))).flatten = rows.flatten from by rw [List.append_nil]]; exact h5⟩)
              (hrunc _ _ (by rw [hyv, hhd]; exact hrun)) (.inl ⟨_, rfl, fun he => ?_⟩) (by rw [hH])
            rw [← hhd]
            exact hx.ext he
          · -- the new elements' place
            have hne : new ≠ [] := by intro hh; subst hh; exact hm rfl
            obtain ⟨ad, rfl⟩ : ∃ ad, base = some ad := by
              cases base with
              | some ad => exact ⟨ad, rfl⟩
              | none =>
                exfalso
                -- a slice without an array has no elements
                unfold rowsOf at enew
                split at enew
                · split at enew
                  · rename_i hs; subst hs; injection enew with enew; subst enew
                    rw [hyv] at hy
                    cases hy with
                    | list _ _ _ _ _ _ _ _ _ hb => obtain ⟨ad, h5, _⟩ := hb hne; cases h5
                  · cases enew
                · injection enew with enew; exact hne enew.symm
                · injection enew with enew; exact hne enew.symm
                · split at enew
                  · rename_i ho2
                    split at enew
                    · rename_i hcc2
                      injection enew with enew
                      subst enew
                      rw [hyv] at hy
                      cases hy with
                      | own _ _ _ ha hs hoo =>
                        rcases (hoo _ ho2).2 hcc2.2 with h6 | ⟨hn0, _⟩
                        case inr => exact hm (hcc2.2.trans hn0)
                        obtain ⟨_, _, _, xs2, h7, _⟩ := hr.obj _ _ ho2
                        rcases h7.2 with ⟨_, h8⟩ | ⟨g, cap, cur, h8, _⟩
                        · exact hm h8
                        · rw [h8] at h6; cases h6
                    · cases enew
                  · cases enew
                · cases enew
            have hnews := (hna ad rfl).2
            have hxl : xs.length = n * sz' := by rw [← hn]; exact h3.1
            have grown : ∀ old : Nat, old < n + new.length → ((Builtin.append_ #[t, t] o.type #[a.eval x', a.eval y']).run P C.w =
                  .ok (.slice (some ⟨C.w.heap.size, 0, none⟩) (n + new.length) (grownCap C.w (n + new.length) old el)) (C.w.drew.alloc (.cells (xs.toArray ++ news.toArray ++ Builtin.zeroCells z.cells (grownCap C.w (n + new.length) old el - (n + new.length))) el))) →
                OpRes C q ((execOp a.eval o).run P C.w) (.own id (n + new.length)) (hset H id (.row wr flg' el sz' (rows ++ new))) := by
              intro old hold hrun
              have hge := grownCap_ge C.w (n + new.length) old el
              have hcm : grownCap C.w (n + new.length) old el ≤ maxLen := grownCap_le_maxLen C.w (n + new.length) old el (by simp only [maxLen]; omega)
              have hw : ∀ k, k < C.w.heap.size → (C.w.drew.alloc (.cells (xs.toArray ++ news.toArray ++ Builtin.zeroCells z.cells (grownCap C.w (n + new.length) old el - (n + new.length))) el)).heap[k]? = C.w.heap[k]? := fun k hk => alloc_old C.w.drew _ k hk
              refine .set (ob := .row wr flat el sz' rows) (ob' := .row wr flg' el sz' (rows ++ new)) (v := .slice (some ⟨C.w.heap.size, 0, none⟩) (n + new.length) (grownCap C.w (n + new.length) old el)) (w := C.w.drew.alloc (.cells (xs.toArray ++ news.toArray ++ Builtin.zeroCells z.cells (grownCap C.w (n + new.length) old el - (n + new.length))) el)) hr (Ext.refl C) rfl
                ⟨ho, rfl, by simp [asize], fun he => by simp [asize] at he; exact absurd he hne, by rw [alloc_heap]; simp, rfl, rfl, rfl, fun k hk _ => hw k hk, fun g off hg _ => World.cell?_of_block (hw g (obj_lt (hr.obj id _ ho) hg)), .inr fun g hg => by simp [blk] at hg; omega⟩
                (fun he => ⟨h0, hrr, hcc, xs ++ news, ?_, ?_⟩) (hrunc _ _ hrun) (.inl ⟨_, rfl, fun _ => rep_own_set ho hnav hsize ⟨_, _, _, rfl⟩⟩) (by rw [hH])
              · rw [put_self]
                refine ⟨by simp [hxl, hnlen, hn, Nat.add_mul], .inr ⟨C.w.heap.size, _, _, by simp [hn], Nat.zero_le _, alloc_new C.w.drew _, by simp [hn]; omega, hcm, ?_, ?_⟩⟩
                · simp only [Array.size_append, List.size_toArray, size_zeroCells, hzs, hxl, hnlen, ← Nat.add_mul]
                  congr 1
                  omega
                · simp only [Array.toList_append, List.append_assoc]
                  have hl : (xs ++ news).length = (rows ++ new).length * sz' := by simp [hxl, hnlen, hn, Nat.add_mul]
                  rw [← List.append_assoc, ← hl]
                  exact List.take_left
              · rw [List.flatten_append]
                exact (h4.app hnl).mono fun _ _ r => r.ext he
            rcases h3.2 with ⟨hv, hn1⟩ | ⟨g, cap, cur, hv, _, hh, hnc', hcm', hcs, htake⟩
            · have hn0 : n = 0 := by omega
              subst hn0
              have hxn : xs = [] := List.eq_nil_of_length_eq_zero (by rw [hxl]; simp)
              subst hxn
              refine grown 0 (by omega) ?_
              rcases hxv with hxv | ⟨_, _, b, hxv⟩
              case inr =>
                have zero : ∀ x0 : Addr, (Builtin.append_ #[t, t] o.type #[.slice (some x0) 0 0, .slice (some ad) new.length ycap]).run P C.w = .ok (.slice (some ⟨C.w.heap.size, 0, none⟩) (0 + new.length) (grownCap C.w (0 + new.length) 0 el)) (C.w.drew.alloc (.cells (([] : List Value).toArray ++ news.toArray ++ Builtin.zeroCells z.cells (grownCap C.w (0 + new.length) 0 el - (0 + new.length))) el)) := fun x0 =>
                  run_append_grow (P := P) C.w t o.type el ie z hu hie hz x0 0 0 [] (by simp) (by simp) ad new.length ycap news (by rw [hsz]; exact hnlen) hnews (by omega) (by omega) (by rw [hby]; exact growslice_fits (by omega) hbound)
                cases b with
                | some x0 => rw [hxv, hyv]; exact zero x0
                | none =>
                  have hr1 := run_append_nil (P := P) C.w t o.type el ie z hu hie hz ad new.length ycap news (by rw [hsz]; exact hnlen) hnews (by omega) (by omega) (by rw [hby]; have h7 := hbound; rw [Nat.zero_add] at h7; omega)
                  rw [hxv, hyv]
                  simpa using hr1
              have hr1 := run_append_nil (P := P) C.w t o.type el ie z hu hie hz ad new.length ycap news (by rw [hsz]; exact hnlen) hnews (by omega) (by omega) (by rw [hby]; have h7 := hbound; rw [Nat.zero_add] at h7; omega)
              rw [hxv, hyv, hv]
              simpa using hr1
            · rcases hxv with hxv | ⟨_, hbad, _⟩
              case inr => rw [hv] at hbad; cases hbad
              by_cases hroom : n + new.length ≤ cap
              · -- in place
                have hfit : n * ie.size + news.length ≤ cur.size := by rw [hnlen, hcs, hsz, ← Nat.add_mul]; exact Nat.mul_le_mul_right _ hroom
                have hr1 := run_append_room (P := P) C.w t o.type el ie hu hie g n cap cur hh ad new.length ycap news (by rw [hsz]; exact hnlen) hnews hnone hroom hfit
                rw [hsz] at hr1 hfit
                have hold : ∀ k, k ≠ g → (C.w.setRow g (cur.toList.take (n * sz') ++ news ++ cur.toList.drop (n * sz' + news.length)).toArray).heap[k]? = C.w.heap[k]? := fun k hk => setRow_other C.w g k _ hk
                have hg' := setRow_heap C.w g cur (cur.toList.take (n * sz') ++ news ++ cur.toList.drop (n * sz' + news.length)).toArray el (0, 0) hh
                refine .set (ob := .row wr flat el sz' rows) (ob' := .row wr flg' el sz' (rows ++ new)) (v := .slice (some ⟨g, 0, none⟩) (n + new.length) cap) (w := C.w.setRow g (cur.toList.take (n * sz') ++ news ++ cur.toList.drop (n * sz' + news.length)).toArray) hr (Ext.refl C) rfl
                  ⟨ho, rfl, by simp [asize], fun he => by simp [asize] at he; exact absurd he hne, by simp [World.setRow], rfl, rfl, rfl, fun k hk hne' => hold k (fun e => hne' (by rw [hv, e]; rfl)), fun g' off hg2 hm2 => ?_, .inl ⟨by rw [hv]; rfl, fun off hmm => ?_⟩⟩
                  (fun he => ⟨h0, hrr, hcc, xs ++ news, ?_, ?_⟩) (hrunc _ _ (by rw [hxv, hyv, hv, hn]; exact hr1)) (.inl ⟨_, rfl, fun _ => rep_own_set ho hnav hsize ⟨_, _, _, rfl⟩⟩) (by rw [hH])
                · rw [hv] at hg2
                  have : g = g' := by simpa [blk] using hg2
                  subst this
                  have hoff : off < n * sz' := by
                    simp only [mutAt, not_or] at hm2
                    rw [hn] at hm2
                    omega
                  simp only [World.cell?, hg', hh]
                  simp only [Option.isSome_none, Bool.false_eq_true, if_false, List.getElem?_toArray]
                  rw [List.append_assoc, List.getElem?_append_left (by simp; omega), List.getElem?_take, if_pos hoff, Array.getElem?_toList]
                · simp only [mutAt] at hmm ⊢
                  rcases hmm with h' | h'
                  · exact .inl h'
                  · refine .inr (Nat.le_trans (Nat.mul_le_mul_right _ ?_) h')
                    simp
                · rw [put_self]
                  refine ⟨by simp [hxl, hnlen, hn, Nat.add_mul], .inr ⟨g, cap, _, by simp [hn], Nat.zero_le _, hg', by simp [hn]; omega, hcm', ?_, ?_⟩⟩
                  · simp only [List.size_toArray, List.length_append, List.length_take, List.length_drop, Array.length_toList]
                    omega
                  · have hl : (xs ++ news).length = (rows ++ new).length * sz' := by simp [hxl, hnlen, hn, Nat.add_mul]
                    rw [hn] at htake
                    simp only [htake]
                    rw [← hl]
                    exact List.take_left
                · rw [List.flatten_append]
                  exact (h4.app hnl).mono fun _ _ r => r.ext he
              · refine grown cap (by omega) ?_
                have holds : ∀ (j : Nat) u, xs[j]? = some u → C.w.cell? ((⟨g, 0, none⟩ : Addr).add j) = some u := fun j u ej => h3.cells (g := g) (by rw [hv]; rfl) j u ej
                have hr1 := run_append_grow (P := P) C.w t o.type el ie z hu hie hz ⟨g, 0, none⟩ n cap xs (by rw [hsz]; exact hxl) holds ad new.length ycap news (by rw [hsz]; exact hnlen) hnews (by omega) (by omega) (by rw [hby]; exact growslice_fits (by omega) hbound)
                rw [hxv, hyv, hv, hn]
                exact hr1
        · cases h
      · cases h
    · cases h
  · cases h
theorem ok_app {e sz bytes : Nat} {x y : AX} (sim : SimE D nt s.env C a) (hH : C.H = s.heap) (hr : HRep C) (hq : ∀ id, (s.p ++ [s.k]) <+: id → C.Av id) (hc : chkIns P o (.app e sz bytes x y) = true) (h : ains (.app e sz bytes x y) s = some (av, s')) :
    OpRes C (s.p ++ [s.k]) ((execOp a.eval o).run P C.w) av s'.heap := by
  simp only [ains] at h
  simp only [chkIns] at hc
  split at hc
  · rename_i args ats eo
    split at hc
    · rename_i x' y' t t' eargs eats
      simp only [Bool.and_eq_true, decide_eq_true_eq, beq_iff_eq] at hc
      obtain ⟨⟨⟨⟨⟨⟨⟨⟨c1, c2⟩, c3⟩, c4⟩, c5⟩, c6⟩, c7⟩, c8⟩, c9⟩ := hc
      have ea : args = #[x', y'] := by apply Array.ext'; simpa using eargs
      have et : ats = #[t, t'] := by apply Array.ext'; simpa using eats
      subst ea; subst et
      have hu := sliceIs_iff c4
      have hu' := sliceIs_iff c3
      obtain ⟨ie, hie, hsz⟩ := sizeIs_iff c5
      obtain ⟨ie', hie', hby⟩ := bytesIs_iff c6
      rw [hie] at hie'; injection hie' with hie'; subst hie'
      obtain ⟨z, hz, hzs⟩ : ∃ z, ie.zero = some z ∧ z.cells.size = sz := by
        rw [hie] at c7
        simp only at c7
        split at c7
        · rename_i z ez; exact ⟨z, ez, by simpa using c7⟩
        · cases c7
      have hx := rep_opd sim c1
      have hy := rep_opd sim c2
      split at h
      · rename_i ex
        rw [ex] at hx
        split at h
        · rename_i v H1 hg
          simp only [Option.some.injEq, Prod.mk.injEq] at h
          obtain ⟨rfl, rfl⟩ := h
          generalize hqq : s.p ++ [s.k] = q at *
          have hA : ∀ i, less C.Av q i → C.Av i := fun i h => h.1
          have hid : ¬ less C.Av q q := fun h => h.2 (List.prefix_refl _)
          have ha : C.Av q := hq q (List.prefix_refl _)
          have hxn : a.eval x' = .slice none 0 0 := by
            generalize a.eval x' = xv at hx
            cases hx; rfl
          have he := Ext.new (o := .row true true e sz []) (v := .slice none 0 0) (w := C.w) hr ha hA (Nat.le_refl _) (fun _ _ => rfl) rfl rfl rfl (by simp [blk])
          have hr1 := HRep.new (o := .row true true e sz []) (v := .slice none 0 0) (w := C.w) hr ha hA hid (Nat.le_refl _) (fun _ _ => rfl) rfl rfl rfl (by simp [blk]) (fun _ => ⟨c8, by simp, by intro j av; simp, [], by rw [put_self]; exact World.ownsRow_nil _ _ _ _, .nil⟩)
          have hxo : Rep (C.put (hadd C.H q (.row true true e sz [])) q (.slice none 0 0) C.w (less C.Av q)) (.own q 0) (a.eval x') := by
            rw [hxn]; exact rep_own_new rfl ⟨_, _, _, rfl⟩
          obtain ⟨C', nv, k1, k2, k3, k4, k5, k6⟩ := app_core (C := C.put (hadd C.H q (.row true true e sz [])) q (.slice none 0 0) C.w (less C.Av q)) (q := q) rfl hr1 eo hu hu' hie hsz hby hz hzs c8 c9 hxo (hy.ext he) (by rw [← hH] at hg; exact hg)
          exact ⟨C', nv, k1, k2, k3, k4, he.trans k5, fun i h1 h2 => k6 i ⟨h1, h2⟩ h2⟩
        · cases h
      · split at h
        · rename_i v H1 hg
          simp only [Option.some.injEq, Prod.mk.injEq] at h
          obtain ⟨rfl, rfl⟩ := h
          exact app_core hH hr eo hu hu' hie hsz hby hz hzs c8 c9 hx hy hg
        · cases h
    · cases hc
  · cases hc

theorem take_seg {xs vs : List Value} {o n : Nat} (h : o + vs.length ≤ n) (hn : n ≤ xs.length) : (xs.take o ++ vs ++ xs.drop (o + vs.length)).take n = (xs.take n).take o ++ vs ++ (xs.take n).drop (o + vs.length) := by
  have h1 : (xs.take o ++ vs).length = o + vs.length := by simp; omega
  rw [List.take_append, h1, List.take_of_length_le (by omega), List.take_take, List.drop_take]
  congr 2
  rw [Nat.min_eq_left (by omega)]

theorem ok_store {raw : Bool} {m : Nat} {p x : AX} (sim : SimE D nt s.env C a) (hH : C.H = s.heap) (hr : HRep C) (hc : chkIns P o (.store raw m p x) = true) (h : ains (.store raw m p x) s = some (av, s')) :
    OpRes C (s.p ++ [s.k]) ((execOp a.eval o).run P C.w) av s'.heap := by
  simp only [ains] at h
  simp only [chkIns] at hc
  split at hc
  · rename_i t p' x' eo
    simp only [Bool.and_eq_true] at hc
    obtain ⟨⟨⟨c1, c2⟩, c3⟩, c4⟩ := hc
    have hp := rep_opd sim c1
    have hx := rep_opd sim c2
    have hrunS : ∀ (g off : Nat) (cur : Array Value) (el : TypeId) (vs : List Value), a.eval p' = .pointer (some ⟨g, off, none⟩) → C.w.heap[g]? = some (.cells cur el (0, 0)) → (a.eval x').cells.toList = vs → vs.length = m → off + vs.length ≤ cur.size → (∀ u ∈ vs, u.oneCell' = true) →
        (execOp a.eval o).run P C.w = .ok .skip (C.w.setRow g (cur.toList.take off ++ vs ++ cur.toList.drop (off + vs.length)).toArray) := by
      intro g off cur el vs e1 e2 e3 e4 e5 e6
      have hst := run_storeCells_at P g off el vs 0 cur C.w e2 (by simpa using e5) e6
      simp only [Nat.add_zero] at hst
      have hsize : (a.eval x').cells.size = m := by rw [← e4, ← e3]; simp
      simp [execOp, eo, Instr.storeAt, e1, Instr.sureAddr, storeVar, run_sizeOf' c3, hsize, e3, hst]
    split at h
    · rename_i id n i j ep
      rw [ep] at hp
      split at h
      · rename_i flat el sz rows ho
        rw [← hH] at ho
        -- the value, kept for good or not
        have key : ∀ v H1, FlagLe C.H H1 → Rep { C with H := H1 } v (a.eval x') →
            (match cellsOf v, rows[i]?, hget H1 id with
              | some cs, some old, some (.row true _ _ _ _) => if rows.length = n ∧ cs.length = m ∧ j + m ≤ old.length then
                  some (AV.undef, { s with heap := hset H1 id (.row true (flat && !raw) el sz (rows.set i (old.take j ++ cs ++ old.drop (j + m)))) }) else none
              | _, _, _ => none) = some (av, s') → OpRes C (s.p ++ [s.k]) ((execOp a.eval o).run P C.w) av s'.heap := by
          intro v H1 hf hv h
          split at h
          · rename_i cs old f2 e2 sz2 rows2 ecs eold eh1
            split at h
            · rename_i hcond
              obtain ⟨hn, hcl, hjm⟩ := hcond
              simp only [Option.some.injEq, Prod.mk.injEq] at h
              obtain ⟨rfl, rfl⟩ := h
              -- the object is as it was
              obtain ⟨o1, e1, f1⟩ := hf.down id _ eh1
              rw [ho] at e1
              injection e1 with e1
              subst e1
              have hsame : f2 = flat ∧ e2 = el ∧ sz2 = sz ∧ rows2 = rows := by
                rcases f1 with h' | ⟨_, _, _, _, _, h', h''⟩
                · injection h' with a1 a2 a3 a4 a5; exact ⟨a2, a3, a4, a5⟩
                · cases h''
              obtain ⟨rfl, rfl, rfl, rfl⟩ := hsame
              have hr1 : HRep { C with H := H1 } := hf.hrep hr
              obtain ⟨r1, r2⟩ := cellsOf_rep hv ecs
              obtain ⟨h0, h1, h2, xs, h3, h4⟩ := hr1.obj id _ eh1
              have hol := h1 old (List.mem_of_getElem? eold)
              have hil := (List.getElem?_eq_some_iff.1 eold).1
              have hone : ∀ u ∈ (a.eval x').cells.toList, u.oneCell' = true := by
                intro u hu'
                obtain ⟨k, hk, ek⟩ := List.getElem_of_mem hu'
                have hk' : k < cs.length := by rw [r1.1]; exact hk
                exact ((r1.2 k _ _ (List.getElem?_eq_getElem hk') (by rw [List.getElem?_eq_getElem hk, ek])).cell (r2 k _ (List.getElem?_eq_getElem hk'))).1
              have hvl : (a.eval x').cells.toList.length = m := by rw [← r1.1]; exact hcl
              rcases h3.2 with ⟨hv0, hn0⟩ | ⟨g, cap, cur, hv0, _, hh, hnc', hcm', hcs, htake⟩
              · omega
              · have hv0' : C.φ id = .slice (some ⟨g, 0, none⟩) rows2.length cap := hv0
                have hpv : a.eval p' = .pointer (some ⟨g, i * sz2 + j, none⟩) := by
                  cases hp with
                  | ref _ _ _ _ _ ha hs hoo =>
                    obtain ⟨g', q1, q2⟩ := (hoo _ ho).2 hn
                    rw [hv0'] at q1
                    have : g = g' := by simpa [blk] using q1
                    subst this
                    simpa [cellsz] using q2
                have hbound : i * sz2 + j + m ≤ rows2.length * sz2 := by
                  have : (i + 1) * sz2 ≤ rows2.length * sz2 := Nat.mul_le_mul_right _ hil
                  rw [Nat.succ_mul] at this
                  omega
                have hcur : rows2.length * sz2 ≤ cur.size := by rw [hcs]; exact Nat.mul_le_mul_right _ hnc'
                have hrun := hrunS g (i * sz2 + j) cur e2 _ hpv hh rfl hvl (by rw [hvl]; omega) hone
                have hflat := flat_seg (sz := sz2) (cs := cs) (j := j) (by omega) h1 eold
                have hg' := setRow_heap C.w g cur (cur.toList.take (i * sz2 + j) ++ (a.eval x').cells.toList ++ cur.toList.drop (i * sz2 + j + (a.eval x').cells.toList.length)).toArray e2 (0, 0) hh
                rw [← hcl]
                refine .set (C := { C with H := H1 }) (C0 := C) (ob := .row true f2 e2 sz2 rows2) (ob' := .row true (f2 && !raw) e2 sz2 (rows2.set i (old.take j ++ cs ++ old.drop (j + cs.length)))) (v := C.φ id) (w := C.w.setRow g (cur.toList.take (i * sz2 + j) ++ (a.eval x').cells.toList ++ cur.toList.drop (i * sz2 + j + (a.eval x').cells.toList.length)).toArray) hr1 hf.ext rfl
                  ⟨eh1, rfl, by simp [asize], fun _ => rfl, by simp [World.setRow], rfl, rfl, rfl, fun k hk hne => setRow_other C.w g k _ (fun e => hne (by show _ = blk (C.φ id); rw [hv0', e]; rfl)), fun _ _ _ hm => absurd (.inl rfl) hm, .inl ⟨rfl, fun off hmm => .inl rfl⟩⟩
                  (fun he => ⟨h0, set_len h1 (by simp; omega), ?_, xs.take (i * sz2 + j) ++ (a.eval x').cells.toList ++ xs.drop (i * sz2 + j + (a.eval x').cells.toList.length), ?_, ?_⟩) hrun (.inr ⟨rfl, rfl⟩) rfl
                · rw [hflat]; exact ((h2.take _).app r2).app (h2.drop _)
                · rw [put_self]
                  have hxl := h3.1
                  have hvs : (a.eval x').cells.size = m := by simpa using hvl
                  refine ⟨by simp only [List.length_append, List.length_take, List.length_drop, List.length_set]; omega, .inr ⟨g, cap, _, by rw [List.length_set]; exact hv0', Nat.zero_le _, hg', by rw [List.length_set]; exact hnc', hcm', ?_, ?_⟩⟩
                  · simp only [List.size_toArray, List.length_append, List.length_take, List.length_drop, Array.length_toList]
                    rw [Nat.min_eq_left (by omega)]
                    omega
                  · rw [List.length_set]
                    simp only []
                    rw [take_seg (by omega) (by simpa using hcur), htake]
                · rw [hflat]
                  exact RepL.of_eq ((((h4.take (i * sz2 + j)).app r1).app (h4.drop (i * sz2 + j + cs.length))).mono fun _ _ r => r.ext he) (by rw [r1.1])
            · cases h
          · cases h
        cases raw with
        | true =>
          simp only [if_true] at h
          refine key _ C.H (.refl _) hx ?_
          rw [hH]
          exact h
        | false =>
          simp only [Bool.false_eq_true, if_false] at h
          cases hz : fz s.heap (x.ev s.env) with
          | none => rw [hz] at h; cases h
          | some q =>
            obtain ⟨v, H1⟩ := q
            rw [hz] at h
            obtain ⟨f1, _, f3⟩ := fzd_ok 4 _ _ _ _ hz
            rw [← hH] at f1
            exact key v H1 f1 (f3 C _ hH hr hx) h
      · rename_i cells ho
        rw [← hH] at ho
        split at h
        · rename_i cs ecs
          split at h
          · rename_i hcond
            obtain ⟨rfl, rfl, hcl, hjm⟩ := hcond
            simp only [Option.some.injEq, Prod.mk.injEq] at h
            obtain ⟨rfl, rfl⟩ := h
            obtain ⟨r1, r2⟩ := cellsOf_rep hx ecs
            obtain ⟨h0, g, cur, el, h1, h2, h3⟩ := hr.obj id _ ho
            have hone : ∀ u ∈ (a.eval x').cells.toList, u.oneCell' = true := by
              intro u hu'
              obtain ⟨k, hk, ek⟩ := List.getElem_of_mem hu'
              have hk' : k < cs.length := by rw [r1.1]; exact hk
              exact ((r1.2 k _ _ (List.getElem?_eq_getElem hk') (by rw [List.getElem?_eq_getElem hk, ek])).cell (r2 k _ (List.getElem?_eq_getElem hk'))).1
            have hvl : (a.eval x').cells.toList.length = m := by rw [← r1.1]; exact hcl
            have hpv : a.eval p' = .pointer (some ⟨g, j, none⟩) := by
              cases hp with
              | ref _ _ _ _ _ ha hs hoo =>
                obtain ⟨g', q1, q2⟩ := (hoo _ ho).2 rfl
                rw [h1] at q1
                have : g = g' := by simpa [blk] using q1
                subst this
                simpa [cellsz] using q2
            have hcsz : cells.length = cur.size := by have := h3.1; simpa using this
            have hrun := hrunS g j cur el _ hpv h2 rfl hvl (by rw [hvl]; omega) hone
            have hg' := setRow_heap C.w g cur (cur.toList.take j ++ (a.eval x').cells.toList ++ cur.toList.drop (j + (a.eval x').cells.toList.length)).toArray el (0, 0) h2
            refine .set (ob := .box cells) (ob' := .box (cells.take j ++ cs ++ cells.drop (j + m))) (v := C.φ id) (w := C.w.setRow g (cur.toList.take j ++ (a.eval x').cells.toList ++ cur.toList.drop (j + (a.eval x').cells.toList.length)).toArray) hr (Ext.refl C) rfl
              ⟨ho, rfl, Nat.le_refl _, fun _ => rfl, by simp [World.setRow], rfl, rfl, rfl, fun k hk hne => setRow_other C.w g k _ (fun e => hne (by rw [h1, e]; rfl)), fun _ _ _ hm => absurd trivial hm, .inl ⟨rfl, fun _ _ => trivial⟩⟩
              (fun he => ⟨((h0.take _).app r2).app (h0.drop _), g, _, el, by rw [put_self]; exact h1, hg', ?_⟩) hrun (.inr ⟨rfl, rfl⟩) (by rw [hH])
            simp only []
            exact RepL.of_eq ((((h3.take j).app r1).app (h3.drop (j + m))).mono fun _ _ r => r.ext he) (by rw [hvl])
          · cases h
        · cases h
      · cases h
    · cases h
  · cases hc
theorem ok_storew {m : Nat} {p x : AX} (sim : SimE D nt s.env C a) (hH : C.H = s.heap) (hr : HRep C) (hc : chkIns P o (.storew m p x) = true) (h : ains (.storew m p x) s = some (av, s')) :
    OpRes C (s.p ++ [s.k]) ((execOp a.eval o).run P C.w) av s'.heap := by
  refine ok_store (raw := false) (m := m) (p := p) (x := x) sim hH hr hc ?_
  simp only [ains] at h ⊢
  split at h
  · rename_i id cs ep ec
    split at h
    · rename_i cells ho
      split at h
      · rename_i hcond
        rw [ep]
        simp only [ho, ec]
        rw [if_pos ⟨trivial, trivial, hcond.2, by omega⟩]
        simp only [Option.some.injEq, Prod.mk.injEq] at h
        obtain ⟨rfl, rfl⟩ := h
        have e1 : cells.drop (0 + m) = [] := List.drop_of_length_le (by omega)
        rw [e1]
        simp
      · cases h
    · cases h
  · cases h

theorem ok_tlz {sz : Nat} {x i : AX} (sim : SimE D nt s.env C a) (hH : C.H = s.heap) (hr : HRep C) (hc : chkIns P o (.tlz sz x i) = true) (h : ains (.tlz sz x i) s = some (av, s')) :
    OpRes C (s.p ++ [s.k]) ((execOp a.eval o).run P C.w) av s'.heap := by
  simp only [ains] at h
  simp only [chkIns] at hc
  split at hc
  · rename_i t x' i' eo
    simp only [Bool.and_eq_true] at hc
    obtain ⟨⟨⟨c1, c2⟩, c3⟩, c4⟩ := hc
    split at c3
    · rename_i el hu
      have hv := rep_opd sim c1
      have hi := rep_opd sim c2
      split at h
      · rename_i id n k0 k e1 e2
        rw [e1] at hv
        rw [e2] at hi
        split at h
        · rename_i e fl sz' rows ho
          rw [← hH] at ho
          split at h
          · rename_i hcond
            obtain ⟨rfl, hn, hk0, hkn⟩ := hcond
            obtain ⟨kn, rfl⟩ := Int.eq_ofNat_of_zero_le hk0
            simp only [Option.some.injEq, Prod.mk.injEq, Int.toNat_natCast] at h
            obtain ⟨rfl, rfl⟩ := h
            cases hv with
            | own _ _ _ ha hs hoo =>
              obtain ⟨h0, h1, h2, xs, h3, h4⟩ := hr.obj id _ ho
              rcases (hoo _ ho).2 hn with hhd | ⟨hn0, _⟩
              · rcases h3.2 with ⟨_, hn1⟩ | ⟨g, cap, cur, hv1, _, hh, hnc, _, hcs, htake⟩
                · omega
                · rw [hn] at hv1 hnc
                  have hxv : a.eval x' = .slice (some ⟨g, 0, none⟩) n cap := hhd.trans hv1
                  have hiv : a.eval i' = .int k0 (kn : Nat) := hi.int_inv
                  have hadd : (⟨g, 0, none⟩ : Addr).add (kn * sz') = ⟨g, kn * sz', none⟩ := by rw [add_none rfl]; simp
                  have hrun := run_bounds (P := P) (isSlice := true) (len := n) (cap := cap) (l := kn) (h := n) (m := cap) (lo := some (.int k0 (kn : Nat))) (hi := none) (mx := none) C.w
                    (.inr ⟨k0, rfl⟩) (.inl ⟨rfl, rfl⟩) (.inl ⟨rfl, rfl⟩) (by simp) (by omega) hnc (Nat.le_refl _)
                  have hne : ¬ cap = kn := by omega
                  refine .pure hr (v := .slice (some ⟨g, kn * sz', none⟩) (n - kn) (cap - kn)) ?_ ?_ hH
                  · simp [execOp, eo, hxv, hiv, Instr.sliceAt, run_underlying hu, Instr.slice, hrun, run_sizeOf' c3, hne, hadd]
                  · refine .tl id n kn _ ha ⟨_, _, _, rfl⟩ fun o' e' => ?_
                    rw [ho] at e'
                    injection e' with e'
                    subst e'
                    exact ⟨Nat.le_of_eq hn.symm, fun _ => ⟨g, cap, hv1, rfl⟩⟩
              · omega
          · cases h
        · cases h
      · cases h
    · cases c3
  · cases hc

theorem flatten_take {rows : List (List AV)} {sz : Nat} (hr : ∀ r ∈ rows, r.length = sz) (i : Nat) : (rows.take i).flatten = rows.flatten.take (i * sz) := by
  induction rows generalizing i with
  | nil => simp
  | cons r rows ih =>
    cases i with
    | zero => simp
    | succ i =>
      simp only [List.take_succ_cons, List.flatten_cons, ih (fun r h => hr r (List.mem_cons_of_mem _ h)) i]
      have hl := hr r (List.mem_cons_self ..)
      have e1 : r.take ((i + 1) * sz) = r := List.take_of_length_le (by rw [hl, Nat.succ_mul]; omega)
      have e2 : (i + 1) * sz - r.length = i * sz := by rw [hl, Nat.succ_mul]; omega
      rw [List.take_append, e1, e2]

theorem ok_clr {e sz : Nat} {zero : List AV} {x : AX} (sim : SimE D nt s.env C a) (hH : C.H = s.heap) (hr : HRep C) (hc : chkIns P o (.clr e sz zero x) = true) (h : ains (.clr e sz zero x) s = some (av, s')) :
    OpRes C (s.p ++ [s.k]) ((execOp a.eval o).run P C.w) av s'.heap := by
  simp only [ains] at h
  simp only [chkIns] at hc
  split at hc
  · rename_i args ats eo
    split at hc
    · rename_i x' t eargs eats
      simp only [Bool.and_eq_true, decide_eq_true_eq, beq_iff_eq] at hc
      obtain ⟨⟨⟨⟨⟨c1, c2⟩, c3⟩, c4⟩, c5⟩, c6⟩ := hc
      have hu := sliceIs_iff c2
      obtain ⟨ie, hie, hsz⟩ := sizeIs_iff c3
      obtain ⟨ie', z, hie', hz, hzc⟩ := zeroIs_iff c4
      rw [hie] at hie'; injection hie' with hie'; subst hie'
      have ea : args = #[x'] := by apply Array.ext'; simpa using eargs
      have et : ats = #[t] := by apply Array.ext'; simpa using eats
      subst ea; subst et
      have hv := rep_opd sim c1
      split at h
      · rename_i id n i e1
        rw [e1] at hv
        split at h
        · rename_i fl el sz' rows ho
          rw [← hH] at ho
          split at h
          · rename_i hcond
            obtain ⟨rfl, rfl, hn, hin⟩ := hcond
            simp only [Option.some.injEq, Prod.mk.injEq] at h
            obtain ⟨rfl, rfl⟩ := h
            cases hv with
            | tl _ _ _ _ ha hs hoo =>
              obtain ⟨h0, h1, h2, xs, h3, h4⟩ := hr.obj id _ ho
              obtain ⟨g, cap, hv1, hxv⟩ := (hoo _ ho).2 hn
              simp only [cellsz] at hxv
              rcases h3.2 with ⟨_, hn1⟩ | ⟨g', cap', cur, hv1', _, hh, hnc, hcm, hcs, htake⟩
              · omega
              · have hgg : g' = g ∧ cap' = cap := by
                  rw [hv1] at hv1'
                  injection hv1' with q1 q2 q3
                  injection q1 with q1
                  injection q1 with q1
                  exact ⟨q1.symm, q3.symm⟩
                obtain ⟨rfl, rfl⟩ := hgg
                obtain ⟨zr, zc⟩ := zero_rep C hzc (n - i) (by omega)
                have hzs : z.cells.size = sz' := by
                  have := (rep_constCells C hzc).1.1
                  simp at this
                  omega
                have hlen : (Builtin.zeroCells z.cells (n - i)).toList.length = (n - i) * sz' := by simp [size_zeroCells, hzs]
                have hmul : i * sz' + (n - i) * sz' = n * sz' := by rw [← Nat.add_mul]; congr 1; omega
                have hnc' : n * sz' ≤ cur.size := by rw [hcs]; exact Nat.mul_le_mul_right _ (by omega)
                have zr' : RepL C (List.replicate (n - i) zero).flatten (Builtin.zeroCells z.cells (n - i)).toList := by
                  have e0 : Builtin.zeroCells z.cells (n - i) = (Array.range ((n - i) * zero.length)).map (z.cells[· % z.cells.size]!) := by
                    rw [c5, ← hzs]; rfl
                  rw [e0]; exact zr
                have hone : ∀ u ∈ (Builtin.zeroCells z.cells (n - i)).toList, u.oneCell' = true := by
                  intro u hu'
                  obtain ⟨k, hk, ek⟩ := List.getElem_of_mem hu'
                  have hk' : k < (List.replicate (n - i) zero).flatten.length := by rw [zr'.1]; exact hk
                  exact ((zr'.2 k _ _ (List.getElem?_eq_getElem hk') (by rw [List.getElem?_eq_getElem hk, ek])).cell (zc k _ (List.getElem?_eq_getElem hk'))).1
                have hst := run_storeCells_at P g' (i * sz') el (Builtin.zeroCells z.cells (n - i)).toList 0 cur C.w hh (by rw [hlen]; omega) hone
                simp only [Nat.add_zero] at hst
                have hrun : (execOp a.eval o).run P C.w = .ok (.value (.tuple #[])) (C.w.setRow g' (cur.toList.take (i * sz') ++ (Builtin.zeroCells z.cells (n - i)).toList ++ cur.toList.drop (i * sz' + (Builtin.zeroCells z.cells (n - i)).toList.length)).toArray) := by
                  rw [call_args eo]
                  have hpos : n - i ≠ 0 := by omega
                  obtain ⟨m, hm⟩ := Nat.exists_eq_succ_of_ne_zero hpos
                  simp only [List.map_toArray, List.map_cons, List.map_nil, hxv]
                  simp [builtin, Builtin.clear_, run_underlying hu, run_zeroValue' hie hz, hm]
                  rw [hm] at hst
                  simp only [Nat.succ_eq_add_one] at hst
                  simp [hst]
                have hg' := setRow_heap C.w g' cur (cur.toList.take (i * sz') ++ (Builtin.zeroCells z.cells (n - i)).toList ++ cur.toList.drop (i * sz' + (Builtin.zeroCells z.cells (n - i)).toList.length)).toArray el (0, 0) hh
                have hrl : (rows.take i ++ List.replicate (n - i) zero).length = n := by simp; omega
                refine .set (ob := .row true fl el sz' rows) (ob' := .row true fl el sz' (rows.take i ++ List.replicate (n - i) zero)) (v := C.φ id) (w := C.w.setRow g' (cur.toList.take (i * sz') ++ (Builtin.zeroCells z.cells (n - i)).toList ++ cur.toList.drop (i * sz' + (Builtin.zeroCells z.cells (n - i)).toList.length)).toArray) hr (Ext.refl C) rfl
                  ⟨ho, rfl, by simp only [asize, hrl, hn]; exact Nat.le_refl _, fun _ => rfl, by simp [World.setRow], rfl, rfl, rfl, fun k hk hne => setRow_other C.w g' k _ (fun e => hne (by rw [hv1, e]; rfl)), fun _ _ _ hm => absurd (.inl rfl) hm, .inl ⟨rfl, fun off hmm => .inl rfl⟩⟩
                  (fun he => ⟨h0, ?_, ?_, xs.take (i * sz') ++ (Builtin.zeroCells z.cells (n - i)).toList, ?_, ?_⟩) hrun (.inl ⟨_, rfl, fun _ => .undef _⟩) (by rw [hH])
                · intro r hr'
                  rcases List.mem_append.1 hr' with h' | h'
                  · exact h1 r (List.mem_of_mem_take h')
                  · rw [(List.mem_replicate.1 h').2]; exact c5
                · rw [List.flatten_append, flatten_take h1]
                  exact (h2.take _).app zc
                · rw [put_self]
                  have hxl := h3.1
                  rw [hn] at hxl htake hnc
                  refine ⟨by rw [hrl]; simp only [List.length_append, List.length_take, hlen]; omega, .inr ⟨g', cap', _, by rw [hrl, hv1], Nat.zero_le _, hg', by rw [hrl]; exact hnc, hcm, ?_, ?_⟩⟩
                  · simp only [List.size_toArray, List.length_append, List.length_take, List.length_drop, Array.length_toList, hlen]
                    omega
                  · rw [hrl]
                    simp only []
                    rw [take_seg (by omega) (by simpa using hnc'), htake, List.drop_of_length_le (by rw [hlen, hxl]; omega), List.append_nil]
                · rw [List.flatten_append, flatten_take h1]
                  exact ((h4.take (i * sz')).app zr').mono fun _ _ r => r.ext he
          · cases h
        · cases h
      · cases h
    · cases hc
  · cases hc

end
end Go.Proofs.Abs

namespace Go.Proofs.Abs
open Go
variable [Globs]

def fakeF (e : Nat) (i : Nat) : Field := { name := "x", type := e, offset := i, byteOffset := 0, embedded := false, tag := "", pkgPath := "" }
theorem eqItems_fields (d e : Nat) (xs ys : Array Value) : ∀ is : List Nat, Op.eqItems d e 1 xs ys is = Op.eqFields d xs ys (is.map (fakeF e))
  | [] => rfl
  | i :: is => by
    simp only [Op.eqItems, List.map_cons, Op.eqFields, eqItems_fields d e xs ys is]
    rw [if_pos (by simp [fakeF])]
    simp [fakeF]
theorem structCmp_fake {P : Program} {e : Nat} : ∀ (ks : List Nat) (n : Nat), ks.all (kindIs P e) = true → structCmp P ((List.range' n ks.length).map (fakeF e)) n ks = true
  | [], n, _ => rfl
  | k :: ks, n, h => by
    simp only [List.all_cons, Bool.and_eq_true] at h
    simp only [List.length_cons, List.range'_succ, List.map_cons, structCmp, Bool.and_eq_true]
    exact ⟨⟨⟨by simp [fakeF], by simp [fakeF]⟩, h.1⟩, structCmp_fake ks (n + 1) h.2⟩

section
variable {P : Program} {C : Ctx}
theorem bytes_refl (m : ByteArray) : (m == m) = true := by rw [beq_toListBytes]; simp
theorem bytes_eq {m m' : ByteArray} (h : (m == m') = true) : m = m' := by
  rw [beq_toListBytes, ByteArray.toList_eq, ByteArray.toList_eq] at h
  have h : m.data.toList = m'.data.toList := by simpa using h
  cases m; cases m'
  congr 1
  exact Array.ext' h
theorem check_basic {t k : Nat} (h : kindIs P t k = true) (em : Bool) (n : Nat) (v : Value) (w : World) : (Instr.checkKey em (n + 1) t v).run P w = .ok () w := by
  unfold Instr.checkKey
  unfold kindIs at h
  split at h
  · split at h
    · rename_i i e; simp [run_underlying e]
    · cases h
  · split at h
    · rename_i e; simp [run_underlying e]
    · cases h
  · split at h
    · rename_i e; simp [run_underlying e]
    · cases h
  · cases h
theorem kind_cases {t k : Nat} (h : kindIs P t k = true) : (k = 0 ∧ ∃ i, P.underlying t = some (.int i)) ∨ (k = 1 ∧ P.underlying t = some .bool) ∨ (k = 2 ∧ P.underlying t = some .string) := by
  unfold kindIs at h
  split at h
  · split at h
    · rename_i i e; exact .inl ⟨rfl, i, e⟩
    · cases h
  · split at h
    · rename_i e; exact .inr (.inl ⟨rfl, e⟩)
    · cases h
  · split at h
    · rename_i e; exact .inr (.inr ⟨rfl, e⟩)
    · cases h
  · cases h

theorem acells_refl_len {w : World} : ∀ {fs : List Field} {n : Nat} {ks : List Nat} {as : List AV} {r : Bool}, structCmp P fs n ks = true → acells ks as as = some r → r = true ∧ as.length = fs.length
  | [], n, ks, as, r, hs, h => by
    cases ks with
    | cons => simp [structCmp] at hs
    | nil =>
      cases as with
      | nil => simp [acells] at h; exact ⟨h, rfl⟩
      | cons => simp [acells] at h
  | f :: fs, n, ks, as, r, hs, h => by
    cases ks with
    | nil => simp [structCmp] at hs
    | cons k ks =>
      simp only [structCmp, Bool.and_eq_true] at hs
      unfold acells at h
      split at h
      · exact absurd ‹k :: ks = []› (List.cons_ne_nil _ _)
      · rename_i ks' k0 m r0 k0' m' r0' e0 e1
        injection e0 with e0 e0'
        injection e1 with e1 e1'
        injection e1 with e1 e1''
        subst e0; subst e0'; subst e1; subst e1'; subst e1''
        simp only [if_true, beq_self_eq_true, bytes_refl] at h
        obtain ⟨h1, h2⟩ := acells_refl_len (w := w) hs.2 h
        exact ⟨h1, by simp [h2]⟩
      · rename_i ks' m r0 m' r0' e0 e1
        injection e0 with e0 e0'
        injection e1 with e1 e1'
        injection e1 with e1
        subst e0; subst e0'; subst e1; subst e1'
        simp only [if_true, beq_self_eq_true, bytes_refl] at h
        obtain ⟨h1, h2⟩ := acells_refl_len (w := w) hs.2 h
        exact ⟨h1, by simp [h2]⟩
      · rename_i ks' m r0 m' r0' e0 e1
        injection e0 with e0 e0'
        injection e1 with e1 e1'
        injection e1 with e1
        subst e0; subst e0'; subst e1; subst e1'
        simp only [if_true, bytes_refl] at h
        obtain ⟨h1, h2⟩ := acells_refl_len (w := w) hs.2 h
        exact ⟨h1, by simp [h2]⟩
      · cases h

theorem acells_true : ∀ {ks : List Nat} {as bs : List AV} {xs ys : List Value}, acells ks as bs = some true → RepL C as xs → RepL C bs ys →
    xs = ys ∧ as = bs ∧ ∀ v ∈ xs, (∃ k n, v = .int k n) ∨ (∃ b, v = .bool b) ∨ ∃ s, v = .string s
  | ks, as, bs, xs, ys, h, r1, r2 => by
    have go : ∀ {x y : AV} {as bs : List AV} {xs ys : List Value}, RepL C (x :: as) xs → RepL C (y :: bs) ys → (∀ u v, Rep C x u → Rep C y v → u = v ∧ ((∃ k n, u = .int k n) ∨ (∃ b, u = .bool b) ∨ ∃ s, u = .string s)) → x = y →
        (∀ xs ys, RepL C as xs → RepL C bs ys → xs = ys ∧ as = bs ∧ ∀ v ∈ xs, (∃ k n, v = .int k n) ∨ (∃ b, v = .bool b) ∨ ∃ s, v = .string s) →
        xs = ys ∧ x :: as = y :: bs ∧ ∀ v ∈ xs, (∃ k n, v = .int k n) ∨ (∃ b, v = .bool b) ∨ ∃ s, v = .string s := by
      intro x y as bs xs ys r1 r2 hk hxy ih
      cases xs with
      | nil => have := r1.1; simp at this
      | cons u xs =>
        cases ys with
        | nil => have := r2.1; simp at this
        | cons v ys =>
          obtain ⟨h1, h2⟩ := hk u v (r1.2 0 _ _ rfl rfl) (r2.2 0 _ _ rfl rfl)
          obtain ⟨h3, h4, h5⟩ := ih xs ys ⟨by have := r1.1; simpa using this, fun j av v e e' => r1.2 (j + 1) av v e e'⟩ ⟨by have := r2.1; simpa using this, fun j av v e e' => r2.2 (j + 1) av v e e'⟩
          subst h1; subst h3; subst h4; subst hxy
          refine ⟨rfl, rfl, fun v hv => ?_⟩
          rcases List.mem_cons.1 hv with rfl | hv
          · exact h2
          · exact h5 v hv
    unfold acells at h
    split at h
    · have e1 : xs = [] := List.eq_nil_of_length_eq_zero r1.1.symm
      have e2 : ys = [] := List.eq_nil_of_length_eq_zero r2.1.symm
      subst e1; subst e2
      exact ⟨rfl, rfl, by simp⟩
    · rename_i ks' k0 m r0 k0' m' r0'
      split at h
      · rename_i hkk
        subst hkk
        split at h
        · rename_i hm
          have hm : m = m' := by simpa using hm
          subst hm
          exact go r1 r2 (fun u v hu hv => ⟨by rw [hu.int_inv, hv.int_inv], .inl ⟨_, _, hu.int_inv⟩⟩) rfl fun xs ys r1 r2 => acells_true h r1 r2
        · cases h
      · cases h
    · rename_i ks' m r0 m' r0'
      split at h
      · rename_i hm
        have hm : m = m' := by simpa using hm
        subst hm
        exact go r1 r2 (fun u v hu hv => ⟨by rw [hu.bool_inv, hv.bool_inv], .inr (.inl ⟨_, hu.bool_inv⟩)⟩) rfl fun xs ys r1 r2 => acells_true h r1 r2
      · cases h
    · rename_i ks' m r0 m' r0'
      split at h
      · rename_i hm
        have hm : m = m' := bytes_eq hm
        subst hm
        exact go r1 r2 (fun u v hu hv => ⟨by rw [hu.str_inv, hv.str_inv], .inr (.inr ⟨_, hu.str_inv⟩)⟩) rfl fun xs ys r1 r2 => acells_true h r1 r2
      · cases h
    · cases h

theorem key_equal {kt kd : Nat} {ks : List Nat} {x y : AV} {u v : Value} {r : Bool} (w : World) (hk : keyTy P kt kd ks = true) (h : keyEq kd ks x y = some r) (hx : Rep C x u) (hy : Rep C y v) :
    (Op.equal kt u v).run P w = .ok r w ∧ (r = true → u = v ∧ x = y ∧ Instr.sameBits 10000 u u = true) := by
  unfold keyEq at h
  split at h
  · rename_i k m k' m'
    split at h
    · rename_i hkk
      subst hkk
      rw [hx.int_inv, hy.int_inv]
      simp only [Option.some.injEq] at h
      subst h
      have hk' : kindIs P kt 0 = true := hk
      rcases kind_cases hk' with ⟨_, i, e⟩ | ⟨h0, _⟩ | ⟨h0, _⟩
      · refine ⟨run_equalIn_int w 9999 kt _ i m m' e, fun hb => ?_⟩
        have : m = m' := by simpa using hb
        subst this
        exact ⟨rfl, rfl, by simp [Instr.sameBits]⟩
      · cases h0
      · cases h0
    · cases h
  · rename_i m m'
    rw [hx.bool_inv, hy.bool_inv]
    simp only [Option.some.injEq] at h
    subst h
    have hk' : kindIs P kt 1 = true := hk
    rcases kind_cases hk' with ⟨h0, _⟩ | ⟨_, e⟩ | ⟨h0, _⟩
    · cases h0
    · refine ⟨run_equalIn_bool' w 9999 kt m m' e, fun hb => ?_⟩
      have : m = m' := by simpa using hb
      subst this
      exact ⟨rfl, rfl, by simp [Instr.sameBits]⟩
    · cases h0
  · rename_i m m'
    rw [hx.str_inv, hy.str_inv]
    simp only [Option.some.injEq] at h
    subst h
    have hk' : kindIs P kt 2 = true := hk
    rcases kind_cases hk' with ⟨h0, _⟩ | ⟨h0, _⟩ | ⟨_, e⟩
    · cases h0
    · cases h0
    · refine ⟨by rw [beq_toListBytes]; exact run_equalIn_string w 9999 kt m m' e, fun hb => ?_⟩
      have : m = m' := bytes_eq hb
      subst this
      exact ⟨rfl, rfl, by simp [Instr.sameBits, bytes_refl]⟩
  · rename_i as bs
    obtain ⟨xs, rfl, hx2, _⟩ := hx.agg_inv
    obtain ⟨ys, rfl, hy2, _⟩ := hy.agg_inv
    refine ⟨?_, fun hb => ?_⟩
    · simp only [keyTy] at hk
      split at hk
      · rename_i fs hu
        simp only [Bool.and_eq_true, Bool.not_eq_true'] at hk
        have hfo : P.fieldsOf kt = fs := by simp [Program.fieldsOf, hu]
        have := run_equalIn_struct (P := P) w 9999 kt xs.toArray ys.toArray (by rw [hfo]; exact hu) hk.1
        show (Op.equalIn 10000 kt _ _).run P w = _
        rw [this, hfo]
        exact run_fields (d := 9998) fs.toList 0 ks as bs r hk.2 (by simpa using hx2) (by simpa using hy2) h
      · rename_i n e hu
        simp only [Bool.and_eq_true, beq_iff_eq] at hk
        obtain ⟨⟨h1, h2⟩, h3⟩ := hk
        obtain ⟨ie, hi, hsz⟩ := sizeIs_iff h1
        have hce : P.cellsOf e = 1 := by
          have := run_sizeOf w hi
          have h4 : (sizeOf e).run P w = .ok ie.size w := by simp [sizeOf, run_typeInfo w hi]
          rw [h4] at this
          injection this with this
          rw [← this]; exact hsz
        show (Op.equalIn 10000 kt _ _).run P w = _
        rw [run_equalIn_array w 9999 xs.toArray ys.toArray hu hi, hce, eqItems_fields]
        have h5 := structCmp_fake (P := P) (e := e) ks 0 h3
        rw [h2, ← List.range_eq_range'] at h5
        exact run_fields (d := 9998) _ 0 ks as bs r h5 (by simpa using hx2) (by simpa using hy2) h
      · cases hk
    · subst hb
      obtain ⟨h1, h2, h3⟩ := acells_true h hx2 hy2
      subst h1; subst h2
      refine ⟨rfl, rfl, ?_⟩
      show Instr.sameBits (9999 + 1) (.agg xs.toArray) (.agg xs.toArray) = true
      simp only [Instr.sameBits, beq_self_eq_true, Bool.true_and, List.all_eq_true]
      intro p hp
      obtain ⟨i, hi, e⟩ := List.getElem_of_mem hp
      rw [List.getElem_zip] at e
      rw [← e]
      have hm : xs.toArray.toList[i]'(by simp at hi; simpa using hi) ∈ xs := by simp
      rcases h3 _ hm with ⟨k, n, e2⟩ | ⟨b, e2⟩ | ⟨s, e2⟩ <;> simp only [e2] <;> simp [Instr.sameBits, bytes_refl]
  · cases h

theorem check_fields {xs : List Value} {w : World} {em : Bool} : ∀ (fs : List Field) (n : Nat) (ks : List Nat) (as : List AV), structCmp P fs n ks = true → RepL C as (xs.drop n) → as.length = fs.length →
    (forIn fs PUnit.unit fun f _ => (do
      if f.name ≠ "_" then Instr.checkKey em 9999 f.type (← part f.type xs.toArray f.offset)
      pure (ForInStep.yield PUnit.unit) : Sem (ForInStep PUnit))).run P w = .ok PUnit.unit w
  | [], n, ks, as, hs, r1, hl => by simp
  | f :: fs, n, ks, as, hs, r1, hl => by
    cases ks with
    | nil => simp [structCmp] at hs
    | cons k ks =>
      simp only [structCmp, Bool.and_eq_true, beq_iff_eq, bne_iff_ne] at hs
      obtain ⟨⟨⟨s1, s2⟩, s3⟩, s4⟩ := hs
      cases as with
      | nil => simp at hl
      | cons x as =>
        have hl1 : n < xs.length := by have := r1.1; simp at this; omega
        have d1 : xs.drop n = xs[n] :: xs.drop (n + 1) := List.drop_eq_getElem_cons hl1
        rw [d1] at r1
        have t1 : RepL C as (xs.drop (n + 1)) := ⟨by have := r1.1; simp only [List.length_cons] at this; omega, fun j av v e e' => r1.2 (j + 1) av v e e'⟩
        have hp1 : (part f.type xs.toArray f.offset).run P w = .ok xs[n] w := by
          simp only [part, Sem.run_bind, run_isAgg (kind_agg s3), Result.andThen_ok, s2]
          simp [hl1]
        have hck : (Instr.checkKey em 9999 f.type xs[n]).run P w = .ok () w := by
          exact check_basic s3 em 9998 _ w
        simp only [List.forIn_cons, Sem.run_bind, hp1, hck, s1, ne_eq, not_false_eq_true, if_true, Result.andThen_ok, Sem.run_pure]
        exact check_fields fs (n + 1) ks as s4 t1 (by simpa using hl)

theorem check_items {xs : List Value} {w : World} {em : Bool} {e : Nat} {ie : TypeInfo} (hi : P.info? e = some ie) (hce : P.cellsOf e = 1) : ∀ (ks : List Nat) (n : Nat) (as : List AV), ks.all (kindIs P e) = true → RepL C as (xs.drop n) → as.length = ks.length →
    (forIn (List.range' n ks.length) PUnit.unit fun i _ => (do
      Instr.checkKey em 9999 e (← part e xs.toArray (i * (← sizeOf e)))
      pure (ForInStep.yield PUnit.unit) : Sem (ForInStep PUnit))).run P w = .ok PUnit.unit w
  | [], n, as, hs, r1, hl => by simp
  | k :: ks, n, as, hs, r1, hl => by
    simp only [List.all_cons, Bool.and_eq_true] at hs
    cases as with
    | nil => simp at hl
    | cons x as =>
      have hl1 : n < xs.length := by have := r1.1; simp at this; omega
      have d1 : xs.drop n = xs[n] :: xs.drop (n + 1) := List.drop_eq_getElem_cons hl1
      rw [d1] at r1
      have t1 : RepL C as (xs.drop (n + 1)) := ⟨by have := r1.1; simp only [List.length_cons] at this; omega, fun j av v e e' => r1.2 (j + 1) av v e e'⟩
      have hp1 : (part e xs.toArray (n * 1)).run P w = .ok xs[n] w := by
        simp only [part, Sem.run_bind, run_isAgg (kind_agg hs.1), Result.andThen_ok, Nat.mul_one]
        simp [hl1]
      have hck : (Instr.checkKey em 9999 e xs[n]).run P w = .ok () w := check_basic hs.1 em 9998 _ w
      simp only [List.length_cons, List.range'_succ, List.forIn_cons, Sem.run_bind, run_sizeOf w hi, hce, hp1, hck, Result.andThen_ok, Sem.run_pure]
      exact check_items hi hce ks (n + 1) as hs.2 t1 (by simpa using hl)

theorem key_check {kt kd : Nat} {ks : List Nat} {x : AV} {u : Value} {r : Bool} (w : World) (em : Bool) (hk : keyTy P kt kd ks = true) (h : keyEq kd ks x x = some r) (hx : Rep C x u) :
    (Instr.checkKey em 10000 kt u).run P w = .ok () w := by
  show (Instr.checkKey em (9999 + 1) kt u).run P w = .ok () w
  have basic : kindIs P kt kd = true → (Instr.checkKey em (9999 + 1) kt u).run P w = .ok () w := fun hk => by
    exact check_basic hk em 9999 _ w
  unfold keyEq at h
  split at h
  · exact basic hk
  · exact basic hk
  · exact basic hk
  · rename_i as bs e1
    obtain ⟨xs, rfl, hx2, _⟩ := hx.agg_inv
    simp only [keyTy] at hk
    split at hk
    · rename_i fs hu
      simp only [Bool.and_eq_true, Bool.not_eq_true'] at hk
      obtain ⟨_, h2⟩ := acells_refl_len (w := w) hk.2 h
      have := check_fields (C := C) (P := P) (xs := xs) (w := w) (em := em) fs.toList 0 ks _ hk.2 (by simpa using hx2) h2
      rw [Instr.checkKey]
      simp only [Sem.run_bind, run_underlying hu, Result.andThen_ok]
      rw [← Array.forIn_toList]
      simp only [Sem.run_bind] at this ⊢
      refine Eq.trans (b := (Result.ok PUnit.unit w).andThen fun a w' => (pure () : Sem Unit).run P w') ?_ rfl
      congr 1
    · rename_i n e hu
      simp only [Bool.and_eq_true, beq_iff_eq] at hk
      obtain ⟨⟨h1, h2⟩, h3⟩ := hk
      obtain ⟨ie, hi, hsz⟩ := sizeIs_iff h1
      have hce : P.cellsOf e = 1 := by
        have := run_sizeOf w hi
        have h4 : (sizeOf e).run P w = .ok ie.size w := by simp [sizeOf, run_typeInfo w hi]
        rw [h4] at this
        injection this with this
        rw [← this]; exact hsz
      have h5 := structCmp_fake (P := P) (e := e) ks 0 h3
      rw [h2] at h5
      obtain ⟨_, h6⟩ := acells_refl_len (w := w) h5 h
      have := check_items (C := C) (P := P) (xs := xs) (w := w) (em := em) hi hce ks 0 e1 h3 (by simpa using hx2) (by rw [h6]; simp [h2])
      rw [Instr.checkKey]
      simp only [Sem.run_bind, run_underlying hu, Result.andThen_ok]
      simp only [Std.Legacy.Range.forIn_eq_forIn_range', Std.Legacy.Range.size, Nat.sub_zero, Nat.add_one_sub_one, Nat.div_one, ← h2]
      rw [this]
      rfl
    · cases hk
  · cases h

end
end Go.Proofs.Abs

namespace Go.Proofs.Abs
open Go
variable [Globs] {D : List Deferred}

def mix (kd : Nat) (ks : List Nat) : List (AV × AV) → AV → Option (Option Nat)
  | [], k => match keyEq kd ks k k with
    | some _ => some none
    | none => none
  | (k', v) :: r, k => match keyEq kd ks k k' with
    | some true => some (some 0)
    | some false => (mix kd ks r k).map fun o => o.map (· + 1)
    | none => none

theorem mfind_mix {kd : Nat} {ks : List Nat} : ∀ {es : List (AV × AV)} {k : AV} {r : Option AV}, mfind kd ks es k = some r → ∃ o, mix kd ks es k = some o ∧ r = o.bind fun j => (es[j]?).map (·.2)
  | [], k, r, h => by
    simp only [mfind] at h
    split at h
    · rename_i b hb
      simp only [Option.some.injEq] at h
      subst h
      exact ⟨none, by simp [mix, hb], rfl⟩
    · cases h
  | (k', v) :: es, k, r, h => by
    simp only [mfind] at h
    split at h
    · rename_i hb
      simp only [Option.some.injEq] at h
      subst h
      exact ⟨some 0, by simp [mix, hb], rfl⟩
    · rename_i hb
      obtain ⟨o, h1, h2⟩ := mfind_mix h
      refine ⟨o.map (· + 1), by simp [mix, hb, h1], ?_⟩
      rw [h2]
      cases o <;> simp
    · cases h
theorem mput_mix {kd : Nat} {ks : List Nat} {v : AV} : ∀ {es es' : List (AV × AV)} {k : AV}, mput kd ks es k v = some es' → ∃ o, mix kd ks es k = some o ∧ es' = (match o with | none => es ++ [(k, v)] | some j => es.set j (k, v))
  | [], es', k, h => by
    simp only [mput] at h
    split at h
    · rename_i b hb
      simp only [Option.some.injEq] at h
      subst h
      exact ⟨none, by simp [mix, hb], rfl⟩
    · cases h
  | (k', v') :: es, es', k, h => by
    simp only [mput] at h
    split at h
    · rename_i hb
      simp only [Option.some.injEq] at h
      subst h
      exact ⟨some 0, by simp [mix, hb], rfl⟩
    · rename_i hb
      simp only [Option.map_eq_some_iff] at h
      obtain ⟨es2, h, rfl⟩ := h
      obtain ⟨o, h1, h2⟩ := mput_mix h
      refine ⟨o.map (· + 1), by simp [mix, hb, h1], ?_⟩
      rw [h2]
      cases o <;> simp
    · cases h

section
variable {P : Program} {C : Ctx} {kt kd : Nat} {ks : List Nat} {x : AV} {u : Value}
theorem repl_cons {y : AV} {as : List AV} {v : Value} {vs : List Value} (h : RepL C (y :: as) (v :: vs)) : Rep C y v ∧ RepL C as vs :=
  ⟨h.2 0 _ _ rfl rfl, ⟨by have := h.1; simpa using this, fun j av v e e' => h.2 (j + 1) av v e e'⟩⟩

theorem mix_typed (hk : keyTy P kt kd ks = true) (hx : Rep C x u) : ∀ {es : List (AV × AV)} {vs : List Value} {o : Option Nat}, RepL C (es.map (·.1)) vs → mix kd ks es x = some o → ∃ b, keyEq kd ks x x = some b
  | [], vs, o, _, h => by
    simp only [mix] at h
    split at h
    · rename_i b hb; exact ⟨b, hb⟩
    · cases h
  | (k', v) :: es, vs, o, hr, h => by
    cases vs with
    | nil => have := hr.1; simp at this
    | cons v0 vs =>
      obtain ⟨r1, r2⟩ := repl_cons hr
      simp only [mix] at h
      split at h
      · rename_i hb
        obtain ⟨_, h2⟩ := key_equal C.w hk hb hx r1
        obtain ⟨_, h3, _⟩ := h2 rfl
        refine ⟨true, ?_⟩
        have h3' : x = k' := h3
        rw [← h3'] at hb
        exact hb
      · simp only [Option.map_eq_some_iff] at h
        obtain ⟨o', h, _⟩ := h
        exact mix_typed hk hx r2 h
      · cases h

def Found (C : Ctx) (u : Value) (ents : List MapEntry) (i : Nat) (o : Option Nat) (f : Option (Nat × Value)) : Prop :=
  match o with
  | none => f = none
  | some j => ∃ e, ents[j]? = some e ∧ f = some (i + j, e.val) ∧ e.key = u ∧ Instr.sameBits 10000 e.key u = true

theorem found_step {e : MapEntry} {ents : List MapEntry} {i : Nat} {o : Option Nat} {f : Option (Nat × Value)} (h : Found C u ents (i + 1) o f) : Found C u (e :: ents) i (o.map (· + 1)) f := by
  cases o with
  | none => exact h
  | some j =>
    obtain ⟨e', h1, h2, h3, h4⟩ := h
    exact ⟨e', by simpa using h1, by rw [h2]; simp; omega, h3, h4⟩

theorem run_asking (hk : keyTy P kt kd ks = true) (hx : Rep C x u) : ∀ {es : List (AV × AV)} {ents : List MapEntry} {o : Option Nat} (i : Nat), RepL C (es.map (·.1)) (ents.map (·.key)) → mix kd ks es x = some o →
    ∃ f, (Instr.findAsking kt u ents i).run P C.w = .ok f C.w ∧ Found C u ents i o f
  | [], ents, o, i, hr, h => by
    cases ents with
    | cons => have := hr.1; simp at this
    | nil =>
      simp only [mix] at h
      split at h
      · simp only [Option.some.injEq] at h
        subst h
        exact ⟨none, by simp [Instr.findAsking], rfl⟩
      · cases h
  | (k', v) :: es, ents, o, i, hr, h => by
    cases ents with
    | nil => have := hr.1; simp at this
    | cons e ents =>
      obtain ⟨r1, r2⟩ := repl_cons hr
      have r1 : Rep C k' e.key := r1
      simp only [mix] at h
      split at h
      · rename_i hb
        simp only [Option.some.injEq] at h
        subst h
        obtain ⟨h1, h2⟩ := key_equal C.w hk hb hx r1
        obtain ⟨h3, _, h4⟩ := h2 rfl
        refine ⟨some (i, e.val), by simp [Instr.findAsking, h1], e, rfl, by simp, h3.symm, by rw [← h3]; exact h4⟩
      · rename_i hb
        obtain ⟨h1, _⟩ := key_equal C.w hk hb hx r1
        simp only [Option.map_eq_some_iff] at h
        obtain ⟨o', h, rfl⟩ := h
        obtain ⟨f, h2, h3⟩ := run_asking hk hx (i + 1) r2 h
        exact ⟨f, by simp [Instr.findAsking, h1, h2], found_step h3⟩
      · cases h

theorem run_now {d : TypeDesc} (hd : P.underlying kt = some d) (h3 : kd ≠ 3) (hk : keyTy P kt kd ks = true) (hx : Rep C x u) : ∀ {es : List (AV × AV)} {ents : List MapEntry} {o : Option Nat} (i : Nat), RepL C (es.map (·.1)) (ents.map (·.key)) → mix kd ks es x = some o →
    ∃ f, Instr.findNow d u ents i = some f ∧ Found C u ents i o f
  | [], ents, o, i, hr, h => by
    cases ents with
    | cons => have := hr.1; simp at this
    | nil =>
      simp only [mix] at h
      split at h
      · simp only [Option.some.injEq] at h
        subst h
        exact ⟨none, rfl, rfl⟩
      · cases h
  | (k', v) :: es, ents, o, i, hr, h => by
    cases ents with
    | nil => have := hr.1; simp at this
    | cons e ents =>
      obtain ⟨r1, r2⟩ := repl_cons hr
      have r1 : Rep C k' e.key := r1
      have hs : ∀ b, keyEq kd ks x k' = some b → Instr.sameNow d u e.key = some b := by
        intro b hb
        have hkk : kindIs P kt kd = true := by
          unfold keyTy at hk
          split at hk
          · exact absurd rfl h3
          · exact hk
        unfold keyEq at hb
        split at hb
        · split at hb
          · rename_i hkk2
            subst hkk2
            simp only [Option.some.injEq] at hb
            subst hb
            rw [hx.int_inv, r1.int_inv]
            rcases kind_cases hkk with ⟨_, i, e⟩ | ⟨h0, _⟩ | ⟨h0, _⟩
            · rw [hd] at e; injection e with e; subst e; simp [Instr.sameNow]
            · cases h0
            · cases h0
          · cases hb
        · simp only [Option.some.injEq] at hb
          subst hb
          rw [hx.bool_inv, r1.bool_inv]
          rcases kind_cases hkk with ⟨h0, _⟩ | ⟨_, e⟩ | ⟨h0, _⟩
          · cases h0
          · rw [hd] at e; injection e with e; subst e; simp [Instr.sameNow]
          · cases h0
        · simp only [Option.some.injEq] at hb
          subst hb
          rw [hx.str_inv, r1.str_inv]
          rcases kind_cases hkk with ⟨h0, _⟩ | ⟨h0, _⟩ | ⟨_, e⟩
          · cases h0
          · cases h0
          · rw [hd] at e; injection e with e; subst e; simp [Instr.sameNow]
        · exact absurd rfl h3
        · cases hb
      simp only [mix] at h
      split at h
      · rename_i hb
        simp only [Option.some.injEq] at h
        subst h
        obtain ⟨h1, h2⟩ := key_equal C.w hk hb hx r1
        obtain ⟨h3', _, h4⟩ := h2 rfl
        refine ⟨some (i, e.val), by simp [Instr.findNow, hs _ hb], e, rfl, by simp, h3'.symm, by rw [← h3']; exact h4⟩
      · rename_i hb
        simp only [Option.map_eq_some_iff] at h
        obtain ⟨o', h, rfl⟩ := h
        obtain ⟨f, h2, h5⟩ := run_now hd h3 hk hx (i + 1) r2 h
        exact ⟨f, by simp [Instr.findNow, hs _ hb, h2], found_step h5⟩
      · cases h

theorem run_find (hk : keyTy P kt kd ks = true) (hx : Rep C x u) {es : List (AV × AV)} {ents : List MapEntry} {o : Option Nat} (hr : RepL C (es.map (·.1)) (ents.map (·.key))) (h : mix kd ks es x = some o) :
    ∃ f, (Instr.findKey kt u ents).run P C.w = .ok f C.w ∧ Found C u ents 0 o f := by
  by_cases h3 : kd = 3
  · subst h3
    obtain ⟨f, h1, h2⟩ := run_asking hk hx 0 hr h
    refine ⟨f, ?_, h2⟩
    rw [run_findKey_eq C.w]
    · exact h1
    · simp only [keyTy] at hk
      split at hk
      · rename_i e; rw [e]
      · rename_i e; rw [e]
      · cases hk
  · have hkk : kindIs P kt kd = true := by
      unfold keyTy at hk
      split at hk
      · exact absurd rfl h3
      · exact hk
    have hd : ∃ d, P.underlying kt = some d := by rcases kind_cases hkk with ⟨_, i, e⟩ | ⟨_, e⟩ | ⟨_, e⟩ <;> exact ⟨_, e⟩
    obtain ⟨d, hd⟩ := hd
    obtain ⟨f, h1, h2⟩ := run_now hd h3 hk hx 0 hr h
    exact ⟨f, by simp [Instr.findKey, run_underlying hd, h1], h2⟩

theorem map_inv {id : Id} {es : List (AV × AV)} {v : Value} (hr : HRep C) (h : Rep C (.map id) v) (ho : hget C.H id = some (.map es)) :
    ∃ g ents clock, v = .map (some g) ∧ C.φ id = .map (some g) ∧ C.w.heap[g]? = some (.map ents clock) ∧ RepL C (es.map (·.1)) (ents.toList.map (·.key)) ∧ RepL C (es.map (·.2)) (ents.toList.map (·.val)) := by
  obtain ⟨g, ents, clock, h1, h2, h3, h4⟩ := hr.obj id _ ho
  refine ⟨g, ents, clock, ?_, h1, h2, h3, h4⟩
  cases h with
  | map _ _ ha hs hoo => rw [← h1]; exact hoo _ ho rfl
end

section
variable {P : Program} {o : Oper} {a : Act} {C : Ctx} {nt : Nat} {s s' : St} {av : AV}
theorem ok_look {kd : Nat} {ks : List Nat} {zero : AV} {ok : Bool} {m k : AX} (sim : SimE D nt s.env C a) (hH : C.H = s.heap) (hr : HRep C) (hc : chkIns P o (.look kd ks zero ok m k) = true) (h : ains (.look kd ks zero ok m k) s = some (av, s')) :
    OpRes C (s.p ++ [s.k]) ((execOp a.eval o).run P C.w) av s'.heap := by
  simp only [ains] at h
  simp only [chkIns] at hc
  split at hc
  · rename_i t m' k' ok' eo
    simp only [Bool.and_eq_true, beq_iff_eq] at hc
    obtain ⟨⟨⟨rfl, c1⟩, c2⟩, c3⟩ := hc
    have hm := rep_opd sim c1
    have hx := rep_opd sim c2
    split at c3
    · rename_i kt e hu
      simp only [Bool.and_eq_true] at c3
      obtain ⟨c3, c4⟩ := c3
      have hz : ∃ ie z, P.info? e = some ie ∧ ie.zero = some z ∧ constOK z zero = true := by
        unfold zero1 at c4
        split at c4
        · rename_i ie hi
          split at c4
          · rename_i z hz; exact ⟨ie, z, hi, hz, c4⟩
          · cases c4
        · cases c4
      obtain ⟨ie, z, hi, hz, hzc⟩ := hz
      have hzr := rep_const C hzc
      split at h
      · rename_i id em
        rw [em] at hm
        split at h
        · rename_i es ho
          rw [← hH] at ho
          obtain ⟨g, ents, clock, h1, _, h2, h3, h4⟩ := map_inv hr hm ho
          have main : ∀ (r : Option AV), mfind kd ks es (k.ev s.env) = some r → ∃ v b, (match r with | some y => Rep C y v ∧ b = true | none => v = z ∧ b = false) ∧
              (execOp a.eval o).run P C.w = .ok (.value (if ok' then .tuple #[v, .bool b] else v)) C.w := by
            intro r hf
            obtain ⟨ix, h5, h6⟩ := mfind_mix hf
            obtain ⟨f, h7, h8⟩ := run_find c3 hx h3 h5
            obtain ⟨b, h9⟩ := mix_typed c3 hx h3 h5
            have h10 := key_check C.w ents.isEmpty c3 h9 hx
            cases ix with
            | none =>
              simp only [Option.bind_none] at h6
              subst h6
              have h8 : f = none := h8
              subst h8
              refine ⟨z, false, ⟨rfl, rfl⟩, ?_⟩
              simp [execOp, eo, Instr.lookup, run_underlying hu, h1, MapKept.run_getObj_map h2, h10, h7, run_zeroValue' hi hz]
            | some j =>
              obtain ⟨en, h11, rfl, h12, _⟩ := h8
              have hj : j < es.length := by
                have := (List.getElem?_eq_some_iff.1 h11).1
                have h13 := h3.1
                simp at h13
                simp at this
                omega
              simp only [Option.bind_some, List.getElem?_eq_getElem hj, Option.map_some] at h6
              subst h6
              refine ⟨en.val, true, ⟨h4.2 j _ _ (by simp [hj]) (by simp only [List.getElem?_map, h11]; rfl), rfl⟩, ?_⟩
              simp [execOp, eo, Instr.lookup, run_underlying hu, h1, MapKept.run_getObj_map h2, h10, h7]
          split at h
          · rename_i y hf
            simp only [Option.some.injEq, Prod.mk.injEq] at h
            obtain ⟨rfl, rfl⟩ := h
            obtain ⟨v, b, ⟨h5, rfl⟩, h6⟩ := main _ hf
            refine .pure hr h6 ?_ hH
            cases ok'
            · exact h5
            · exact .tuple _ [v, .bool true] rfl (RepL.cons h5 (RepL.cons (.bool true) .nil)).2
          · rename_i hf
            simp only [Option.some.injEq, Prod.mk.injEq] at h
            obtain ⟨rfl, rfl⟩ := h
            obtain ⟨v, b, ⟨rfl, rfl⟩, h6⟩ := main _ hf
            refine .pure hr h6 ?_ hH
            cases ok'
            · exact hzr
            · exact .tuple _ [v, .bool false] rfl (RepL.cons hzr (RepL.cons (.bool false) .nil)).2
          · cases h
        · cases h
      · cases h
    · cases c3
  · cases hc

theorem ok_mset {kd : Nat} {ks : List Nat} {m k v : AX} (sim : SimE D nt s.env C a) (hH : C.H = s.heap) (hr : HRep C) (hc : chkIns P o (.mset kd ks m k v) = true) (h : ains (.mset kd ks m k v) s = some (av, s')) :
    OpRes C (s.p ++ [s.k]) ((execOp a.eval o).run P C.w) av s'.heap := by
  simp only [ains] at h
  have main : ∀ (t : Nat) (m' k' x : Operand) (kt e : Nat), (execOp a.eval o = do Instr.mapUpdate t (a.eval m') (a.eval k') (a.eval x); pure Next.skip) → opdOK m' m = true → opdOK k' k = true → opdOK x v = true → P.underlying t = some (.map kt e) → keyTy P kt kd ks = true →
      OpRes C (s.p ++ [s.k]) ((execOp a.eval o).run P C.w) av s'.heap := by
    intro t m' k' x kt e hex c1 c2 c3 hu c4
    have hm := rep_opd sim c1
    have hx := rep_opd sim c2
    have hv := rep_opd sim c3
    split at h
    · rename_i id em
      rw [em] at hm
      split at h
      · rename_i y H1 hz
        rw [← hH] at hz
        obtain ⟨f1, _, f3⟩ := fzd_ok 4 _ _ _ _ hz
        have hv1 := f3 C _ rfl hr hv
        have hr1 : HRep { C with H := H1 } := f1.hrep hr
        have hx1 := hx.ext f1.ext
        have hm1 := hm.ext f1.ext
        split at h
        · rename_i es ho
          split at h
          · rename_i es' hp
            simp only [Option.some.injEq, Prod.mk.injEq] at h
            obtain ⟨rfl, rfl⟩ := h
            obtain ⟨g, ents, clock, h1, hφ, h2, h3, h4⟩ := map_inv (C := { C with H := H1 }) hr1 hm1 ho
            obtain ⟨ix, h5, h6⟩ := mput_mix hp
            obtain ⟨f, h7, h8⟩ := run_find (C := { C with H := H1 }) c4 hx1 h3 h5
            obtain ⟨b, h9⟩ := mix_typed (C := { C with H := H1 }) c4 hx1 h3 h5
            have h10 := key_check (C := { C with H := H1 }) C.w false c4 h9 hx1
            have h2' : C.w.heap[g]? = some (.map ents clock) := h2
            have h7' : (Instr.findKey kt (a.eval k') ents.toList).run P C.w = .ok f C.w := h7
            have hglt : g < C.w.heap.size := (Array.getElem?_eq_some_iff.1 h2').1
            -- the world behind it
            have fin : ∀ (ents' : Array MapEntry) (clock' : Nat), (Instr.mapUpdate t (a.eval m') (a.eval k') (a.eval x)).run P C.w = .ok () { C.w with heap := C.w.heap.setIfInBounds g (.map ents' clock') } →
                (∀ C2 : Ctx, (∀ av v, Rep { C with H := H1 } av v → Rep C2 av v) → RepL C2 (es'.map (·.1)) (ents'.toList.map (·.key)) ∧ RepL C2 (es'.map (·.2)) (ents'.toList.map (·.val))) →
                OpRes C (s.p ++ [s.k]) ((execOp a.eval o).run P C.w) .undef (hset H1 id (.map es')) := by
              intro ents' clock' hrun hrep
              refine .set (C := { C with H := H1 }) (C0 := C) (ob := .map es) (ob' := .map es') (v := C.φ id) (w := { C.w with heap := C.w.heap.setIfInBounds g (.map ents' clock') }) (nv := .skip) hr1 f1.ext rfl
                ⟨ho, rfl, Nat.le_refl _, fun _ => rfl, by simp, rfl, rfl, rfl, fun j hj hne => ?_, fun _ _ _ hm => absurd trivial hm, .inl ⟨rfl, fun off hmm => trivial⟩⟩
                (fun he => ⟨g, ents', clock', by rw [put_self]; exact hφ, by show (C.w.heap.setIfInBounds g _)[g]? = _; simp [hglt], ?_⟩) ?_ (.inr ⟨rfl, rfl⟩) rfl
              · have hne' : g ≠ j := fun e => hne (by show some j = blk (C.φ id); have : C.φ id = .map (some g) := hφ; rw [this, ← e]; rfl)
                show (C.w.heap.setIfInBounds g _)[j]? = _
                rw [Array.getElem?_setIfInBounds_ne hne']
              · exact hrep _ fun _ _ r => r.ext he
              · rw [hex, Sem.run_bind, hrun]
                rfl
            cases ix with
            | none =>
              have h8 : f = none := h8
              subst h8
              simp only at h6
              refine fin (ents.push { key := a.eval k', val := a.eval x, born := clock }) (clock + 1) ?_ fun C2 hmono => ?_
              · simp [Instr.mapUpdate, run_underlying hu, h1, MapKept.run_getObj_map h2', h10, h7', MapKept.run_setObj_map _ h2']
              · rw [h6]
                simp only [List.map_append, List.map_cons, List.map_nil, Array.toList_push]
                exact ⟨(h3.mono hmono).app (.cons (hmono _ _ hx1) .nil), (h4.mono hmono).app (.cons (hmono _ _ hv1) .nil)⟩
            | some j =>
              obtain ⟨en, h11, rfl, h12, h13⟩ := h8
              simp only at h6
              have hj : j < ents.size := by simpa using (List.getElem?_eq_some_iff.1 h11).1
              have hent : ents[j]? = some en := by simpa using h11
              refine fin (ents.modify j fun e => { e with key := a.eval k', val := a.eval x }) clock ?_ fun C2 hmono => ?_
              · have hst : (Instr.keyThatStays (a.eval k') (a.eval k')).run P C.w = .ok (a.eval k') C.w := by
                  rw [h12] at h13
                  simp [Instr.keyThatStays, h13]
                simp [Instr.mapUpdate, run_underlying hu, h1, MapKept.run_getObj_map h2', h10, h7', hent, h12, hst, MapKept.run_setObj_map _ h2']
              · rw [h6]
                have e1 : (ents.modify j fun e => { e with key := a.eval k', val := a.eval x }).toList.map (·.key) = (ents.toList.map (·.key)).set j (a.eval k') := by
                  apply List.ext_getElem?
                  intro i
                  simp only [Array.toList_modify, List.getElem?_map, List.getElem?_modify, List.getElem?_set, List.length_map, Array.length_toList]
                  by_cases hij : j = i
                  · subst hij; simp [hj]
                  · simp [hij]
                have e2 : (ents.modify j fun e => { e with key := a.eval k', val := a.eval x }).toList.map (·.val) = (ents.toList.map (·.val)).set j (a.eval x) := by
                  apply List.ext_getElem?
                  intro i
                  simp only [Array.toList_modify, List.getElem?_map, List.getElem?_modify, List.getElem?_set, List.length_map, Array.length_toList]
                  by_cases hij : j = i
                  · subst hij; simp [hj]
                  · simp [hij]
                have set1 : ∀ {as : List AV} {vs : List Value} {y : AV} {v : Value}, RepL C2 as vs → Rep C2 y v → RepL C2 (as.set j y) (vs.set j v) := by
                  intro as vs y v hr hy
                  refine ⟨by simp [hr.1], fun i av v' e e' => ?_⟩
                  rw [List.getElem?_set] at e e'
                  by_cases hij : j = i
                  · subst hij
                    rw [if_pos rfl] at e e'
                    split at e
                    · split at e'
                      · injection e with e; injection e' with e'; subst e; subst e'; exact hy
                      · cases e'
                    · cases e
                  · rw [if_neg hij] at e e'
                    exact hr.2 i _ _ e e'
                rw [e1, e2, List.map_set, List.map_set]
                exact ⟨set1 (h3.mono hmono) (hmono _ _ hx1), set1 (h4.mono hmono) (hmono _ _ hv1)⟩
          · cases h
        · cases h
      · cases h
    · cases h
  simp only [chkIns] at hc
  split at hc
  · rename_i t m' k' x eo
    simp only [Bool.and_eq_true] at hc
    obtain ⟨⟨⟨c1, c2⟩, c3⟩, c4⟩ := hc
    split at c4
    · rename_i kt e hu
      exact main t m' k' x kt e (by simp [execOp, eo]) c1 c2 c3 hu c4
    · cases c4
  · rename_i t m' k' x eo
    simp only [Bool.and_eq_true] at hc
    obtain ⟨⟨⟨c1, c2⟩, c3⟩, c4⟩ := hc
    split at c4
    · rename_i kt e hu
      exact main t m' k' x kt e (by simp [execOp, eo]) c1 c2 c3 hu c4
    · cases c4
  · cases hc
end
section
variable {P : Program} {o : Oper} {a : Act} {C : Ctx} {nt : Nat} {s s' : St} {av : AV}
theorem ok_gsl {n : Nat} {x : AX} (sim : SimE D nt s.env C a) (hH : C.H = s.heap) (hr : HRep C) (hc : chkIns P o (.gsl n x) = true) (h : ains (.gsl n x) s = some (av, s')) :
    OpRes C (s.p ++ [s.k]) ((execOp a.eval o).run P C.w) av s'.heap := by
  simp only [ains] at h
  simp only [chkIns] at hc
  split at hc
  · rename_i t x' eo
    simp only [Bool.and_eq_true] at hc
    obtain ⟨c1, c2⟩ := hc
    have hv := rep_opd sim c1
    split at c2
    · rename_i n' e hu
      simp only [Bool.and_eq_true, beq_iff_eq] at c2
      obtain ⟨rfl, c3⟩ := c2
      split at h
      · rename_i cs ec
        split at h
        · rename_i hcond
          obtain ⟨h0, hl⟩ := hcond
          simp only [Option.some.injEq, Prod.mk.injEq] at h
          obtain ⟨rfl, rfl⟩ := h
          rw [ec] at hv
          generalize ex : a.eval x' = u at hv
          cases hv with
          | rp _ ad vals hs hf hvv =>
            have hadd : ad.add (0 * 1) = ad := by
              rw [add_none hs]
              obtain ⟨b, f, sp⟩ := ad
              simp only at hs
              subst hs
              simp
            have hrun := run_bounds (P := P) (isSlice := false) (len := n') (cap := n') (l := 0) (h := n') (m := n') (lo := none) (hi := none) (mx := none) C.w
              (.inl ⟨rfl, rfl⟩) (.inl ⟨rfl, rfl⟩) (.inl ⟨rfl, rfl⟩) (by simp) (by omega) (Nat.le_refl _) (Nat.le_refl _)
            have hne : ¬ n' = 0 := by omega
            have hfl : (cs.map fun c => [c]).flatten = cs := by
              clear hl ec hf hvv
              induction cs with
              | nil => rfl
              | cons c l ih => simp [ih]
            have hlen : (cs.map fun c => [c]).length = n' := by rw [List.length_map]; exact hl
            refine .pure hr (v := .slice (some ad) n' n') ?_ ?_ hH
            · simp [execOp, eo, ex, Instr.sliceAt, Instr.sureAddr, run_underlying hu, hrun, run_sizeOf' c3, hne, hadd]
            · have hrep : Rep C (.list 1 (cs.map fun c => [c])) (.slice (some ad) (cs.map fun c => [c]).length n') := by
                refine .list 1 _ _ _ vals (by omega) (by rw [hlen]; exact Nat.le_refl _) (by simp) (by simp) (fun _ => ⟨_, rfl, hs⟩) (fun j av ej => ?_) (fun j av ej => ?_)
                · rw [hfl] at ej
                  exact ⟨(hf j av ej).1, fun ad' ea => by injection ea with ea; subst ea; exact (hf j av ej).2⟩
                · rw [hfl] at ej
                  exact hvv j av ej
              rw [hlen] at hrep
              exact hrep
        · cases h
      · cases h
    · cases c2
  · cases hc
end
section
variable {P : Program} {o : Oper} {a : Act} {C : Ctx} {nt : Nat} {s s' : St} {av : AV}
theorem ok_s2b {x : AX} (sim : SimE D nt s.env C a) (hH : C.H = s.heap) (hr : HRep C) (hc : chkIns P o (.s2b x) = true) (h : ains (.s2b x) s = some (av, s')) :
    OpRes C (s.p ++ [s.k]) ((execOp a.eval o).run P C.w) av s'.heap := by
  simp only [ains] at h
  simp only [chkIns] at hc
  split at hc
  · rename_i src dst x' eo
    simp only [Bool.and_eq_true] at hc
    obtain ⟨⟨c1, c2⟩, c3⟩ := hc
    have hv := rep_opd sim c1
    split at h
    · rename_i b eb
      simp only [Option.some.injEq, Prod.mk.injEq] at h
      obtain ⟨rfl, rfl⟩ := h
      rw [eb] at hv
      obtain ⟨u, hu⟩ := Option.isSome_iff_exists.1 c2
      split at c3
      · rename_i e hd
        split at c3
        · rename_i he
          have hrun := Go.Lib.run_convert_string_bytes (P := P) C.w src dst e b hu hd he
          have hx : Ext C { C with w := Go.Lib.bytesWorld C.w e b } :=
            ⟨by simp [Go.Lib.bytesWorld_size], rfl, rfl, rfl, fun k hk _ => Go.Lib.bytesWorld_at_old _ _ _ _ hk, fun k off hk _ => Go.Lib.bytesWorld_old _ _ _ ⟨k, off, none⟩ hk, fun _ _ _ h => h, fun _ _ h => h, fun _ h => h, rfl, fun _ o' _ h => ⟨o', h, rfl, Nat.le_refl _, fun _ => rfl⟩⟩
          have hr' : HRep { C with w := Go.Lib.bytesWorld C.w e b } :=
            ⟨hr.nd, hr.av, fun id o' e' => (hr.obj id o' e').step rfl (fun g hg => Go.Lib.bytesWorld_at_old _ _ _ _ (obj_lt (hr.obj id o' e') hg)) (fun _ _ r => r.ext hx), hr.inj, hr.own, fun g off hh => Nat.lt_of_lt_of_le (hr.xlt g off hh) hx.size, hr.glob.ext hx⟩
          have hlen : (b.data.toList.map fun c => [AV.int .u8 c.toNat]).length = b.size := by rw [List.length_map]; exact Array.length_toList
          have hfl : (b.data.toList.map fun c => [AV.int .u8 c.toNat]).flatten = b.data.toList.map fun c => AV.int .u8 c.toNat := by
            generalize b.data.toList = l
            induction l with
            | nil => rfl
            | cons c l ih => simp [ih]
          refine ⟨{ C with w := Go.Lib.bytesWorld C.w e b }, .value (.slice (some ⟨C.w.heap.size, 0, none⟩) b.size (grownCap C.w b.size 0 e)), ?_, .inl ⟨_, rfl, ?_⟩, hH, hr', hx, fun _ h _ => h⟩
          · simp [execOp, eo, hv.str_inv, hrun]
          · have hrep : Rep { C with w := Go.Lib.bytesWorld C.w e b } (.list 1 (b.data.toList.map fun c => [AV.int .u8 c.toNat])) (.slice (some ⟨C.w.heap.size, 0, none⟩) (b.data.toList.map fun c => [AV.int .u8 c.toNat]).length (grownCap C.w b.size 0 e)) := by
              refine .list 1 _ _ _ (fun j => .int .u8 (b.data.toList.getD j 0).toNat) (by omega) (by rw [hlen]; exact grownCap_ge _ _ _ _) (by simp) (by simp) (fun _ => ⟨_, rfl, rfl⟩) (fun j av ej => ?_) (fun j av ej => ?_)
              · rw [hfl] at ej
                rw [List.getElem?_map] at ej
                simp only [Option.map_eq_some_iff] at ej
                obtain ⟨c, hcj, rfl⟩ := ej
                have hj : j < b.size := by
                  have := (List.getElem?_eq_some_iff.1 hcj).1
                  rw [Array.length_toList] at this
                  exact this
                refine ⟨rfl, fun ad ea => ?_⟩
                injection ea with ea
                subst ea
                refine ⟨?_, ?_⟩
                · simpa using Go.Lib.bytesWorld_cell C.w e b j hj
                · rintro (hm | ⟨id, o', e1, e2, _⟩)
                  · exact absurd (hr.xlt _ _ hm) (by simp)
                  · exact absurd (obj_lt (hr.obj id o' e1) e2) (by simp)
              · rw [hfl, List.getElem?_map] at ej
                simp only [Option.map_eq_some_iff] at ej
                obtain ⟨c, hcj, rfl⟩ := ej
                simp only [List.getD, hcj, Option.getD_some]
                exact .int _ _
            rw [hlen] at hrep
            exact hrep
        · cases c3
      · cases c3
    · cases h
  · cases hc
end
inductive Pure : AV → Prop
  | undef : Pure .undef
  | bool (b : Bool) : Pure (.bool b)
  | int (k : IntKind) (n : Int) : Pure (.int k n)
  | str (s : ByteArray) : Pure (.str s)
  | nils : Pure .nils
  | list (sz : Nat) (rows : List (List AV)) (h : ∀ (j : Nat) av, rows.flatten[j]? = some av → Pure av) : Pure (.list sz rows)
  | emp : Pure .emp
  | agg (cs : List AV) (h : ∀ (j : Nat) av, cs[j]? = some av → Pure av) : Pure (.agg cs)
  | tuple (cs : List AV) (h : ∀ (j : Nat) av, cs[j]? = some av → Pure av) : Pure (.tuple cs)
  | nilp : Pure .nilp
  | nilm : Pure .nilm
  | nilf : Pure .nilf
  | func (f : Nat) (cs : List AV) (h : ∀ (j : Nat) av, cs[j]? = some av → Pure av) : Pure (.func f cs)
  | nili : Pure .nili

theorem Rep.pure {C C' : Ctx} {av : AV} {v : Value} (hr : Rep C av v) (hp : Pure av) (hf : ∀ ad j v, Fro C ad j v → Fro C' ad j v) : Rep C' av v := by
  induction hr with
  | undef v => exact .undef v
  | bool b => exact .bool b
  | int k n => exact .int k n
  | str s => exact .str s
  | nils => exact .nils
  | list sz rows base cap vals h0 hc hz hr hb hfr hv ih =>
    cases hp with
    | list _ _ h => exact .list sz rows base cap vals h0 hc hz hr hb (fun j av e => ⟨(hfr j av e).1, fun ad ea => hf _ _ _ ((hfr j av e).2 ad ea)⟩) fun j av e => ih j av e (h j av e)
  | emp ad cap => exact .emp ad cap
  | own => cases hp
  | tl => cases hp
  | agg cs vs hl hc hv ih => cases hp with | agg _ h => exact .agg cs vs hl hc fun j av v e e' => ih j av v e e' (h j av e)
  | tuple cs vs hl hv ih => cases hp with | tuple _ h => exact .tuple cs vs hl fun j av v e e' => ih j av v e e' (h j av e)
  | nilp => exact .nilp
  | rp => cases hp
  | ref => cases hp
  | nilm => exact .nilm
  | map => cases hp
  | nilf => exact .nilf
  | func f caps vs hl hv ih => cases hp with | func _ _ h => exact .func f caps vs hl fun j av v e e' => ih j av v e e' (h j av e)
  | nili => exact .nili
  | iface => cases hp

theorem RepL.pure {C C' : Ctx} {cs : List AV} {vs : List Value} (hr : RepL C cs vs) (hp : ∀ a ∈ cs, Pure a) (hf : ∀ ad j v, Fro C ad j v → Fro C' ad j v) : RepL C' cs vs :=
  ⟨hr.1, fun j av v e e' => (hr.2 j av v e e').pure (hp av (List.mem_of_getElem? e)) hf⟩

def hide (C : Ctx) : Ctx := ⟨[], fun _ => .nilFunc, C.w, fun _ => True, Mut C⟩
theorem hide_fro {C : Ctx} {ad : Addr} {j : Nat} {v : Value} (h : Fro C ad j v) : Fro (hide C) ad j v :=
  ⟨h.1, fun hm => hm.elim h.2 fun ⟨id, o, e, _⟩ => by cases e⟩
theorem hide_rep {C : Ctx} (h : HRep C) : HRep (hide C) :=
  ⟨trivial, fun id o h => (by cases h), fun id o h => (by cases h), fun id id' o o' g h => (by cases h), fun id o g off h => (by cases h), fun g off hm => by
    rcases hm with hx | ⟨id, o, e, hb, _⟩
    · exact h.xlt g off hx
    · exact obj_lt (h.obj id o e) hb, fun n cs e => by
    have h1 := h.glob n cs e
    cases h1 with
    | rp _ ad vals hs hf hv => exact .rp cs _ vals hs (fun j av ej => ⟨(hf j av ej).1, hide_fro (hf j av ej).2⟩) (fun j av ej => atom_rep (List.all_eq_true.1 (Globs.atoms n cs e) av (List.mem_of_getElem? ej)) (hv j av ej))⟩

section
variable {C C2 : Ctx}
theorem hide_ext (h : HRep C) (hx : Ext (hide C) C2) : Ext C { C with w := C2.w } where
  size := hx.size
  tape := hx.tape
  os := hx.os
  output := hx.output
  block := fun k hk _ => hx.block k hk fun ⟨id, o, e, _⟩ => by cases e
  cell := fun k off hk _ => World.cell?_of_block (hx.block k hk fun ⟨id, o, e, _⟩ => by cases e)
  muts := fun _ _ _ h => h
  obl := fun _ _ h => h
  av := fun _ h => h
  x := rfl
  old := fun _ o' _ h => ⟨o', h, rfl, Nat.le_refl _, fun _ => rfl⟩
theorem hide_hrep (h : HRep C) (hx : Ext (hide C) C2) : HRep { C with w := C2.w } :=
  ⟨h.nd, h.av, fun id o e => (h.obj id o e).step rfl (fun g hg => hx.block g (obj_lt (h.obj id o e) hg) fun ⟨id, o, e, _⟩ => by cases e) (fun _ _ r => r.ext (hide_ext h hx)), h.inj, h.own, fun g off hm => Nat.lt_of_lt_of_le (h.xlt g off hm) hx.size, h.glob.ext (hide_ext h hx)⟩
theorem hide_back (hx : Ext (hide C) C2) {ad : Addr} {j : Nat} {v : Value} (h : Fro C2 ad j v) : Fro { C with w := C2.w } ad j v :=
  ⟨h.1, fun hm => h.2 (.inl (by rw [hx.x]; exact hm))⟩
end

mutual
theorem pureB_pure : ∀ {v : AV}, pureB v = true → Pure v
  | .undef, _ => .undef
  | .bool _, _ => .bool _
  | .int _ _, _ => .int _ _
  | .str _, _ => .str _
  | .nils, _ => .nils
  | .emp, _ => .emp
  | .nilp, _ => .nilp
  | .nilm, _ => .nilm
  | .nilf, _ => .nilf
  | .nili, _ => .nili
  | .list sz r, h => .list sz r fun j av e => by
      simp only [pureB] at h
      exact pureBB_pure h av (List.mem_of_getElem? e)
  | .agg l, h => .agg l fun j av e => by simp only [pureB] at h; exact pureBs_pure h av (List.mem_of_getElem? e)
  | .tuple l, h => .tuple l fun j av e => by simp only [pureB] at h; exact pureBs_pure h av (List.mem_of_getElem? e)
  | .func f l, h => .func f l fun j av e => by simp only [pureB] at h; exact pureBs_pure h av (List.mem_of_getElem? e)
  | .own .., h => by simp [pureB] at h
  | .tl .., h => by simp [pureB] at h
  | .rp .., h => by simp [pureB] at h
  | .ref .., h => by simp [pureB] at h
  | .map .., h => by simp [pureB] at h
  | .iface .., h => by simp [pureB] at h
theorem pureBs_pure : ∀ {l : List AV}, pureBs l = true → ∀ x ∈ l, Pure x
  | [], _, x, hx => by cases hx
  | y :: l, h, x, hx => by
    simp only [pureBs, Bool.and_eq_true] at h
    rcases List.mem_cons.1 hx with e | hx
    · rw [e]; exact pureB_pure h.1
    · exact pureBs_pure h.2 x hx
theorem pureBB_pure : ∀ {l : List (List AV)}, pureBB l = true → ∀ x ∈ l.flatten, Pure x
  | [], _, x, hx => by simp at hx
  | y :: l, h, x, hx => by
    simp only [pureBB, Bool.and_eq_true] at h
    rw [List.flatten_cons] at hx
    rcases List.mem_append.1 hx with hx | hx
    · exact pureBs_pure h.1 x hx
    · exact pureBB_pure h.2 x hx
end
end Go.Proofs.Abs
