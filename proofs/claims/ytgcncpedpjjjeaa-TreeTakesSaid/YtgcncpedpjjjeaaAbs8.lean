/- A part of a proof: the text that states the row tells what is proved. No condition is laid on anything. -/
import Derived.Test.YtgcncpedpjjjeaaAbs7
import Derived.Laws.StructEq
set_option linter.all false
set_option linter.constructorNameAsVariable false
set_option linter.defProp false
set_option linter.unusedVariables false
set_option linter.unusedSimpArgs false
namespace Go.Proofs.Abs
open Go

section
variable {P : Program} {o : Oper} {a : Act} {C : Ctx} {nt : Nat} {s s' : St} {av : AV}

theorem run_bin0 {op : BinOp} {t : TypeId} {x y : Operand} {k k' : IntKind} {m n : Int} {r : AV} (w : World) (h : abin op 0 (.int k m) (.int k' n) = some r) :
    ∃ v, (do eqGuard op t x y (.int k m) (.int k' n); binOp op t (.int k m) (.int k' n) : Sem Value).run P w = .ok v w ∧ ∀ C : Ctx, Rep C r v := by
  unfold abin at h
  simp only at h
  have hg : (eqGuard op t x y (.int k m) (.int k' n)).run P w = .ok () w := by cases op <;> simp [eqGuard]
  simp only [Sem.run_bind, hg, Result.andThen_ok]
  split at h
  · unfold ashift at h
    split at h
    · cases h
    · rename_i hn
      simp only [Option.some.injEq] at h
      subst h
      exact ⟨_, by simp [binOp, Op.shift, hn], fun C => .int _ _⟩
  · unfold ashift at h
    split at h
    · cases h
    · rename_i hn
      simp only [Option.some.injEq] at h
      subst h
      exact ⟨_, by simp [binOp, Op.shift, hn], fun C => .int _ _⟩
  · rename_i hs1 hs2
    split at h
    · rename_i hk
      subst hk
      cases op <;> simp only [aint, Option.some.injEq, reduceCtorEq] at h <;> first
        | (subst h; exact ⟨_, by simp [binOp, Op.intArith, Op.intCmp], fun C => .int _ _⟩)
        | (subst h; exact ⟨_, by simp [binOp, Op.intArith, Op.intCmp], fun C => .bool _⟩)
        | (split at h
           · cases h
           · rename_i hz
             simp only [Option.some.injEq] at h
             subst h
             exact ⟨_, by simp [binOp, Op.intDiv, hz], fun C => .int _ _⟩)
        | exact (hs1 rfl).elim
        | exact (hs2 rfl).elim
    · cases h

theorem run_bin0s {op : BinOp} {t : TypeId} {x y : Operand} {m n : ByteArray} {r : AV} (w : World) (h : abin op 0 (.str m) (.str n) = some r) :
    ∃ v, (do eqGuard op t x y (.string m) (.string n); binOp op t (.string m) (.string n) : Sem Value).run P w = .ok v w ∧ ∀ C : Ctx, Rep C r v := by
  unfold abin at h
  simp only at h
  have hg : (eqGuard op t x y (.string m) (.string n)).run P w = .ok () w := by cases op <;> simp [eqGuard]
  simp only [Sem.run_bind, hg, Result.andThen_ok]
  unfold astr at h
  split at h
  · split at h
    · cases h
    · rename_i hn
      simp only [Option.some.injEq] at h
      subst h
      exact ⟨.string (m ++ n), by simp only [binOp, Op.stringOp]; rw [if_neg hn]; rfl, fun C => .str _⟩
  · simp only [Option.some.injEq] at h
    subst h
    exact ⟨_, by simp [binOp, Op.stringOp], fun C => .bool _⟩
  · simp only [Option.some.injEq] at h
    subst h
    exact ⟨_, by simp [binOp, Op.stringOp], fun C => .bool _⟩
  · cases h

theorem run_bin1 {op : BinOp} {t : TypeId} {x y : Operand} {m n : Bool} {r : AV} (w : World) (ht : P.underlying t = some .bool) (h : abin op 1 (.bool m) (.bool n) = some r) :
    ∃ v, (do eqGuard op t x y (.bool m) (.bool n); binOp op t (.bool m) (.bool n) : Sem Value).run P w = .ok v w ∧ ∀ C : Ctx, Rep C r v := by
  unfold abin at h
  simp only at h
  have hg : (eqGuard op t x y (.bool m) (.bool n)).run P w = .ok () w := by cases op <;> simp [eqGuard]
  have he : (Op.equal t (.bool m) (.bool n)).run P w = .ok (m == n) w := run_equalIn_bool' w 9999 t m n ht
  simp only [Sem.run_bind, hg, Result.andThen_ok]
  split at h
  · simp only [Option.some.injEq] at h
    subst h
    exact ⟨_, by simp [binOp, he], fun C => .bool _⟩
  · simp only [Option.some.injEq] at h
    subst h
    exact ⟨_, by simp [binOp, he], fun C => .bool _⟩
  · cases h

theorem kind_agg {t k : Nat} (h : kindIs P t k = true) : aggIs P t false = true := by
  unfold kindIs at h
  split at h
  · split at h
    · rename_i e; unfold aggIs; rw [e]; rfl
    · cases h
  · split at h
    · rename_i e; unfold aggIs; rw [e]; rfl
    · cases h
  · split at h
    · rename_i e; unfold aggIs; rw [e]; rfl
    · cases h
  · cases h

/-- '==' of structs of plain fields. -/
theorem run_fields {d : Nat} {xs ys : List Value} {w : World} : ∀ (fs : List Field) (n : Nat) (ks : List Nat) (as bs : List AV) (r : Bool), structCmp P fs n ks = true →
    RepL C as (xs.drop n) → RepL C bs (ys.drop n) → acells ks as bs = some r → (Op.eqFields (d + 1) xs.toArray ys.toArray fs).run P w = .ok r w
  | [], n, ks, as, bs, r, hs, r1, r2, h => by
    cases ks with
    | cons k ks => simp [structCmp] at hs
    | nil =>
      have : r = true := by
        unfold acells at h
        split at h <;> simp_all
      subst this
      simp [Op.eqFields]
  | f :: fs, n, ks, as, bs, r, hs, r1, r2, h => by
    cases ks with
    | nil => simp [structCmp] at hs
    | cons k ks =>
      simp only [structCmp, Bool.and_eq_true, beq_iff_eq, bne_iff_ne] at hs
      obtain ⟨⟨⟨s1, s2⟩, s3⟩, s4⟩ := hs
      have key : ∀ (x y : AV) (as' bs' : List AV), as = x :: as' → bs = y :: bs' → (∀ u v, Rep C x u → Rep C y v → ∃ b : Bool, (Op.equalIn (d + 1) f.type u v).run P w = .ok b w ∧ (b = true → acells ks as' bs' = some r) ∧ (b = false → r = false)) →
          (Op.eqFields (d + 1) xs.toArray ys.toArray (f :: fs)).run P w = .ok r w := by
        intro x y as' bs' ea eb hk
        subst ea; subst eb
        have hl1 : n < xs.length := by have := r1.1; simp at this; omega
        have hl2 : n < ys.length := by have := r2.1; simp at this; omega
        have d1 : xs.drop n = xs[n] :: xs.drop (n + 1) := List.drop_eq_getElem_cons hl1
        have d2 : ys.drop n = ys[n] :: ys.drop (n + 1) := List.drop_eq_getElem_cons hl2
        rw [d1] at r1
        rw [d2] at r2
        have hx := r1.2 0 _ _ rfl rfl
        have hy := r2.2 0 _ _ rfl rfl
        have t1 : RepL C as' (xs.drop (n + 1)) := ⟨by have := r1.1; simp only [List.length_cons] at this; omega, fun j av v e e' => r1.2 (j + 1) av v e e'⟩
        have t2 : RepL C bs' (ys.drop (n + 1)) := ⟨by have := r2.1; simp only [List.length_cons] at this; omega, fun j av v e e' => r2.2 (j + 1) av v e e'⟩
        have hag : aggIs P f.type false = true := kind_agg s3
        have hp1 : (part f.type xs.toArray f.offset).run P w = .ok xs[n] w := by
          simp only [part, Sem.run_bind, run_isAgg hag, Result.andThen_ok, s2]
          simp [hl1]
        have hp2 : (part f.type ys.toArray f.offset).run P w = .ok ys[n] w := by
          simp only [part, Sem.run_bind, run_isAgg hag, Result.andThen_ok, s2]
          simp [hl2]
        obtain ⟨b, hb, ht, hf⟩ := hk _ _ hx hy
        simp only [Op.eqFields]
        rw [if_pos s1]
        simp only [Sem.run_bind, hp1, hp2, hb, Result.andThen_ok]
        cases b with
        | true => simpa using run_fields fs (n + 1) ks as' bs' r s4 t1 t2 (ht rfl)
        | false => simp [hf rfl]
      unfold acells at h
      split at h
      · exact absurd ‹k :: ks = []› (List.cons_ne_nil _ _)
      · rename_i ks' k0 m r0 k0' m' r0' e0
        injection e0 with e0 e0'
        subst e0; subst e0'
        split at h
        · rename_i hkk
          subst hkk
          refine key _ _ _ _ rfl rfl fun u v hu hv => ?_
          rw [hu.int_inv, hv.int_inv]
          unfold kindIs at s3
          simp only at s3
          split at s3
          · rename_i k2 hk2
            refine ⟨m == m', run_equalIn_int w d f.type _ k2 m m' hk2, fun hb => ?_, fun hb => ?_⟩
            · rw [hb] at h; simpa using h
            · rw [hb] at h; simpa using h.symm
          · cases s3
        · cases h
      · rename_i ks' m r0 m' r0' e0
        injection e0 with e0 e0'
        subst e0; subst e0'
        refine key _ _ _ _ rfl rfl fun u v hu hv => ?_
        rw [hu.bool_inv, hv.bool_inv]
        unfold kindIs at s3
        simp only at s3
        split at s3
        · rename_i hk2
          refine ⟨m == m', run_equalIn_bool' w d f.type m m' hk2, fun hb => ?_, fun hb => ?_⟩
          · rw [hb] at h; simpa using h
          · rw [hb] at h; simpa using h.symm
        · cases s3
      · rename_i ks' m r0 m' r0' e0
        injection e0 with e0 e0'
        subst e0; subst e0'
        refine key _ _ _ _ rfl rfl fun u v hu hv => ?_
        rw [hu.str_inv, hv.str_inv]
        unfold kindIs at s3
        simp only at s3
        split at s3
        · rename_i hk2
          refine ⟨m == m', by rw [beq_toListBytes]; exact run_equalIn_string w d f.type m m' hk2, fun hb => ?_, fun hb => ?_⟩
          · rw [hb] at h; simpa using h
          · rw [hb] at h; simpa using h.symm
        · cases s3
      · cases h

theorem ok_bin {op : BinOp} {ty : Nat} {x y : AX} (sim : SimE nt s.env C a) (hH : C.H = s.heap) (hr : HRep C) (hc : chkIns P o (.bin op ty x y) = true) (h : ains (.bin op ty x y) s = some (av, s')) :
    OpRes C (s.p ++ [s.k]) ((execOp a.eval o).run P C.w) av s'.heap := by
  simp only [ains] at h
  simp only [chkIns] at hc
  split at hc
  · rename_i op' t x' y' yt eo
    simp only [Bool.and_eq_true, decide_eq_true_eq] at hc
    obtain ⟨⟨⟨rfl, c1⟩, c2⟩, c3⟩ := hc
    have hx := rep_opd sim c1
    have hy := rep_opd sim c2
    cases hb : abin op' ty (x.ev s.env) (y.ev s.env) with
    | none => rw [hb] at h; simp at h
    | some r =>
      rw [hb] at h
      simp only [Option.map_some, Option.some.injEq, Prod.mk.injEq] at h
      obtain ⟨rfl, rfl⟩ := h
      have fin : ∀ v, (do eqGuard op' t x' y' (a.eval x') (a.eval y'); binOp op' t (a.eval x') (a.eval y') : Sem Value).run P C.w = .ok v C.w → Rep C r v → OpRes C (s.p ++ [s.k]) ((execOp a.eval o).run P C.w) r s.heap := by
        intro v h1 h2
        refine .pure hr (v := v) ?_ h2 hH
        simp only [execOp, eo]
        rw [Sem.run_bind, h1]
        rfl
      have hb' := hb
      unfold abin at hb'
      split at hb'
      · rename_i k m k' n e1 e2
        rw [e1, e2] at hb
        rw [e1] at hx
        rw [e2] at hy
        obtain ⟨v, h1, h2⟩ := run_bin0 (P := P) (t := t) (x := x') (y := y') C.w hb
        exact fin v (by rw [hx.int_inv, hy.int_inv]; exact h1) (h2 C)
      · rename_i m n e1 e2
        rw [e1, e2] at hb
        rw [e1] at hx
        rw [e2] at hy
        obtain ⟨v, h1, h2⟩ := run_bin0s (P := P) (t := t) (x := x') (y := y') C.w hb
        exact fin v (by rw [hx.str_inv, hy.str_inv]; exact h1) (h2 C)
      · rename_i m n e1 e2
        rw [e1, e2] at hb
        rw [e1] at hx
        rw [e2] at hy
        simp only at c3
        split at c3
        · rename_i hu
          obtain ⟨v, h1, h2⟩ := run_bin1 (P := P) (t := t) (x := x') (y := y') C.w hu hb
          exact fin v (by rw [hx.bool_inv, hy.bool_inv]; exact h1) (h2 C)
        · cases c3
      · cases hb'
  · cases hc

theorem ok_bins {op : BinOp} {ks : List Nat} {x y : AX} (sim : SimE nt s.env C a) (hH : C.H = s.heap) (hr : HRep C) (hc : chkIns P o (.bins op ks x y) = true) (h : ains (.bins op ks x y) s = some (av, s')) :
    OpRes C (s.p ++ [s.k]) ((execOp a.eval o).run P C.w) av s'.heap := by
  simp only [ains] at h
  simp only [chkIns] at hc
  split at hc
  · rename_i op' t x' y' yt eo
    simp only [Bool.and_eq_true, decide_eq_true_eq] at hc
    obtain ⟨⟨⟨rfl, c1⟩, c2⟩, c3⟩ := hc
    have hx := rep_opd sim c1
    have hy := rep_opd sim c2
    cases hb : abins op' ks (x.ev s.env) (y.ev s.env) with
    | none => rw [hb] at h; simp at h
    | some r =>
      rw [hb] at h
      simp only [Option.map_some, Option.some.injEq, Prod.mk.injEq] at h
      obtain ⟨rfl, rfl⟩ := h
      unfold abins at hb
      split at hb
      · rename_i as bs e1 e2
        rw [e1] at hx
        rw [e2] at hy
        obtain ⟨xs, hx1, hx2, _⟩ := hx.agg_inv
        obtain ⟨ys, hy1, hy2, _⟩ := hy.agg_inv
        split at c3
        · rename_i fs hu
          simp only [Bool.and_eq_true, Bool.not_eq_true'] at c3
          obtain ⟨⟨c4, c5⟩, c6⟩ := c3
          have hfo : P.fieldsOf t = fs := by simp [Program.fieldsOf, hu]
          have hrun : ∀ r0 : Bool, acells ks as bs = some r0 → (Op.equalIn 10000 t (.agg xs.toArray) (.agg ys.toArray)).run P C.w = .ok r0 C.w := by
            intro r0 h0
            have := run_equalIn_struct (P := P) C.w 9999 t xs.toArray ys.toArray (by rw [hfo]; exact hu) c5
            rw [this, hfo]
            exact run_fields (d := 9998) fs.toList 0 ks as bs r0 c6 (by simpa using hx2) (by simpa using hy2) h0
          have hg := run_eqGuard_agg (P := P) C.w op' t x' y' xs.toArray ys.toArray c4
          split at hb
          · cases hac : acells ks as bs with
            | none => rw [hac] at hb; cases hb
            | some r0 =>
              rw [hac] at hb
              simp only [Option.map_some, Option.some.injEq] at hb
              subst hb
              refine .pure hr (v := .bool r0) ?_ (.bool _) hH
              simp only [execOp, eo, Sem.run_bind, hx1, hy1, hg, Result.andThen_ok, run_eql_struct, hrun r0 hac]
              rfl
          · cases hac : acells ks as bs with
            | none => rw [hac] at hb; cases hb
            | some r0 =>
              rw [hac] at hb
              simp only [Option.map_some, Option.some.injEq] at hb
              subst hb
              refine .pure hr (v := .bool (!r0)) ?_ (.bool _) hH
              simp only [execOp, eo, Sem.run_bind, hx1, hy1, hg, Result.andThen_ok, run_neq_struct, hrun r0 hac]
              rfl
          · cases hb
        · cases c3
      · cases hb
  · cases hc

end
end Go.Proofs.Abs
