/- A part of a proof: the text that states the row tells what is proved. No condition is laid on anything. -/
import Derived.Test.YtgcncpedpjjjeaaAbs8
set_option linter.all false
set_option linter.constructorNameAsVariable false
set_option linter.defProp false
set_option linter.unusedVariables false
set_option linter.unusedSimpArgs false
namespace Go.Proofs.Abs
open Go

section
variable {P : Program} {o : Oper} {a : Act} {C : Ctx} {nt : Nat} {s s' : St} {av : AV}

theorem call_args {o : Oper} {b : Builtin} {args : Array Operand} {ats : Array TypeId} (eo : o.op = .call { callee := .builtin b, args := args, argTypes := ats }) (w : World) :
    (execOp a.eval o).run P w = (builtin b ats o.type (args.map fun | .const _ => true | _ => false) (args.map a.eval)).run P w := by
  simp only [execOp, eo, resolve]
  simp [invoke]
  rfl

theorem Rep.nils_inv {u : Value} (h : Rep C .nils u) : u = .slice none 0 0 := by cases h; rfl

theorem own_len {id : Id} {n : Nat} {wr fl : Bool} {e sz : Nat} {rows : List (List AV)} {u : Value} (hr : HRep C) (ho : hget C.H id = some (.row wr fl e sz rows)) (hn : rows.length = n) (hv : Rep C (.own id n) u) : ∃ base cap, u = .slice base n cap := by
  have h0 := (hr.obj id _ ho).1
  have := rowsOf_rep (sz := sz) (rows := rows) hr (by simp only [rowsOf, ho, hn, and_self, if_true]) hv h0
  obtain ⟨base, cap, h1, _⟩ := this
  exact ⟨base, cap, by rw [← hn]; exact h1⟩

theorem ok_len {ty : Nat} {x : AX} (sim : SimE nt s.env C a) (hH : C.H = s.heap) (hr : HRep C) (hc : chkIns P o (.len ty x) = true) (h : ains (.len ty x) s = some (av, s')) :
    OpRes C (s.p ++ [s.k]) ((execOp a.eval o).run P C.w) av s'.heap := by
  simp only [ains] at h
  simp only [chkIns] at hc
  split at hc
  · rename_i args ats eo
    split at hc
    · rename_i x' t eargs eats
      simp only [Bool.and_eq_true] at hc
      obtain ⟨c1, c2⟩ := hc
      have hv := rep_opd sim c1
      have ea : args = #[x'] := by apply Array.ext'; simpa using eargs
      have et : ats = #[t] := by apply Array.ext'; simpa using eats
      subst ea; subst et
      have fin : ∀ (v : Value) (av : AV), (Builtin.len_ #[t] o.type #[a.eval x']).run P C.w = .ok v C.w → Rep C av v → OpRes C (s.p ++ [s.k]) ((execOp a.eval o).run P C.w) av s.heap := by
        intro v av h1 h2
        refine .pure hr (v := v) ?_ h2 hH
        rw [call_args eo]
        simp [builtin, h1]
      split at h
      · rename_i b e
        simp only [Option.some.injEq, Prod.mk.injEq] at h
        obtain ⟨rfl, rfl⟩ := h
        rw [e] at hv
        simp only at c2
        split at c2
        · rename_i hu
          exact fin _ _ (by simp only [hv.str_inv]; simp [Builtin.len_, run_underlying hu]; rfl) (.int _ _)
        · cases c2
      · rename_i sz rows e
        simp only [Option.some.injEq, Prod.mk.injEq] at h
        obtain ⟨rfl, rfl⟩ := h
        rw [e] at hv
        simp only at c2
        split at c2
        · rename_i el hu
          obtain ⟨base, cap, hx⟩ := hv.list_inv
          exact fin _ _ (by rw [hx]; simp [Builtin.len_, run_underlying hu]; rfl) (.int _ _)
        · cases c2
      · rename_i e
        simp only [Option.some.injEq, Prod.mk.injEq] at h
        obtain ⟨rfl, rfl⟩ := h
        rw [e] at hv
        simp only at c2
        split at c2
        · rename_i el hu
          have hx : a.eval x' = .slice none 0 0 := hv.nils_inv
          exact fin _ _ (by rw [hx]; simp [Builtin.len_, run_underlying hu]; rfl) (.int _ _)
        · cases c2
      · rename_i e
        simp only [Option.some.injEq, Prod.mk.injEq] at h
        obtain ⟨rfl, rfl⟩ := h
        rw [e] at hv
        simp only at c2
        split at c2
        · rename_i el hu
          obtain ⟨ad, cap, hx⟩ : ∃ ad cap, a.eval x' = .slice (some ad) 0 cap := by
            generalize a.eval x' = xv at hv
            cases hv
            exact ⟨_, _, rfl⟩
          exact fin _ _ (by rw [hx]; simp [Builtin.len_, run_underlying hu]; rfl) (.int _ _)
        · cases c2
      · rename_i id n e
        rw [e] at hv
        split at h
        · rename_i wr fl el sz rows ho
          rw [← hH] at ho
          split at h
          · rename_i hn
            simp only [Option.some.injEq, Prod.mk.injEq] at h
            obtain ⟨rfl, rfl⟩ := h
            simp only at c2
            split at c2
            · rename_i el hu
              obtain ⟨base, cap, hx⟩ := own_len hr ho hn hv
              exact fin _ _ (by rw [hx]; simp [Builtin.len_, run_underlying hu]; rfl) (.int _ _)
            · cases c2
          · cases h
        · cases h
      · rename_i id e
        rw [e] at hv
        split at h
        · rename_i es ho
          rw [← hH] at ho
          simp only [Option.some.injEq, Prod.mk.injEq] at h
          obtain ⟨rfl, rfl⟩ := h
          simp only at c2
          split at c2
          · rename_i kt el hu
            obtain ⟨g, ents, clock, h1, h2, h3, h4⟩ := hr.obj id _ ho
            generalize hxv : a.eval x' = xv at hv
            cases hv with
            | map _ _ ha hs hoo =>
              have hx := hoo _ ho rfl
              rw [h1] at hx
              have hlen : ents.size = es.length := by have := h3.1; simp at this; exact this.symm
              exact fin _ _ (by rw [hxv, hx]; simp [Builtin.len_, run_underlying hu, getObj, Sem.run, h2, hlen]; rfl) (.int _ _)
          · cases c2
        · cases h
      · cases h
    · cases hc
  · cases hc

theorem run_fold {mx : Bool} {w : World} : ∀ (r : List AV) (us : List Value) (k : IntKind) (x : Int) (av : AV), RepL C r us → foldMin mx k x r = some av →
    ∃ v, (us.foldlM (if mx then Builtin.max2 else Builtin.min2) (.int k x)).run P w = .ok v w ∧ Rep C av v
  | [], us, k, x, av, hl, h => by
    have : us = [] := List.eq_nil_of_length_eq_zero hl.1.symm
    subst this
    simp only [foldMin, Option.some.injEq] at h
    subst h
    exact ⟨_, by simp, .int _ _⟩
  | y :: r, us, k, x, av, hl, h => by
    cases us with
    | nil => have := hl.1; simp at this
    | cons u us =>
      have h0 := hl.2 0 _ _ rfl rfl
      have ht : RepL C r us := ⟨by have := hl.1; simpa using this, fun j av v e e' => hl.2 (j + 1) av v (by simpa using e) (by simpa using e')⟩
      unfold foldMin at h
      split at h
      · cases ‹y :: r = []›
      · rename_i k' b r' e
        injection e with e1 e2
        subst e1; subst e2
        split at h
        · rename_i hk
          subst hk
          obtain ⟨v, h1, h2⟩ := run_fold _ _ _ _ _ ht h
          refine ⟨v, ?_, h2⟩
          rw [h0.int_inv]
          cases mx with
          | true =>
            simp only [if_true] at h1 ⊢
            simp only [List.foldlM_cons, Sem.run_bind, Builtin.max2, Sem.run_pure, Result.andThen_ok]
            exact h1
          | false =>
            simp only [Bool.false_eq_true, if_false] at h1 ⊢
            simp only [List.foldlM_cons, Sem.run_bind, Builtin.min2, Sem.run_pure, Result.andThen_ok]
            exact h1
        · cases h
      · cases h

theorem ok_mm {mx : Bool} {xs : List AX} (sim : SimE nt s.env C a) (hH : C.H = s.heap) (hr : HRep C) (hc : chkIns P o (.mm mx xs) = true) (h : ains (.mm mx xs) s = some (av, s')) :
    OpRes C (s.p ++ [s.k]) ((execOp a.eval o).run P C.w) av s'.heap := by
  simp only [ains] at h
  simp only [chkIns] at hc
  split at hc
  · rename_i b args ats eo
    simp only [Bool.and_eq_true] at hc
    obtain ⟨c1, c2⟩ := hc
    have hl := opds_rep sim c2
    split at h
    · rename_i k x r e
      cases hf : foldMin mx k x r with
      | none => rw [hf] at h; simp at h
      | some av' =>
        rw [hf] at h
        simp only [Option.map_some, Option.some.injEq, Prod.mk.injEq] at h
        obtain ⟨rfl, rfl⟩ := h
        rw [e] at hl
        cases hus : args.toList.map a.eval with
        | nil => rw [hus] at hl; have := hl.1; simp at this
        | cons u us =>
          rw [hus] at hl
          have h0 := hl.2 0 _ _ rfl rfl
          have ht : RepL C r us := ⟨by have := hl.1; simpa using this, fun j av v e e' => hl.2 (j + 1) av v (by simpa using e) (by simpa using e')⟩
          obtain ⟨v, h1, h2⟩ := run_fold (P := P) (w := C.w) r us k x av' ht hf
          have hargs : (args.map a.eval).toList = .int k x :: us := by rw [Array.toList_map, hus, h0.int_inv]
          refine .pure hr (v := v) ?_ h2 hH
          rw [call_args eo]
          cases b <;> simp only [reduceCtorEq, Bool.false_eq_true] at c1
          · subst c1
            simp only [builtin, Sem.run_bind, Builtin.max_, hargs]
            simp only [if_true] at h1
            rw [h1]; rfl
          · have : mx = false := by simpa using c1
            subst this
            simp only [builtin, Sem.run_bind, Builtin.min_, hargs]
            simp only [Bool.false_eq_true, if_false] at h1
            rw [h1]; rfl
    · cases h
  · cases hc

/-! ### Literals -/
theorem fill_step {place : Nat → Option (Nat × Nat)} {i off sz : Nat} {v : Value} {cells : Array Value} {rest : List (Nat × Value)} (hp : place i = some (off, sz)) (hs : v.cells.size = sz) (hle : off + sz ≤ cells.size) :
    ∃ cells', Instr.fill place cells ((i, v) :: rest) = Instr.fill place cells' rest ∧ cells'.toList = cells.toList.take off ++ v.cells.toList ++ cells.toList.drop (off + sz) := by
  have hno : ¬ (v.cells.size ≠ sz ∨ off + v.cells.size > cells.size) := by omega
  refine ⟨_, by simp only [Instr.fill, hp]; rw [if_neg (by simpa using hno)], ?_⟩
  obtain ⟨h1, h2⟩ := Great.foldl_set off v.cells.toList 0 cells
  have ez : v.cells.zipIdx.foldl (fun cs (x : Value × Nat) => cs.setIfInBounds (off + x.2) x.1) cells = (v.cells.toList.zipIdx 0).foldl (fun cs (x : Value × Nat) => cs.setIfInBounds (off + x.2) x.1) cells := by
    rw [← Array.foldl_toList, Array.toList_zipIdx]
  have goal : (v.cells.zipIdx.foldl (fun cs (x : Value × Nat) => cs.setIfInBounds (off + x.2) x.1) cells).toList = cells.toList.take off ++ v.cells.toList ++ cells.toList.drop (off + sz) := by
    rw [ez]
    apply List.ext_getElem?
    intro j
    rw [Array.getElem?_toList, h2 j]
    simp only [Nat.add_zero, Array.length_toList, List.append_assoc]
    by_cases hj : j < off
    · rw [if_neg (by omega), List.getElem?_append_left (by simp; omega), List.getElem?_take, if_pos hj, Array.getElem?_toList]
    · rw [List.getElem?_append_right (by simp; omega)]
      simp only [List.length_take, Array.length_toList]
      have hm : min off cells.size = off := by omega
      rw [hm]
      by_cases hj2 : j < off + sz
      · rw [if_pos ⟨by omega, by omega, by omega⟩, List.getElem?_append_left (by simp; omega)]
      · rw [if_neg (by omega), List.getElem?_append_right (by simp; omega), List.getElem?_drop, Array.getElem?_toList]
        congr 1
        simp
        omega
  exact goal

theorem fill_afill {place : Nat → Option (Nat × Nat)} (sim : SimE nt s.env C a) : ∀ (ps : List (Nat × Operand)) (parts : List (Nat × Nat × AX)) (l : List (Nat × Nat × List AV)) (zs : List AV) (cells : Array Value) (out : List AV),
    partsOK place ps parts = true → partsOfA s.env parts = some l → RepL C zs cells.toList → Cells zs → afill zs l = some out →
    ∃ cells', Instr.fill place cells (ps.map fun x => (x.1, a.eval x.2)) = some cells' ∧ RepL C out cells'.toList ∧ Cells out
  | [], parts, l, zs, cells, out, h1, h2, h3, h4, h5 => by
    cases parts with
    | cons p ps => simp [partsOK] at h1
    | nil =>
      simp only [partsOfA, Option.some.injEq] at h2
      subst h2
      simp only [afill, Option.some.injEq] at h5
      subst h5
      exact ⟨cells, rfl, h3, h4⟩
  | (i, x) :: ps, parts, l, zs, cells, out, h1, h2, h3, h4, h5 => by
    cases parts with
    | nil => simp [partsOK] at h1
    | cons p parts =>
      obtain ⟨off, sz, y⟩ := p
      simp only [partsOK, Bool.and_eq_true, decide_eq_true_eq] at h1
      obtain ⟨⟨p1, p2⟩, p3⟩ := h1
      simp only [partsOfA] at h2
      split at h2
      · rename_i cs l' ecs el
        injection h2 with h2
        subst h2
        simp only [afill] at h5
        split at h5
        · rename_i hcond
          obtain ⟨q1, q2⟩ := hcond
          obtain ⟨r1, r2⟩ := cellsOf_rep (rep_opd sim p2) ecs
          have hsz : (a.eval x).cells.size = sz := by have := r1.1; simp at this; omega
          have hzl : zs.length = cells.size := by have := h3.1; simpa using this
          obtain ⟨cells', e1, e2⟩ := fill_step (place := place) (v := a.eval x) (cells := cells) (rest := ps.map fun x => (x.1, a.eval x.2)) p1 hsz (by omega)
          have h3' : RepL C (zs.take off ++ cs ++ zs.drop (off + sz)) cells'.toList := by
            rw [e2]
            exact ((h3.take off).app r1).app (h3.drop (off + sz))
          have h4' : Cells (zs.take off ++ cs ++ zs.drop (off + sz)) := ((h4.take off).app r2).app (h4.drop (off + sz))
          obtain ⟨c2, f1, f2, f3⟩ := fill_afill sim ps parts l' _ cells' out p3 el h3' h4' h5
          exact ⟨c2, by rw [List.map_cons, e1, f1], f2, f3⟩
        · cases h5
      · cases h2

theorem ok_agg {zero : List AV} {parts : List (Nat × Nat × AX)} (sim : SimE nt s.env C a) (hH : C.H = s.heap) (hr : HRep C) (hc : chkIns P o (.agg zero parts) = true) (h : ains (.agg zero parts) s = some (av, s')) :
    OpRes C (s.p ++ [s.k]) ((execOp a.eval o).run P C.w) av s'.heap := by
  simp only [ains] at h
  simp only [chkIns] at hc
  split at hc
  · rename_i t ps eo
    simp only [Bool.and_eq_true] at hc
    obtain ⟨c1, c2⟩ := hc
    split at c2
    · rename_i pl epl
      obtain ⟨ti, z, h1, h2, h3⟩ := zeroIs_iff c1
      obtain ⟨z1, z2⟩ := rep_constCells C h3
      split at h
      · rename_i l el
        cases haf : afill zero l with
        | none => rw [haf] at h; simp at h
        | some out =>
          rw [haf] at h
          simp only [Option.map_some, Option.some.injEq, Prod.mk.injEq] at h
          obtain ⟨rfl, rfl⟩ := h
          obtain ⟨cells', f1, f2, f3⟩ := fill_afill sim ps.toList parts l zero z.cells out c2 el z1 z2 haf
          have hb : P.built t (ps.map fun (i, x) => (i, a.eval x)).toList = some cells' := by
            unfold Program.built
            unfold placesOf at epl
            rw [h1]
            have em : (ps.map fun (i, x) => (i, a.eval x)).toList = ps.toList.map fun x => (x.1, a.eval x.2) := by simp
            rw [em]
            split at epl
            · rename_i n e hu
              split at epl
              · rename_i ie hie
                injection epl with epl
                subst epl
                simp only [hu, h2, hie]
                exact f1
              · cases epl
            · rename_i fields hu
              split at epl
              · rename_i places hpl
                injection epl with epl
                subst epl
                simp only [hu, h2, hpl]
                have : (fun i : Nat => places.toArray[i]?) = fun i => places[i]? := by funext i; simp
                rw [this]
                exact f1
              · cases epl
            · cases epl
          refine .pure hr (v := .agg cells') ?_ ?_ hH
          · simp only [execOp, eo, Sem.run_bind, run_build C.w t _ cells' hb]
            rfl
          · have := Rep.agg (C := C) out cells'.toList f2.1 f3 f2.2
            simpa using this
      · cases h
    · cases c2
  · cases hc

end
end Go.Proofs.Abs
