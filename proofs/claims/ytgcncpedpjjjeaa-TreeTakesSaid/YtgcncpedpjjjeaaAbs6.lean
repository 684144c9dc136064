/- A part of a proof: the text that states the row tells what is proved. No condition is laid on anything. -/
import Derived.Test.YtgcncpedpjjjeaaAbs5
set_option linter.all false
set_option linter.constructorNameAsVariable false
set_option linter.defProp false
set_option linter.unusedVariables false
set_option linter.unusedSimpArgs false
namespace Go.Proofs.Abs
open Go

section
variable {P : Program} {o : Oper} {a : Act} {C : Ctx} {nt : Nat} {s s' : St} {av : AV}

/-! ### Cells that are read -/
theorem add_none {ad : Addr} (hs : ad.spot = none) (n : Nat) : ad.add n = ⟨ad.block, ad.off + n, none⟩ := by
  unfold Addr.add
  split
  · rename_i h; subst h; cases ad; simp_all
  · cases ad; simp_all

theorem rows_flat {rows : List (List AV)} {sz : Nat} (hr : ∀ r ∈ rows, r.length = sz) : ∀ {i : Nat} {row : List AV}, rows[i]? = some row → ∀ j, j < sz → rows.flatten[i * sz + j]? = row[j]? := by
  induction rows with
  | nil => intro i row h; simp at h
  | cons r0 rest ih =>
    intro i row h j hj
    have h0 := hr r0 (by simp)
    cases i with
    | zero =>
      simp only [List.getElem?_cons_zero, Option.some.injEq] at h
      subst h
      simp only [Nat.zero_mul, Nat.zero_add, List.flatten_cons]
      rw [List.getElem?_append_left (by omega)]
    | succ i =>
      simp only [List.getElem?_cons_succ] at h
      have := ih (fun r hr' => hr r (by simp [hr'])) h j hj
      simp only [List.flatten_cons]
      rw [List.getElem?_append_right (by rw [h0, Nat.succ_mul]; omega), ← this]
      congr 1
      rw [h0, Nat.succ_mul]
      omega

theorem flat_len {rows : List (List AV)} {sz : Nat} (hr : ∀ r ∈ rows, r.length = sz) : rows.flatten.length = rows.length * sz := by
  induction rows with
  | nil => simp
  | cons r0 rest ih =>
    simp only [List.flatten_cons, List.length_append, List.length_cons]
    rw [ih (fun r h => hr r (by simp [h])), hr r0 (by simp), Nat.succ_mul]
    omega

/-- A row of one's own, cell by cell. -/
theorem row_cell {id : Id} {wr fl : Bool} {e sz : Nat} {rows : List (List AV)} (hr : HRep C) (h : hget C.H id = some (.row wr fl e sz rows)) {i j : Nat} {row : List AV} {av : AV} (hi : rows[i]? = some row) (hj : row[j]? = some av) :
    ∃ g v, blk (C.φ id) = some g ∧ C.w.cell? ⟨g, i * sz + j, none⟩ = some v ∧ Rep C av v ∧ isCell av = true ∧ C.w.frozen? ⟨g, i * sz + j, none⟩ = false := by
  obtain ⟨h0, h1, h2, xs, h3, h4⟩ := hr.obj id _ h
  have hrow := h1 row (List.mem_of_getElem? hi)
  have hjs : j < sz := by have := (List.getElem?_eq_some_iff.1 hj).1; omega
  have hf := rows_flat h1 hi j hjs
  rw [hj] at hf
  have hlt := (List.getElem?_eq_some_iff.1 hf).1
  have hx : xs[i * sz + j]? = some (xs.getD (i * sz + j) undef) := by
    have : i * sz + j < xs.length := by rw [← h4.1]; exact hlt
    simp [List.getD, List.getElem?_eq_getElem this]
  rcases h3.2 with ⟨hv, hn⟩ | ⟨g, cap, cur, hv, _, hh, hnc, _, hcs, htake⟩
  · have : rows = [] := List.eq_nil_of_length_eq_zero hn
    subst this
    simp at hi
  · refine ⟨g, xs.getD (i * sz + j) undef, by rw [hv]; rfl, ?_, h4.2 _ _ _ hf hx, h2 _ _ hf, by simp [World.frozen?, hh]⟩
    have hlt2 : i * sz + j < rows.length * sz := by rw [h4.1, h3.1] at hlt; exact hlt
    have hx' := hx
    rw [← htake, List.getElem?_take, if_pos hlt2, Array.getElem?_toList] at hx'
    simp only [World.cell?, hh]
    rw [← htake] 
    simpa using hx'

theorem box_cell {id : Id} {cells : List AV} (hr : HRep C) (h : hget C.H id = some (.box cells)) {j : Nat} {av : AV} (hj : cells[j]? = some av) :
    ∃ g v, blk (C.φ id) = some g ∧ C.w.cell? ⟨g, j, none⟩ = some v ∧ Rep C av v ∧ isCell av = true ∧ C.w.frozen? ⟨g, j, none⟩ = false := by
  obtain ⟨h0, g, cs, e, h1, h2, h3⟩ := hr.obj id _ h
  have hlt := (List.getElem?_eq_some_iff.1 hj).1
  have hl : j < cs.size := by have := h3.1; simp at this; omega
  have hx : cs.toList[j]? = some cs[j] := by simp [hl]
  exact ⟨g, cs[j], by rw [h1]; rfl, by simp [World.cell?, h2, hl], h3.2 j _ _ hj hx, h0 j _ hj, by simp [World.frozen?, h2]⟩

/-- What a load from an object gives. -/
theorem loadObj_cells {id : Id} {ob : AObj} {n i j m : Nat} {cs : List AV} {v : Value} (hr : HRep C) (h : hget C.H id = some ob) (hl : loadObj ob n i j m = some cs) (hm : cs.length = m) (hv : Rep C (.ref id n i j) v) :
    ∃ g, v = .pointer (some ⟨g, i * cellsz ob + j, none⟩) ∧ blk (C.φ id) = some g ∧ ∃ us : List Value, RepL C cs us ∧ Cells cs ∧ (∀ k u, us[k]? = some u → C.w.cell? ⟨g, i * cellsz ob + j + k, none⟩ = some u) := by
  have hsize : asize ob = n := by
    cases ob with
    | row wr fl e sz rows => simp only [loadObj] at hl; split at hl; · rename_i hn; exact hn
                             · cases hl
    | box cells => simp only [loadObj] at hl; split at hl; · rename_i hn; exact hn.1.symm
                   · cases hl
    | map es => simp [loadObj] at hl
  cases hv with
  | ref _ _ _ _ _ ha hs ho =>
    obtain ⟨g, hg, hvv⟩ := (ho ob h).2 hsize
    refine ⟨g, hvv, hg, ?_⟩
    have key : ∀ k av, cs[k]? = some av → ∃ u, C.w.cell? ⟨g, i * cellsz ob + j + k, none⟩ = some u ∧ Rep C av u ∧ isCell av = true := by
      intro k av hk
      cases ob with
      | row wr fl e sz rows =>
        simp only [loadObj] at hl
        split at hl
        · cases hri : rows[i]? with
          | none => rw [hri] at hl; simp at hl
          | some row =>
            rw [hri] at hl
            simp only [Option.map_some, Option.some.injEq] at hl
            subst hl
            rw [List.getElem?_take] at hk
            split at hk
            · rw [List.getElem?_drop] at hk
              obtain ⟨g', u, h1, h2, h3, h4, _⟩ := row_cell hr h hri hk
              rw [hg] at h1; injection h1 with h1; subst h1
              exact ⟨u, by simpa [cellsz, Nat.add_assoc] using h2, h3, h4⟩
            · cases hk
        · cases hl
      | box cells =>
        simp only [loadObj] at hl
        split at hl
        · rename_i hn
          injection hl with hl
          subst hl
          rw [List.getElem?_take] at hk
          split at hk
          · rw [List.getElem?_drop] at hk
            obtain ⟨g', u, h1, h2, h3, h4, _⟩ := box_cell hr h hk
            rw [hg] at h1; injection h1 with h1; subst h1
            exact ⟨u, by simpa [cellsz, Nat.add_assoc] using h2, h3, h4⟩
          · cases hk
        · cases hl
      | map es => simp [loadObj] at hl
    refine ⟨(List.range cs.length).map fun k => (C.w.cell? ⟨g, i * cellsz ob + j + k, none⟩).getD undef, ⟨by simp, fun k av u e1 e2 => ?_⟩, fun k av e1 => ?_, fun k u e2 => ?_⟩
    · obtain ⟨u', h1, h2, h3⟩ := key k av e1
      have hk := (List.getElem?_eq_some_iff.1 e1).1
      simp [hk, h1] at e2
      subst e2
      exact h2
    · obtain ⟨u', h1, h2, h3⟩ := key k av e1
      exact h3
    · have hk : k < cs.length := by have := (List.getElem?_eq_some_iff.1 e2).1; simpa using this
      obtain ⟨u', h1, h2, h3⟩ := key k cs[k] (List.getElem?_eq_getElem hk)
      simp [hk, h1] at e2
      subst e2
      exact h1

theorem run_loadVar' {t m : Nat} {agg : Bool} {ad : Addr} {us : List Value} {w : World} (ha : aggIs P t agg = true) (hs : sizeIs P t m = true) (hsp : ad.spot = none) (hl : us.length = m) (hm : agg = true ∨ m = 1) (hc : ∀ k u, us[k]? = some u → w.cell? ⟨ad.block, ad.off + k, none⟩ = some u) :
    (loadVar t ad).run P w = .ok (if agg then .agg us.toArray else us.headD undef) w := by
  have hc' : ∀ k u, us[k]? = some u → w.cell? (ad.add k) = some u := fun k u e => by rw [add_none hsp]; exact hc k u e
  simp only [loadVar, Sem.run_bind, run_isAgg ha, Result.andThen_ok]
  cases agg with
  | true =>
    have := run_loadCells_list (P := P) w ad us hc'
    rw [hl] at this
    simp [run_sizeOf' hs, this]
  | false =>
    have hm1 : m = 1 := by simpa using hm
    obtain ⟨u, rfl⟩ := List.length_eq_one_iff.1 (hl.trans hm1)
    have := hc 0 u rfl
    have e0 : (⟨ad.block, ad.off + 0, none⟩ : Addr) = ad := by cases ad; simp_all
    rw [e0] at this
    simp [this]

theorem ok_load {agg : Bool} {m : Nat} {p : AX} (sim : SimE nt s.env C a) (hH : C.H = s.heap) (hr : HRep C) (hc : chkIns P o (.load agg m p) = true) (h : ains (.load agg m p) s = some (av, s')) :
    OpRes C (s.p ++ [s.k]) ((execOp a.eval o).run P C.w) av s'.heap := by
  simp only [ains] at h
  simp only [chkIns] at hc
  split at hc
  · rename_i t x eo
    simp only [Bool.and_eq_true, Bool.or_eq_true, beq_iff_eq] at hc
    obtain ⟨⟨⟨c1, c2⟩, c3⟩, c4⟩ := hc
    have hv := rep_opd sim c1
    split at h
    · rename_i cs ep
      rw [ep] at hv
      split at h
      · rename_i hm
        cases hof : ofCells agg (cs.take m) with
        | none => rw [hof] at h; simp at h
        | some av' =>
          rw [hof] at h
          simp only [Option.map_some, Option.some.injEq, Prod.mk.injEq] at h
          obtain ⟨rfl, rfl⟩ := h
          generalize hx : a.eval x = xv at hv
          cases hv with
          | rp _ ad vals hs hf hv' =>
            have hus : RepL C (cs.take m) ((List.range m).map vals) := by
              refine ⟨by simp; omega, fun j av u e1 e2 => ?_⟩
              rw [List.getElem?_take] at e1
              split at e1
              · rename_i hj
                simp [hj] at e2
                subst e2
                exact hv' j av e1
              · cases e1
            have hcl : Cells (cs.take m) := by
              intro j av e1
              rw [List.getElem?_take] at e1
              split at e1
              · exact (hf j av e1).1
              · cases e1
            have hrun := run_loadVar' (w := C.w) (us := (List.range m).map vals) c2 c3 hs (by simp) c4 (fun k u e => by
              have hk : k < m := by have := (List.getElem?_eq_some_iff.1 e).1; simpa using this
              simp [hk] at e
              subst e
              have hk' : k < cs.length := by omega
              exact (hf k cs[k] (List.getElem?_eq_getElem hk')).2.1)
            rcases ofCells_rep hus hcl hof with ⟨rfl, r⟩ | ⟨rfl, u, hu, r⟩
            · exact .pure hr (by simp [execOp, eo, Instr.loadAt, Instr.sureAddr, hx, hrun]) r hH
            · rw [hu] at hrun
              exact .pure hr (v := u) (by simp [execOp, eo, Instr.loadAt, Instr.sureAddr, hx, hrun]) r hH
      · cases h
    · rename_i id n i j ep
      rw [ep] at hv
      split at h
      · rename_i ob eob
        rw [← hH] at eob
        split at h
        · rename_i cs ecs
          split at h
          · rename_i hm
            cases hof : ofCells agg cs with
            | none => rw [hof] at h; simp at h
            | some av' =>
              rw [hof] at h
              simp only [Option.map_some, Option.some.injEq, Prod.mk.injEq] at h
              obtain ⟨rfl, rfl⟩ := h
              obtain ⟨g, e1, e2, us, h1, h2, h3⟩ := loadObj_cells hr eob ecs hm hv
              have hrun := run_loadVar' (w := C.w) (ad := ⟨g, i * cellsz ob + j, none⟩) (us := us) c2 c3 rfl (by rw [← h1.1]; exact hm) c4 h3
              rcases ofCells_rep h1 h2 hof with ⟨rfl, r⟩ | ⟨rfl, u, hu, r⟩
              · exact .pure hr (by simp [execOp, eo, Instr.loadAt, Instr.sureAddr, e1, hrun]) r hH
              · rw [hu] at hrun
                exact .pure hr (v := u) (by simp [execOp, eo, Instr.loadAt, Instr.sureAddr, e1, hrun]) r hH
          · cases h
        · cases h
      · cases h
    · cases h
  · cases hc

theorem ok_nilck {x : AX} (sim : SimE nt s.env C a) (hH : C.H = s.heap) (hr : HRep C) (hc : chkIns P o (.nilck x) = true) (h : ains (.nilck x) s = some (av, s')) :
    OpRes C (s.p ++ [s.k]) ((execOp a.eval o).run P C.w) av s'.heap := by
  simp only [ains] at h
  simp only [chkIns] at hc
  split at hc
  · rename_i y eo
    have hv := rep_opd sim hc
    generalize hy : a.eval y = yv at hv
    split at h
    · rename_i cs e
      simp only [Option.some.injEq, Prod.mk.injEq] at h
      obtain ⟨rfl, rfl⟩ := h
      rw [e] at hv
      cases hv with
      | rp _ ad vals hs hf hv' => exact .pure hr (v := .pointer (some ad)) (by simp [execOp, eo, hy]) (.rp cs ad vals hs hf hv') hH
    · rename_i id n i j e
      simp only [Option.some.injEq, Prod.mk.injEq] at h
      obtain ⟨rfl, rfl⟩ := h
      rw [e] at hv
      have hs : ∃ ad, yv = .pointer (some ad) := by cases hv with | ref _ _ _ _ _ ha hs ho => exact hs
      obtain ⟨ad, rfl⟩ := hs
      exact .pure hr (v := .pointer (some ad)) (by simp [execOp, eo, hy]) hv hH
    · rename_i f caps e
      simp only [Option.some.injEq, Prod.mk.injEq] at h
      obtain ⟨rfl, rfl⟩ := h
      rw [e] at hv
      obtain ⟨vs, rfl, hl⟩ := hv.func_inv
      exact .pure hr (v := .func (.func f) #[] vs.toArray) (by simp [execOp, eo, hy]) hv hH
    · cases h
  · cases hc

theorem ok_un {op : UnOp} {x : AX} (sim : SimE nt s.env C a) (hH : C.H = s.heap) (hr : HRep C) (hc : chkIns P o (.un op x) = true) (h : ains (.un op x) s = some (av, s')) :
    OpRes C (s.p ++ [s.k]) ((execOp a.eval o).run P C.w) av s'.heap := by
  simp only [ains] at h
  simp only [chkIns] at hc
  split at hc
  · rename_i op' t x' eo
    simp only [Bool.and_eq_true, decide_eq_true_eq] at hc
    obtain ⟨rfl, c1⟩ := hc
    have hv := rep_opd sim c1
    cases hu : aun op' (x.ev s.env) with
    | none => rw [hu] at h; simp at h
    | some r =>
      rw [hu] at h
      simp only [Option.map_some, Option.some.injEq, Prod.mk.injEq] at h
      obtain ⟨rfl, rfl⟩ := h
      unfold aun at hu
      split at hu
      · rename_i b e
        injection hu with hu
        subst hu
        rw [e] at hv
        exact .pure hr (v := .bool (!b)) (by simp [execOp, eo, hv.bool_inv, Op.unary]) (.bool _) hH
      · rename_i k n e
        injection hu with hu
        subst hu
        rw [e] at hv
        exact .pure hr (v := .int k (k.wrap (0 - n))) (by simp [execOp, eo, hv.int_inv, Op.unary, Op.intArith]) (.int _ _) hH
      · cases hu
  · cases hc

theorem ok_conv {k : IntKind} {x : AX} (sim : SimE nt s.env C a) (hH : C.H = s.heap) (hr : HRep C) (hc : chkIns P o (.conv k x) = true) (h : ains (.conv k x) s = some (av, s')) :
    OpRes C (s.p ++ [s.k]) ((execOp a.eval o).run P C.w) av s'.heap := by
  simp only [ains] at h
  simp only [chkIns] at hc
  split at hc
  · rename_i src dst x' eo
    simp only [Bool.and_eq_true] at hc
    obtain ⟨⟨c1, c2⟩, c3⟩ := hc
    have hv := rep_opd sim c1
    split at h
    · rename_i k0 n e
      simp only [Option.some.injEq, Prod.mk.injEq] at h
      obtain ⟨rfl, rfl⟩ := h
      rw [e] at hv
      obtain ⟨d, hd⟩ := Option.isSome_iff_exists.1 c2
      split at c3
      · rename_i k' hk'
        simp only [decide_eq_true_eq] at c3
        subst c3
        exact .pure hr (v := .int k' (k'.wrap n)) (by simp [execOp, eo, hv.int_inv, convert, run_underlying hd, run_underlying hk', Conv.intToInt]) (.int _ _) hH
      · cases c3
    · cases h
  · cases hc

theorem ok_faddr {off : Nat} {x : AX} (sim : SimE nt s.env C a) (hH : C.H = s.heap) (hr : HRep C) (hc : chkIns P o (.faddr off x) = true) (h : ains (.faddr off x) s = some (av, s')) :
    OpRes C (s.p ++ [s.k]) ((execOp a.eval o).run P C.w) av s'.heap := by
  simp only [ains] at h
  simp only [chkIns] at hc
  split at hc
  · rename_i t x' f eo
    simp only [Bool.and_eq_true] at hc
    obtain ⟨c1, c2⟩ := hc
    split at c2
    · rename_i fs hu
      split at c2
      · rename_i fl hf
        simp only [Bool.and_eq_true, beq_iff_eq] at c2
        obtain ⟨rfl, c2⟩ := c2
        have hrun : ∀ ad : Addr, (Instr.fieldAt t (.pointer (some ad)) f).run P C.w = .ok (.pointer (some (ad.add fl.offset))) C.w := by
          intro ad
          split at c2
          · rename_i i hi
            have hz : i.size ≠ 0 := by simpa using c2
            simp [Instr.fieldAt, run_underlying hu, hf, Instr.sureAddr, fieldPlace, sizeOf, typeInfo, hi, hz]
          · cases c2
        have hv := rep_opd sim c1
        generalize hx : a.eval x' = xv at hv
        split at h
        · rename_i cs e
          simp only [Option.some.injEq, Prod.mk.injEq] at h
          obtain ⟨rfl, rfl⟩ := h
          rw [e] at hv
          cases hv with
          | rp _ ad vals hs hf' hv' =>
            refine .pure hr (v := .pointer (some (ad.add fl.offset))) (by simp [execOp, eo, hx, hrun]) ?_ hH
            rw [add_none hs]
            refine .rp _ _ (fun j => vals (fl.offset + j)) rfl (fun j av e1 => ?_) (fun j av e1 => ?_)
            · rw [List.getElem?_drop] at e1
              have := hf' _ _ e1
              refine ⟨this.1, ?_⟩
              have h2 := this.2
              unfold Fro at h2 ⊢
              simpa [Nat.add_assoc] using h2
            · rw [List.getElem?_drop] at e1
              exact hv' _ _ e1
        · rename_i id n i j e
          simp only [Option.some.injEq, Prod.mk.injEq] at h
          obtain ⟨rfl, rfl⟩ := h
          rw [e] at hv
          cases hv with
          | ref _ _ _ _ _ ha hs ho =>
            obtain ⟨ad, rfl⟩ := hs
            refine .pure hr (v := .pointer (some (ad.add fl.offset))) (by simp [execOp, eo, hx, hrun]) ?_ hH
            refine .ref _ _ _ _ _ ha ⟨_, rfl⟩ fun ob e1 => ⟨(ho ob e1).1, fun hn => ?_⟩
            obtain ⟨g, h1, h2⟩ := (ho ob e1).2 hn
            injection h2 with h2
            injection h2 with h2
            subst h2
            exact ⟨g, h1, by rw [add_none rfl]; simp [Nat.add_assoc]⟩
        · cases h
      · cases c2
    · cases c2
  · cases hc

theorem ok_ext {x : AX} {i : Nat} (sim : SimE nt s.env C a) (hH : C.H = s.heap) (hr : HRep C) (hc : chkIns P o (.ext x i) = true) (h : ains (.ext x i) s = some (av, s')) :
    OpRes C (s.p ++ [s.k]) ((execOp a.eval o).run P C.w) av s'.heap := by
  simp only [ains] at h
  simp only [chkIns] at hc
  split at hc
  · rename_i x' i' eo
    simp only [Bool.and_eq_true, beq_iff_eq] at hc
    obtain ⟨c1, rfl⟩ := hc
    have hv := rep_opd sim c1
    split at h
    · rename_i vs e
      cases hvi : vs[i']? with
      | none => rw [hvi] at h; simp at h
      | some v' =>
        rw [hvi] at h
        simp only [Option.map_some, Option.some.injEq, Prod.mk.injEq] at h
        obtain ⟨rfl, rfl⟩ := h
        rw [e] at hv
        obtain ⟨us, hu, hl⟩ := hv.tuple_inv
        have hlt := (List.getElem?_eq_some_iff.1 hvi).1
        have hlt' : i' < us.length := by rw [← hl.1]; exact hlt
        have hui : us[i']? = some us[i'] := List.getElem?_eq_getElem hlt'
        exact .pure hr (v := us[i']) (by simp [execOp, eo, hu, Instr.extract, hui]) (hl.2 _ _ _ hvi hui) hH
    · cases h
  · cases hc

theorem ok_mkm (sim : SimE nt s.env C a) (hH : C.H = s.heap) (hr : HRep C) (hq : ∀ id, (s.p ++ [s.k]) <+: id → C.Av id) (hc : chkIns P o .mkm = true) (h : ains .mkm s = some (av, s')) :
    OpRes C (s.p ++ [s.k]) ((execOp a.eval o).run P C.w) av s'.heap := by
  simp only [ains, Option.some.injEq, Prod.mk.injEq] at h
  obtain ⟨rfl, rfl⟩ := h
  simp only [chkIns] at hc
  split at hc
  · rename_i t eo
    refine .new (o := .map []) (v := .map (some C.w.heap.size)) (w := C.w.alloc (.map #[] 0)) hr hq ⟨rfl, rfl⟩ (Ext.refl C) ?_ (by simp [St.add, hH]) (by simp [alloc_heap]) (fun k hk => alloc_old _ _ _ hk) rfl rfl rfl (by intro g hg; simp [blk] at hg; omega) (fun _ => ?_) (fun _ => ?_)
    · simp [execOp, eo, Instr.makeMap]
    · refine .map _ _ (fun h => h.2 (List.prefix_refl _)) ⟨_, rfl⟩ fun o' e k => ?_
      exact (put_self _ _ _ _ _ _).symm
    · exact ⟨C.w.heap.size, #[], 0, put_self _ _ _ _ _ _, alloc_new _ _, .nil, .nil⟩
  · cases hc

theorem opds_rep (sim : SimE nt s.env C a) : ∀ {xs : List Operand} {ys : List AX}, opdsOK xs ys = true → RepL C (agetl ys s.env) (xs.map a.eval)
  | [], [], _ => .nil
  | x :: xs, y :: ys, h => by
    simp only [opdsOK, Bool.and_eq_true] at h
    exact .cons (rep_opd sim h.1) (opds_rep sim h.2)
  | [], _ :: _, h => by simp [opdsOK] at h
  | _ :: _, [], h => by simp [opdsOK] at h

theorem ok_mkf {f : Nat} {caps : List AX} (sim : SimE nt s.env C a) (hH : C.H = s.heap) (hr : HRep C) (hc : chkIns P o (.mkf f caps) = true) (h : ains (.mkf f caps) s = some (av, s')) :
    OpRes C (s.p ++ [s.k]) ((execOp a.eval o).run P C.w) av s'.heap := by
  simp only [ains, Option.some.injEq, Prod.mk.injEq] at h
  obtain ⟨rfl, rfl⟩ := h
  simp only [chkIns] at hc
  split at hc
  · rename_i f' first caps' eo
    simp only [Bool.and_eq_true, beq_iff_eq] at hc
    obtain ⟨⟨rfl, c1⟩, c2⟩ := hc
    have hf : first = #[] := by simpa using c1
    subst hf
    have hl := opds_rep sim c2
    refine .pure hr (v := .func (.func f') #[] (caps'.toList.map a.eval).toArray) ?_ (.func _ _ _ hl.1 hl.2) hH
    have e2 : caps'.map a.eval = (caps'.toList.map a.eval).toArray := by apply Array.ext'; simp
    simp [execOp, eo, Instr.makeFunc, e2]
  · cases hc

end
end Go.Proofs.Abs
