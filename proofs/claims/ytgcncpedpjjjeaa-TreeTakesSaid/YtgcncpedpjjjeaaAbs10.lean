/- A part of a proof: the text that states the row tells what is proved. No condition is laid on anything. -/
import Derived.Test.YtgcncpedpjjjeaaAbs9
set_option linter.all false
set_option linter.constructorNameAsVariable false
set_option linter.defProp false
set_option linter.unusedVariables false
set_option linter.unusedSimpArgs false
namespace Go.Proofs.Abs
open Go

/-! ### Rows, laid flat -/
theorem flat_seg {sz : Nat} {cs : List AV} {j : Nat} (hj : j + cs.length ≤ sz) : ∀ {rows : List (List AV)} {i : Nat} {old : List AV}, (∀ r ∈ rows, r.length = sz) → rows[i]? = some old →
    (rows.set i (old.take j ++ cs ++ old.drop (j + cs.length))).flatten = rows.flatten.take (i * sz + j) ++ cs ++ rows.flatten.drop (i * sz + j + cs.length)
  | [], i, old, _, h => by simp at h
  | r0 :: rest, 0, old, hr, h => by
    simp only [List.getElem?_cons_zero, Option.some.injEq] at h
    subst h
    have h0 := hr r0 (by simp)
    simp only [List.set_cons_zero, List.flatten_cons, Nat.zero_mul, Nat.zero_add]
    rw [List.take_append_of_le_length (by omega), List.drop_append_of_le_length (by omega)]
    simp
  | r0 :: rest, i + 1, old, hr, h => by
    simp only [List.getElem?_cons_succ] at h
    have h0 := hr r0 (by simp)
    have ih := flat_seg hj (fun r hr' => hr r (by simp [hr'])) h
    simp only [List.set_cons_succ, List.flatten_cons, ih]
    have e1 : (i + 1) * sz + j = r0.length + (i * sz + j) := by rw [h0, Nat.succ_mul]; omega
    rw [e1, List.take_length_add_append, Nat.add_assoc r0.length, List.drop_length_add_append]
    simp

theorem set_len {sz : Nat} {rows : List (List AV)} {i : Nat} {c : List AV} (hr : ∀ r ∈ rows, r.length = sz) (hc : c.length = sz) : ∀ r ∈ rows.set i c, r.length = sz := by
  intro r h
  rcases List.mem_or_eq_of_mem_set h with h | rfl
  · exact hr r h
  · exact hc

section
variable {P : Program} {o : Oper} {a : Act} {C : Ctx} {nt : Nat} {s s' : St} {av : AV}

/-- Literals' parts, each with its cells. -/
inductive PL (C : Ctx) (a : Act) : List (Nat × Operand) → List (Nat × List AV) → Prop
  | nil : PL C a [] []
  | cons {i : Nat} {x : Operand} {cs : List AV} {ps : List (Nat × Operand)} {l : List (Nat × List AV)} (h1 : RepL C cs (a.eval x).cells.toList) (h2 : Cells cs) (h3 : PL C a ps l) : PL C a ((i, x) :: ps) ((i, cs) :: l)

theorem PL.mono {C C' : Ctx} (h : ∀ av v, Rep C av v → Rep C' av v) {ps : List (Nat × Operand)} {l : List (Nat × List AV)} (hp : PL C a ps l) : PL C' a ps l := by
  induction hp with
  | nil => exact .nil
  | cons h1 h2 h3 ih => exact .cons (h1.mono h) h2 ih

theorem partsOf_ok {raw : Bool} {env : Env} : ∀ (ps : List (Nat × Operand)) (parts : List (Nat × AX)) (C : Ctx) (l : List (Nat × List AV)) (H : Heap), partsOKl ps parts = true → partsOf env C.H raw parts = some (l, H) → SimE nt env C a → HRep C →
    FlagLe C.H H ∧ PL { C with H := H } a ps l
  | [], parts, C, l, H, h1, h2, sim, hr => by
    cases parts with
    | cons p ps => simp [partsOKl] at h1
    | nil =>
      simp only [partsOf, Option.some.injEq, Prod.mk.injEq] at h2
      obtain ⟨rfl, rfl⟩ := h2
      exact ⟨.refl _, .nil⟩
  | (i, x) :: ps, parts, C, l, H, h1, h2, sim, hr => by
    cases parts with
    | nil => simp [partsOKl] at h1
    | cons p parts =>
      obtain ⟨j, y⟩ := p
      simp only [partsOKl, Bool.and_eq_true, beq_iff_eq] at h1
      obtain ⟨⟨rfl, p2⟩, p3⟩ := h1
      have hx := rep_opd sim p2
      simp only [partsOf] at h2
      have key : ∀ v H1, FlagLe C.H H1 → Rep { C with H := H1 } v (a.eval x) → (match cellsOf v, partsOf env H1 raw parts with
          | some cs, some (l, H2) => some ((i, cs) :: l, H2)
          | _, _ => none) = some (l, H) → FlagLe C.H H ∧ PL { C with H := H } a ((i, x) :: ps) l := by
        intro v H1 hf hv h
        split at h
        · rename_i cs l' H2 ecs ep
          simp only [Option.some.injEq, Prod.mk.injEq] at h
          obtain ⟨rfl, rfl⟩ := h
          obtain ⟨r1, r2⟩ := cellsOf_rep hv ecs
          obtain ⟨g1, g2⟩ := partsOf_ok ps parts { C with H := H1 } l' H2 p3 ep (sim.ext hf.ext) (hf.hrep hr)
          exact ⟨hf.trans g1, .cons (r1.mono fun _ _ r => r.ext (C := { C with H := H1 }) (C' := { C with H := H2 }) g1.ext) r2 g2⟩
        · cases h
      cases raw with
      | true =>
        simp only [if_true] at h2
        exact key _ _ (.refl _) hx h2
      | false =>
        simp only [Bool.false_eq_true, if_false] at h2
        cases hz : fz C.H (y.ev env) with
        | none => rw [hz] at h2; cases h2
        | some q =>
          obtain ⟨v, H1⟩ := q
          rw [hz] at h2
          obtain ⟨f1, _, f3⟩ := fzd_ok 4 _ _ _ _ hz
          exact key v H1 f1 (f3 C _ rfl hr hx) h2

theorem fill_rows {sz : Nat} : ∀ (ps : List (Nat × Operand)) (l : List (Nat × List AV)) (rows out : List (List AV)) (cells : Array Value), PL C a ps l → (∀ r ∈ rows, r.length = sz) → RepL C rows.flatten cells.toList → Cells rows.flatten → setRows rows l = some out →
    ∃ cells', Instr.fill (fun i => some (i * sz, sz)) cells (ps.map fun x => (x.1, a.eval x.2)) = some cells' ∧ RepL C out.flatten cells'.toList ∧ Cells out.flatten ∧ (∀ r ∈ out, r.length = sz) ∧ out.length = rows.length
  | [], l, rows, out, cells, hp, h1, h2, h3, h4 => by
    cases hp
    simp only [setRows, Option.some.injEq] at h4
    subst h4
    exact ⟨cells, rfl, h2, h3, h1, rfl⟩
  | (i, x) :: ps, l, rows, out, cells, hp, h1, h2, h3, h4 => by
    cases hp with
    | cons r1 r2 r3 =>
      rename_i cs l
      simp only [setRows] at h4
      split at h4
      · rename_i old eold
        split at h4
        · rename_i hlen
          have hol := h1 old (List.mem_of_getElem? eold)
          have hil := (List.getElem?_eq_some_iff.1 eold).1
          have hsz : (a.eval x).cells.size = sz := by have := r1.1; simp at this; omega
          have hfl : rows.flatten.length = cells.size := by have := h2.1; simpa using this
          have hfl2 : rows.flatten.length = rows.length * sz := flat_len h1
          have hle : i * sz + sz ≤ cells.size := by
            rw [← hfl, hfl2, ← Nat.succ_mul]
            exact Nat.mul_le_mul_right _ hil
          obtain ⟨cells', e1, e2⟩ := fill_step (place := fun i => some (i * sz, sz)) (i := i) (v := a.eval x) (cells := cells) (rest := ps.map fun x => (x.1, a.eval x.2)) rfl hsz hle
          have hcl : cs.length = sz := by omega
          have hset : rows.set i cs = rows.set i (old.take 0 ++ cs ++ old.drop (0 + cs.length)) := by
            have : old.drop (0 + cs.length) = [] := by rw [List.drop_eq_nil_iff]; omega
            rw [this]; simp
          have hflat : (rows.set i cs).flatten = rows.flatten.take (i * sz) ++ cs ++ rows.flatten.drop (i * sz + sz) := by
            rw [hset, flat_seg (sz := sz) (by omega) h1 eold]
            simp [hcl]
          obtain ⟨c2, f1, f2, f3, f4, f5⟩ := fill_rows ps l (rows.set i cs) out cells' r3 (set_len h1 hcl) (by rw [hflat, e2]; exact ((h2.take _).app r1).app (h2.drop _)) (by rw [hflat]; exact ((h3.take _).app r2).app (h3.drop _)) h4
          exact ⟨c2, by rw [List.map_cons, e1, f1], f2, f3, f4, by rw [f5]; simp⟩
        · cases h4
      · cases h4

theorem const_zero {vs : List Value} {xs : List AV} (h : constCells vs xs = true) : vs.length = xs.length := by
  have : RepL ⟨[], fun _ => undef, default, fun _ => False, fun _ _ => False⟩ xs vs := (rep_constCells _ h).1
  exact this.1.symm

theorem zero_rep (C : Ctx) {z : Array Value} {zero : List AV} (h : constCells z.toList zero = true) (n : Nat) (hz : 0 < zero.length) :
    RepL C (List.replicate n zero).flatten ((Array.range (n * zero.length)).map (z[· % z.size]!)).toList ∧ Cells (List.replicate n zero).flatten := by
  obtain ⟨h1, h2⟩ := rep_constCells C h
  have hl : z.size = zero.length := by have := h1.1; simp at this; omega
  have hrow : ∀ r ∈ List.replicate n zero, r.length = zero.length := fun r hr => by rw [(List.mem_replicate.1 hr).2]
  have hfl : (List.replicate n zero).flatten.length = n * zero.length := by rw [flat_len hrow]; simp
  have hget : ∀ j, j < n * zero.length → (List.replicate n zero).flatten[j]? = zero[j % zero.length]? := by
    intro j hj
    have hd : j / zero.length < n := Nat.div_lt_of_lt_mul (by rw [Nat.mul_comm]; exact hj)
    have ej : j = (j / zero.length) * zero.length + j % zero.length := by rw [Nat.mul_comm]; exact (Nat.div_add_mod j _).symm
    have := rows_flat hrow (i := j / zero.length) (row := zero) (by simp [hd]) (j % zero.length) (Nat.mod_lt _ hz)
    rw [← ej] at this
    exact this
  refine ⟨⟨by rw [hfl]; simp, fun j av v e1 e2 => ?_⟩, fun j av e1 => ?_⟩
  · have hj : j < n * zero.length := by have := (List.getElem?_eq_some_iff.1 e1).1; rw [hfl] at this; exact this
    rw [hget j hj] at e1
    have hm : j % z.size < z.size := Nat.mod_lt _ (by omega)
    rw [Array.getElem?_toList] at e2
    simp only [Array.getElem?_map, Array.getElem?_range, hj, if_true, Option.map_some, Option.some.injEq] at e2
    rw [getElem!_pos z _ hm] at e2
    refine h1.2 (j % zero.length) av v e1 ?_
    rw [Array.getElem?_toList, ← hl, Array.getElem?_eq_getElem hm, e2]
  · have hj : j < n * zero.length := by have := (List.getElem?_eq_some_iff.1 e1).1; rw [hfl] at this; exact this
    rw [hget j hj] at e1
    exact h2 _ _ e1

theorem ok_mkl {e sz : Nat} {zero : List AV} {n : Nat} {parts : List (Nat × AX)} {raw : Bool} (sim : SimE nt s.env C a) (hH : C.H = s.heap) (hr : HRep C) (hq : ∀ id, (s.p ++ [s.k]) <+: id → C.Av id)
    (hc : chkIns P o (.mkl e sz zero n parts raw) = true) (h : ains (.mkl e sz zero n parts raw) s = some (av, s')) : OpRes C (s.p ++ [s.k]) ((execOp a.eval o).run P C.w) av s'.heap := by
  simp only [ains] at h
  simp only [chkIns] at hc
  split at hc
  · rename_i t len ps eo
    simp only [Bool.and_eq_true, decide_eq_true_eq, beq_iff_eq] at hc
    obtain ⟨⟨⟨⟨⟨⟨⟨c1, c2⟩, c3⟩, c4⟩, rfl⟩, c6⟩, c8⟩, c7⟩ := hc
    have hu := sliceIs_iff c1
    obtain ⟨ie, hie, hsz⟩ := sizeIs_iff c2
    obtain ⟨ie', z, hie', hz, hzc⟩ := zeroIs_iff c3
    rw [hie] at hie'; injection hie' with hie'; subst hie'
    split at h
    · rename_i l H epo
      split at h
      · rename_i rows erows
        simp only [Option.some.injEq, Prod.mk.injEq] at h
        obtain ⟨rfl, rfl⟩ := h
        rw [← hH] at epo
        obtain ⟨f1, f2⟩ := partsOf_ok ps.toList parts C l H c7 epo sim hr
        have em : (ps.map fun (i, x) => (i, a.eval x)).toList = ps.toList.map fun x => (x.1, a.eval x.2) := by simp
        by_cases hlen : len = 0
        · subst hlen
          have hl0 : l = [] := by
            cases l with
            | nil => rfl
            | cons p l => obtain ⟨i, cs⟩ := p; simp [setRows] at erows
          subst hl0
          simp only [List.replicate_zero, setRows, Option.some.injEq] at erows
          subst erows
          have hps : ps.toList = [] := by cases hps : ps.toList with
            | nil => rfl
            | cons p ps' => rw [hps] at f2; cases f2
          have hps' : ps = #[] := by apply Array.ext'; simpa using hps
          subst hps'
          refine .new (C := { C with H := H }) (C0 := C) (o := .row true (!raw) e sz []) (v := .slice (some ⟨C.w.heap.size, 0, none⟩) 0 0) (w := C.w.alloc (.cells #[] e)) (f1.hrep hr) hq ⟨rfl, rfl⟩ f1.ext ?_ rfl (by simp [alloc_heap]) (fun k hk => alloc_old _ _ _ hk) rfl rfl rfl (by intro g hg; simp [blk] at hg; subst hg; exact Nat.le_refl _) (fun _ => rep_own_new rfl ⟨_, _, _, rfl⟩) (fun _ => ?_)
          · have e0 : Array.range 0 = #[] := rfl
            simp [execOp, eo, Instr.buildSlice, run_underlying hu, sizeOf, typeInfo, hie, Instr.fill, newRow, e0]
          · refine ⟨c4, by simp, by intro j av; simp, [], ⟨by simp, .inr ⟨C.w.heap.size, 0, #[], by rw [put_self]; rfl, Nat.zero_le _, alloc_new _ _, Nat.le_refl _, Nat.zero_le _, by simp, by simp⟩⟩, .nil⟩
        · have hpos : ¬ len * ie.size = 0 := by
            rw [hsz]
            intro h0
            rcases Nat.mul_eq_zero.1 h0 with h0 | h0
            · exact hlen h0
            · omega
          obtain ⟨z1, z2⟩ := zero_rep { C with H := H } hzc len (by omega)
          rw [c8] at z1
          have hrow0 : ∀ r ∈ List.replicate len zero, r.length = sz := fun r hr => by rw [(List.mem_replicate.1 hr).2]; exact c8
          obtain ⟨cells', g1, g2, g3, g4, g5⟩ := fill_rows (C := { C with H := H }) ps.toList l _ rows _ f2 hrow0 z1 z2 erows
          have hlr : rows.length = len := by rw [g5]; simp
          have hcs : cells'.size = len * sz := by have := g2.1; rw [flat_len g4, hlr] at this; simpa using this.symm
          have hrun : (execOp a.eval o).run P C.w = .ok (.value (.slice (some ⟨C.w.heap.size, 0, none⟩) len len)) (C.w.alloc (.cells cells' e)) := by
            have := run_buildSlice (P := P) C.w t e len (ps.map fun (i, x) => (i, a.eval x)) cells' ie z hu hie hz (by rw [hsz]; omega) hpos (by rw [em, hsz]; exact g1)
            simp only [execOp, eo, Sem.run_bind, this]
            rfl
          refine .new (C := { C with H := H }) (C0 := C) (o := .row true (!raw) e sz rows) (v := .slice (some ⟨C.w.heap.size, 0, none⟩) len len) (w := C.w.alloc (.cells cells' e)) (f1.hrep hr) hq ⟨rfl, rfl⟩ f1.ext hrun rfl (by simp [alloc_heap]) (fun k hk => alloc_old _ _ _ hk) rfl rfl rfl (by intro g hg; simp [blk] at hg; subst hg; exact Nat.le_refl _) (fun _ => rep_own_new hlr ⟨_, _, _, rfl⟩) (fun he => ?_)
          have hlen2 : len ≤ len * sz := Nat.le_mul_of_pos_right _ c4
          refine ⟨c4, g4, g3, cells'.toList, ⟨by simp [hcs, hlr], .inr ⟨C.w.heap.size, len, cells', by rw [put_self, hlr], Nat.zero_le _, alloc_new _ _, by omega, by simp only [maxLen]; omega, hcs, ?_⟩⟩, g2.mono fun _ _ r => r.ext he⟩
          rw [hlr, ← hcs]
          exact List.take_of_length_le (by simp)
      · cases h
    · cases h
  · cases hc

theorem ok_mks {e sz bytes : Nat} {zero : List AV} {l : AX} (sim : SimE nt s.env C a) (hH : C.H = s.heap) (hr : HRep C) (hq : ∀ id, (s.p ++ [s.k]) <+: id → C.Av id)
    (hc : chkIns P o (.mks e sz bytes zero l) = true) (h : ains (.mks e sz bytes zero l) s = some (av, s')) : OpRes C (s.p ++ [s.k]) ((execOp a.eval o).run P C.w) av s'.heap := by
  simp only [ains] at h
  simp only [chkIns] at hc
  split at hc
  · rename_i t l' c' eo
    simp only [Bool.and_eq_true, decide_eq_true_eq, beq_iff_eq] at hc
    obtain ⟨⟨⟨⟨⟨⟨⟨⟨c1, c2⟩, c3⟩, c4⟩, c5⟩, c6⟩, c7⟩, c8⟩, c9⟩ := hc
    have hu := sliceIs_iff c3
    obtain ⟨ie, hie, hsz⟩ := sizeIs_iff c4
    obtain ⟨ie', hie', hby⟩ := bytesIs_iff c5
    rw [hie] at hie'; injection hie' with hie'; subst hie'
    obtain ⟨ie', z, hie', hz, hzc⟩ := zeroIs_iff c6
    rw [hie] at hie'; injection hie' with hie'; subst hie'
    have hl := rep_opd sim c1
    have hcap := rep_opd sim c2
    split at h
    · rename_i n en
      rw [en] at hl hcap
      split at h
      · rename_i hn
        obtain ⟨h0, hb⟩ := hn
        simp only [Option.some.injEq, Prod.mk.injEq] at h
        obtain ⟨rfl, rfl⟩ := h
        have hn1 : n ≤ n * bytes := by
          have h1 : (1 : Int) ≤ bytes := by omega
          have := Int.mul_le_mul_of_nonneg_left h1 h0
          simpa using this
        have hrun := run_make (P := P) C.w t e ie z hu hie hz .i64 .i64 n n h0 (Int.le_refl _) (by rw [hby, Int.mul_comm]; omega) (by omega)
        obtain ⟨z1, z2⟩ := zero_rep (C.put (hadd C.H (s.p ++ [s.k]) (.row true true e sz (List.replicate n.toNat zero))) (s.p ++ [s.k]) (.slice (some ⟨C.w.heap.size, 0, none⟩) n.toNat n.toNat) (C.w.alloc (.cells (madeCells z.cells (n.toNat * ie.size)) e)) (less C.Av (s.p ++ [s.k]))) hzc n.toNat (by omega)
        have hrow0 : ∀ r ∈ List.replicate n.toNat zero, r.length = sz := fun r hr => by rw [(List.mem_replicate.1 hr).2]; exact c9
        refine .new (o := .row true true e sz (List.replicate n.toNat zero)) (v := .slice (some ⟨C.w.heap.size, 0, none⟩) n.toNat n.toNat) (w := C.w.alloc (.cells (madeCells z.cells (n.toNat * ie.size)) e)) hr hq ⟨rfl, rfl⟩ (Ext.refl C) ?_ (by simp [St.add, hH]) (by simp [alloc_heap]) (fun k hk => alloc_old _ _ _ hk) rfl rfl rfl (by intro g hg; simp [blk] at hg; subst hg; exact Nat.le_refl _) (fun _ => rep_own_new (by simp [asize]) ⟨_, _, _, rfl⟩) (fun he => ?_)
        · simp only [execOp, eo, hl.int_inv, hcap.int_inv, Sem.run_bind, hrun]
          rfl
        · have hms : (madeCells z.cells (n.toNat * ie.size)).size = n.toNat * sz := by rw [size_madeCells, hsz]
          refine ⟨c7, hrow0, z2, (madeCells z.cells (n.toNat * ie.size)).toList, ⟨by simp [hms], .inr ⟨C.w.heap.size, n.toNat, madeCells z.cells (n.toNat * ie.size), by rw [put_self]; simp, Nat.zero_le _, alloc_new _ _, by simp, by simp only [maxLen]; omega, hms, ?_⟩⟩, ?_⟩
          · rw [List.length_replicate, ← hms]
            exact List.take_of_length_le (by simp)
          · have hzl : zero.length = ie.size := c9.trans hsz.symm
            rw [hzl] at z1
            exact z1
      · cases h
    · cases h
  · cases hc

end
end Go.Proofs.Abs
