/- A part of a proof: the text that states the row tells what is proved. No condition is laid on anything. -/
import Derived.Test.YtgcncpedpjjjeaaAbs3
set_option linter.all false
set_option linter.constructorNameAsVariable false
set_option linter.defProp false
set_option linter.unusedVariables false
set_option linter.unusedSimpArgs false
namespace Go.Proofs.Abs
open Go

/-! ### Freezing -/
def flg (o o' : AObj) : Prop := o' = o ∨ ∃ wr fl e sz rows, o = .row wr fl e sz rows ∧ o' = .row false fl e sz rows
structure FlagLe (H H' : Heap) : Prop where
  down : ∀ i o', hget H' i = some o' → ∃ o, hget H i = some o ∧ flg o o'
  up : ∀ i o, hget H i = some o → ∃ o', hget H' i = some o' ∧ flg o o'
  nd : HND H → HND H'

theorem flg.refl (o : AObj) : flg o o := .inl rfl
theorem flg.trans {a b c : AObj} (h : flg a b) (k : flg b c) : flg a c := by
  rcases h with rfl | ⟨wr, fl, e, sz, rows, rfl, rfl⟩
  · exact k
  · rcases k with rfl | ⟨wr', fl', e', sz', rows', h, rfl⟩
    · exact .inr ⟨_, _, _, _, _, rfl, rfl⟩
    · injection h with h1 h2 h3 h4 h5
      subst h2; subst h3; subst h4; subst h5
      exact .inr ⟨_, _, _, _, _, rfl, rfl⟩
theorem flg.kind {o o' : AObj} (h : flg o o') : okind o' = okind o ∧ asize o' = asize o := by
  rcases h with rfl | ⟨wr, fl, e, sz, rows, rfl, rfl⟩ <;> exact ⟨rfl, rfl⟩
theorem flg.mut {o o' : AObj} (h : flg o o') {off : Nat} (hm : mutAt o' off) : mutAt o off := by
  rcases h with rfl | ⟨wr, fl, e, sz, rows, rfl, rfl⟩
  · exact hm
  · simp only [mutAt, Bool.false_eq_true, false_or] at hm ⊢
    exact .inr hm
theorem FlagLe.refl (H : Heap) : FlagLe H H := ⟨fun i o h => ⟨o, h, .refl _⟩, fun i o h => ⟨o, h, .refl _⟩, id⟩
theorem FlagLe.trans {A B C : Heap} (h : FlagLe A B) (k : FlagLe B C) : FlagLe A C :=
  ⟨fun i o e => by
    obtain ⟨o1, e1, f1⟩ := k.down i o e
    obtain ⟨o2, e2, f2⟩ := h.down i o1 e1
    exact ⟨o2, e2, f2.trans f1⟩,
   fun i o e => by
    obtain ⟨o1, e1, f1⟩ := h.up i o e
    obtain ⟨o2, e2, f2⟩ := k.up i o1 e1
    exact ⟨o2, e2, f1.trans f2⟩, fun hn => k.nd (h.nd hn)⟩

theorem FlagLe.set {H : Heap} {id : Id} {wr fl : Bool} {e sz : Nat} {rows : List (List AV)} (h : hget H id = some (.row wr fl e sz rows)) : FlagLe H (hset H id (.row false fl e sz rows)) := by
  have hg : ∀ i, hget (hset H id (.row false fl e sz rows)) i = if id = i then some (.row false fl e sz rows) else hget H i := by
    intro i
    rw [hget_hset]
    by_cases hi : id = i
    · subst hi; simp [h]
    · simp [hi]
  refine ⟨fun i o' e' => ?_, fun i o e' => ?_, fun hn => hn.hset _ _⟩
  · rw [hg] at e'
    split at e'
    · rename_i hc; subst hc
      injection e' with e'
      subst e'
      exact ⟨_, h, .inr ⟨_, _, _, _, _, rfl, rfl⟩⟩
    · exact ⟨o', e', .refl _⟩
  · rw [hg]
    split
    · rename_i hc; subst hc
      rw [h] at e'
      injection e' with e'
      subst e'
      exact ⟨_, rfl, .inr ⟨_, _, _, _, _, rfl, rfl⟩⟩
    · exact ⟨o, e', .refl _⟩

theorem FlagLe.ext {C : Ctx} {H : Heap} (h : FlagLe C.H H) : Ext C { C with H := H } where
  size := Nat.le_refl _
  tape := rfl
  os := rfl
  output := rfl
  block := fun _ _ _ => rfl
  cell := fun _ _ _ _ => rfl
  muts := fun k off hk hx => hx.imp (fun h => h) fun ⟨i, o', e, hb, hm⟩ => by
    obtain ⟨o, e', f⟩ := h.down i o' e
    exact ⟨i, o, e', hb, f.mut hm⟩
  obl := fun k hk ⟨i, o', e, hb⟩ => by
    obtain ⟨o, e', f⟩ := h.down i o' e
    exact ⟨i, o, e', hb⟩
  av := fun _ h => h
  x := rfl
  old := fun i o' _ e => by
    obtain ⟨o, e', f⟩ := h.down i o' e
    exact ⟨o, e', f.kind.1, by rw [f.kind.2]; exact Nat.le_refl _, fun _ => rfl⟩

theorem FlagLe.hrep {C : Ctx} {H : Heap} (h : FlagLe C.H H) (hr : HRep C) : HRep { C with H := H } where
  nd := h.nd hr.nd
  av := fun i o' e a => by
    obtain ⟨o, e', f⟩ := h.down i o' e
    exact hr.av i o e' a
  obj := fun i o' e => by
    obtain ⟨o, e', f⟩ := h.down i o' e
    have := (hr.obj i o e').step (C' := { C with H := H }) rfl (fun _ _ => rfl) (fun _ _ r => r.ext h.ext)
    rcases f with rfl | ⟨wr, fl, el, sz, rows, rfl, rfl⟩
    · exact this
    · exact this
  inj := fun i i' o o' g e e' b b' => by
    obtain ⟨o1, e1, _⟩ := h.down i o e
    obtain ⟨o2, e2, _⟩ := h.down i' o' e'
    exact hr.inj i i' o1 o2 g e1 e2 b b'
  own := fun i o g off e b => by
    obtain ⟨o1, e1, _⟩ := h.down i o e
    exact hr.own i o1 g off e1 b
  xlt := hr.xlt

theorem ownsRow_unique {w : World} {e sz n : Nat} {v : Value} {xs ys : List Value} (h : w.ownsRow 0 e sz v n xs) (k : w.ownsRow 0 e sz v n ys) : xs = ys := by
  rcases h.2 with ⟨h1, h2⟩ | ⟨g, cap, cur, hv, _, hh, _, _, _, ht⟩
  · subst h2
    have e1 : xs = [] := List.eq_nil_of_length_eq_zero (by simpa using h.1)
    have e2 : ys = [] := List.eq_nil_of_length_eq_zero (by simpa using k.1)
    rw [e1, e2]
  · rcases k.2 with ⟨k1, _⟩ | ⟨g', cap', cur', kv, _, kh, _, _, _, kt⟩
    · rw [hv] at k1; cases k1
    · rw [hv] at kv
      injection kv with kv
      injection kv with kv
      injection kv with kv
      subst kv
      rw [hh] at kh
      injection kh with kh
      injection kh with kh
      subst kh
      rw [← ht, ← kt]

/-- A row of one's own that is written no more is told by its contents. -/
theorem rep_list_of_row {C : Ctx} (hr : HRep C) {id : Id} {fl : Bool} {e sz : Nat} {rows rows' : List (List AV)} (h : hget C.H id = some (.row false fl e sz rows))
    (hlen : rows'.length = rows.length) (hrow : ∀ r ∈ rows', r.length = sz) (hcell : Cells rows'.flatten) (hrep : ∀ xs, C.w.ownsRow 0 e sz (C.φ id) rows.length xs → RepL C rows.flatten xs → RepL C rows'.flatten xs) : Rep C (.list sz rows') (C.φ id) := by
  obtain ⟨h0, h1, h2, xs, h3, h4⟩ := hr.obj id _ h
  have h4' := hrep xs h3 h4
  have hfl : rows'.flatten.length = rows.length * sz := by rw [h4'.1]; exact h3.1
  rcases h3.2 with ⟨hv, hn⟩ | ⟨g, cap, cur, hv, _, hh, hnc, _, hcs, htake⟩
  · have hr0 : rows' = [] := List.eq_nil_of_length_eq_zero (by omega)
    subst hr0
    rw [hv]
    exact .list sz [] none 0 (fun _ => undef) h0 (Nat.le_refl _) (fun _ => rfl) (by simp) (by simp) (by simp) (by simp)
  · rw [hv, ← hlen]
    refine .list sz rows' (some ⟨g, 0, none⟩) cap (fun j => xs.getD j undef) h0 (by omega) (by simp) hrow (fun _ => ⟨_, rfl, rfl⟩) (fun j av ej => ⟨hcell j av ej, fun ad ea => ?_⟩) (fun j av ej => ?_)
    · injection ea with ea
      subst ea
      have hj : j < rows'.flatten.length := (List.getElem?_eq_some_iff.1 ej).1
      have hx : xs[j]? = some (xs.getD j undef) := by
        have : j < xs.length := by rw [← h4'.1]; exact hj
        simp [List.getD, List.getElem?_eq_getElem this]
      refine ⟨?_, ?_⟩
      · have hc : cur[j]? = some (xs.getD j undef) := by
          rw [← htake, List.getElem?_take, if_pos (by rw [h4'.1, h3.1] at hj; exact hj)] at hx
          rw [Array.getElem?_toList] at hx
          rw [hx, ← htake]
        simp only [World.cell?, hh]
        simpa using hc
      · have hb2 : blk (C.φ id) = some g := by rw [hv]; rfl
        rintro (hx | ⟨i, o', ei, hb, hm⟩)
        · exact hr.own id _ g _ h hb2 hx
        have := hr.inj i id o' _ g ei h hb hb2
        subst this
        rw [h] at ei
        injection ei with ei
        subst ei
        simp only [mutAt, Bool.false_eq_true, false_or] at hm
        rw [hfl] at hj
        simp at hm
        omega
    · have hj : j < rows'.flatten.length := (List.getElem?_eq_some_iff.1 ej).1
      have hx : xs[j]? = some (xs.getD j undef) := by
        have : j < xs.length := by rw [← h4'.1]; exact hj
        simp [List.getD, List.getElem?_eq_getElem this]
      exact h4'.2 j _ _ ej hx

/-- What freezing does: flags alone; the value stays the value. -/
def FzOK (f : Heap → AV → Option (AV × Heap)) : Prop := ∀ H v v' H', f H v = some (v', H') → FlagLe H H' ∧ (isCell v = true → isCell v' = true) ∧
  ∀ C u, C.H = H → HRep C → Rep C v u → Rep { C with H := H' } v' u

theorem fzcells_ok {f : Heap → AV → Option (AV × Heap)} (hf : FzOK f) : ∀ (cs : List AV) (H : Heap) (cs' : List AV) (H' : Heap), fzd.fzcells f H cs = some (cs', H') →
    FlagLe H H' ∧ cs'.length = cs.length ∧ (Cells cs → Cells cs') ∧ ∀ C vs, C.H = H → HRep C → RepL C cs vs → RepL { C with H := H' } cs' vs
  | [], H, cs', H', h => by
    simp only [fzd.fzcells, Option.some.injEq, Prod.mk.injEq] at h
    obtain ⟨rfl, rfl⟩ := h
    exact ⟨.refl _, rfl, id, fun C vs e hr h => by subst e; exact h⟩
  | c :: cs, H, cs', H', h => by
    simp only [fzd.fzcells] at h
    cases h1 : f H c with
    | none => rw [h1] at h; cases h
    | some p =>
      obtain ⟨c', H1⟩ := p
      rw [h1] at h
      simp only at h
      cases h2 : fzd.fzcells f H1 cs with
      | none => rw [h2] at h; cases h
      | some q =>
        obtain ⟨cs2, H2⟩ := q
        rw [h2] at h
        simp only [Option.some.injEq, Prod.mk.injEq] at h
        obtain ⟨rfl, rfl⟩ := h
        obtain ⟨a1, a2, a3⟩ := hf _ _ _ _ h1
        obtain ⟨b1, b2, b3, b4⟩ := fzcells_ok hf cs H1 cs2 H2 h2
        refine ⟨a1.trans b1, by simp [b2], fun hc => .cons (a2 (hc 0 _ rfl)) (b3 fun j av e => hc (j + 1) av (by simpa using e)), fun C vs e hr h => ?_⟩
        subst e
        have hl := h.1
        cases vs with
        | nil => simp at hl
        | cons v vs =>
          have r1 := a3 C v rfl hr (h.2 0 _ _ rfl rfl)
          have hr1 := a1.hrep hr
          have rest : RepL C cs vs := ⟨by simpa using hl, fun j av v' e e' => h.2 (j + 1) av v' (by simpa using e) (by simpa using e')⟩
          have r2 := b4 { C with H := H1 } vs rfl hr1 (rest.mono fun _ _ r => r.ext a1.ext)
          exact .cons (r1.ext (C := { C with H := H1 }) (C' := { C with H := H2 }) b1.ext) r2

theorem fzrows_ok {f : Heap → AV → Option (AV × Heap)} (hf : FzOK f) : ∀ (rows : List (List AV)) (H : Heap) (rows' : List (List AV)) (H' : Heap), fzd.fzrows f H rows = some (rows', H') →
    FlagLe H H' ∧ rows'.length = rows.length ∧ (∀ sz, (∀ r ∈ rows, r.length = sz) → ∀ r ∈ rows', r.length = sz) ∧ (Cells rows.flatten → Cells rows'.flatten) ∧ ∀ C vs, C.H = H → HRep C → RepL C rows.flatten vs → RepL { C with H := H' } rows'.flatten vs
  | [], H, cs', H', h => by
    simp only [fzd.fzrows, Option.some.injEq, Prod.mk.injEq] at h
    obtain ⟨rfl, rfl⟩ := h
    exact ⟨.refl _, rfl, fun _ h => h, id, fun C vs e hr h => by subst e; exact h⟩
  | c :: cs, H, cs', H', h => by
    simp only [fzd.fzrows] at h
    cases h1 : fzd.fzcells f H c with
    | none => rw [h1] at h; cases h
    | some p =>
      obtain ⟨c', H1⟩ := p
      rw [h1] at h
      simp only at h
      cases h2 : fzd.fzrows f H1 cs with
      | none => rw [h2] at h; cases h
      | some q =>
        obtain ⟨cs2, H2⟩ := q
        rw [h2] at h
        simp only [Option.some.injEq, Prod.mk.injEq] at h
        obtain ⟨rfl, rfl⟩ := h
        obtain ⟨a1, a2, a3, a4⟩ := fzcells_ok hf _ _ _ _ h1
        obtain ⟨b1, b2, b3, b4, b5⟩ := fzrows_ok hf cs H1 cs2 H2 h2
        refine ⟨a1.trans b1, by simp [b2], fun sz hs r hr => ?_, fun hc => ?_, fun C vs e hr h => ?_⟩
        · rcases List.mem_cons.1 hr with rfl | hr
          · rw [a2]; exact hs c (by simp)
          · exact b3 sz (fun r hr => hs r (by simp [hr])) r hr
        · simp only [List.flatten_cons] at hc ⊢
          refine (a3 fun j av e => hc j av ?_).app (b4 fun j av e => hc (c.length + j) av ?_)
          · rw [List.getElem?_append_left (List.getElem?_eq_some_iff.1 e).1]; exact e
          · rw [List.getElem?_append_right (by omega)]; simpa using e
        · subst e
          simp only [List.flatten_cons] at h ⊢
          have h1' : RepL C c (vs.take c.length) := by have := h.take c.length; simpa using this
          have h2' : RepL C cs.flatten (vs.drop c.length) := by have := h.drop c.length; simpa using this
          have r1 := a4 C _ rfl hr h1'
          have hr1 := a1.hrep hr
          have r2 := b5 { C with H := H1 } _ rfl hr1 (h2'.mono fun _ _ r => r.ext a1.ext)
          have r3 := (r1.mono fun _ _ r => r.ext (C := { C with H := H1 }) (C' := { C with H := H2 }) b1.ext).app r2
          rwa [List.take_append_drop] at r3

theorem fzd_ok : ∀ d, FzOK (fzd d)
  | 0 => fun H v v' H' h => by simp [fzd] at h
  | d + 1 => fun H v v' H' h => by
    have ih := fzd_ok d
    unfold fzd at h
    split at h
    · rename_i id n
      split at h
      · rename_i wr e sz rows hg
        split at h
        · rename_i hn
          simp only [Option.some.injEq, Prod.mk.injEq] at h
          obtain ⟨rfl, rfl⟩ := h
          have hfl := FlagLe.set hg
          refine ⟨hfl, fun _ => rfl, fun C u eH hr hv => ?_⟩
          subst eH
          cases hv with
          | own _ _ _ ha hs ho =>
            rcases (ho _ hg).2 hn with hu | ⟨hn0, _, b, rfl⟩
            case inr =>
              have hrz : rows = [] := List.eq_nil_of_length_eq_zero (by omega)
              subst hrz
              exact .list sz [] b 0 (fun _ => undef) (hr.obj id _ hg).1 (Nat.le_refl _) (fun _ => rfl) (by simp) (by simp) (by simp) (by simp)
            rw [hu]
            refine rep_list_of_row (C := { C with H := hset C.H id (.row false true e sz rows) }) (hfl.hrep hr) (e := e) (fl := true) (by show hget (hset C.H id _) id = _; rw [hget_hset, if_pos ⟨rfl, by rw [hg]; rfl⟩]) rfl ?_ ?_ (fun xs _ h => h)
            · exact (hr.obj id _ hg).2.1
            · exact (hr.obj id _ hg).2.2.1
        · cases h
      · rename_i wr e sz rows hg
        split at h
        · rename_i hn
          split at h
          · rename_i rows' H2 hz
            simp only [Option.some.injEq, Prod.mk.injEq] at h
            obtain ⟨rfl, rfl⟩ := h
            have hfl := FlagLe.set hg
            obtain ⟨b1, b2, b3, b4, b5⟩ := fzrows_ok ih _ _ _ _ hz
            refine ⟨hfl.trans b1, fun _ => rfl, fun C u eH hr hv => ?_⟩
            subst eH
            cases hv with
            | own _ _ _ ha hs ho =>
              rcases (ho _ hg).2 hn with hu | ⟨hn0, _, b, rfl⟩
              case inr =>
                have hrz : rows' = [] := List.eq_nil_of_length_eq_zero (by omega)
                subst hrz
                exact .list sz [] b 0 (fun _ => undef) (hr.obj id _ hg).1 (Nat.le_refl _) (fun _ => rfl) (by simp) (by simp) (by simp) (by simp)
              rw [hu]
              have h1 : hget (hset C.H id (.row false false e sz rows)) id = some (.row false false e sz rows) := by rw [hget_hset, if_pos ⟨rfl, by rw [hg]; rfl⟩]
              obtain ⟨o2, e2, f2⟩ := b1.up id _ h1
              have ho2 : o2 = .row false false e sz rows := by
                rcases f2 with rfl | ⟨a, b, c, d', e', h, rfl⟩
                · rfl
                · injection h with x1 x2 x3 x4 x5
                  rw [x2, x3, x4, x5]
              subst ho2
              obtain ⟨h00, h01, h02, _⟩ := hr.obj id _ hg
              have hr1 := hfl.hrep hr
              obtain ⟨_, _, _, xs0, h03, h04⟩ := hr1.obj id _ h1
              have r5 := b5 { C with H := hset C.H id (.row false false e sz rows) } xs0 rfl hr1 h04
              have hr2 : HRep { C with H := H2 } := FlagLe.hrep (C := { C with H := hset C.H id (.row false false e sz rows) }) b1 hr1
              refine rep_list_of_row (C := { C with H := H2 }) hr2 e2 b2 (b3 sz h01) (b4 h02) (fun xs hx _ => ?_)
              have hxx : xs = xs0 := ownsRow_unique hx h03
              rw [hxx]
              exact r5
          · cases h
        · cases h
      · cases h
    · rename_i cs
      split at h
      · rename_i cs' H1 hz
        simp only [Option.some.injEq, Prod.mk.injEq] at h
        obtain ⟨rfl, rfl⟩ := h
        obtain ⟨a1, a2, a3, a4⟩ := fzcells_ok ih _ _ _ _ hz
        refine ⟨a1, fun hc => by simp [isCell] at hc, fun C u e hr hv => ?_⟩
        obtain ⟨vs, rfl, h1, h2⟩ := hv.agg_inv
        have := a4 C vs e hr h1
        exact .agg _ vs this.1 (a3 h2) this.2
      · cases h
    · rename_i cs
      split at h
      · rename_i cs' H1 hz
        simp only [Option.some.injEq, Prod.mk.injEq] at h
        obtain ⟨rfl, rfl⟩ := h
        obtain ⟨a1, a2, a3, a4⟩ := fzcells_ok ih _ _ _ _ hz
        refine ⟨a1, fun hc => by simp [isCell] at hc, fun C u e hr hv => ?_⟩
        obtain ⟨vs, rfl, h1⟩ := hv.tuple_inv
        have := a4 C vs e hr h1
        exact .tuple _ vs this.1 this.2
      · cases h
    · simp only [Option.some.injEq, Prod.mk.injEq] at h
      obtain ⟨rfl, rfl⟩ := h
      exact ⟨.refl _, id, fun C u e hr hv => by subst e; exact hv⟩

end Go.Proofs.Abs
