/- A part of a proof: the text that states the row tells what is proved. No condition is laid on anything. -/
import Derived.Test.YtgcncpedpjjjeaaAbs6
import Derived.Laws.Cover3
set_option linter.all false
set_option linter.constructorNameAsVariable false
set_option linter.defProp false
set_option linter.unusedVariables false
set_option linter.unusedSimpArgs false
namespace Go.Proofs.Abs
open Go

section
variable {P : Program} {o : Oper} {a : Act} {C : Ctx} {nt : Nat} {s s' : St} {av : AV}

theorem run_part' {t m off : Nat} {agg : Bool} {vs : List Value} {w : World} (ha : aggIs P t agg = true) (hs : sizeIs P t m = true) (hm : agg = true ∨ m = 1) (hl : off + m ≤ vs.length) :
    (part t vs.toArray off).run P w = .ok (if agg then .agg ((vs.drop off).take m).toArray else ((vs.drop off).take m).headD undef) w := by
  simp only [part, Sem.run_bind, run_isAgg ha, Result.andThen_ok]
  cases agg with
  | true =>
    have : vs.toArray.extract off (off + m) = ((vs.drop off).take m).toArray := by
      apply Array.ext'
      simp [List.extract_eq_take_drop]
    simp [run_sizeOf' hs, this]
  | false =>
    have hm1 : m = 1 := by simpa using hm
    subst hm1
    have : off < vs.length := by omega
    have e : (vs.drop off).take 1 = [vs[off]] := by
      rw [List.drop_eq_getElem_cons this]; rfl
    simp [e, this]

theorem ok_fld {agg : Bool} {off m : Nat} {x : AX} (sim : SimE nt s.env C a) (hH : C.H = s.heap) (hr : HRep C) (hc : chkIns P o (.fld agg off m x) = true) (h : ains (.fld agg off m x) s = some (av, s')) :
    OpRes C (s.p ++ [s.k]) ((execOp a.eval o).run P C.w) av s'.heap := by
  simp only [ains] at h
  simp only [chkIns] at hc
  split at hc
  · rename_i t x' f eo
    simp only [Bool.and_eq_true] at hc
    obtain ⟨c1, c2⟩ := hc
    split at c2
    · rename_i fs hu
      split at c2
      · rename_i fl hf
        simp only [Bool.and_eq_true, Bool.or_eq_true, beq_iff_eq] at c2
        obtain ⟨⟨⟨rfl, c3⟩, c4⟩, c5⟩ := c2
        have hv := rep_opd sim c1
        split at h
        · rename_i cs e
          rw [e] at hv
          obtain ⟨vs, hx, h1, h2⟩ := hv.agg_inv
          split at h
          · rename_i hle
            cases hof : ofCells agg ((cs.drop fl.offset).take m) with
            | none => rw [hof] at h; simp at h
            | some av' =>
              rw [hof] at h
              simp only [Option.map_some, Option.some.injEq, Prod.mk.injEq] at h
              obtain ⟨rfl, rfl⟩ := h
              have hrun := run_part' (w := C.w) (vs := vs) c3 c4 c5 (by rw [← h1.1]; exact hle)
              rcases ofCells_rep ((h1.drop fl.offset).take m) ((h2.drop fl.offset).take m) hof with ⟨rfl, r⟩ | ⟨rfl, u, hu', r⟩
              · exact .pure hr (by simp [execOp, eo, Instr.field, run_underlying hu, hf, hx, asAgg, hrun]) r hH
              · rw [hu'] at hrun
                exact .pure hr (v := u) (by simp [execOp, eo, Instr.field, run_underlying hu, hf, hx, asAgg, hrun]) r hH
          · cases h
        · cases h
      · cases c2
    · cases c2
  · cases hc

theorem ok_sidx {x i : AX} (sim : SimE nt s.env C a) (hH : C.H = s.heap) (hr : HRep C) (hc : chkIns P o (.sidx x i) = true) (h : ains (.sidx x i) s = some (av, s')) :
    OpRes C (s.p ++ [s.k]) ((execOp a.eval o).run P C.w) av s'.heap := by
  simp only [ains] at h
  simp only [chkIns] at hc
  split at hc
  · rename_i t x' i' eo
    simp only [Bool.and_eq_true] at hc
    obtain ⟨⟨c1, c2⟩, c3⟩ := hc
    have hv := rep_opd sim c1
    have hi := rep_opd sim c2
    split at h
    · rename_i b k n e1 e2
      rw [e1] at hv
      rw [e2] at hi
      split at h
      · rename_i hn
        cases hb : b[n.toNat]? with
        | none => rw [hb] at h; simp at h
        | some c =>
          rw [hb] at h
          simp only [Option.map_some, Option.some.injEq, Prod.mk.injEq] at h
          obtain ⟨rfl, rfl⟩ := h
          split at c3
          · rename_i hu
            refine .pure hr (v := .int .u8 c.toNat) ?_ (.int _ _) hH
            simp [execOp, eo, Instr.index, asIntOf, hv.str_inv, hi.int_inv, run_underlying hu, hn, hb]
          · cases c3
      · cases h
    · cases h
  · cases hc

theorem ok_iaddr {sz : Nat} {x i : AX} (sim : SimE nt s.env C a) (hH : C.H = s.heap) (hr : HRep C) (hc : chkIns P o (.iaddr sz x i) = true) (h : ains (.iaddr sz x i) s = some (av, s')) :
    OpRes C (s.p ++ [s.k]) ((execOp a.eval o).run P C.w) av s'.heap := by
  simp only [ains] at h
  simp only [chkIns] at hc
  split at hc
  · rename_i t x' i' eo
    simp only [Bool.and_eq_true] at hc
    obtain ⟨⟨c1, c2⟩, c3⟩ := hc
    split at c3
    · rename_i el hu
      obtain ⟨ti, hti, hsz⟩ := sizeIs_iff c3
      have hv := rep_opd sim c1
      have hi := rep_opd sim c2
      have hrun : ∀ (ad : Addr) (len cap : Nat) (k : IntKind) (n : Int), 0 ≤ n → n < len → (Instr.indexAt t (.slice (some ad) len cap) (.int k n)).run P C.w = .ok (.pointer (some (ad.add (n.toNat * sz)))) C.w := by
        intro ad len cap k n h0 h1
        simp [Instr.indexAt, asIntOf, run_underlying hu, h0, h1, sizeOf, typeInfo, hti, hsz]
      split at h
      · rename_i sz' rows k n e1 e2
        rw [e1] at hv
        rw [e2] at hi
        have hi' := hi.int_inv
        split at h
        · rename_i hcond
          obtain ⟨rfl, hn⟩ := hcond
          cases hrow : rows[n.toNat]? with
          | none => rw [hrow] at h; simp at h
          | some row =>
            rw [hrow] at h
            simp only [Option.map_some, Option.some.injEq, Prod.mk.injEq] at h
            obtain ⟨rfl, rfl⟩ := h
            have hlt := (List.getElem?_eq_some_iff.1 hrow).1
            generalize hx : a.eval x' = xv at hv
            cases hv with
            | list _ _ base cap vals h0 hcap hz hrr hb hf hvv =>
              obtain ⟨ad, rfl, hsp⟩ := hb (by intro h; subst h; simp at hlt)
              have hrl := hrr row (List.mem_of_getElem? hrow)
              refine .pure hr (v := .pointer (some (ad.add (n.toNat * sz')))) ?_ ?_ hH
              · simp [execOp, eo, hx, hi', hrun ad rows.length cap k n hn (by omega)]
              · rw [add_none hsp]
                refine .rp _ _ (fun j => vals (n.toNat * sz' + j)) rfl (fun j av e3 => ?_) (fun j av e3 => ?_)
                · have hj : j < sz' := by have := (List.getElem?_eq_some_iff.1 e3).1; omega
                  have hfl := rows_flat hrr hrow j hj
                  rw [e3] at hfl
                  have := hf _ _ hfl
                  refine ⟨this.1, ?_⟩
                  have h2 := this.2 ad rfl
                  unfold Fro at h2 ⊢
                  simpa [Nat.add_assoc] using h2
                · have hj : j < sz' := by have := (List.getElem?_eq_some_iff.1 e3).1; omega
                  have hfl := rows_flat hrr hrow j hj
                  rw [e3] at hfl
                  exact hvv _ _ hfl
        · cases h
      · rename_i id len k n e1 e2
        rw [e1] at hv
        rw [e2] at hi
        have hi' := hi.int_inv
        split at h
        · rename_i wr fl e sz' rows ho
          rw [← hH] at ho
          split at h
          · rename_i hcond
            obtain ⟨rfl, hlen, hn, hnl⟩ := hcond
            simp only [Option.some.injEq, Prod.mk.injEq] at h
            obtain ⟨rfl, rfl⟩ := h
            generalize hx : a.eval x' = xv at hv
            cases hv with
            | own _ _ _ ha hs hoo =>
              rcases (hoo _ ho).2 hlen with hhd | ⟨hn0, _⟩
              case inr => omega
              obtain ⟨h0, h1, h2, xs, h3, h4⟩ := hr.obj id _ ho
              rcases h3.2 with ⟨hv1, hn1⟩ | ⟨g, cap, cur, hv1, _, hh, hnc, _, hcs, htake⟩
              · omega
              · rw [hv1] at hhd
                refine .pure hr (v := .pointer (some ⟨g, n.toNat * sz', none⟩)) ?_ ?_ hH
                · have := hrun ⟨g, 0, none⟩ rows.length cap k n hn (by omega)
                  rw [add_none rfl] at this
                  simp only [Nat.zero_add] at this
                  simp [execOp, eo, hx, hhd, hi', this]
                · refine .ref _ _ _ _ _ ha ⟨_, rfl⟩ fun ob e3 => ?_
                  rw [ho] at e3
                  injection e3 with e3
                  subst e3
                  exact ⟨by simp [asize]; omega, fun _ => ⟨g, by rw [hv1]; rfl, by simp [cellsz]⟩⟩
          · cases h
        · cases h
      · cases h
    · cases c3
  · cases hc

/-- The elements of a slice that is read, as they lie. -/
theorem rowsOf_rep {sz : Nat} {v : AV} {u : Value} {rows : List (List AV)} (hr : HRep C) (h : rowsOf C.H v sz = some rows) (hv : Rep C v u) (hsz : 0 < sz) :
    ∃ base cap, u = .slice base rows.length cap ∧ rows.length ≤ cap ∧ (∀ r ∈ rows, r.length = sz) ∧ Cells rows.flatten ∧
      ∃ xs, RepL C rows.flatten xs ∧ ∀ ad, base = some ad → (rows ≠ [] → ad.spot = none) ∧ ∀ (j : Nat) x, xs[j]? = some x → C.w.cell? (ad.add j) = some x := by
  unfold rowsOf at h
  split at h
  · rename_i sz' rows'
    split at h
    · rename_i hs
      subst hs
      injection h with h
      subst h
      cases hv with
      | list _ _ base cap vals h0 hcap hz hrr hb hf hvv =>
        refine ⟨base, cap, rfl, hcap, hrr, fun j av e => (hf j av e).1, (List.range rows'.flatten.length).map vals, ⟨by simp, fun j av x e1 e2 => ?_⟩, fun ad ead => ⟨fun hne => ?_, fun j x e2 => ?_⟩⟩
        · have hj := (List.getElem?_eq_some_iff.1 e1).1
          rw [List.getElem?_map, List.getElem?_range hj] at e2
          simp only [Option.map_some, Option.some.injEq] at e2
          subst e2
          exact hvv j av e1
        · obtain ⟨ad', h1, h2⟩ := hb hne
          rw [ead] at h1; injection h1 with h1; subst h1; exact h2
        · have hj : j < rows'.flatten.length := by have := (List.getElem?_eq_some_iff.1 e2).1; simpa using this
          have hne : rows' ≠ [] := by intro hh; subst hh; simp at hj
          obtain ⟨ad', h1, h2⟩ := hb hne
          rw [ead] at h1; injection h1 with h1; subst h1
          rw [List.getElem?_map, List.getElem?_range hj] at e2
          simp only [Option.map_some, Option.some.injEq] at e2
          subst e2
          rw [add_none h2]
          exact ((hf j _ (List.getElem?_eq_getElem hj)).2 ad ead).1
    · cases h
  · injection h with h
    subst h
    cases hv
    exact ⟨none, 0, rfl, Nat.le_refl _, by simp, by intro j av; simp, [], .nil, by simp⟩
  · injection h with h
    subst h
    cases hv with
    | emp ad cap => exact ⟨some ad, cap, rfl, Nat.zero_le _, by simp, by intro j av; simp, [], .nil, by simp⟩
  · rename_i id n
    split at h
    · rename_i wr fl e sz' rows' ho
      split at h
      · rename_i hc
        obtain ⟨rfl, hn⟩ := hc
        injection h with h
        subst h
        cases hv with
        | own _ _ _ ha hs hoo =>
          obtain ⟨h0, h1, h2, xs, h3, h4⟩ := hr.obj id _ ho
          rcases (hoo _ ho).2 hn with hhd | ⟨hn0, _, b, rfl⟩
          case inr =>
            have hrz : rows' = [] := List.eq_nil_of_length_eq_zero (by omega)
            subst hrz
            have hxz : xs = [] := List.eq_nil_of_length_eq_zero (by rw [h3.1]; simp)
            subst hxz
            exact ⟨b, 0, rfl, Nat.le_refl _, h1, h2, [], h4, fun ad _ => ⟨fun hne => absurd rfl hne, fun j x e2 => by simp at e2⟩⟩
          rcases h3.2 with ⟨hv1, hn1⟩ | ⟨g, cap, cur, hv1, _, hh, hnc, _, hcs, htake⟩
          · rw [hv1] at hhd
            subst hhd
            exact ⟨none, 0, by rw [hn1], by omega, h1, h2, xs, h4, by simp⟩
          · rw [hv1] at hhd
            subst hhd
            refine ⟨some ⟨g, 0, none⟩, cap, rfl, hnc, h1, h2, xs, h4, fun ad ead => ?_⟩
            injection ead with ead
            subst ead
            refine ⟨fun _ => rfl, fun j x e2 => ?_⟩
            have hj := (List.getElem?_eq_some_iff.1 e2).1
            rw [h3.1] at hj
            rw [← htake, List.getElem?_take, if_pos hj, Array.getElem?_toList] at e2
            rw [add_none rfl]
            simp [World.cell?, hh, e2]
      · cases h
    · cases h
  · cases h

theorem bnd_rep (sim : SimE nt s.env C a) {x : Option Operand} {y : Option AX} {d n : Nat} (h : opdOKo x y = true) (hb : bnd s.env y d = some n) :
    (x.map a.eval = none ∧ y = none ∧ n = d) ∨ ∃ k, x.map a.eval = some (.int k n) ∧ y.isSome = true := by
  cases x with
  | none =>
    cases y with
    | none => simp only [bnd, Option.some.injEq] at hb; exact .inl ⟨rfl, rfl, hb.symm⟩
    | some y => simp [opdOKo] at h
  | some x =>
    cases y with
    | none => simp [opdOKo] at h
    | some y =>
      simp only [opdOKo] at h
      have hv := rep_opd sim h
      simp only [bnd] at hb
      split at hb
      · rename_i k m e
        split at hb
        · rename_i hm
          injection hb with hb
          rw [e] at hv
          refine .inr ⟨k, ?_, rfl⟩
          simp only [Option.map_some, hv.int_inv]
          congr 2
          omega
        · cases hb
      · cases hb

theorem run_bounds {isSlice : Bool} {len cap l h m : Nat} {lo hi mx : Option Value} (w : World) (hlo : (lo = none ∧ l = 0) ∨ ∃ k, lo = some (.int k l)) (hhi : (hi = none ∧ h = len) ∨ ∃ k, hi = some (.int k h))
    (hmx : (mx = none ∧ m = cap) ∨ ∃ k, mx = some (.int k m)) (hmh : mx ≠ none → hi ≠ none) (h1 : l ≤ h) (h2 : h ≤ m) (h3 : m ≤ cap) : (Instr.sliceBounds isSlice len cap lo hi mx).run P w = .ok (l, h, m) w := by
  have hb : ∀ (k : IntKind) (x y : Nat) (code : BoundsCode), x ≤ y → (Instr.sliceBound (.int k x) y code).run P w = .ok x w := by
    intro k x y code hxy
    have := run_sliceBound (P := P) w k x y code (by omega) (by omega)
    simpa using this
  rcases hmx with ⟨rfl, rfl⟩ | ⟨km, rfl⟩
  · rcases hhi with ⟨rfl, rfl⟩ | ⟨kh, rfl⟩
    · rcases hlo with ⟨rfl, rfl⟩ | ⟨kl, rfl⟩
      · simp [Instr.sliceBounds]
      · simp [Instr.sliceBounds, hb _ _ _ _ h1]
    · rcases hlo with ⟨rfl, rfl⟩ | ⟨kl, rfl⟩
      · simp [Instr.sliceBounds, hb _ _ _ _ h2]
      · simp [Instr.sliceBounds, hb _ _ _ _ h2, hb _ _ _ _ h1]
  · rcases hhi with ⟨rfl, rfl⟩ | ⟨kh, rfl⟩
    · exact absurd rfl (hmh (by simp))
    · rcases hlo with ⟨rfl, rfl⟩ | ⟨kl, rfl⟩
      · simp [Instr.sliceBounds, hb _ _ _ _ h2, hb _ _ _ _ h3]
      · simp [Instr.sliceBounds, hb _ _ _ _ h2, hb _ _ _ _ h1, hb _ _ _ _ h3]

theorem ok_sslc {x : AX} {lo hi : Option AX} (sim : SimE nt s.env C a) (hH : C.H = s.heap) (hr : HRep C) (hc : chkIns P o (.sslc x lo hi) = true) (h : ains (.sslc x lo hi) s = some (av, s')) :
    OpRes C (s.p ++ [s.k]) ((execOp a.eval o).run P C.w) av s'.heap := by
  simp only [ains] at h
  simp only [chkIns] at hc
  split at hc
  · rename_i t x' lo' hi' eo
    simp only [Bool.and_eq_true] at hc
    obtain ⟨⟨⟨c1, c2⟩, c3⟩, c4⟩ := hc
    have hv := rep_opd sim c1
    split at h
    · rename_i b e
      rw [e] at hv
      split at h
      · rename_i hh ehh
        split at h
        · rename_i ll ell
          split at h
          · rename_i hcond
            simp only [Option.some.injEq, Prod.mk.injEq] at h
            obtain ⟨rfl, rfl⟩ := h
            split at c4
            · rename_i hu
              have b1 := bnd_rep sim c3 ehh
              have b2 := bnd_rep sim c2 ell
              have hrun := run_bounds (P := P) (isSlice := false) (len := b.size) (cap := b.size) (l := ll) (h := hh) (m := b.size) (lo := lo'.map a.eval) (hi := hi'.map a.eval) (mx := none) C.w
                (b2.imp (fun h => ⟨h.1, h.2.2⟩) (fun ⟨k, h, _⟩ => ⟨k, h⟩)) (b1.imp (fun h => ⟨h.1, h.2.2⟩) (fun ⟨k, h, _⟩ => ⟨k, h⟩)) (.inl ⟨rfl, rfl⟩) (by simp) hcond.1 hcond.2 (Nat.le_refl _)
              refine .pure hr (v := .string (b.extract ll hh)) ?_ (.str _) hH
              simp [execOp, eo, hv.str_inv, Instr.sliceAt, run_underlying hu, Instr.slice, hrun]
            · cases c4
          · cases h
        · cases h
      · cases h
    · cases h
  · cases hc

theorem Rep.list_inv {sz : Nat} {rows : List (List AV)} {u : Value} (h : Rep C (.list sz rows) u) : ∃ base cap, u = .slice base rows.length cap := by
  cases h with
  | list _ _ base cap => exact ⟨base, cap, rfl⟩

/-- A part of what is read for good. -/
theorem rep_part {sz : Nat} {rows : List (List AV)} {base : Option Addr} {cap : Nat} (h : Rep C (.list sz rows) (.slice base rows.length cap)) {l h' m : Nat} (h1 : l ≤ h') (h2 : h' ≤ rows.length) (h3 : h' ≤ m) (h4 : m ≤ cap) :
    Rep C (.list sz ((rows.take h').drop l)) (.slice (if m = l then base else base.map (·.add (l * sz))) (h' - l) (m - l)) := by
  cases h with
  | list _ _ _ _ vals h0 hcap hz hrr hb hf hvv =>
    have hlen : ((rows.take h').drop l).length = h' - l := by simp; omega
    have hrr' : ∀ r ∈ (rows.take h').drop l, r.length = sz := fun r hr => hrr r (List.mem_of_mem_take (List.mem_of_mem_drop hr))
    have hfl : ∀ j av, ((rows.take h').drop l).flatten[j]? = some av → rows.flatten[l * sz + j]? = some av := by
      intro j av e
      have hj := (List.getElem?_eq_some_iff.1 e).1
      rw [flat_len hrr', hlen] at hj
      have hdiv : j / sz < h' - l := Nat.div_lt_of_lt_mul (by rw [Nat.mul_comm]; exact hj)
      have hmod : j % sz < sz := Nat.mod_lt _ h0
      have ej : j = (j / sz) * sz + j % sz := by rw [Nat.mul_comm]; exact (Nat.div_add_mod j sz).symm
      have hrow : ((rows.take h').drop l)[j / sz]? = rows[l + j / sz]? := by
        rw [List.getElem?_drop, List.getElem?_take, if_pos (by omega)]
      have hlt : l + j / sz < rows.length := by omega
      have hrow2 : rows[l + j / sz]? = some rows[l + j / sz] := List.getElem?_eq_getElem hlt
      rw [hrow2] at hrow
      have f1 := rows_flat hrr' hrow (j % sz) hmod
      rw [← ej, e] at f1
      have f2 := rows_flat hrr hrow2 (j % sz) hmod
      rw [← f1] at f2
      rw [← f2, Nat.add_mul]
      congr 1
      omega
    have key := Rep.list (C := C) sz ((rows.take h').drop l) (if m = l then base else base.map (·.add (l * sz))) (m - l) (fun j => vals (l * sz + j)) h0 (by omega) (fun he => by
      have hbn : base = none := by
        split at he
        · exact he
        · cases base with
          | none => rfl
          | some ad => cases he
      have := hz hbn
      omega) hrr' (fun hne => ?_) (fun j av e => ⟨(hf _ _ (hfl j av e)).1, fun ad ead => ?_⟩) (fun j av e => hvv _ _ (hfl j av e))
    · rwa [hlen] at key
    · have hne' : rows ≠ [] := by intro hh; subst hh; simp at hne
      obtain ⟨ad, rfl, hsp⟩ := hb hne'
      have hml : m ≠ l := by
        intro hh
        apply hne
        apply List.eq_nil_of_length_eq_zero
        omega
      exact ⟨ad.add (l * sz), by simp [hml], by rw [add_none hsp]⟩
    · have hj := (List.getElem?_eq_some_iff.1 e).1
      rw [flat_len hrr', hlen] at hj
      have hml : m ≠ l := by
        intro hh
        have h0' : h' - l = 0 := by omega
        rw [h0', Nat.zero_mul] at hj
        exact Nat.not_lt_zero _ hj
      have hne' : rows ≠ [] := by
        intro hh
        subst hh
        have h0' : h' - l = 0 := by simp at h2; omega
        rw [h0', Nat.zero_mul] at hj
        exact Nat.not_lt_zero _ hj
      obtain ⟨ad0, rfl, hsp⟩ := hb hne'
      rw [if_neg hml] at ead
      injection ead with ead
      have := (hf _ _ (hfl j av e)).2 ad0 rfl
      subst ead
      show Fro C (ad0.add (l * sz)) j _
      rw [add_none hsp]
      unfold Fro at this ⊢
      simpa [Nat.add_assoc] using this

theorem ok_slc {sz : Nat} {x : AX} {lo hi mx : Option AX} (sim : SimE nt s.env C a) (hH : C.H = s.heap) (hr : HRep C) (hc : chkIns P o (.slc sz x lo hi mx) = true) (h : ains (.slc sz x lo hi mx) s = some (av, s')) :
    OpRes C (s.p ++ [s.k]) ((execOp a.eval o).run P C.w) av s'.heap := by
  simp only [ains] at h
  simp only [chkIns] at hc
  split at hc
  · rename_i t x' lo' hi' mx' eo
    simp only [Bool.and_eq_true] at hc
    obtain ⟨⟨⟨⟨⟨⟨c1, c2⟩, c3⟩, c4⟩, c5⟩, c6⟩, c7⟩ := hc
    have hsz0' : 0 < sz := of_decide_eq_true c7
    split at c5
    · rename_i el hu
      have hv := rep_opd sim c1
      split at h
      · rename_i rows erows
        rw [← hH] at erows
        split at h
        · rename_i hh ehh
          split at h
          · rename_i ll ell
            split at h
            · rename_i mm emm
              split at h
              · rename_i hcond
                obtain ⟨hc1, hc2, hc3⟩ := hcond
                have b1 := bnd_rep sim c3 ehh
                have b2 := bnd_rep sim c2 ell
                have b3 := bnd_rep sim c4 emm
                have hrunS : ∀ base cap, rows.length ≤ cap → a.eval x' = .slice base rows.length cap → ∃ m, (m = mm ∨ m = cap) ∧ (execOp a.eval o).run P C.w = .ok (.value (.slice (if m = ll then base else base.map (·.add (ll * sz))) (hh - ll) (m - ll))) C.w ∧ hh ≤ m ∧ m ≤ cap ∧ (lo = none → hi = none → mx = none → ll = 0 ∧ hh = rows.length ∧ m = cap) ∧ (mx = none → m = cap) := by
                  intro base cap hcap hx
                  rcases b3 with ⟨e3, e3', e3''⟩ | ⟨k3, e3, e3'⟩
                  · have hrun := run_bounds (P := P) (isSlice := true) (len := rows.length) (cap := cap) (l := ll) (h := hh) (m := cap) (lo := lo'.map a.eval) (hi := hi'.map a.eval) (mx := none) C.w
                      (b2.imp (fun h => ⟨h.1, h.2.2⟩) (fun ⟨k, h, _⟩ => ⟨k, h⟩)) (b1.imp (fun h => ⟨h.1, h.2.2⟩) (fun ⟨k, h, _⟩ => ⟨k, h⟩)) (.inl ⟨rfl, rfl⟩) (by simp) hc1 (by omega) (Nat.le_refl _)
                    refine ⟨cap, .inr rfl, ?_, by omega, Nat.le_refl _, fun h1 h2 _ => ⟨?_, ?_, rfl⟩, fun _ => rfl⟩
                    · simp [execOp, eo, hx, e3, Instr.sliceAt, run_underlying hu, Instr.slice, hrun, run_sizeOf' c5]
                    · subst h1; simp [bnd] at ell; omega
                    · subst h2; simp [bnd] at ehh; omega
                  · have hhi : hi.isSome = true := by
                      cases mx with
                      | none => cases e3'
                      | some y => simpa using c6
                    have hrun := run_bounds (P := P) (isSlice := true) (len := rows.length) (cap := cap) (l := ll) (h := hh) (m := mm) (lo := lo'.map a.eval) (hi := hi'.map a.eval) (mx := mx'.map a.eval) C.w
                      (b2.imp (fun h => ⟨h.1, h.2.2⟩) (fun ⟨k, h, _⟩ => ⟨k, h⟩)) (b1.imp (fun h => ⟨h.1, h.2.2⟩) (fun ⟨k, h, _⟩ => ⟨k, h⟩)) (.inr ⟨k3, e3⟩)
                      (fun _ => by
                        rcases b1 with ⟨_, hn, _⟩ | ⟨k, hk, _⟩
                        · rw [hn] at hhi; cases hhi
                        · rw [hk]; simp) hc1 (by omega) (by omega)
                    refine ⟨mm, .inl rfl, ?_, by omega, by omega, fun _ _ h3 => ?_, fun h3 => ?_⟩
                    · simp [execOp, eo, hx, Instr.sliceAt, run_underlying hu, Instr.slice, hrun, run_sizeOf' c5]
                    · rw [h3] at e3'; cases e3'
                    · rw [h3] at e3'; cases e3'
                split at h
                · rename_i id n ev
                  split at h
                  · rename_i hwhole
                    obtain ⟨hl0, hhn, hmn⟩ := hwhole
                    simp only [Option.some.injEq, Prod.mk.injEq] at h
                    obtain ⟨rfl, rfl⟩ := h
                    have hsz0 : ∃ wr fl e rows', hget C.H id = some (.row wr fl e sz rows') ∧ rows'.length = n ∧ rows' = rows := by
                      rw [ev] at erows
                      simp only [rowsOf] at erows
                      split at erows
                      · rename_i wr fl e sz' rows' ho
                        split at erows
                        · rename_i hcc
                          obtain ⟨rfl, hn⟩ := hcc
                          injection erows with erows
                          exact ⟨wr, fl, e, rows', ho, hn, erows⟩
                        · cases erows
                      · cases erows
                    obtain ⟨wr, fl, e, rows', ho, hn', rfl⟩ := hsz0
                    have h0 := (hr.obj id _ ho).1
                    obtain ⟨base, cap, hu', hcap, _⟩ := rowsOf_rep hr erows hv h0
                    obtain ⟨m, _, hrun, _, _, _, hm⟩ := hrunS base cap hcap hu'
                    have hmc := hm (by simpa using hmn)
                    subst hmc
                    rw [ev] at hv
                    refine .pure hr (v := a.eval x') ?_ (by rw [ev]; exact hv) hH
                    rw [hrun, hu', hl0]
                    simp only [Nat.zero_mul, Nat.sub_zero]
                    have hb : (if m = 0 then base else base.map fun x => x.add 0) = base := by
                      split
                      · rfl
                      · cases base <;> simp [Addr.add]
                    rw [hb, hhn, hn']
                  · split at h
                    · rename_i sz2 rows' H ef
                      simp only [Option.some.injEq, Prod.mk.injEq] at h
                      obtain ⟨rfl, rfl⟩ := h
                      obtain ⟨f1, _, f3⟩ := fzd_ok 4 _ _ _ _ ef
                      rw [← hH] at f1
                      have hfv := f3 C (a.eval x') hH hr hv
                      have hsz0 : ∃ wr fl e rows', hget C.H id = some (.row wr fl e sz rows') ∧ rows'.length = n := by
                        rw [ev] at erows
                        simp only [rowsOf] at erows
                        split at erows
                        · rename_i wr fl e sz' rows' ho
                          split at erows
                          · rename_i hcc
                            obtain ⟨rfl, hn⟩ := hcc
                            exact ⟨wr, fl, e, rows', ho, hn⟩
                          · cases erows
                        · cases erows
                      obtain ⟨wr, fl, e, rows0, ho, hn'⟩ := hsz0
                      have h0 := (hr.obj id _ ho).1
                      obtain ⟨base, cap, hu', hcap, _⟩ := rowsOf_rep hr erows hv h0
                      obtain ⟨m, _, hrun, hm1, hm2, _, _⟩ := hrunS base cap hcap hu'
                      rw [hu'] at hfv
                      have hlen : rows'.length = rows.length := by
                        obtain ⟨b', c', hbc⟩ := hfv.list_inv
                        injection hbc with _ h2 _
                        exact h2.symm
                      have hsz2 : sz2 = sz := by
                        have hef := ef
                        rw [← hH] at hef
                        rw [ev] at hef
                        unfold fz fzd at hef
                        simp only [ho] at hef
                        cases fl with
                        | true =>
                          simp only [hn', if_true, Option.some.injEq, Prod.mk.injEq, AV.list.injEq] at hef
                          exact hef.1.1.symm
                        | false =>
                          simp only [hn', if_true] at hef
                          split at hef
                          · simp only [Option.some.injEq, Prod.mk.injEq, AV.list.injEq] at hef
                            exact hef.1.1.symm
                          · cases hef
                      subst hsz2
                      rw [← hlen] at hfv
                      have hp := rep_part hfv hc1 (by omega) hm1 hm2
                      exact .flag hr (by rw [hH] at f1; rw [hH]; exact f1) hrun hp
                    · cases h
                · rename_i hno
                  simp only [Option.some.injEq, Prod.mk.injEq] at h
                  obtain ⟨rfl, rfl⟩ := h
                  obtain ⟨base, cap, hu', hcap, _⟩ := rowsOf_rep hr erows hv hsz0'
                  have hvl : Rep C (.list sz rows) (.slice base rows.length cap) := by
                    generalize AX.ev s.env x = xe at hv erows hno
                    unfold rowsOf at erows
                    split at erows
                    · split at erows
                      · rename_i hs
                        subst hs
                        injection erows with erows
                        subst erows
                        rw [hu'] at hv
                        exact hv
                      · cases erows
                    · injection erows with erows
                      subst erows
                      rw [hu'] at hv
                      have hb0 : base = none ∧ cap = 0 := by
                        generalize hl : ([] : List (List AV)).length = l0 at hv
                        cases hv
                        exact ⟨rfl, rfl⟩
                      exact .list sz [] base cap (fun _ => undef) hsz0' (Nat.zero_le _) (fun _ => hb0.2) (by simp) (by simp) (by simp) (by simp)
                    · injection erows with erows
                      subst erows
                      rw [hu'] at hv
                      have hb0 : base ≠ none := by
                        generalize hl : ([] : List (List AV)).length = l0 at hv
                        cases hv
                        simp
                      exact .list sz [] base cap (fun _ => undef) hsz0' (Nat.zero_le _) (fun h => absurd h hb0) (by simp) (by simp) (by simp) (by simp)
                    · rename_i id n
                      exact absurd rfl (hno id n)
                    · cases erows
                  obtain ⟨m, _, hrun, hm1, hm2, _, _⟩ := hrunS base cap hcap hu'
                  exact .pure hr hrun (rep_part hvl hc1 (by omega) hm1 hm2) hH
              · cases h
            · cases h
          · cases h
        · cases h
      · cases h
    · cases c5
  · cases hc

theorem ok_zap {elem sz : Nat} {x : AX} (sim : SimE nt s.env C a) (hH : C.H = s.heap) (hr : HRep C) (hq : ∀ id, (s.p ++ [s.k]) <+: id → C.Av id) (hc : chkIns P o (.zap elem sz x) = true) (h : ains (.zap elem sz x) s = some (av, s')) :
    OpRes C (s.p ++ [s.k]) ((execOp a.eval o).run P C.w) av s'.heap := by
  simp only [ains] at h
  simp only [chkIns] at hc
  split at hc
  · rename_i t x' k1 k2 eo
    simp only [Bool.and_eq_true, decide_eq_true_eq] at hc
    obtain ⟨⟨c1, c2⟩, h0⟩ := hc
    have hv := rep_opd sim c1
    split at c2
    · rename_i el hu
      simp only [Bool.and_eq_true, beq_iff_eq] at c2
      obtain ⟨rfl, c2⟩ := c2
      split at h
      · rename_i rows erows
        simp only [Option.some.injEq, Prod.mk.injEq] at h
        obtain ⟨rfl, rfl⟩ := h
        rw [← hH] at erows
        obtain ⟨base, cap, hxv, hcap, _⟩ := rowsOf_rep hr erows hv h0
        have hrun := run_bounds (P := P) (isSlice := true) (len := rows.length) (cap := cap) (l := 0) (h := 0) (m := 0) (lo := none) (hi := some (.int k1 0)) (mx := some (.int k2 0)) C.w
          (.inl ⟨rfl, rfl⟩) (.inr ⟨k1, rfl⟩) (.inr ⟨k2, rfl⟩) (by simp) (Nat.le_refl _) (Nat.zero_le _) (Nat.zero_le _)
        have hex : (execOp a.eval o).run P C.w = .ok (.value (.slice base 0 0)) C.w := by
          have e1 : a.eval (.const (.int k1 0)) = .int k1 0 := rfl
          have e2 : a.eval (.const (.int k2 0)) = .int k2 0 := rfl
          simp [execOp, eo, hxv, Instr.sliceAt, run_underlying hu, Instr.slice, e1, e2, hrun, run_sizeOf' c2]
        refine OpRes.new' (nv0 := .slice base 0 0) (o := .row true true el sz []) (v := .slice none 0 0) (w := C.w) hr hq ⟨rfl, rfl⟩ (Ext.refl C) hex (by simp [St.add, hH]) (Nat.le_refl _) (fun _ _ => rfl) rfl rfl rfl (by simp [blk]) (fun _ => ?_) (fun _ => ?_)
        · refine .own _ 0 _ (fun h => h.2 (List.prefix_refl _)) ⟨_, _, _, rfl⟩ fun o' e => ?_
          have e' : hget (hadd C.H (s.p ++ [s.k]) (.row true true el sz [])) (s.p ++ [s.k]) = some o' := e
          rw [hget_hadd, if_pos rfl] at e'
          injection e' with e'
          subst e'
          exact ⟨by simp [asize], fun _ => .inr ⟨rfl, put_self _ _ _ _ _ _, base, rfl⟩⟩
        · refine ⟨h0, by simp, by intro j av; simp, [], ?_, .nil⟩
          rw [put_self]
          exact World.ownsRow_nil _ _ _ _
      · cases h
    · cases c2
  · cases hc

theorem ok_isnil {neg : Bool} {x : AX} (sim : SimE nt s.env C a) (hH : C.H = s.heap) (hr : HRep C) (hc : chkIns P o (.isnil neg x) = true) (h : ains (.isnil neg x) s = some (av, s')) :
    OpRes C (s.p ++ [s.k]) ((execOp a.eval o).run P C.w) av s'.heap := by
  simp only [ains] at h
  simp only [chkIns] at hc
  split at hc
  · rename_i op t x' yt eo
    simp only [Bool.and_eq_true, decide_eq_true_eq] at hc
    obtain ⟨⟨c1, c2⟩, c3⟩ := hc
    have hv := rep_opd sim c1
    split at c2
    · rename_i el hu
      have run : ∀ (base : Option Addr) (l c : Nat), a.eval x' = .slice base l c → (execOp a.eval o).run P C.w = .ok (.value (.bool (if neg then !base.isNone else base.isNone))) C.w := by
        intro base l c hx
        have he := run_equal_slice_nil (P := P) C.w t el base l c hu
        have e0 : a.eval (.const (.slice none 0 0)) = .slice none 0 0 := rfl
        have hg : ∀ b : Value, (eqGuard op t x' (.const (.slice none 0 0)) (.slice base l c) b).run P C.w = .ok () C.w := by
          intro b
          cases op <;> simp [eqGuard]
        cases neg with
        | true =>
          simp only [if_true] at c3 ⊢
          subst c3
          simp [execOp, eo, hx, e0, hg, binOp, he]
        | false =>
          simp only [Bool.false_eq_true, if_false] at c3 ⊢
          subst c3
          simp [execOp, eo, hx, e0, hg, binOp, he]
      have fin : ∀ (b : Bool) (base : Option Addr) (l c : Nat), a.eval x' = .slice base l c → base.isNone = b → some (AV.bool (if neg then !b else b), s) = some (av, s') → OpRes C (s.p ++ [s.k]) ((execOp a.eval o).run P C.w) av s'.heap := by
        intro b base l c hx hb h
        simp only [Option.some.injEq, Prod.mk.injEq] at h
        obtain ⟨rfl, rfl⟩ := h
        subst hb
        exact .pure hr (run base l c hx) (.bool _) hH
      generalize hxv : a.eval x' = xv at hv
      split at h
      · rename_i ex
        rw [ex] at hv
        cases hv
        exact fin true none 0 0 hxv rfl (by rw [← h]; cases neg <;> rfl)
      · rename_i ex
        rw [ex] at hv
        cases hv with
        | emp ad cap => exact fin false (some ad) 0 cap hxv rfl (by rw [← h]; cases neg <;> rfl)
      · rename_i sz r0 rows ex
        rw [ex] at hv
        cases hv with
        | list _ _ base cap vals h0 hcap hz hrr hb hf hvv =>
          obtain ⟨ad, hba, _⟩ := hb (by simp)
          subst hba
          exact fin false (some ad) _ cap hxv rfl (by rw [← h]; cases neg <;> rfl)
      · rename_i id n ex
        rw [ex] at hv
        split at h
        · rename_i wr fl e sz' rows ho
          rw [← hH] at ho
          split at h
          · rename_i hcond
            cases hv with
            | own _ _ _ ha hs hoo =>
              rcases (hoo _ ho).2 hcond.1 with hhd | ⟨hn0, _⟩
              case inr => omega
              obtain ⟨h0, h1, h2, xs, h3, h4⟩ := hr.obj id _ ho
              rcases h3.2 with ⟨hv1, hn1⟩ | ⟨g, cap, cur, hv1, _⟩
              · omega
              · rw [hv1] at hhd
                exact fin false _ _ _ (hxv.trans hhd) rfl (by rw [← h]; cases neg <;> rfl)
          · cases h
        · cases h
      · cases h
    · cases c2
  · cases hc

end
end Go.Proofs.Abs
