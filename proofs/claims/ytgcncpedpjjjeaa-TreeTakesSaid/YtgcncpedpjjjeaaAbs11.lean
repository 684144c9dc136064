/- A part of a proof: the text that states the row tells what is proved. No condition is laid on anything. -/
import Derived.Test.YtgcncpedpjjjeaaAbs10
set_option linter.all false
set_option linter.constructorNameAsVariable false
set_option linter.defProp false
set_option linter.unusedVariables false
set_option linter.unusedSimpArgs false
namespace Go.Proofs.Abs
open Go

section
variable {P : Program} {o : Oper} {a : Act} {C : Ctx} {nt : Nat} {s s' : St} {av : AV}

theorem OpRes.set {C C0 : Ctx} {q : Id} {r : Result Next} {av : AV} {H' : Heap} {id : Id} {ob ob' : AObj} {v : Value} {w : World} {nv : Next} (hr : HRep C) (he0 : Ext C0 C) (h0 : C0.Av = C.Av)
    (hs : SetOk C id ob ob' v w) (ho : Ext C (C.put (hset C.H id ob') id v w C.Av) → ObjRep (C.put (hset C.H id ob') id v w C.Av) id ob')
    (hrun : r = .ok nv w) (hnv : (∃ u, nv = .value u ∧ (Ext C (C.put (hset C.H id ob') id v w C.Av) → Rep (C.put (hset C.H id ob') id v w C.Av) av u)) ∨ (nv = .skip ∧ av = .undef)) (hH : H' = hset C.H id ob') : OpRes C0 q r av H' := by
  have he := Ext.set hs
  refine ⟨_, nv, hrun, ?_, hH.symm, HRep.set hr hs ho, he0.trans he, fun i h1 _ => h0 ▸ h1⟩
  rcases hnv with ⟨u, h1, h2⟩ | h
  · exact .inl ⟨u, h1, h2 he⟩
  · exact .inr h

theorem RepL.of_eq {C : Ctx} {xs : List AV} {vs vs' : List Value} (h : RepL C xs vs) (e : vs = vs') : RepL C xs vs' := e ▸ h

theorem rep_own_set {C : Ctx} {id : Id} {ob ob' : AObj} {v : Value} {w : World} {n : Nat} (hg : hget C.H id = some ob) (ha : ¬ C.Av id) (hn : asize ob' = n) (hs : ∃ a l c, v = .slice a l c) : Rep (C.put (hset C.H id ob') id v w C.Av) (.own id n) v := by
  refine .own id n v ha hs fun o' e => ?_
  have e' : hget (hset C.H id ob') id = some o' := e
  rw [hset_some hg, if_pos rfl] at e'
  injection e' with e'
  subst e'
  exact ⟨by omega, fun _ => .inl (put_self _ _ _ _ _ _).symm⟩

theorem run_append_zero (w : World) (t ty e : TypeId) (i : TypeInfo) (ht : P.underlying t = some (.slice e)) (hi : P.info? e = some i) (b : Option Addr) (n cap : Nat) (hle : n ≤ cap) (x : Option Addr) (c : Nat) :
    (Builtin.append_ #[t, t] ty #[.slice b n cap, .slice x 0 c]).run P w = .ok (.slice b n cap) w := by
  have hf : (Builtin.firstCells i.size 0 (.slice x 0 c)).run P w = .ok #[] w := by
    cases x <;> simp [Builtin.firstCells, loadCells, loadCellsFrom]
  cases b with
  | none => simp [Builtin.append_, run_underlying ht, sizeOf, typeInfo, hi, Builtin.lenOf, hf, hle]
  | some ad => simp [Builtin.append_, run_underlying ht, sizeOf, typeInfo, hi, Builtin.lenOf, hf, hle, storeCells]

theorem ok_app {e sz bytes : Nat} {x y : AX} (sim : SimE nt s.env C a) (hH : C.H = s.heap) (hr : HRep C) (hc : chkIns P o (.app e sz bytes x y) = true) (h : ains (.app e sz bytes x y) s = some (av, s')) :
    OpRes C (s.p ++ [s.k]) ((execOp a.eval o).run P C.w) av s'.heap := by
  simp only [ains] at h
  simp only [chkIns] at hc
  split at hc
  · rename_i args ats eo
    split at hc
    · rename_i x' y' t t' eargs eats
      simp only [Bool.and_eq_true, decide_eq_true_eq, beq_iff_eq] at hc
      obtain ⟨⟨⟨⟨⟨⟨⟨⟨c1, c2⟩, rfl⟩, c4⟩, c5⟩, c6⟩, c7⟩, c8⟩, c9⟩ := hc
      have ea : args = #[x', y'] := by apply Array.ext'; simpa using eargs
      have et : ats = #[t, t] := by apply Array.ext'; simpa using eats
      subst ea; subst et
      have hu := sliceIs_iff c4
      obtain ⟨ie, hie, hsz⟩ := sizeIs_iff c5
      obtain ⟨ie', hie', hby⟩ := bytesIs_iff c6
      rw [hie] at hie'; injection hie' with hie'; subst hie'
      obtain ⟨z, hz, hzs⟩ : ∃ z, ie.zero = some z ∧ z.cells.size = sz := by
        rw [hie] at c7
        simp only at c7
        split at c7
        · rename_i z ez; exact ⟨z, ez, by simpa using c7⟩
        · cases c7
      have hx := rep_opd sim c1
      have hy := rep_opd sim c2
      split at h
      · rename_i new enew
        rw [← hH] at enew
        obtain ⟨base, ycap, hyv, hycap, hnr, hnc, news, hnl, hna⟩ := rowsOf_rep hr enew hy c8
        have hnlen : news.length = new.length * sz := by rw [← hnl.1, flat_len hnr]
        have hnone : ∀ u ∈ news, u.oneCell' = true := by
          intro u hu'
          obtain ⟨j, hj, ej⟩ := List.getElem_of_mem hu'
          have hj' : j < new.flatten.length := by rw [hnl.1]; exact hj
          exact ((hnl.2 j _ _ (List.getElem?_eq_getElem hj') (by rw [List.getElem?_eq_getElem hj, ej])).cell (hnc j _ (List.getElem?_eq_getElem hj'))).1
        split at h
        · rename_i id n ex
          rw [ex] at hx
          split at h
          · rename_i wr flat el sz' rows ho
            rw [← hH] at ho
            split at h
            · rename_i hcond
              obtain ⟨rfl, rfl, hn, hbound⟩ := hcond
              simp only [Option.some.injEq, Prod.mk.injEq] at h
              obtain ⟨rfl, rfl⟩ := h
              generalize hfl : (flat && _ : Bool) = flg'
              obtain ⟨h0, h1, h2, xs, h3, h4⟩ := hr.obj id _ ho
              have hxv : a.eval x' = C.φ id ∨ (n = 0 ∧ C.φ id = .slice none 0 0 ∧ ∃ b, a.eval x' = .slice b 0 0) := by
                generalize a.eval x' = xv at hx ⊢
                cases hx with
                | own _ _ _ ha hs hoo => exact (hoo _ ho).2 hn
              have hnav := hr.av id _ ho
              have hrr : ∀ r ∈ rows ++ new, r.length = sz' := fun r hr' => (List.mem_append.1 hr').elim (h1 r) (hnr r)
              have hcc : Cells (rows ++ new).flatten := by rw [List.flatten_append]; exact h2.app hnc
              have hsize : asize (AObj.row wr flg' el sz' (rows ++ new)) = n + new.length := by simp [asize, hn]
              have hrunc : ∀ v w, (Builtin.append_ #[t, t] o.type #[a.eval x', a.eval y']).run P C.w = .ok v w → (execOp a.eval o).run P C.w = .ok (.value v) w := by
                intro v w hv
                rw [call_args eo]
                simp only [builtin, Sem.run_bind]
                rw [show (#[x', y'].map a.eval) = #[a.eval x', a.eval y'] from by simp, hv]
                rfl
              have hn63 : n + new.length ≤ 140737488355328 := Nat.le_trans (Nat.le_mul_of_pos_right _ c9) hbound
              by_cases hm : new.length = 0
              · -- nothing is appended
                have hnn : new = [] := List.eq_nil_of_length_eq_zero hm
                subst hnn
                obtain ⟨b0, cap0, hhd, hcap0⟩ : ∃ b0 cap0, a.eval x' = .slice b0 n cap0 ∧ n ≤ cap0 := by
                  rcases hxv with hxv | ⟨hn0, _, b, hxv⟩
                  case inr => exact ⟨b, 0, by rw [hxv, hn0], by omega⟩
                  rw [hxv]
                  rcases h3.2 with ⟨hv, hn1⟩ | ⟨g, cap, cur, hv, _, _, hnc', _⟩
                  · exact ⟨none, 0, by rw [hv]; congr 1; omega, by omega⟩
                  · exact ⟨_, cap, by rw [hv, hn], by omega⟩
                have hrun := run_append_zero (P := P) C.w t o.type el ie hu hie b0 n cap0 hcap0 base ycap
                refine .set (ob := .row wr flat el sz' rows) (ob' := .row wr flg' el sz' (rows ++ [])) (v := C.φ id) (w := C.w) hr (Ext.refl C) rfl
                  ⟨ho, rfl, by simp [asize], fun _ => rfl, Nat.le_refl _, rfl, rfl, rfl, fun _ _ _ => rfl, fun _ _ _ _ => rfl, .inl ⟨rfl, fun off hmm => by simpa [mutAt] using hmm⟩⟩
                  (fun he => ⟨h0, by simpa using h1, by simpa using h2, xs, by rw [put_self, List.append_nil]; exact h3, by have h5 := h4.mono (fun _ _ r => r.ext he); rw [show (rows ++ ([] : List (List AV))).flatten = rows.flatten from by rw [List.append_nil]]; exact h5⟩)
                  (hrunc _ _ (by rw [hyv, hhd]; exact hrun)) (.inl ⟨_, rfl, fun he => ?_⟩) (by rw [hH])
                rw [← hhd]
                exact hx.ext he
              · -- the new elements' place
                have hne : new ≠ [] := by intro hh; subst hh; exact hm rfl
                obtain ⟨ad, rfl⟩ : ∃ ad, base = some ad := by
                  cases base with
                  | some ad => exact ⟨ad, rfl⟩
                  | none =>
                    exfalso
                    -- a slice without an array has no elements
                    unfold rowsOf at enew
                    generalize AX.ev s.env y = yv at enew hy
                    split at enew
                    · split at enew
                      · rename_i hs; subst hs; injection enew with enew; subst enew
                        rw [hyv] at hy
                        cases hy with
                        | list _ _ _ _ _ _ _ _ _ hb => obtain ⟨ad, h5, _⟩ := hb hne; cases h5
                      · cases enew
                    · injection enew with enew; exact hne enew.symm
                    · injection enew with enew; exact hne enew.symm
                    · split at enew
                      · rename_i ho2
                        split at enew
                        · rename_i hcc2
                          injection enew with enew
                          subst enew
                          rw [hyv] at hy
                          cases hy with
                          | own _ _ _ ha hs hoo =>
                            rcases (hoo _ ho2).2 hcc2.2 with h6 | ⟨hn0, _⟩
                            case inr => exact hm (hcc2.2.trans hn0)
                            obtain ⟨_, _, _, xs2, h7, _⟩ := hr.obj _ _ ho2
                            rcases h7.2 with ⟨_, h8⟩ | ⟨g, cap, cur, h8, _⟩
                            · exact hm h8
                            · rw [h8] at h6; cases h6
                        · cases enew
                      · cases enew
                    · cases enew
                have hnews := (hna ad rfl).2
                have hxl : xs.length = n * sz' := by rw [← hn]; exact h3.1
                have grown : ∀ old : Nat, old < n + new.length → ((Builtin.append_ #[t, t] o.type #[a.eval x', a.eval y']).run P C.w =
                      .ok (.slice (some ⟨C.w.heap.size, 0, none⟩) (n + new.length) (grownCap C.w (n + new.length) old el)) (C.w.drew.alloc (.cells (xs.toArray ++ news.toArray ++ Builtin.zeroCells z.cells (grownCap C.w (n + new.length) old el - (n + new.length))) el))) →
                    OpRes C (s.p ++ [s.k]) ((execOp a.eval o).run P C.w) (.own id (n + new.length)) (hset s.heap id (.row wr flg' el sz' (rows ++ new))) := by
                  intro old hold hrun
                  have hge := grownCap_ge C.w (n + new.length) old el
                  have hcm : grownCap C.w (n + new.length) old el ≤ maxLen := grownCap_le_maxLen C.w (n + new.length) old el (by simp only [maxLen]; omega)
                  have hw : ∀ k, k < C.w.heap.size → (C.w.drew.alloc (.cells (xs.toArray ++ news.toArray ++ Builtin.zeroCells z.cells (grownCap C.w (n + new.length) old el - (n + new.length))) el)).heap[k]? = C.w.heap[k]? := fun k hk => alloc_old C.w.drew _ k hk
                  refine .set (ob := .row wr flat el sz' rows) (ob' := .row wr flg' el sz' (rows ++ new)) (v := .slice (some ⟨C.w.heap.size, 0, none⟩) (n + new.length) (grownCap C.w (n + new.length) old el)) (w := C.w.drew.alloc (.cells (xs.toArray ++ news.toArray ++ Builtin.zeroCells z.cells (grownCap C.w (n + new.length) old el - (n + new.length))) el)) hr (Ext.refl C) rfl
                    ⟨ho, rfl, by simp [asize], fun he => by simp [asize] at he; exact absurd he hne, by rw [alloc_heap]; simp, rfl, rfl, rfl, fun k hk _ => hw k hk, fun g off hg _ => World.cell?_of_block (hw g (obj_lt (hr.obj id _ ho) hg)), .inr fun g hg => by simp [blk] at hg; omega⟩
                    (fun he => ⟨h0, hrr, hcc, xs ++ news, ?_, ?_⟩) (hrunc _ _ hrun) (.inl ⟨_, rfl, fun _ => rep_own_set ho hnav hsize ⟨_, _, _, rfl⟩⟩) (by rw [hH])
                  · rw [put_self]
                    refine ⟨by simp [hxl, hnlen, hn, Nat.add_mul], .inr ⟨C.w.heap.size, _, _, by simp [hn], Nat.zero_le _, alloc_new C.w.drew _, by simp [hn]; omega, hcm, ?_, ?_⟩⟩
                    · simp only [Array.size_append, List.size_toArray, size_zeroCells, hzs, hxl, hnlen, ← Nat.add_mul]
                      congr 1
                      omega
                    · simp only [Array.toList_append, List.append_assoc]
                      have hl : (xs ++ news).length = (rows ++ new).length * sz' := by simp [hxl, hnlen, hn, Nat.add_mul]
                      rw [← List.append_assoc, ← hl]
                      exact List.take_left
                  · rw [List.flatten_append]
                    exact (h4.app hnl).mono fun _ _ r => r.ext he
                rcases h3.2 with ⟨hv, hn1⟩ | ⟨g, cap, cur, hv, _, hh, hnc', hcm', hcs, htake⟩
                · have hn0 : n = 0 := by omega
                  subst hn0
                  have hxn : xs = [] := List.eq_nil_of_length_eq_zero (by rw [hxl]; simp)
                  subst hxn
                  refine grown 0 (by omega) ?_
                  rcases hxv with hxv | ⟨_, _, b, hxv⟩
                  case inr =>
                    have zero : ∀ x0 : Addr, (Builtin.append_ #[t, t] o.type #[.slice (some x0) 0 0, .slice (some ad) new.length ycap]).run P C.w = .ok (.slice (some ⟨C.w.heap.size, 0, none⟩) (0 + new.length) (grownCap C.w (0 + new.length) 0 el)) (C.w.drew.alloc (.cells (([] : List Value).toArray ++ news.toArray ++ Builtin.zeroCells z.cells (grownCap C.w (0 + new.length) 0 el - (0 + new.length))) el)) := fun x0 =>
                      run_append_grow (P := P) C.w t o.type el ie z hu hie hz x0 0 0 [] (by simp) (by simp) ad new.length ycap news (by rw [hsz]; exact hnlen) hnews (by omega) (by omega) (by rw [hby]; exact growslice_fits (by omega) hbound)
                    cases b with
                    | some x0 => rw [hxv, hyv]; exact zero x0
                    | none =>
                      have hr1 := run_append_nil (P := P) C.w t o.type el ie z hu hie hz ad new.length ycap news (by rw [hsz]; exact hnlen) hnews (by omega) (by omega) (by rw [hby]; have h7 := hbound; rw [Nat.zero_add] at h7; omega)
                      rw [hxv, hyv]
                      simpa using hr1
                  have hr1 := run_append_nil (P := P) C.w t o.type el ie z hu hie hz ad new.length ycap news (by rw [hsz]; exact hnlen) hnews (by omega) (by omega) (by rw [hby]; have h7 := hbound; rw [Nat.zero_add] at h7; omega)
                  rw [hxv, hyv, hv]
                  simpa using hr1
                · rcases hxv with hxv | ⟨_, hbad, _⟩
                  case inr => rw [hv] at hbad; cases hbad
                  by_cases hroom : n + new.length ≤ cap
                  · -- in place
                    have hfit : n * ie.size + news.length ≤ cur.size := by rw [hnlen, hcs, hsz, ← Nat.add_mul]; exact Nat.mul_le_mul_right _ hroom
                    have hr1 := run_append_room (P := P) C.w t o.type el ie hu hie g n cap cur hh ad new.length ycap news (by rw [hsz]; exact hnlen) hnews hnone hroom hfit
                    rw [hsz] at hr1 hfit
                    have hold : ∀ k, k ≠ g → (C.w.setRow g (cur.toList.take (n * sz') ++ news ++ cur.toList.drop (n * sz' + news.length)).toArray).heap[k]? = C.w.heap[k]? := fun k hk => setRow_other C.w g k _ hk
                    have hg' := setRow_heap C.w g cur (cur.toList.take (n * sz') ++ news ++ cur.toList.drop (n * sz' + news.length)).toArray el (0, 0) hh
                    refine .set (ob := .row wr flat el sz' rows) (ob' := .row wr flg' el sz' (rows ++ new)) (v := .slice (some ⟨g, 0, none⟩) (n + new.length) cap) (w := C.w.setRow g (cur.toList.take (n * sz') ++ news ++ cur.toList.drop (n * sz' + news.length)).toArray) hr (Ext.refl C) rfl
                      ⟨ho, rfl, by simp [asize], fun he => by simp [asize] at he; exact absurd he hne, by simp [World.setRow], rfl, rfl, rfl, fun k hk hne' => hold k (fun e => hne' (by rw [hv, e]; rfl)), fun g' off hg2 hm2 => ?_, .inl ⟨by rw [hv]; rfl, fun off hmm => ?_⟩⟩
                      (fun he => ⟨h0, hrr, hcc, xs ++ news, ?_, ?_⟩) (hrunc _ _ (by rw [hxv, hyv, hv, hn]; exact hr1)) (.inl ⟨_, rfl, fun _ => rep_own_set ho hnav hsize ⟨_, _, _, rfl⟩⟩) (by rw [hH])
                    · rw [hv] at hg2
                      have : g = g' := by simpa [blk] using hg2
                      subst this
                      have hoff : off < n * sz' := by
                        simp only [mutAt, not_or] at hm2
                        rw [hn] at hm2
                        omega
                      simp only [World.cell?, hg', hh]
                      simp only [Option.isSome_none, Bool.false_eq_true, if_false, List.getElem?_toArray]
                      rw [List.append_assoc, List.getElem?_append_left (by simp; omega), List.getElem?_take, if_pos hoff, Array.getElem?_toList]
                    · simp only [mutAt] at hmm ⊢
                      rcases hmm with h' | h'
                      · exact .inl h'
                      · refine .inr (Nat.le_trans (Nat.mul_le_mul_right _ ?_) h')
                        simp
                    · rw [put_self]
                      refine ⟨by simp [hxl, hnlen, hn, Nat.add_mul], .inr ⟨g, cap, _, by simp [hn], Nat.zero_le _, hg', by simp [hn]; omega, hcm', ?_, ?_⟩⟩
                      · simp only [List.size_toArray, List.length_append, List.length_take, List.length_drop, Array.length_toList]
                        omega
                      · have hl : (xs ++ news).length = (rows ++ new).length * sz' := by simp [hxl, hnlen, hn, Nat.add_mul]
                        rw [hn] at htake
                        simp only [htake]
                        rw [← hl]
                        exact List.take_left
                    · rw [List.flatten_append]
                      exact (h4.app hnl).mono fun _ _ r => r.ext he
                  · refine grown cap (by omega) ?_
                    have holds : ∀ (j : Nat) u, xs[j]? = some u → C.w.cell? ((⟨g, 0, none⟩ : Addr).add j) = some u := fun j u ej => h3.cells (g := g) (by rw [hv]; rfl) j u ej
                    have hr1 := run_append_grow (P := P) C.w t o.type el ie z hu hie hz ⟨g, 0, none⟩ n cap xs (by rw [hsz]; exact hxl) holds ad new.length ycap news (by rw [hsz]; exact hnlen) hnews (by omega) (by omega) (by rw [hby]; exact growslice_fits (by omega) hbound)
                    rw [hxv, hyv, hv, hn]
                    exact hr1
            · cases h
          · cases h
        · cases h
      · cases h
    · cases hc
  · cases hc

theorem take_seg {xs vs : List Value} {o n : Nat} (h : o + vs.length ≤ n) (hn : n ≤ xs.length) : (xs.take o ++ vs ++ xs.drop (o + vs.length)).take n = (xs.take n).take o ++ vs ++ (xs.take n).drop (o + vs.length) := by
  have h1 : (xs.take o ++ vs).length = o + vs.length := by simp; omega
  rw [List.take_append, h1, List.take_of_length_le (by omega), List.take_take, List.drop_take]
  congr 2
  rw [Nat.min_eq_left (by omega)]

theorem ok_store {raw : Bool} {m : Nat} {p x : AX} (sim : SimE nt s.env C a) (hH : C.H = s.heap) (hr : HRep C) (hc : chkIns P o (.store raw m p x) = true) (h : ains (.store raw m p x) s = some (av, s')) :
    OpRes C (s.p ++ [s.k]) ((execOp a.eval o).run P C.w) av s'.heap := by
  simp only [ains] at h
  simp only [chkIns] at hc
  split at hc
  · rename_i t p' x' eo
    simp only [Bool.and_eq_true] at hc
    obtain ⟨⟨⟨c1, c2⟩, c3⟩, c4⟩ := hc
    have hp := rep_opd sim c1
    have hx := rep_opd sim c2
    have hrunS : ∀ (g off : Nat) (cur : Array Value) (el : TypeId) (vs : List Value), a.eval p' = .pointer (some ⟨g, off, none⟩) → C.w.heap[g]? = some (.cells cur el (0, 0)) → (a.eval x').cells.toList = vs → vs.length = m → off + vs.length ≤ cur.size → (∀ u ∈ vs, u.oneCell' = true) →
        (execOp a.eval o).run P C.w = .ok .skip (C.w.setRow g (cur.toList.take off ++ vs ++ cur.toList.drop (off + vs.length)).toArray) := by
      intro g off cur el vs e1 e2 e3 e4 e5 e6
      have hst := run_storeCells_at P g off el vs 0 cur C.w e2 (by simpa using e5) e6
      simp only [Nat.add_zero] at hst
      have hsize : (a.eval x').cells.size = m := by rw [← e4, ← e3]; simp
      simp [execOp, eo, Instr.storeAt, e1, Instr.sureAddr, storeVar, run_sizeOf' c3, hsize, e3, hst]
    split at h
    · rename_i id n i j ep
      rw [ep] at hp
      split at h
      · rename_i flat el sz rows ho
        rw [← hH] at ho
        -- the value, kept for good or not
        have key : ∀ v H1, FlagLe C.H H1 → Rep { C with H := H1 } v (a.eval x') →
            (match cellsOf v, rows[i]?, hget H1 id with
              | some cs, some old, some (.row true _ _ _ _) => if rows.length = n ∧ cs.length = m ∧ j + m ≤ old.length then
                  some (AV.undef, { s with heap := hset H1 id (.row true (flat && !raw) el sz (rows.set i (old.take j ++ cs ++ old.drop (j + m)))) }) else none
              | _, _, _ => none) = some (av, s') → OpRes C (s.p ++ [s.k]) ((execOp a.eval o).run P C.w) av s'.heap := by
          intro v H1 hf hv h
          split at h
          · rename_i cs old f2 e2 sz2 rows2 ecs eold eh1
            split at h
            · rename_i hcond
              obtain ⟨hn, hcl, hjm⟩ := hcond
              simp only [Option.some.injEq, Prod.mk.injEq] at h
              obtain ⟨rfl, rfl⟩ := h
              -- the object is as it was
              obtain ⟨o1, e1, f1⟩ := hf.down id _ eh1
              rw [ho] at e1
              injection e1 with e1
              subst e1
              have hsame : f2 = flat ∧ e2 = el ∧ sz2 = sz ∧ rows2 = rows := by
                rcases f1 with h' | ⟨_, _, _, _, _, h', h''⟩
                · injection h' with a1 a2 a3 a4 a5; exact ⟨a2, a3, a4, a5⟩
                · cases h''
              obtain ⟨rfl, rfl, rfl, rfl⟩ := hsame
              have hr1 : HRep { C with H := H1 } := hf.hrep hr
              obtain ⟨r1, r2⟩ := cellsOf_rep hv ecs
              obtain ⟨h0, h1, h2, xs, h3, h4⟩ := hr1.obj id _ eh1
              have hol := h1 old (List.mem_of_getElem? eold)
              have hil := (List.getElem?_eq_some_iff.1 eold).1
              have hone : ∀ u ∈ (a.eval x').cells.toList, u.oneCell' = true := by
                intro u hu'
                obtain ⟨k, hk, ek⟩ := List.getElem_of_mem hu'
                have hk' : k < cs.length := by rw [r1.1]; exact hk
                exact ((r1.2 k _ _ (List.getElem?_eq_getElem hk') (by rw [List.getElem?_eq_getElem hk, ek])).cell (r2 k _ (List.getElem?_eq_getElem hk'))).1
              have hvl : (a.eval x').cells.toList.length = m := by rw [← r1.1]; exact hcl
              rcases h3.2 with ⟨hv0, hn0⟩ | ⟨g, cap, cur, hv0, _, hh, hnc', hcm', hcs, htake⟩
              · omega
              · have hv0' : C.φ id = .slice (some ⟨g, 0, none⟩) rows2.length cap := hv0
                have hpv : a.eval p' = .pointer (some ⟨g, i * sz2 + j, none⟩) := by
                  cases hp with
                  | ref _ _ _ _ _ ha hs hoo =>
                    obtain ⟨g', q1, q2⟩ := (hoo _ ho).2 hn
                    rw [hv0'] at q1
                    have : g = g' := by simpa [blk] using q1
                    subst this
                    simpa [cellsz] using q2
                have hbound : i * sz2 + j + m ≤ rows2.length * sz2 := by
                  have : (i + 1) * sz2 ≤ rows2.length * sz2 := Nat.mul_le_mul_right _ hil
                  rw [Nat.succ_mul] at this
                  omega
                have hcur : rows2.length * sz2 ≤ cur.size := by rw [hcs]; exact Nat.mul_le_mul_right _ hnc'
                have hrun := hrunS g (i * sz2 + j) cur e2 _ hpv hh rfl hvl (by rw [hvl]; omega) hone
                have hflat := flat_seg (sz := sz2) (cs := cs) (j := j) (by omega) h1 eold
                have hg' := setRow_heap C.w g cur (cur.toList.take (i * sz2 + j) ++ (a.eval x').cells.toList ++ cur.toList.drop (i * sz2 + j + (a.eval x').cells.toList.length)).toArray e2 (0, 0) hh
                rw [← hcl]
                refine .set (C := { C with H := H1 }) (C0 := C) (ob := .row true f2 e2 sz2 rows2) (ob' := .row true (f2 && !raw) e2 sz2 (rows2.set i (old.take j ++ cs ++ old.drop (j + cs.length)))) (v := C.φ id) (w := C.w.setRow g (cur.toList.take (i * sz2 + j) ++ (a.eval x').cells.toList ++ cur.toList.drop (i * sz2 + j + (a.eval x').cells.toList.length)).toArray) hr1 hf.ext rfl
                  ⟨eh1, rfl, by simp [asize], fun _ => rfl, by simp [World.setRow], rfl, rfl, rfl, fun k hk hne => setRow_other C.w g k _ (fun e => hne (by show _ = blk (C.φ id); rw [hv0', e]; rfl)), fun _ _ _ hm => absurd (.inl rfl) hm, .inl ⟨rfl, fun off hmm => .inl rfl⟩⟩
                  (fun he => ⟨h0, set_len h1 (by simp; omega), ?_, xs.take (i * sz2 + j) ++ (a.eval x').cells.toList ++ xs.drop (i * sz2 + j + (a.eval x').cells.toList.length), ?_, ?_⟩) hrun (.inr ⟨rfl, rfl⟩) rfl
                · rw [hflat]; exact ((h2.take _).app r2).app (h2.drop _)
                · rw [put_self]
                  have hxl := h3.1
                  have hvs : (a.eval x').cells.size = m := by simpa using hvl
                  refine ⟨by simp only [List.length_append, List.length_take, List.length_drop, List.length_set]; omega, .inr ⟨g, cap, _, by rw [List.length_set]; exact hv0', Nat.zero_le _, hg', by rw [List.length_set]; exact hnc', hcm', ?_, ?_⟩⟩
                  · simp only [List.size_toArray, List.length_append, List.length_take, List.length_drop, Array.length_toList]
                    rw [Nat.min_eq_left (by omega)]
                    omega
                  · rw [List.length_set]
                    simp only []
                    rw [take_seg (by omega) (by simpa using hcur), htake]
                · rw [hflat]
                  exact RepL.of_eq ((((h4.take (i * sz2 + j)).app r1).app (h4.drop (i * sz2 + j + cs.length))).mono fun _ _ r => r.ext he) (by rw [r1.1])
            · cases h
          · cases h
        cases raw with
        | true =>
          simp only [if_true] at h
          refine key _ C.H (.refl _) hx ?_
          rw [hH]
          exact h
        | false =>
          simp only [Bool.false_eq_true, if_false] at h
          cases hz : fz s.heap (x.ev s.env) with
          | none => rw [hz] at h; cases h
          | some q =>
            obtain ⟨v, H1⟩ := q
            rw [hz] at h
            obtain ⟨f1, _, f3⟩ := fzd_ok 4 _ _ _ _ hz
            rw [← hH] at f1
            exact key v H1 f1 (f3 C _ hH hr hx) h
      · rename_i cells ho
        rw [← hH] at ho
        split at h
        · rename_i cs ecs
          split at h
          · rename_i hcond
            obtain ⟨rfl, rfl, hcl, hjm⟩ := hcond
            simp only [Option.some.injEq, Prod.mk.injEq] at h
            obtain ⟨rfl, rfl⟩ := h
            obtain ⟨r1, r2⟩ := cellsOf_rep hx ecs
            obtain ⟨h0, g, cur, el, h1, h2, h3⟩ := hr.obj id _ ho
            have hone : ∀ u ∈ (a.eval x').cells.toList, u.oneCell' = true := by
              intro u hu'
              obtain ⟨k, hk, ek⟩ := List.getElem_of_mem hu'
              have hk' : k < cs.length := by rw [r1.1]; exact hk
              exact ((r1.2 k _ _ (List.getElem?_eq_getElem hk') (by rw [List.getElem?_eq_getElem hk, ek])).cell (r2 k _ (List.getElem?_eq_getElem hk'))).1
            have hvl : (a.eval x').cells.toList.length = m := by rw [← r1.1]; exact hcl
            have hpv : a.eval p' = .pointer (some ⟨g, j, none⟩) := by
              cases hp with
              | ref _ _ _ _ _ ha hs hoo =>
                obtain ⟨g', q1, q2⟩ := (hoo _ ho).2 rfl
                rw [h1] at q1
                have : g = g' := by simpa [blk] using q1
                subst this
                simpa [cellsz] using q2
            have hcsz : cells.length = cur.size := by have := h3.1; simpa using this
            have hrun := hrunS g j cur el _ hpv h2 rfl hvl (by rw [hvl]; omega) hone
            have hg' := setRow_heap C.w g cur (cur.toList.take j ++ (a.eval x').cells.toList ++ cur.toList.drop (j + (a.eval x').cells.toList.length)).toArray el (0, 0) h2
            refine .set (ob := .box cells) (ob' := .box (cells.take j ++ cs ++ cells.drop (j + m))) (v := C.φ id) (w := C.w.setRow g (cur.toList.take j ++ (a.eval x').cells.toList ++ cur.toList.drop (j + (a.eval x').cells.toList.length)).toArray) hr (Ext.refl C) rfl
              ⟨ho, rfl, Nat.le_refl _, fun _ => rfl, by simp [World.setRow], rfl, rfl, rfl, fun k hk hne => setRow_other C.w g k _ (fun e => hne (by rw [h1, e]; rfl)), fun _ _ _ hm => absurd trivial hm, .inl ⟨rfl, fun _ _ => trivial⟩⟩
              (fun he => ⟨((h0.take _).app r2).app (h0.drop _), g, _, el, by rw [put_self]; exact h1, hg', ?_⟩) hrun (.inr ⟨rfl, rfl⟩) (by rw [hH])
            simp only []
            exact RepL.of_eq ((((h3.take j).app r1).app (h3.drop (j + m))).mono fun _ _ r => r.ext he) (by rw [hvl])
          · cases h
        · cases h
      · cases h
    · cases h
  · cases hc

end
end Go.Proofs.Abs
