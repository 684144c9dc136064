/- A part of a proof: the text that states the row tells what is proved. No condition is laid on anything. -/
import Derived.Test.YtgcncpedpjjjeaaAbs19
set_option linter.all false
set_option linter.constructorNameAsVariable false
set_option linter.defProp false
set_option linter.unusedVariables false
set_option linter.unusedSimpArgs false
namespace Go.Proofs.Abs
open Go

/-! ### Maps: looking a key up, and storing one -/
def mix (kd : Nat) (ks : List Nat) : List (AV × AV) → AV → Option (Option Nat)
  | [], k => match keyEq kd ks k k with
    | some _ => some none
    | none => none
  | (k', v) :: r, k => match keyEq kd ks k k' with
    | some true => some (some 0)
    | some false => (mix kd ks r k).map fun o => o.map (· + 1)
    | none => none

theorem mfind_mix {kd : Nat} {ks : List Nat} : ∀ {es : List (AV × AV)} {k : AV} {r : Option AV}, mfind kd ks es k = some r → ∃ o, mix kd ks es k = some o ∧ r = o.bind fun j => (es[j]?).map (·.2)
  | [], k, r, h => by
    simp only [mfind] at h
    split at h
    · rename_i b hb
      simp only [Option.some.injEq] at h
      subst h
      exact ⟨none, by simp [mix, hb], rfl⟩
    · cases h
  | (k', v) :: es, k, r, h => by
    simp only [mfind] at h
    split at h
    · rename_i hb
      simp only [Option.some.injEq] at h
      subst h
      exact ⟨some 0, by simp [mix, hb], rfl⟩
    · rename_i hb
      obtain ⟨o, h1, h2⟩ := mfind_mix h
      refine ⟨o.map (· + 1), by simp [mix, hb, h1], ?_⟩
      rw [h2]
      cases o <;> simp
    · cases h
theorem mput_mix {kd : Nat} {ks : List Nat} {v : AV} : ∀ {es es' : List (AV × AV)} {k : AV}, mput kd ks es k v = some es' → ∃ o, mix kd ks es k = some o ∧ es' = (match o with | none => es ++ [(k, v)] | some j => es.set j (k, v))
  | [], es', k, h => by
    simp only [mput] at h
    split at h
    · rename_i b hb
      simp only [Option.some.injEq] at h
      subst h
      exact ⟨none, by simp [mix, hb], rfl⟩
    · cases h
  | (k', v') :: es, es', k, h => by
    simp only [mput] at h
    split at h
    · rename_i hb
      simp only [Option.some.injEq] at h
      subst h
      exact ⟨some 0, by simp [mix, hb], rfl⟩
    · rename_i hb
      simp only [Option.map_eq_some_iff] at h
      obtain ⟨es2, h, rfl⟩ := h
      obtain ⟨o, h1, h2⟩ := mput_mix h
      refine ⟨o.map (· + 1), by simp [mix, hb, h1], ?_⟩
      rw [h2]
      cases o <;> simp
    · cases h

section
variable {P : Program} {C : Ctx} {kt kd : Nat} {ks : List Nat} {x : AV} {u : Value}
theorem repl_cons {y : AV} {as : List AV} {v : Value} {vs : List Value} (h : RepL C (y :: as) (v :: vs)) : Rep C y v ∧ RepL C as vs :=
  ⟨h.2 0 _ _ rfl rfl, ⟨by have := h.1; simpa using this, fun j av v e e' => h.2 (j + 1) av v e e'⟩⟩

theorem mix_typed (hk : keyTy P kt kd ks = true) (hx : Rep C x u) : ∀ {es : List (AV × AV)} {vs : List Value} {o : Option Nat}, RepL C (es.map (·.1)) vs → mix kd ks es x = some o → ∃ b, keyEq kd ks x x = some b
  | [], vs, o, _, h => by
    simp only [mix] at h
    split at h
    · rename_i b hb; exact ⟨b, hb⟩
    · cases h
  | (k', v) :: es, vs, o, hr, h => by
    cases vs with
    | nil => have := hr.1; simp at this
    | cons v0 vs =>
      obtain ⟨r1, r2⟩ := repl_cons hr
      simp only [mix] at h
      split at h
      · rename_i hb
        obtain ⟨_, h2⟩ := key_equal C.w hk hb hx r1
        obtain ⟨_, h3, _⟩ := h2 rfl
        refine ⟨true, ?_⟩
        have h3' : x = k' := h3
        rw [← h3'] at hb
        exact hb
      · simp only [Option.map_eq_some_iff] at h
        obtain ⟨o', h, _⟩ := h
        exact mix_typed hk hx r2 h
      · cases h

def Found (C : Ctx) (u : Value) (ents : List MapEntry) (i : Nat) (o : Option Nat) (f : Option (Nat × Value)) : Prop :=
  match o with
  | none => f = none
  | some j => ∃ e, ents[j]? = some e ∧ f = some (i + j, e.val) ∧ e.key = u ∧ Instr.sameBits 10000 e.key u = true

theorem found_step {e : MapEntry} {ents : List MapEntry} {i : Nat} {o : Option Nat} {f : Option (Nat × Value)} (h : Found C u ents (i + 1) o f) : Found C u (e :: ents) i (o.map (· + 1)) f := by
  cases o with
  | none => exact h
  | some j =>
    obtain ⟨e', h1, h2, h3, h4⟩ := h
    exact ⟨e', by simpa using h1, by rw [h2]; simp; omega, h3, h4⟩

theorem run_asking (hk : keyTy P kt kd ks = true) (hx : Rep C x u) : ∀ {es : List (AV × AV)} {ents : List MapEntry} {o : Option Nat} (i : Nat), RepL C (es.map (·.1)) (ents.map (·.key)) → mix kd ks es x = some o →
    ∃ f, (Instr.findAsking kt u ents i).run P C.w = .ok f C.w ∧ Found C u ents i o f
  | [], ents, o, i, hr, h => by
    cases ents with
    | cons => have := hr.1; simp at this
    | nil =>
      simp only [mix] at h
      split at h
      · simp only [Option.some.injEq] at h
        subst h
        exact ⟨none, by simp [Instr.findAsking], rfl⟩
      · cases h
  | (k', v) :: es, ents, o, i, hr, h => by
    cases ents with
    | nil => have := hr.1; simp at this
    | cons e ents =>
      obtain ⟨r1, r2⟩ := repl_cons hr
      have r1 : Rep C k' e.key := r1
      simp only [mix] at h
      split at h
      · rename_i hb
        simp only [Option.some.injEq] at h
        subst h
        obtain ⟨h1, h2⟩ := key_equal C.w hk hb hx r1
        obtain ⟨h3, _, h4⟩ := h2 rfl
        refine ⟨some (i, e.val), by simp [Instr.findAsking, h1], e, rfl, by simp, h3.symm, by rw [← h3]; exact h4⟩
      · rename_i hb
        obtain ⟨h1, _⟩ := key_equal C.w hk hb hx r1
        simp only [Option.map_eq_some_iff] at h
        obtain ⟨o', h, rfl⟩ := h
        obtain ⟨f, h2, h3⟩ := run_asking hk hx (i + 1) r2 h
        exact ⟨f, by simp [Instr.findAsking, h1, h2], found_step h3⟩
      · cases h

theorem run_now {d : TypeDesc} (hd : P.underlying kt = some d) (h3 : kd ≠ 3) (hk : keyTy P kt kd ks = true) (hx : Rep C x u) : ∀ {es : List (AV × AV)} {ents : List MapEntry} {o : Option Nat} (i : Nat), RepL C (es.map (·.1)) (ents.map (·.key)) → mix kd ks es x = some o →
    ∃ f, Instr.findNow d u ents i = some f ∧ Found C u ents i o f
  | [], ents, o, i, hr, h => by
    cases ents with
    | cons => have := hr.1; simp at this
    | nil =>
      simp only [mix] at h
      split at h
      · simp only [Option.some.injEq] at h
        subst h
        exact ⟨none, rfl, rfl⟩
      · cases h
  | (k', v) :: es, ents, o, i, hr, h => by
    cases ents with
    | nil => have := hr.1; simp at this
    | cons e ents =>
      obtain ⟨r1, r2⟩ := repl_cons hr
      have r1 : Rep C k' e.key := r1
      have hs : ∀ b, keyEq kd ks x k' = some b → Instr.sameNow d u e.key = some b := by
        intro b hb
        have hkk : kindIs P kt kd = true := by
          unfold keyTy at hk
          split at hk
          · exact absurd rfl h3
          · exact hk
        unfold keyEq at hb
        split at hb
        · split at hb
          · rename_i hkk2
            subst hkk2
            simp only [Option.some.injEq] at hb
            subst hb
            rw [hx.int_inv, r1.int_inv]
            rcases kind_cases hkk with ⟨_, i, e⟩ | ⟨h0, _⟩ | ⟨h0, _⟩
            · rw [hd] at e; injection e with e; subst e; simp [Instr.sameNow]
            · cases h0
            · cases h0
          · cases hb
        · simp only [Option.some.injEq] at hb
          subst hb
          rw [hx.bool_inv, r1.bool_inv]
          rcases kind_cases hkk with ⟨h0, _⟩ | ⟨_, e⟩ | ⟨h0, _⟩
          · cases h0
          · rw [hd] at e; injection e with e; subst e; simp [Instr.sameNow]
          · cases h0
        · simp only [Option.some.injEq] at hb
          subst hb
          rw [hx.str_inv, r1.str_inv]
          rcases kind_cases hkk with ⟨h0, _⟩ | ⟨h0, _⟩ | ⟨_, e⟩
          · cases h0
          · cases h0
          · rw [hd] at e; injection e with e; subst e; simp [Instr.sameNow]
        · exact absurd rfl h3
        · cases hb
      simp only [mix] at h
      split at h
      · rename_i hb
        simp only [Option.some.injEq] at h
        subst h
        obtain ⟨h1, h2⟩ := key_equal C.w hk hb hx r1
        obtain ⟨h3', _, h4⟩ := h2 rfl
        refine ⟨some (i, e.val), by simp [Instr.findNow, hs _ hb], e, rfl, by simp, h3'.symm, by rw [← h3']; exact h4⟩
      · rename_i hb
        simp only [Option.map_eq_some_iff] at h
        obtain ⟨o', h, rfl⟩ := h
        obtain ⟨f, h2, h5⟩ := run_now hd h3 hk hx (i + 1) r2 h
        exact ⟨f, by simp [Instr.findNow, hs _ hb, h2], found_step h5⟩
      · cases h

theorem run_find (hk : keyTy P kt kd ks = true) (hx : Rep C x u) {es : List (AV × AV)} {ents : List MapEntry} {o : Option Nat} (hr : RepL C (es.map (·.1)) (ents.map (·.key))) (h : mix kd ks es x = some o) :
    ∃ f, (Instr.findKey kt u ents).run P C.w = .ok f C.w ∧ Found C u ents 0 o f := by
  by_cases h3 : kd = 3
  · subst h3
    obtain ⟨f, h1, h2⟩ := run_asking hk hx 0 hr h
    refine ⟨f, ?_, h2⟩
    rw [run_findKey_eq C.w]
    · exact h1
    · simp only [keyTy] at hk
      split at hk
      · rename_i e; rw [e]
      · rename_i e; rw [e]
      · cases hk
  · have hkk : kindIs P kt kd = true := by
      unfold keyTy at hk
      split at hk
      · exact absurd rfl h3
      · exact hk
    have hd : ∃ d, P.underlying kt = some d := by rcases kind_cases hkk with ⟨_, i, e⟩ | ⟨_, e⟩ | ⟨_, e⟩ <;> exact ⟨_, e⟩
    obtain ⟨d, hd⟩ := hd
    obtain ⟨f, h1, h2⟩ := run_now hd h3 hk hx 0 hr h
    exact ⟨f, by simp [Instr.findKey, run_underlying hd, h1], h2⟩

theorem map_inv {id : Id} {es : List (AV × AV)} {v : Value} (hr : HRep C) (h : Rep C (.map id) v) (ho : hget C.H id = some (.map es)) :
    ∃ g ents clock, v = .map (some g) ∧ C.φ id = .map (some g) ∧ C.w.heap[g]? = some (.map ents clock) ∧ RepL C (es.map (·.1)) (ents.toList.map (·.key)) ∧ RepL C (es.map (·.2)) (ents.toList.map (·.val)) := by
  obtain ⟨g, ents, clock, h1, h2, h3, h4⟩ := hr.obj id _ ho
  refine ⟨g, ents, clock, ?_, h1, h2, h3, h4⟩
  cases h with
  | map _ _ ha hs hoo => rw [← h1]; exact hoo _ ho rfl
end

section
variable {P : Program} {o : Oper} {a : Act} {C : Ctx} {nt : Nat} {s s' : St} {av : AV}
theorem ok_look {kd : Nat} {ks : List Nat} {zero : AV} {ok : Bool} {m k : AX} (sim : SimE nt s.env C a) (hH : C.H = s.heap) (hr : HRep C) (hc : chkIns P o (.look kd ks zero ok m k) = true) (h : ains (.look kd ks zero ok m k) s = some (av, s')) :
    OpRes C (s.p ++ [s.k]) ((execOp a.eval o).run P C.w) av s'.heap := by
  simp only [ains] at h
  simp only [chkIns] at hc
  split at hc
  · rename_i t m' k' ok' eo
    simp only [Bool.and_eq_true, beq_iff_eq] at hc
    obtain ⟨⟨⟨rfl, c1⟩, c2⟩, c3⟩ := hc
    have hm := rep_opd sim c1
    have hx := rep_opd sim c2
    split at c3
    · rename_i kt e hu
      simp only [Bool.and_eq_true] at c3
      obtain ⟨c3, c4⟩ := c3
      have hz : ∃ ie z, P.info? e = some ie ∧ ie.zero = some z ∧ constOK z zero = true := by
        unfold zero1 at c4
        split at c4
        · rename_i ie hi
          split at c4
          · rename_i z hz; exact ⟨ie, z, hi, hz, c4⟩
          · cases c4
        · cases c4
      obtain ⟨ie, z, hi, hz, hzc⟩ := hz
      have hzr := rep_const C hzc
      split at h
      · rename_i id em
        rw [em] at hm
        split at h
        · rename_i es ho
          rw [← hH] at ho
          obtain ⟨g, ents, clock, h1, _, h2, h3, h4⟩ := map_inv hr hm ho
          have main : ∀ (r : Option AV), mfind kd ks es (k.ev s.env) = some r → ∃ v b, (match r with | some y => Rep C y v ∧ b = true | none => v = z ∧ b = false) ∧
              (execOp a.eval o).run P C.w = .ok (.value (if ok' then .tuple #[v, .bool b] else v)) C.w := by
            intro r hf
            obtain ⟨ix, h5, h6⟩ := mfind_mix hf
            obtain ⟨f, h7, h8⟩ := run_find c3 hx h3 h5
            obtain ⟨b, h9⟩ := mix_typed c3 hx h3 h5
            have h10 := key_check C.w ents.isEmpty c3 h9 hx
            cases ix with
            | none =>
              simp only [Option.bind_none] at h6
              subst h6
              have h8 : f = none := h8
              subst h8
              refine ⟨z, false, ⟨rfl, rfl⟩, ?_⟩
              simp [execOp, eo, Instr.lookup, run_underlying hu, h1, MapKept.run_getObj_map h2, h10, h7, run_zeroValue' hi hz]
            | some j =>
              obtain ⟨en, h11, rfl, h12, _⟩ := h8
              have hj : j < es.length := by
                have := (List.getElem?_eq_some_iff.1 h11).1
                have h13 := h3.1
                simp at h13
                simp at this
                omega
              simp only [Option.bind_some, List.getElem?_eq_getElem hj, Option.map_some] at h6
              subst h6
              refine ⟨en.val, true, ⟨h4.2 j _ _ (by simp [hj]) (by simp only [List.getElem?_map, h11]; rfl), rfl⟩, ?_⟩
              simp [execOp, eo, Instr.lookup, run_underlying hu, h1, MapKept.run_getObj_map h2, h10, h7]
          split at h
          · rename_i y hf
            simp only [Option.some.injEq, Prod.mk.injEq] at h
            obtain ⟨rfl, rfl⟩ := h
            obtain ⟨v, b, ⟨h5, rfl⟩, h6⟩ := main _ hf
            refine .pure hr h6 ?_ hH
            cases ok'
            · exact h5
            · exact .tuple _ [v, .bool true] rfl (RepL.cons h5 (RepL.cons (.bool true) .nil)).2
          · rename_i hf
            simp only [Option.some.injEq, Prod.mk.injEq] at h
            obtain ⟨rfl, rfl⟩ := h
            obtain ⟨v, b, ⟨rfl, rfl⟩, h6⟩ := main _ hf
            refine .pure hr h6 ?_ hH
            cases ok'
            · exact hzr
            · exact .tuple _ [v, .bool false] rfl (RepL.cons hzr (RepL.cons (.bool false) .nil)).2
          · cases h
        · cases h
      · cases h
    · cases c3
  · cases hc

theorem ok_mset {kd : Nat} {ks : List Nat} {m k v : AX} (sim : SimE nt s.env C a) (hH : C.H = s.heap) (hr : HRep C) (hc : chkIns P o (.mset kd ks m k v) = true) (h : ains (.mset kd ks m k v) s = some (av, s')) :
    OpRes C (s.p ++ [s.k]) ((execOp a.eval o).run P C.w) av s'.heap := by
  simp only [ains] at h
  have main : ∀ (t : Nat) (m' k' x : Operand) (kt e : Nat), (execOp a.eval o = do Instr.mapUpdate t (a.eval m') (a.eval k') (a.eval x); pure Next.skip) → opdOK m' m = true → opdOK k' k = true → opdOK x v = true → P.underlying t = some (.map kt e) → keyTy P kt kd ks = true →
      OpRes C (s.p ++ [s.k]) ((execOp a.eval o).run P C.w) av s'.heap := by
    intro t m' k' x kt e hex c1 c2 c3 hu c4
    have hm := rep_opd sim c1
    have hx := rep_opd sim c2
    have hv := rep_opd sim c3
    split at h
    · rename_i id em
      rw [em] at hm
      split at h
      · rename_i y H1 hz
        rw [← hH] at hz
        obtain ⟨f1, _, f3⟩ := fzd_ok 4 _ _ _ _ hz
        have hv1 := f3 C _ rfl hr hv
        have hr1 : HRep { C with H := H1 } := f1.hrep hr
        have hx1 := hx.ext f1.ext
        have hm1 := hm.ext f1.ext
        split at h
        · rename_i es ho
          split at h
          · rename_i es' hp
            simp only [Option.some.injEq, Prod.mk.injEq] at h
            obtain ⟨rfl, rfl⟩ := h
            obtain ⟨g, ents, clock, h1, hφ, h2, h3, h4⟩ := map_inv (C := { C with H := H1 }) hr1 hm1 ho
            obtain ⟨ix, h5, h6⟩ := mput_mix hp
            obtain ⟨f, h7, h8⟩ := run_find (C := { C with H := H1 }) c4 hx1 h3 h5
            obtain ⟨b, h9⟩ := mix_typed (C := { C with H := H1 }) c4 hx1 h3 h5
            have h10 := key_check (C := { C with H := H1 }) C.w false c4 h9 hx1
            have h2' : C.w.heap[g]? = some (.map ents clock) := h2
            have h7' : (Instr.findKey kt (a.eval k') ents.toList).run P C.w = .ok f C.w := h7
            have hglt : g < C.w.heap.size := (Array.getElem?_eq_some_iff.1 h2').1
            -- the world behind it
            have fin : ∀ (ents' : Array MapEntry) (clock' : Nat), (Instr.mapUpdate t (a.eval m') (a.eval k') (a.eval x)).run P C.w = .ok () { C.w with heap := C.w.heap.setIfInBounds g (.map ents' clock') } →
                (∀ C2 : Ctx, (∀ av v, Rep { C with H := H1 } av v → Rep C2 av v) → RepL C2 (es'.map (·.1)) (ents'.toList.map (·.key)) ∧ RepL C2 (es'.map (·.2)) (ents'.toList.map (·.val))) →
                OpRes C (s.p ++ [s.k]) ((execOp a.eval o).run P C.w) .undef (hset H1 id (.map es')) := by
              intro ents' clock' hrun hrep
              refine .set (C := { C with H := H1 }) (C0 := C) (ob := .map es) (ob' := .map es') (v := C.φ id) (w := { C.w with heap := C.w.heap.setIfInBounds g (.map ents' clock') }) (nv := .skip) hr1 f1.ext rfl
                ⟨ho, rfl, Nat.le_refl _, fun _ => rfl, by simp, rfl, rfl, rfl, fun j hj hne => ?_, fun _ _ _ hm => absurd trivial hm, .inl ⟨rfl, fun off hmm => trivial⟩⟩
                (fun he => ⟨g, ents', clock', by rw [put_self]; exact hφ, by show (C.w.heap.setIfInBounds g _)[g]? = _; simp [hglt], ?_⟩) ?_ (.inr ⟨rfl, rfl⟩) rfl
              · have hne' : g ≠ j := fun e => hne (by show some j = blk (C.φ id); have : C.φ id = .map (some g) := hφ; rw [this, ← e]; rfl)
                show (C.w.heap.setIfInBounds g _)[j]? = _
                rw [Array.getElem?_setIfInBounds_ne hne']
              · exact hrep _ fun _ _ r => r.ext he
              · rw [hex, Sem.run_bind, hrun]
                rfl
            cases ix with
            | none =>
              have h8 : f = none := h8
              subst h8
              simp only at h6
              refine fin (ents.push { key := a.eval k', val := a.eval x, born := clock }) (clock + 1) ?_ fun C2 hmono => ?_
              · simp [Instr.mapUpdate, run_underlying hu, h1, MapKept.run_getObj_map h2', h10, h7', MapKept.run_setObj_map _ h2']
              · rw [h6]
                simp only [List.map_append, List.map_cons, List.map_nil, Array.toList_push]
                exact ⟨(h3.mono hmono).app (.cons (hmono _ _ hx1) .nil), (h4.mono hmono).app (.cons (hmono _ _ hv1) .nil)⟩
            | some j =>
              obtain ⟨en, h11, rfl, h12, h13⟩ := h8
              simp only at h6
              have hj : j < ents.size := by simpa using (List.getElem?_eq_some_iff.1 h11).1
              have hent : ents[j]? = some en := by simpa using h11
              refine fin (ents.modify j fun e => { e with key := a.eval k', val := a.eval x }) clock ?_ fun C2 hmono => ?_
              · have hst : (Instr.keyThatStays (a.eval k') (a.eval k')).run P C.w = .ok (a.eval k') C.w := by
                  rw [h12] at h13
                  simp [Instr.keyThatStays, h13]
                simp [Instr.mapUpdate, run_underlying hu, h1, MapKept.run_getObj_map h2', h10, h7', hent, h12, hst, MapKept.run_setObj_map _ h2']
              · rw [h6]
                have e1 : (ents.modify j fun e => { e with key := a.eval k', val := a.eval x }).toList.map (·.key) = (ents.toList.map (·.key)).set j (a.eval k') := by
                  apply List.ext_getElem?
                  intro i
                  simp only [Array.toList_modify, List.getElem?_map, List.getElem?_modify, List.getElem?_set, List.length_map, Array.length_toList]
                  by_cases hij : j = i
                  · subst hij; simp [hj]
                  · simp [hij]
                have e2 : (ents.modify j fun e => { e with key := a.eval k', val := a.eval x }).toList.map (·.val) = (ents.toList.map (·.val)).set j (a.eval x) := by
                  apply List.ext_getElem?
                  intro i
                  simp only [Array.toList_modify, List.getElem?_map, List.getElem?_modify, List.getElem?_set, List.length_map, Array.length_toList]
                  by_cases hij : j = i
                  · subst hij; simp [hj]
                  · simp [hij]
                have set1 : ∀ {as : List AV} {vs : List Value} {y : AV} {v : Value}, RepL C2 as vs → Rep C2 y v → RepL C2 (as.set j y) (vs.set j v) := by
                  intro as vs y v hr hy
                  refine ⟨by simp [hr.1], fun i av v' e e' => ?_⟩
                  rw [List.getElem?_set] at e e'
                  by_cases hij : j = i
                  · subst hij
                    rw [if_pos rfl] at e e'
                    split at e
                    · split at e'
                      · injection e with e; injection e' with e'; subst e; subst e'; exact hy
                      · cases e'
                    · cases e
                  · rw [if_neg hij] at e e'
                    exact hr.2 i _ _ e e'
                rw [e1, e2, List.map_set, List.map_set]
                exact ⟨set1 (h3.mono hmono) (hmono _ _ hx1), set1 (h4.mono hmono) (hmono _ _ hv1)⟩
          · cases h
        · cases h
      · cases h
    · cases h
  simp only [chkIns] at hc
  split at hc
  · rename_i t m' k' x eo
    simp only [Bool.and_eq_true] at hc
    obtain ⟨⟨⟨c1, c2⟩, c3⟩, c4⟩ := hc
    split at c4
    · rename_i kt e hu
      exact main t m' k' x kt e (by simp [execOp, eo]) c1 c2 c3 hu c4
    · cases c4
  · rename_i t m' k' x eo
    simp only [Bool.and_eq_true] at hc
    obtain ⟨⟨⟨c1, c2⟩, c3⟩, c4⟩ := hc
    split at c4
    · rename_i kt e hu
      exact main t m' k' x kt e (by simp [execOp, eo]) c1 c2 c3 hu c4
    · cases c4
  · cases hc
end
end Go.Proofs.Abs
