/- A part of a proof: the text that states the row tells what is proved. No condition is laid on anything. -/
import Derived.Test.YtgcncpedpjjjeaaAbs11
import Derived.WideKeyRuns
set_option linter.all false
set_option linter.constructorNameAsVariable false
set_option linter.defProp false
set_option linter.unusedVariables false
set_option linter.unusedSimpArgs false
namespace Go.Proofs.Abs
open Go

/-! ### Maps: keys -/
def fakeF (e : Nat) (i : Nat) : Field := { name := "x", type := e, offset := i, byteOffset := 0, embedded := false, tag := "", pkgPath := "" }
theorem eqItems_fields (d e : Nat) (xs ys : Array Value) : ∀ is : List Nat, Op.eqItems d e 1 xs ys is = Op.eqFields d xs ys (is.map (fakeF e))
  | [] => rfl
  | i :: is => by
    simp only [Op.eqItems, List.map_cons, Op.eqFields, eqItems_fields d e xs ys is]
    rw [if_pos (by simp [fakeF])]
    simp [fakeF]
theorem structCmp_fake {P : Program} {e : Nat} : ∀ (ks : List Nat) (n : Nat), ks.all (kindIs P e) = true → structCmp P ((List.range' n ks.length).map (fakeF e)) n ks = true
  | [], n, _ => rfl
  | k :: ks, n, h => by
    simp only [List.all_cons, Bool.and_eq_true] at h
    simp only [List.length_cons, List.range'_succ, List.map_cons, structCmp, Bool.and_eq_true]
    exact ⟨⟨⟨by simp [fakeF], by simp [fakeF]⟩, h.1⟩, structCmp_fake ks (n + 1) h.2⟩

section
variable {P : Program} {C : Ctx}
theorem bytes_refl (m : ByteArray) : (m == m) = true := by rw [beq_toListBytes]; simp
theorem bytes_eq {m m' : ByteArray} (h : (m == m') = true) : m = m' := by
  rw [beq_toListBytes, ByteArray.toList_eq, ByteArray.toList_eq] at h
  have h : m.data.toList = m'.data.toList := by simpa using h
  cases m; cases m'
  congr 1
  exact Array.ext' h
theorem check_basic {t k : Nat} (h : kindIs P t k = true) (em : Bool) (n : Nat) (v : Value) (w : World) : (Instr.checkKey em (n + 1) t v).run P w = .ok () w := by
  unfold Instr.checkKey
  unfold kindIs at h
  split at h
  · split at h
    · rename_i i e; simp [run_underlying e]
    · cases h
  · split at h
    · rename_i e; simp [run_underlying e]
    · cases h
  · split at h
    · rename_i e; simp [run_underlying e]
    · cases h
  · cases h
theorem kind_cases {t k : Nat} (h : kindIs P t k = true) : (k = 0 ∧ ∃ i, P.underlying t = some (.int i)) ∨ (k = 1 ∧ P.underlying t = some .bool) ∨ (k = 2 ∧ P.underlying t = some .string) := by
  unfold kindIs at h
  split at h
  · split at h
    · rename_i i e; exact .inl ⟨rfl, i, e⟩
    · cases h
  · split at h
    · rename_i e; exact .inr (.inl ⟨rfl, e⟩)
    · cases h
  · split at h
    · rename_i e; exact .inr (.inr ⟨rfl, e⟩)
    · cases h
  · cases h

theorem acells_refl_len {w : World} : ∀ {fs : List Field} {n : Nat} {ks : List Nat} {as : List AV} {r : Bool}, structCmp P fs n ks = true → acells ks as as = some r → r = true ∧ as.length = fs.length
  | [], n, ks, as, r, hs, h => by
    cases ks with
    | cons => simp [structCmp] at hs
    | nil =>
      cases as with
      | nil => simp [acells] at h; exact ⟨h, rfl⟩
      | cons => simp [acells] at h
  | f :: fs, n, ks, as, r, hs, h => by
    cases ks with
    | nil => simp [structCmp] at hs
    | cons k ks =>
      simp only [structCmp, Bool.and_eq_true] at hs
      unfold acells at h
      split at h
      · exact absurd ‹k :: ks = []› (List.cons_ne_nil _ _)
      · rename_i ks' k0 m r0 k0' m' r0' e0 e1
        injection e0 with e0 e0'
        injection e1 with e1 e1'
        injection e1 with e1 e1''
        subst e0; subst e0'; subst e1; subst e1'; subst e1''
        simp only [if_true, beq_self_eq_true, bytes_refl] at h
        obtain ⟨h1, h2⟩ := acells_refl_len (w := w) hs.2 h
        exact ⟨h1, by simp [h2]⟩
      · rename_i ks' m r0 m' r0' e0 e1
        injection e0 with e0 e0'
        injection e1 with e1 e1'
        injection e1 with e1
        subst e0; subst e0'; subst e1; subst e1'
        simp only [if_true, beq_self_eq_true, bytes_refl] at h
        obtain ⟨h1, h2⟩ := acells_refl_len (w := w) hs.2 h
        exact ⟨h1, by simp [h2]⟩
      · rename_i ks' m r0 m' r0' e0 e1
        injection e0 with e0 e0'
        injection e1 with e1 e1'
        injection e1 with e1
        subst e0; subst e0'; subst e1; subst e1'
        simp only [if_true, bytes_refl] at h
        obtain ⟨h1, h2⟩ := acells_refl_len (w := w) hs.2 h
        exact ⟨h1, by simp [h2]⟩
      · cases h

/-- Alike: the same values. -/
theorem acells_true : ∀ {ks : List Nat} {as bs : List AV} {xs ys : List Value}, acells ks as bs = some true → RepL C as xs → RepL C bs ys →
    xs = ys ∧ as = bs ∧ ∀ v ∈ xs, (∃ k n, v = .int k n) ∨ (∃ b, v = .bool b) ∨ ∃ s, v = .string s
  | ks, as, bs, xs, ys, h, r1, r2 => by
    have go : ∀ {x y : AV} {as bs : List AV} {xs ys : List Value}, RepL C (x :: as) xs → RepL C (y :: bs) ys → (∀ u v, Rep C x u → Rep C y v → u = v ∧ ((∃ k n, u = .int k n) ∨ (∃ b, u = .bool b) ∨ ∃ s, u = .string s)) → x = y →
        (∀ xs ys, RepL C as xs → RepL C bs ys → xs = ys ∧ as = bs ∧ ∀ v ∈ xs, (∃ k n, v = .int k n) ∨ (∃ b, v = .bool b) ∨ ∃ s, v = .string s) →
        xs = ys ∧ x :: as = y :: bs ∧ ∀ v ∈ xs, (∃ k n, v = .int k n) ∨ (∃ b, v = .bool b) ∨ ∃ s, v = .string s := by
      intro x y as bs xs ys r1 r2 hk hxy ih
      cases xs with
      | nil => have := r1.1; simp at this
      | cons u xs =>
        cases ys with
        | nil => have := r2.1; simp at this
        | cons v ys =>
          obtain ⟨h1, h2⟩ := hk u v (r1.2 0 _ _ rfl rfl) (r2.2 0 _ _ rfl rfl)
          obtain ⟨h3, h4, h5⟩ := ih xs ys ⟨by have := r1.1; simpa using this, fun j av v e e' => r1.2 (j + 1) av v e e'⟩ ⟨by have := r2.1; simpa using this, fun j av v e e' => r2.2 (j + 1) av v e e'⟩
          subst h1; subst h3; subst h4; subst hxy
          refine ⟨rfl, rfl, fun v hv => ?_⟩
          rcases List.mem_cons.1 hv with rfl | hv
          · exact h2
          · exact h5 v hv
    unfold acells at h
    split at h
    · have e1 : xs = [] := List.eq_nil_of_length_eq_zero r1.1.symm
      have e2 : ys = [] := List.eq_nil_of_length_eq_zero r2.1.symm
      subst e1; subst e2
      exact ⟨rfl, rfl, by simp⟩
    · rename_i ks' k0 m r0 k0' m' r0'
      split at h
      · rename_i hkk
        subst hkk
        split at h
        · rename_i hm
          have hm : m = m' := by simpa using hm
          subst hm
          exact go r1 r2 (fun u v hu hv => ⟨by rw [hu.int_inv, hv.int_inv], .inl ⟨_, _, hu.int_inv⟩⟩) rfl fun xs ys r1 r2 => acells_true h r1 r2
        · cases h
      · cases h
    · rename_i ks' m r0 m' r0'
      split at h
      · rename_i hm
        have hm : m = m' := by simpa using hm
        subst hm
        exact go r1 r2 (fun u v hu hv => ⟨by rw [hu.bool_inv, hv.bool_inv], .inr (.inl ⟨_, hu.bool_inv⟩)⟩) rfl fun xs ys r1 r2 => acells_true h r1 r2
      · cases h
    · rename_i ks' m r0 m' r0'
      split at h
      · rename_i hm
        have hm : m = m' := bytes_eq hm
        subst hm
        exact go r1 r2 (fun u v hu hv => ⟨by rw [hu.str_inv, hv.str_inv], .inr (.inr ⟨_, hu.str_inv⟩)⟩) rfl fun xs ys r1 r2 => acells_true h r1 r2
      · cases h
    · cases h

/-- A key's values: of one kind of cell, or of structs and arrays of such. -/
theorem key_equal {kt kd : Nat} {ks : List Nat} {x y : AV} {u v : Value} {r : Bool} (w : World) (hk : keyTy P kt kd ks = true) (h : keyEq kd ks x y = some r) (hx : Rep C x u) (hy : Rep C y v) :
    (Op.equal kt u v).run P w = .ok r w ∧ (r = true → u = v ∧ x = y ∧ Instr.sameBits 10000 u u = true) := by
  unfold keyEq at h
  split at h
  · rename_i k m k' m'
    split at h
    · rename_i hkk
      subst hkk
      rw [hx.int_inv, hy.int_inv]
      simp only [Option.some.injEq] at h
      subst h
      have hk' : kindIs P kt 0 = true := hk
      rcases kind_cases hk' with ⟨_, i, e⟩ | ⟨h0, _⟩ | ⟨h0, _⟩
      · refine ⟨run_equalIn_int w 9999 kt _ i m m' e, fun hb => ?_⟩
        have : m = m' := by simpa using hb
        subst this
        exact ⟨rfl, rfl, by simp [Instr.sameBits]⟩
      · cases h0
      · cases h0
    · cases h
  · rename_i m m'
    rw [hx.bool_inv, hy.bool_inv]
    simp only [Option.some.injEq] at h
    subst h
    have hk' : kindIs P kt 1 = true := hk
    rcases kind_cases hk' with ⟨h0, _⟩ | ⟨_, e⟩ | ⟨h0, _⟩
    · cases h0
    · refine ⟨run_equalIn_bool' w 9999 kt m m' e, fun hb => ?_⟩
      have : m = m' := by simpa using hb
      subst this
      exact ⟨rfl, rfl, by simp [Instr.sameBits]⟩
    · cases h0
  · rename_i m m'
    rw [hx.str_inv, hy.str_inv]
    simp only [Option.some.injEq] at h
    subst h
    have hk' : kindIs P kt 2 = true := hk
    rcases kind_cases hk' with ⟨h0, _⟩ | ⟨h0, _⟩ | ⟨_, e⟩
    · cases h0
    · cases h0
    · refine ⟨by rw [beq_toListBytes]; exact run_equalIn_string w 9999 kt m m' e, fun hb => ?_⟩
      have : m = m' := bytes_eq hb
      subst this
      exact ⟨rfl, rfl, by simp [Instr.sameBits, bytes_refl]⟩
  · rename_i as bs
    obtain ⟨xs, rfl, hx2, _⟩ := hx.agg_inv
    obtain ⟨ys, rfl, hy2, _⟩ := hy.agg_inv
    refine ⟨?_, fun hb => ?_⟩
    · simp only [keyTy] at hk
      split at hk
      · rename_i fs hu
        simp only [Bool.and_eq_true, Bool.not_eq_true'] at hk
        have hfo : P.fieldsOf kt = fs := by simp [Program.fieldsOf, hu]
        have := run_equalIn_struct (P := P) w 9999 kt xs.toArray ys.toArray (by rw [hfo]; exact hu) hk.1
        show (Op.equalIn 10000 kt _ _).run P w = _
        rw [this, hfo]
        exact run_fields (d := 9998) fs.toList 0 ks as bs r hk.2 (by simpa using hx2) (by simpa using hy2) h
      · rename_i n e hu
        simp only [Bool.and_eq_true, beq_iff_eq] at hk
        obtain ⟨⟨h1, h2⟩, h3⟩ := hk
        obtain ⟨ie, hi, hsz⟩ := sizeIs_iff h1
        have hce : P.cellsOf e = 1 := by
          have := run_sizeOf w hi
          have h4 : (sizeOf e).run P w = .ok ie.size w := by simp [sizeOf, run_typeInfo w hi]
          rw [h4] at this
          injection this with this
          rw [← this]; exact hsz
        show (Op.equalIn 10000 kt _ _).run P w = _
        rw [run_equalIn_array w 9999 xs.toArray ys.toArray hu hi, hce, eqItems_fields]
        have h5 := structCmp_fake (P := P) (e := e) ks 0 h3
        rw [h2, ← List.range_eq_range'] at h5
        exact run_fields (d := 9998) _ 0 ks as bs r h5 (by simpa using hx2) (by simpa using hy2) h
      · cases hk
    · subst hb
      obtain ⟨h1, h2, h3⟩ := acells_true h hx2 hy2
      subst h1; subst h2
      refine ⟨rfl, rfl, ?_⟩
      show Instr.sameBits (9999 + 1) (.agg xs.toArray) (.agg xs.toArray) = true
      simp only [Instr.sameBits, beq_self_eq_true, Bool.true_and, List.all_eq_true]
      intro p hp
      obtain ⟨i, hi, e⟩ := List.getElem_of_mem hp
      rw [List.getElem_zip] at e
      rw [← e]
      have hm : xs.toArray.toList[i]'(by simp at hi; simpa using hi) ∈ xs := by simp
      rcases h3 _ hm with ⟨k, n, e2⟩ | ⟨b, e2⟩ | ⟨s, e2⟩ <;> simp only [e2] <;> simp [Instr.sameBits, bytes_refl]
  · cases h

theorem check_fields {xs : List Value} {w : World} {em : Bool} : ∀ (fs : List Field) (n : Nat) (ks : List Nat) (as : List AV), structCmp P fs n ks = true → RepL C as (xs.drop n) → as.length = fs.length →
    (forIn fs PUnit.unit fun f _ => (do
      if f.name ≠ "_" then Instr.checkKey em 9999 f.type (← part f.type xs.toArray f.offset)
      pure (ForInStep.yield PUnit.unit) : Sem (ForInStep PUnit))).run P w = .ok PUnit.unit w
  | [], n, ks, as, hs, r1, hl => by simp
  | f :: fs, n, ks, as, hs, r1, hl => by
    cases ks with
    | nil => simp [structCmp] at hs
    | cons k ks =>
      simp only [structCmp, Bool.and_eq_true, beq_iff_eq, bne_iff_ne] at hs
      obtain ⟨⟨⟨s1, s2⟩, s3⟩, s4⟩ := hs
      cases as with
      | nil => simp at hl
      | cons x as =>
        have hl1 : n < xs.length := by have := r1.1; simp at this; omega
        have d1 : xs.drop n = xs[n] :: xs.drop (n + 1) := List.drop_eq_getElem_cons hl1
        rw [d1] at r1
        have t1 : RepL C as (xs.drop (n + 1)) := ⟨by have := r1.1; simp only [List.length_cons] at this; omega, fun j av v e e' => r1.2 (j + 1) av v e e'⟩
        have hp1 : (part f.type xs.toArray f.offset).run P w = .ok xs[n] w := by
          simp only [part, Sem.run_bind, run_isAgg (kind_agg s3), Result.andThen_ok, s2]
          simp [hl1]
        have hck : (Instr.checkKey em 9999 f.type xs[n]).run P w = .ok () w := by
          exact check_basic s3 em 9998 _ w
        simp only [List.forIn_cons, Sem.run_bind, hp1, hck, s1, ne_eq, not_false_eq_true, if_true, Result.andThen_ok, Sem.run_pure]
        exact check_fields fs (n + 1) ks as s4 t1 (by simpa using hl)

theorem check_items {xs : List Value} {w : World} {em : Bool} {e : Nat} {ie : TypeInfo} (hi : P.info? e = some ie) (hce : P.cellsOf e = 1) : ∀ (ks : List Nat) (n : Nat) (as : List AV), ks.all (kindIs P e) = true → RepL C as (xs.drop n) → as.length = ks.length →
    (forIn (List.range' n ks.length) PUnit.unit fun i _ => (do
      Instr.checkKey em 9999 e (← part e xs.toArray (i * (← sizeOf e)))
      pure (ForInStep.yield PUnit.unit) : Sem (ForInStep PUnit))).run P w = .ok PUnit.unit w
  | [], n, as, hs, r1, hl => by simp
  | k :: ks, n, as, hs, r1, hl => by
    simp only [List.all_cons, Bool.and_eq_true] at hs
    cases as with
    | nil => simp at hl
    | cons x as =>
      have hl1 : n < xs.length := by have := r1.1; simp at this; omega
      have d1 : xs.drop n = xs[n] :: xs.drop (n + 1) := List.drop_eq_getElem_cons hl1
      rw [d1] at r1
      have t1 : RepL C as (xs.drop (n + 1)) := ⟨by have := r1.1; simp only [List.length_cons] at this; omega, fun j av v e e' => r1.2 (j + 1) av v e e'⟩
      have hp1 : (part e xs.toArray (n * 1)).run P w = .ok xs[n] w := by
        simp only [part, Sem.run_bind, run_isAgg (kind_agg hs.1), Result.andThen_ok, Nat.mul_one]
        simp [hl1]
      have hck : (Instr.checkKey em 9999 e xs[n]).run P w = .ok () w := check_basic hs.1 em 9998 _ w
      simp only [List.length_cons, List.range'_succ, List.forIn_cons, Sem.run_bind, run_sizeOf w hi, hce, hp1, hck, Result.andThen_ok, Sem.run_pure]
      exact check_items hi hce ks (n + 1) as hs.2 t1 (by simpa using hl)

theorem key_check {kt kd : Nat} {ks : List Nat} {x : AV} {u : Value} {r : Bool} (w : World) (em : Bool) (hk : keyTy P kt kd ks = true) (h : keyEq kd ks x x = some r) (hx : Rep C x u) :
    (Instr.checkKey em 10000 kt u).run P w = .ok () w := by
  show (Instr.checkKey em (9999 + 1) kt u).run P w = .ok () w
  have basic : kindIs P kt kd = true → (Instr.checkKey em (9999 + 1) kt u).run P w = .ok () w := fun hk => by
    exact check_basic hk em 9999 _ w
  unfold keyEq at h
  split at h
  · exact basic hk
  · exact basic hk
  · exact basic hk
  · rename_i as bs e1
    obtain ⟨xs, rfl, hx2, _⟩ := hx.agg_inv
    simp only [keyTy] at hk
    split at hk
    · rename_i fs hu
      simp only [Bool.and_eq_true, Bool.not_eq_true'] at hk
      obtain ⟨_, h2⟩ := acells_refl_len (w := w) hk.2 h
      have := check_fields (C := C) (P := P) (xs := xs) (w := w) (em := em) fs.toList 0 ks _ hk.2 (by simpa using hx2) h2
      rw [Instr.checkKey]
      simp only [Sem.run_bind, run_underlying hu, Result.andThen_ok]
      rw [← Array.forIn_toList]
      simp only [Sem.run_bind] at this ⊢
      refine Eq.trans (b := (Result.ok PUnit.unit w).andThen fun a w' => (pure () : Sem Unit).run P w') ?_ rfl
      congr 1
    · rename_i n e hu
      simp only [Bool.and_eq_true, beq_iff_eq] at hk
      obtain ⟨⟨h1, h2⟩, h3⟩ := hk
      obtain ⟨ie, hi, hsz⟩ := sizeIs_iff h1
      have hce : P.cellsOf e = 1 := by
        have := run_sizeOf w hi
        have h4 : (sizeOf e).run P w = .ok ie.size w := by simp [sizeOf, run_typeInfo w hi]
        rw [h4] at this
        injection this with this
        rw [← this]; exact hsz
      have h5 := structCmp_fake (P := P) (e := e) ks 0 h3
      rw [h2] at h5
      obtain ⟨_, h6⟩ := acells_refl_len (w := w) h5 h
      have := check_items (C := C) (P := P) (xs := xs) (w := w) (em := em) hi hce ks 0 e1 h3 (by simpa using hx2) (by rw [h6]; simp [h2])
      rw [Instr.checkKey]
      simp only [Sem.run_bind, run_underlying hu, Result.andThen_ok]
      simp only [Std.Legacy.Range.forIn_eq_forIn_range', Std.Legacy.Range.size, Nat.sub_zero, Nat.add_one_sub_one, Nat.div_one, ← h2]
      rw [this]
      rfl
    · cases hk
  · cases h

end
end Go.Proofs.Abs
