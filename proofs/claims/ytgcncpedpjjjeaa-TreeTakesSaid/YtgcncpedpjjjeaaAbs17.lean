/- A part of a proof: the text that states the row tells what is proved. No condition is laid on anything. -/
import Derived.Test.YtgcncpedpjjjeaaAbs16
set_option linter.all false
set_option linter.constructorNameAsVariable false
set_option linter.defProp false
set_option linter.unusedVariables false
set_option linter.unusedSimpArgs false
namespace Go.Proofs.Abs
open Go

theorem slots1_at {i : Nat} {a : AIn} : ∀ {l : List AIn} {j : Nat} {b : AIn}, slots1 i a l = true → l[j]? = some b → clash a b = true → i ∈ b.pre
  | [], j, b, _, h, _ => by simp at h
  | x :: l, j, b, h, hj, hc => by
    simp only [slots1, Bool.and_eq_true] at h
    cases j with
    | zero =>
      simp only [List.getElem?_cons_zero, Option.some.injEq] at hj
      subst hj
      have := h.1
      simp only [hc, Bool.not_true, Bool.false_or, List.contains_iff_mem] at this
      exact this
    | succ j => exact slots1_at h.2 (by simpa using hj) hc
theorem slots_at : ∀ {l : List AIn} {n i j : Nat} {a b : AIn}, slotsOK n l = true → l[i]? = some a → l[j]? = some b → i < j → clash a b = true → n + i ∈ b.pre
  | [], n, i, j, a, b, _, h, _, _, _ => by simp at h
  | x :: l, n, i, j, a, b, h, hi, hj, hij, hc => by
    simp only [slotsOK, Bool.and_eq_true] at h
    cases j with
    | zero => omega
    | succ j =>
      cases i with
      | zero =>
        simp only [List.getElem?_cons_zero, Option.some.injEq] at hi
        subst hi
        exact slots1_at h.1 (by simpa using hj) hc
      | succ i =>
        have := slots_at h.2 (by simpa using hi) (by simpa using hj) (by omega) hc
        rwa [show n + (i + 1) = n + 1 + i by omega]
theorem apart1_at {i : Nat} {a : Rec} : ∀ {l : List Rec} {j : Nat} {b : Rec}, apart1 i a l = true → l[j]? = some b → needs a b = true → i ∈ b.pre
  | [], j, b, _, h, _ => by simp at h
  | x :: l, j, b, h, hj, hc => by
    simp only [apart1, Bool.and_eq_true] at h
    cases j with
    | zero =>
      simp only [List.getElem?_cons_zero, Option.some.injEq] at hj
      subst hj
      have := h.1
      simp only [hc, Bool.not_true, Bool.false_or, List.contains_iff_mem] at this
      exact this
    | succ j => exact apart1_at h.2 (by simpa using hj) hc
theorem apart_at : ∀ {l : List Rec} {n i j : Nat} {a b : Rec}, apart n l = true → l[i]? = some a → l[j]? = some b → i < j → needs a b = true → n + i ∈ b.pre
  | [], n, i, j, a, b, _, h, _, _, _ => by simp at h
  | x :: l, n, i, j, a, b, h, hi, hj, hij, hc => by
    simp only [apart, Bool.and_eq_true] at h
    cases j with
    | zero => omega
    | succ j =>
      cases i with
      | zero =>
        simp only [List.getElem?_cons_zero, Option.some.injEq] at hi
        subst hi
        exact apart1_at h.1 (by simpa using hj) hc
      | succ i =>
        have := apart_at h.2 (by simpa using hi) (by simpa using hj) (by omega) hc
        rwa [show n + (i + 1) = n + 1 + i by omega]

/-! ### A set of operations done -/
def dof (is : List AIn) (n : Nat) : Option Nat := (is[n]?).bind (·.d)
def LS (is : List AIn) (e0 : Env) (V : Nat → AV) (S : Nat → Bool) : Nat → Nat → AV
  | 0, t => eget e0 t
  | n + 1, t => if S n = true ∧ dof is n = some t then V n else LS is e0 V S n t
def eff (l : List Rec) (Hh : Nat → Heap) (p : Id) (k : Nat) (n : Nat) (h : Heap) : Heap :=
  match l[n]? with
  | some r => match r.c with
    | .n o => hins h (p ++ [k + n]) o
    | .x => Hh (n + 1)
    | _ => h
  | none => h
def HS (l : List Rec) (H0 : Heap) (Hh : Nat → Heap) (p : Id) (k : Nat) (S : Nat → Bool) : Nat → Heap
  | 0 => H0
  | n + 1 => if S n = true then eff l Hh p k n (HS l H0 Hh p k S n) else HS l H0 Hh p k S n

def more (S : Nat → Bool) (j : Nat) : Nat → Bool := fun i => S i || i == j

theorem eget_putd (e : Env) (d : Option Nat) (v : AV) (t : Nat) : eget (putd e d v) t = if d = some t then v else eget e t := by
  cases d with
  | none => simp [putd]
  | some d => simp [putd, eget_eset]

/-- A class and what it does to the heap. -/
def clsHeap (c : Cl) (H H1 : Heap) (me : Id) : Prop :=
  match c with
  | .n o => H1 = hins H me o ∧ hget H me = none
  | .x => True
  | _ => H1 = H
theorem adstep_heap {call : CallF} {i : AIn} {s s1 : St} {v : AV} {c : Cl} (h : adstep call i s = some (c, v, s1)) : clsHeap c s.heap s1.heap (s.p ++ [s.k]) := by
  unfold adstep at h
  split at h
  · split at h
    · rename_i v' s' hs
      split at h
      · split at h
        · rename_i hn
          simp only [Option.some.injEq, Prod.mk.injEq] at h
          obtain ⟨rfl, rfl, rfl⟩ := h
          exact ⟨rfl, by simpa using hn⟩
        · cases h
      · split at h
        · simp only [Option.some.injEq, Prod.mk.injEq] at h
          obtain ⟨rfl, rfl, rfl⟩ := h
          rfl
        · simp only [Option.some.injEq, Prod.mk.injEq] at h
          obtain ⟨rfl, rfl, rfl⟩ := h
          trivial
      · rename_i c' h1 h2
        simp only [Option.some.injEq, Prod.mk.injEq] at h
        obtain ⟨rfl, rfl, rfl⟩ := h
        have hk : isCall i.i = false := by
          cases hk : isCall i.i with
          | false => rfl
          | true => exact absurd (cls_call hk) h2
        have hs1 : ains i.i s = some (v', s') := by
          revert hs hk
          cases i.i <;> simp [astep, isCall]
        cases hc : clsOf i.i s.env with
        | l => show s'.heap = s.heap; rw [(cls_l hc (H := s.heap) (p := s.p) (k := s.k) hs1).1]
        | r id => show s'.heap = s.heap; rw [(cls_r hc (H := s.heap) (p := s.p) (k := s.k) hs1).1]
        | n o => exact absurd hc (h1 o)
        | c => exact absurd hc h2
        | x => trivial
    · cases h
  · simp only [Option.some.injEq, Prod.mk.injEq] at h
    obtain ⟨rfl, rfl, rfl⟩ := h
    rfl
  · cases h

section
variable {call : CallF} {is : List AIn} {e0 : Env} {H0 : Heap} {p : Id} {k : Nat} {E : Nat → Env} {Hh : Nat → Heap} {V : Nat → AV} {l : List Rec}

theorem Trace.get (ht : Trace call is e0 H0 p k E Hh V l) {j : Nat} (hj : j < is.length) : ∃ i r s1, is[j]? = some i ∧ l[j]? = some r ∧ r.pre = i.pre ∧ r.me = p ++ [k + j] ∧ adstep call i ⟨E j, Hh j, p, k + j⟩ = some (r.c, V j, s1) ∧ s1.heap = Hh (j + 1) ∧ E (j + 1) = putd (E j) i.d (V j) := by
  obtain ⟨r, s1, h⟩ := ht.step j _ (List.getElem?_eq_getElem hj)
  exact ⟨_, r, s1, List.getElem?_eq_getElem hj, h⟩

theorem Trace.eff (ht : Trace call is e0 H0 p k E Hh V l) {j : Nat} (hj : j < is.length) : eff l Hh p k j (Hh j) = Hh (j + 1) := by
  obtain ⟨i, r, s1, h1, h2, h3, h3', h4, h5, h6⟩ := ht.get hj
  have h7 := adstep_heap h4
  unfold Abs.eff
  rw [h2]
  simp only
  cases hc : r.c <;> simp only [hc, clsHeap] at h7 ⊢
  all_goals first
    | exact h5
    | rw [← h5, h7]
    | rw [← h5, h7.1]

/-- Slots that no operation from m on of the set has written. -/
theorem LS_from {S : Nat → Bool} {t m : Nat} : ∀ n, m ≤ n → (∀ i, m ≤ i → i < n → S i = true → dof is i ≠ some t) → LS is e0 V S n t = LS is e0 V S m t
  | 0, h, _ => by rw [show m = 0 by omega]
  | n + 1, h, hn => by
    rcases Nat.lt_or_ge n m with h1 | h1
    · rw [show m = n + 1 by omega]
    · simp only [LS]
      rw [if_neg (fun hh => hn n h1 (Nat.lt_succ_self n) hh.1 hh.2)]
      exact LS_from n h1 fun i h2 h3 => hn i h2 (by omega)
theorem LS_upto (ht : Trace call is e0 H0 p k E Hh V l) {S : Nat → Bool} {t : Nat} : ∀ n, n ≤ is.length → (∀ i, i < n → dof is i = some t → S i = true) → LS is e0 V S n t = eget (E n) t
  | 0, _, _ => by rw [ht.e0]; rfl
  | n + 1, h, hn => by
    obtain ⟨i, r, s1, h1, h2, h3, h3', h4, h5, h6⟩ := ht.get (j := n) (by omega)
    have hd : dof is n = i.d := by simp [dof, h1]
    have ih := LS_upto ht n (by omega) fun i h2 h3 => hn i (by omega) h3
    rw [h6, eget_putd, ← hd]
    simp only [LS]
    by_cases hdt : dof is n = some t
    · rw [if_pos ⟨hn n (Nat.lt_succ_self n) hdt, hdt⟩, if_pos hdt]
    · rw [if_neg (fun h => hdt h.2), if_neg hdt, ih]
theorem LS_more {S : Nat → Bool} {j t : Nat} : ∀ n, j < n → S j = false → (∀ i, j < i → i < n → S i = true → dof is i = some t → dof is j = some t → False) →
    LS is e0 V (more S j) n t = if dof is j = some t then V j else LS is e0 V S n t
  | 0, h, _, _ => by omega
  | n + 1, h, hS, hn => by
    have low : ∀ m, m ≤ j → LS is e0 V (more S j) m t = LS is e0 V S m t := by
      intro m
      induction m with
      | zero => intro _; rfl
      | succ m ih =>
        intro hm
        have : more S j m = S m := by simp only [more]; rw [show (m == j) = false by simp; omega]; simp
        simp only [LS, this, ih (by omega)]
    rcases Nat.lt_or_ge j n with h1 | h1
    · have ih := LS_more (S := S) (j := j) (t := t) n h1 hS fun i h2 h3 => hn i h2 (by omega)
      have hm : more S j n = S n := by simp only [more]; rw [show (n == j) = false by simp; omega]; simp
      simp only [LS, hm, ih]
      by_cases hc : S n = true ∧ dof is n = some t
      · rw [if_pos hc, if_pos hc, if_neg (fun hj => hn n h1 (Nat.lt_succ_self n) hc.1 hc.2 hj)]
      · rw [if_neg hc, if_neg hc]
    · have : j = n := by omega
      subst this
      simp only [LS, hS, low j (Nat.le_refl _), Bool.false_eq_true, false_and, if_false]
      have hm : more S j j = true := by simp [more]
      simp only [hm, true_and]

/-- What is known of a set of operations done, and of one more that may be done now. -/
structure Now (is : List AIn) (S : Nat → Bool) (j : Nat) : Prop where
  lt : j < is.length
  no : S j = false
  closed : ∀ m i, is[m]? = some i → S m = true → ∀ x ∈ i.pre, S x = true
  ahead : ∀ i, is[j]? = some i → ∀ x ∈ i.pre, S x = true

theorem Now.behind {S : Nat → Bool} {j : Nat} (h : Now is S j) {m : Nat} {i : AIn} (hi : is[m]? = some i) (hS : S m = true) : j ∉ i.pre := fun hj => by
  have := h.closed m i hi hS j hj
  rw [h.no] at this
  cases this

theorem LS_reads (ht : Trace call is e0 H0 p k E Hh V l) (hs : slotsOK 0 is = true) {S : Nat → Bool} {j : Nat} (hn : Now is S j) {i : AIn} (hi : is[j]? = some i) {t : Nat} (htr : t ∈ readsG i) :
    LS is e0 V S is.length t = eget (E j) t := by
  rw [LS_from (m := j) is.length (Nat.le_of_lt hn.lt) fun m h1 h2 h3 h4 => ?_]
  · refine LS_upto ht j (Nat.le_of_lt hn.lt) fun m h1 h2 => ?_
    obtain ⟨im, him⟩ : ∃ im, is[m]? = some im := ⟨_, List.getElem?_eq_getElem (by have := hn.lt; omega)⟩
    have hd : im.d = some t := by simpa [dof, him] using h2
    have := slots_at hs him hi h1 (by simp [clash, hd, htr])
    exact hn.ahead i hi m (by simpa using this)
  · rcases Nat.lt_or_ge j m with h5 | h5
    · obtain ⟨im, him⟩ : ∃ im, is[m]? = some im := ⟨_, List.getElem?_eq_getElem h2⟩
      have hd : im.d = some t := by simpa [dof, him] using h4
      have := slots_at hs hi him h5 (by simp [clash, hd, htr])
      exact hn.behind him h3 (by simpa using this)
    · have : m = j := by omega
      subst this
      rw [hn.no] at h3
      cases h3
theorem LS_next (ht : Trace call is e0 H0 p k E Hh V l) (hs : slotsOK 0 is = true) {S : Nat → Bool} {j : Nat} (hn : Now is S j) (t : Nat) :
    LS is e0 V (more S j) is.length t = if dof is j = some t then V j else LS is e0 V S is.length t := by
  refine LS_more is.length hn.lt hn.no fun m h1 h2 h3 h4 h5 => ?_
  obtain ⟨im, him⟩ : ∃ im, is[m]? = some im := ⟨_, List.getElem?_eq_getElem h2⟩
  obtain ⟨ij, hij⟩ : ∃ ij, is[j]? = some ij := ⟨_, List.getElem?_eq_getElem hn.lt⟩
  have hd : im.d = some t := by simpa [dof, him] using h4
  have hd' : ij.d = some t := by simpa [dof, hij] using h5
  have := slots_at hs hij him h1 (by simp [clash, hd, hd'])
  exact hn.behind him h3 (by simpa using this)

/-! The heap. -/
theorem HS_low {S : Nat → Bool} {j : Nat} : ∀ m, m ≤ j → HS l H0 Hh p k (more S j) m = HS l H0 Hh p k S m
  | 0, _ => rfl
  | m + 1, h => by
    have : more S j m = S m := by simp only [more]; rw [show (m == j) = false by simp; omega]; simp
    simp only [HS, this, HS_low (S := S) (j := j) m (by omega)]
theorem HS_at {S : Nat → Bool} {j : Nat} : HS l H0 Hh p k (more S j) (j + 1) = eff l Hh p k j (HS l H0 Hh p k S j) := by
  have : more S j j = true := by simp [more]
  simp only [HS, this, if_true, HS_low j (Nat.le_refl _)]

theorem idk_ne {i j : Nat} (h : i ≠ j) : idk (p ++ [k + i]) ≠ idk (p ++ [k + j]) := by rw [idk_last, idk_last]; omega
theorem me_ne {i j : Nat} (h : i ≠ j) : p ++ [k + i] ≠ p ++ [k + j] := fun e => idk_ne (p := p) (k := k) h (by rw [e])

/-- An operation that writes or calls: all that does anything to the heap stands ahead of it, or behind. -/
theorem HS_exact (ht : Trace call is e0 H0 p k E Hh V l) (ha : apart 0 l = true) {S : Nat → Bool} {j : Nat} (hn : Now is S j) {r : Rec} (hr : l[j]? = some r) (hc : r.c = .c ∨ r.c = .x) :
    HS l H0 Hh p k S is.length = Hh j ∧ HS l H0 Hh p k (more S j) is.length = Hh (j + 1) := by
  have up : ∀ m, m ≤ j → HS l H0 Hh p k S m = Hh m := by
    intro m
    induction m with
    | zero => intro _; exact ht.h0.symm
    | succ m ih =>
      intro hm
      have hlt := hn.lt
      have ih := ih (by omega)
      simp only [HS, ih]
      have he := ht.eff (j := m) (by omega)
      split
      · exact he
      · rename_i hS
        obtain ⟨i, rm, s1, h1, h2, h3, h3', h4, h5, h6⟩ := ht.get (j := m) (by omega)
        rw [← he]
        unfold Abs.eff
        rw [h2]
        simp only
        obtain ⟨ij, hij⟩ : ∃ ij, is[j]? = some ij := ⟨_, List.getElem?_eq_getElem hn.lt⟩
        have hpre : r.pre = ij.pre := by
          obtain ⟨r', _, h8, h9, _⟩ := ht.step j ij hij
          rw [hr] at h8; injection h8 with h8; subst h8; exact h9
        have bad : needs rm r = true → False := fun hnd => by
          have := apart_at ha h2 hr (by omega) hnd
          rw [hpre] at this
          exact hS (hn.ahead ij hij m (by simpa using this))
        cases hcm : rm.c with
        | n o => exact (bad (by rcases hc with hc | hc <;> simp [needs, hcm, hc])).elim
        | x => exact (bad (by rcases hc with hc | hc <;> simp [needs, hcm, hc])).elim
        | _ => rfl
  have high : ∀ (T : Nat → Bool) m n, j < m → m ≤ n → n ≤ is.length → (∀ i, j < i → T i = S i) → HS l H0 Hh p k T n = HS l H0 Hh p k T m := by
    intro T m n hjm hmn hnl hT
    induction n with
    | zero => omega
    | succ n ih =>
      rcases Nat.lt_or_ge n m with h1 | h1
      · rw [show m = n + 1 by omega]
      · simp only [HS]
        rw [ih h1 (by omega)]
        split
        · rename_i hS
          rw [hT n (by omega)] at hS
          obtain ⟨i, rm, s1, h1, h2, h3, h3', h4, h5, h6⟩ := ht.get (j := n) (by omega)
          have bad : needs r rm = true → False := fun hnd => by
            have := apart_at ha hr h2 (by omega) hnd
            rw [h3] at this
            exact hn.behind h1 hS (by simpa using this)
          unfold Abs.eff
          rw [h2]
          simp only
          cases hcm : rm.c with
          | n o => exact (bad (by rcases hc with hc | hc <;> simp [needs, hcm, hc])).elim
          | x => exact (bad (by rcases hc with hc | hc <;> simp [needs, hcm, hc])).elim
          | _ => rfl
        · rfl
  have hlt := hn.lt
  refine ⟨?_, ?_⟩
  · rw [high S (j + 1) is.length (by omega) (by omega) (Nat.le_refl _) fun _ _ => rfl]
    simp only [HS, hn.no, Bool.false_eq_true, if_false]
    exact up j (Nat.le_refl _)
  · rw [high (more S j) (j + 1) is.length (by omega) (by omega) (Nat.le_refl _) fun i hi => by simp only [more]; rw [show (i == j) = false by simp; omega]; simp]
    rw [HS_at, up j (Nat.le_refl _)]
    exact ht.eff hn.lt

theorem hget_fins_ne (f : Fr) {id id' : Id} (o : AObj) (h : id ≠ id') : fget (fins f id o) id' = fget f id' := by
  induction f with
  | nil => simp [fins, fget, h]
  | cons x f ih =>
    obtain ⟨i, x⟩ := x
    simp only [fins]
    split
    · simp only [fget, ih]
    · simp [fget, h]
theorem hget_hins_ne (H : Heap) {id id' : Id} (o : AObj) (h : id ≠ id') : hget (hins H id o) id' = hget H id' := by
  cases H with
  | nil => simp [hins, hget, fget, h]
  | cons f r => simp only [hins, hget, hget_fins_ne f o h]

/-- An operation that reads an object: it is the same as in the text's run. -/
theorem HS_read (ht : Trace call is e0 H0 p k E Hh V l) (ha : apart 0 l = true) {S : Nat → Bool} {j : Nat} (hn : Now is S j) {r : Rec} (hr : l[j]? = some r) {id : Id} (hc : r.c = .r id) :
    hget (HS l H0 Hh p k S is.length) id = hget (Hh j) id := by
  have up : ∀ m, m ≤ j → hget (HS l H0 Hh p k S m) id = hget (Hh m) id := by
    intro m
    induction m with
    | zero => intro _; rw [ht.h0]; rfl
    | succ m ih =>
      intro hm
      have hlt := hn.lt
      have ih := ih (by omega)
      have he := ht.eff (j := m) (by omega)
      obtain ⟨i, rm, s1, h1, h2, h3, h3', h4, h5, h6⟩ := ht.get (j := m) (by omega)
      obtain ⟨ij, hij⟩ : ∃ ij, is[j]? = some ij := ⟨_, List.getElem?_eq_getElem hn.lt⟩
      have hpre : r.pre = ij.pre := by
        obtain ⟨r', _, h8, h9, _⟩ := ht.step j ij hij
        rw [hr] at h8; injection h8 with h8; subst h8; exact h9
      have good : needs rm r = true → S m = true := fun hnd => by
        have := apart_at ha h2 hr (by omega) hnd
        rw [hpre] at this
        exact hn.ahead ij hij m (by simpa using this)
      simp only [HS]
      rw [← he]
      cases hcm : rm.c with
      | n o =>
        have e : ∀ h, Abs.eff l Hh p k m h = hins h (p ++ [k + m]) o := fun h => by unfold Abs.eff; rw [h2]; simp only [hcm]
        rw [e, e]
        by_cases hid : rm.me = id
        · have hS := good (by simp [needs, hcm, hc, hid])
          rw [if_pos hS]
          have h8 := adstep_heap h4
          simp only [hcm, clsHeap] at h8
          have h9 : hget (Hh m) id = none := by rw [← hid, h3']; exact h8.2
          rw [← hid, h3'] at ih h9
          rw [← hid, h3']
          rw [hget_hins _ _ _ _ h9, hget_hins _ _ _ _ (by rw [ih]; exact h9)]
          simp
        · have hne : p ++ [k + m] ≠ id := by rw [← h3']; exact hid
          rw [hget_hins_ne _ _ hne]
          split
          · rw [hget_hins_ne _ _ hne]; exact ih
          · exact ih
      | x =>
        have e : ∀ h, Abs.eff l Hh p k m h = Hh (m + 1) := fun h => by unfold Abs.eff; rw [h2]; simp only [hcm]
        rw [if_pos (good (by simp [needs, hcm, hc])), e, e]
      | l =>
        have e : ∀ h, Abs.eff l Hh p k m h = h := fun h => by unfold Abs.eff; rw [h2]; simp only [hcm]
        rw [e, e]; split <;> exact ih
      | r id' =>
        have e : ∀ h, Abs.eff l Hh p k m h = h := fun h => by unfold Abs.eff; rw [h2]; simp only [hcm]
        rw [e, e]; split <;> exact ih
      | c =>
        have e : ∀ h, Abs.eff l Hh p k m h = h := fun h => by unfold Abs.eff; rw [h2]; simp only [hcm]
        rw [e, e]; split <;> exact ih
  have high : ∀ n, j ≤ n → n ≤ is.length → hget (HS l H0 Hh p k S n) id = hget (HS l H0 Hh p k S j) id := by
    intro n hmn hnl
    induction n with
    | zero => rw [show j = 0 by omega]
    | succ n ih =>
      rcases Nat.lt_or_ge n j with h1 | h1
      · rw [show j = n + 1 by omega]
      · simp only [HS]
        split
        · rename_i hS
          obtain ⟨i, rm, s1, h1', h2, h3, h3', h4, h5, h6⟩ := ht.get (j := n) (by omega)
          have hjn : j ≠ n := fun hh => by rw [← hh, hn.no] at hS; cases hS
          have bad : needs r rm = true → False := fun hnd => by
            have := apart_at ha hr h2 (by omega) hnd
            rw [h3] at this
            exact hn.behind h1' hS (by simpa using this)
          unfold Abs.eff
          rw [h2]
          simp only
          cases hcm : rm.c with
          | n o =>
            simp only
            rw [hget_hins_ne _ _ (fun hid => bad (by simp [needs, hcm, hc, h3', hid]))]
            exact ih h1 (by omega)
          | x => exact (bad (by simp [needs, hcm, hc])).elim
          | _ => exact ih h1 (by omega)
        · exact ih h1 (by omega)
  rw [high is.length (Nat.le_of_lt hn.lt) (Nat.le_refl _)]
  exact up j (Nat.le_refl _)

/-- An operation that does nothing to the heap. -/
theorem HS_still (ht : Trace call is e0 H0 p k E Hh V l) {S : Nat → Bool} {j : Nat} (hn : Now is S j) {r : Rec} (hr : l[j]? = some r) (hc : r.c = .l ∨ (∃ id, r.c = .r id) ∨ r.c = .c) :
    HS l H0 Hh p k (more S j) is.length = HS l H0 Hh p k S is.length := by
  have e : ∀ h, Abs.eff l Hh p k j h = h := fun h => by
    unfold Abs.eff; rw [hr]
    rcases hc with hc | ⟨id, hc⟩ | hc <;> simp only [hc]
  have : ∀ n, j < n → HS l H0 Hh p k (more S j) n = HS l H0 Hh p k S n := by
    intro n
    induction n with
    | zero => intro h; omega
    | succ n ih =>
      intro h
      rcases Nat.lt_or_ge j n with h1 | h1
      · have hm : more S j n = S n := by simp only [more]; rw [show (n == j) = false by simp; omega]; simp
        simp only [HS, hm, ih h1]
      · have : j = n := by omega
        subst this
        rw [HS_at, e]
        simp only [HS, hn.no, Bool.false_eq_true, if_false]
  exact this _ hn.lt
/-- An operation that lays a variable. -/
theorem HS_new (ht : Trace call is e0 H0 p k E Hh V l) (ha : apart 0 l = true) {S : Nat → Bool} {j : Nat} (hn : Now is S j) {r : Rec} (hr : l[j]? = some r) {o : AObj} (hc : r.c = .n o) :
    HS l H0 Hh p k (more S j) is.length = hins (HS l H0 Hh p k S is.length) (p ++ [k + j]) o := by
  have e : ∀ h, Abs.eff l Hh p k j h = hins h (p ++ [k + j]) o := fun h => by unfold Abs.eff; rw [hr]; simp only [hc]
  have : ∀ n, j < n → n ≤ is.length → HS l H0 Hh p k (more S j) n = hins (HS l H0 Hh p k S n) (p ++ [k + j]) o := by
    intro n
    induction n with
    | zero => intro h; omega
    | succ n ih =>
      intro h hle
      rcases Nat.lt_or_ge j n with h1 | h1
      · have hm : more S j n = S n := by simp only [more]; rw [show (n == j) = false by simp; omega]; simp
        simp only [HS, hm, ih h1 (by omega)]
        split
        · rename_i hS
          obtain ⟨i, rm, s1, h1', h2, h3, h3', h4, h5, h6⟩ := ht.get (j := n) (by omega)
          have bad : needs r rm = true → False := fun hnd => by
            have := apart_at ha hr h2 (by omega) hnd
            rw [h3] at this
            exact hn.behind h1' hS (by simpa using this)
          unfold Abs.eff
          rw [h2]
          simp only
          cases hcm : rm.c with
          | n o' => exact hins_comm _ _ _ (idk_ne (by omega))
          | x => exact (bad (by simp [needs, hcm, hc])).elim
          | _ => rfl
        · rfl
      · have : j = n := by omega
        subst this
        rw [HS_at, e]
        simp only [HS, hn.no, Bool.false_eq_true, if_false]
  exact this _ hn.lt (Nat.le_refl _)

/-- All done. -/
theorem HS_all (ht : Trace call is e0 H0 p k E Hh V l) {S : Nat → Bool} : ∀ n, n ≤ is.length → (∀ i, i < n → S i = true) → HS l H0 Hh p k S n = Hh n
  | 0, _, _ => ht.h0.symm
  | n + 1, hn, hS => by
    simp only [HS, hS n (Nat.lt_succ_self n), if_true]
    rw [HS_all ht n (by omega) fun i hi => hS i (by omega)]
    exact ht.eff (by omega)

end
end Go.Proofs.Abs
