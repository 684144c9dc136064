/- A part of a proof: the text that states the row tells what is proved. No condition is laid on anything. -/
import Derived.Test.YtdmnnbmjhpoipaaGreatDoorAbsGk
import Derived.Test.YtdmnnbmjhpoipaaGreatDoorAbsGj
set_option linter.all false
set_option linter.constructorNameAsVariable false
set_option linter.defProp false
set_option linter.unusedVariables false
set_option linter.unusedSimpArgs false
set_option maxRecDepth 100000
namespace Go.Proofs.Abs
open Go
def nul : Tr → Bool
  | .leaf n => decide (n.kind = 1)
  | .cat a b => nul a && nul b
  | .alt a b => nul a || nul b
  | .star _ => true
def derL (v : Int) (n : Nd) : Tr := if n.kind = 2 ∧ hasS n.set v = true then empty else never
def derR (v : Int) : Tr → Option Tr
  | .leaf n => some (derL v n)
  | .cat a b => (derR v a).bind fun p => (derR v b).bind fun q => (catO p b).bind fun t => if nul a then altO t q else some t
  | .alt a b => (derR v a).bind fun p => (derR v b).bind fun q => altO p q
  | .star a => (derR v a).bind fun p => catO p (.star a)
def derP (v : Int) : Tr → Option Tr
  | .leaf n => some (derL v n)
  | .cat a b => (derP v a).bind fun p => if nul a then (derP v b).bind fun q => (catO p b).bind fun t => altO t q else catO p b
  | .alt a b => (derP v a).bind fun p => (derP v b).bind fun q => altO p q
  | .star a => (derP v a).bind fun p => catO p (.star a)
def sDer (v : Int) : Tr → Tr
  | .leaf n => derL v n
  | .cat a b => if nul a then sAlt (sCat (sDer v a) b) (sDer v b) else sCat (sDer v a) b
  | .alt a b => sAlt (sDer v a) (sDer v b)
  | .star a => sCat (sDer v a) (.star a)
theorem ok_derL (v : Int) (n : Nd) : Ok (derL v n) ∧ sz (derL v n) = 1 := by
  unfold derL; split
  · exact ⟨okS_empty.1, rfl⟩
  · exact ⟨okS_never.1, rfl⟩
theorem ok_sDer (v : Int) : ∀ x, Ok x → Ok (sDer v x)
  | .leaf n, _ => (ok_derL v n).1
  | .cat a b, h => by
    simp only [sDer]; split
    · exact ok_sAlt (ok_sCat b _ (ok_sDer v a h.1) h.2) (ok_sDer v b h.2)
    · exact ok_sCat b _ (ok_sDer v a h.1) h.2
  | .alt a b, h => ok_sAlt (ok_sDer v a h.1) (ok_sDer v b h.2)
  | .star a, h => ok_sCat (.star a) _ (ok_sDer v a h) h
theorem sz_sDer (v : Int) : ∀ x, sz (sDer v x) ≤ sz x * sz x
  | .leaf n => by simp only [sDer, (ok_derL v n).2]; exact Nat.le_refl _
  | .cat a b => by
    have h1 := sz_sDer v a
    have h2 := sz_sDer v b
    have h3 := sz_sCat b (sDer v a)
    have h4 := sz_sAlt (sCat (sDer v a) b) (sDer v b)
    have p1 := sz_pos a
    have p2 := sz_pos b
    have e : sz (Tr.cat a b) * sz (Tr.cat a b) = sz a * sz a + sz b * sz b + 2 * (sz a * sz b) + 2 * sz a + 2 * sz b + 1 := by
      simp only [sz]
      have : (sz a + sz b + 1) * (sz a + sz b + 1) = sz a * sz a + sz b * sz b + 2 * (sz a * sz b) + 2 * sz a + 2 * sz b + 1 := by
        simp only [Nat.add_mul, Nat.mul_add, Nat.mul_comm (sz b) (sz a)]; omega
      exact this
    rw [e]
    simp only [sDer]; split <;> omega
  | .alt a b => by
    have h1 := sz_sDer v a
    have h2 := sz_sDer v b
    have h4 := sz_sAlt (sDer v a) (sDer v b)
    have e : sz (Tr.alt a b) * sz (Tr.alt a b) = sz a * sz a + sz b * sz b + 2 * (sz a * sz b) + 2 * sz a + 2 * sz b + 1 := by
      simp only [sz]
      have : (sz a + sz b + 1) * (sz a + sz b + 1) = sz a * sz a + sz b * sz b + 2 * (sz a * sz b) + 2 * sz a + 2 * sz b + 1 := by
        simp only [Nat.add_mul, Nat.mul_add, Nat.mul_comm (sz b) (sz a)]; omega
      exact this
    rw [e]
    simp only [sDer]; omega
  | .star a => by
    have h1 := sz_sDer v a
    have h3 := sz_sCat (.star a) (sDer v a)
    have p1 := sz_pos a
    have e : sz (Tr.star a) * sz (Tr.star a) = sz a * sz a + 2 * sz a + 1 := by
      simp only [sz]
      have : (sz a + 1) * (sz a + 1) = sz a * sz a + 2 * sz a + 1 := by
        simp only [Nat.add_mul, Nat.mul_add]; omega
      exact this
    rw [e]
    simp only [sDer]
    simp only [sz] at h3
    omega
theorem sCat_leaf (a : Tr) (n : Nd) : sCat a (.leaf n) = if rk a = 0 ∨ rk (Tr.leaf n) = 0 then never else if rk a = 1 then .leaf n else if rk (Tr.leaf n) = 1 then a else .cat a (.leaf n) := rfl
theorem cat1_of {a b c : Tr} (hs : sCat a b = if rk a = 0 ∨ rk b = 0 then never else if rk a = 1 then b else if rk b = 1 then a else .cat a b) (h : cat1 a b = some c) : c = sCat a b := by
  rw [hs]
  unfold cat1 at h
  split at h
  · rename_i k; rw [if_pos k]; simpa using h.symm
  · rename_i k; rw [if_neg k]
    split at h
    · rename_i k1; rw [if_pos k1]; simpa using h.symm
    · rename_i k1; rw [if_neg k1]
      split at h
      · rename_i k2; rw [if_pos k2]; simpa using h.symm
      · rename_i k2; rw [if_neg k2]
        unfold joinO at h
        split at h
        · simpa using h.symm
        · cases h
theorem catO_eq : ∀ {b a c : Tr}, catO a b = some c → c = sCat a b
  | .leaf n, a, c, h => cat1_of (sCat_leaf a n) h
  | .alt x y, a, c, h => cat1_of (b := .alt x y) (by
      have e : rk (.alt x y) = 4 := rfl
      simp [sCat, e]) h
  | .star x, a, c, h => cat1_of (b := .star x) (by
      have e : rk (.star x) = 5 := rfl
      simp [sCat, e]) h
  | .cat x y, a, c, h => by
    simp only [catO] at h
    simp only [sCat]
    by_cases k : rk a = 0
    · rw [if_pos k] at h ⊢; simpa using h.symm
    · rw [if_neg k] at h ⊢
      by_cases k1 : rk a = 1
      · rw [if_pos k1] at h ⊢; simpa using h.symm
      · rw [if_neg k1] at h ⊢
        rw [Option.bind_eq_some_iff] at h
        obtain ⟨d, h1, h2⟩ := h
        have e := catO_eq h1
        subst e
        exact catO_eq h2
theorem altsO_eq : ∀ {r : List Tr} {x c : Tr}, altsO x r = some c → c = r.foldl .alt x
  | [], x, c, h => by simpa [altsO] using h.symm
  | y :: r, x, c, h => by
    simp only [altsO, Option.bind_eq_some_iff] at h
    obtain ⟨d, h1, h2⟩ := h
    unfold joinO at h1
    split at h1
    · rw [if_neg (by decide), Option.some.injEq] at h1
      subst h1
      exact altsO_eq (r := r) (x := .alt x y) h2
    · cases h1
theorem altO_eq {a b c : Tr} (h : altO a b = some c) : c = sAlt a b := by
  unfold altO at h
  unfold sAlt
  by_cases k : rk a = 0
  · rw [if_pos k] at h ⊢; simpa using h.symm
  · rw [if_neg k] at h ⊢
    by_cases k1 : rk b = 0
    · rw [if_pos k1] at h ⊢; simpa using h.symm
    · rw [if_neg k1] at h ⊢
      generalize onceT (mems a ++ mems b) = L at h
      cases L with
      | nil => cases h
      | cons y r => exact altsO_eq h
theorem derP_eq (v : Int) : ∀ {x c : Tr}, derP v x = some c → c = sDer v x
  | .leaf n, c, h => by simpa [derP, sDer] using h.symm
  | .cat a b, c, h => by
    simp only [derP, Option.bind_eq_some_iff] at h
    obtain ⟨p, h1, h2⟩ := h
    have e1 := derP_eq v h1
    subst e1
    simp only [sDer]
    split at h2
    · rename_i k
      rw [if_pos k]
      simp only [Option.bind_eq_some_iff] at h2
      obtain ⟨q, h3, t, h4, h5⟩ := h2
      have e2 := derP_eq v h3
      subst e2
      have e3 := catO_eq h4
      subst e3
      exact altO_eq h5
    · rename_i k
      rw [if_neg k]
      exact catO_eq h2
  | .alt a b, c, h => by
    simp only [derP, Option.bind_eq_some_iff] at h
    obtain ⟨p, h1, q, h2, h3⟩ := h
    have e1 := derP_eq v h1
    have e2 := derP_eq v h2
    subst e1; subst e2
    exact altO_eq h3
  | .star a, c, h => by
    simp only [derP, Option.bind_eq_some_iff] at h
    obtain ⟨p, h1, h2⟩ := h
    have e1 := derP_eq v h1
    subst e1
    exact catO_eq h2
theorem ok_derP (v : Int) : ∀ {x c : Tr}, OkS x → derP v x = some c → OkS c
  | .leaf n, c, _, h => by
    simp only [derP, Option.some.injEq] at h
    subst h
    exact ⟨(ok_derL v n).1, by rw [(ok_derL v n).2]; decide⟩
  | .cat a b, c, hx, h => by
    obtain ⟨ha, hb⟩ := hx.c
    simp only [derP, Option.bind_eq_some_iff] at h
    obtain ⟨p, h1, h2⟩ := h
    have op := ok_derP v ha h1
    split at h2
    · simp only [Option.bind_eq_some_iff] at h2
      obtain ⟨q, h3, t, h4, h5⟩ := h2
      exact ok_altO (ok_catO op hb h4) (ok_derP v hb h3) h5
    · exact ok_catO op hb h2
  | .alt a b, c, hx, h => by
    obtain ⟨ha, hb⟩ := hx.l
    simp only [derP, Option.bind_eq_some_iff] at h
    obtain ⟨p, h1, q, h2, h3⟩ := h
    exact ok_altO (ok_derP v ha h1) (ok_derP v hb h2) h3
  | .star a, c, hx, h => by
    simp only [derP, Option.bind_eq_some_iff] at h
    obtain ⟨p, h1, h2⟩ := h
    exact ok_catO (ok_derP v hx.s h1) hx h2
theorem sq_le {a : Nat} (h : a ≤ 199) : a * a ≤ 39601 := Nat.le_trans (Nat.mul_le_mul h h) (by decide)
theorem derP_small (v : Int) : ∀ x, sz x ≤ 199 → derP v x = some (sDer v x)
  | .leaf n, _ => rfl
  | .cat a b, h => by
    have hs := sq_le h
    have p1 := sz_pos a
    have p2 := sz_pos b
    simp only [sz] at h
    have h1 := sz_sDer v a
    have h2 := sz_sDer v b
    have h3 := sz_sCat b (sDer v a)
    have e : sz (Tr.cat a b) * sz (Tr.cat a b) = sz a * sz a + sz b * sz b + 2 * (sz a * sz b) + 2 * sz a + 2 * sz b + 1 := by
      simp only [sz]
      have : (sz a + sz b + 1) * (sz a + sz b + 1) = sz a * sz a + sz b * sz b + 2 * (sz a * sz b) + 2 * sz a + 2 * sz b + 1 := by
        simp only [Nat.add_mul, Nat.mul_add, Nat.mul_comm (sz b) (sz a)]; omega
      exact this
    rw [e] at hs
    have c1 := catO_some b (sDer v a) (by omega)
    have c2 := altO_some (a := sCat (sDer v a) b) (b := sDer v b) (by omega)
    simp only [derP, sDer, derP_small v a (by omega), derP_small v b (by omega), Option.bind_some, c1, c2]
    split <;> rfl
  | .alt a b, h => by
    have hs := sq_le h
    simp only [sz] at h
    have h1 := sz_sDer v a
    have h2 := sz_sDer v b
    have e : sz (Tr.alt a b) * sz (Tr.alt a b) = sz a * sz a + sz b * sz b + 2 * (sz a * sz b) + 2 * sz a + 2 * sz b + 1 := by
      simp only [sz]
      have : (sz a + sz b + 1) * (sz a + sz b + 1) = sz a * sz a + sz b * sz b + 2 * (sz a * sz b) + 2 * sz a + 2 * sz b + 1 := by
        simp only [Nat.add_mul, Nat.mul_add, Nat.mul_comm (sz b) (sz a)]; omega
      exact this
    rw [e] at hs
    have c2 := altO_some (a := sDer v a) (b := sDer v b) (by omega)
    simp only [derP, sDer, derP_small v a (by omega), derP_small v b (by omega), Option.bind_some, c2]
  | .star a, h => by
    have hs := sq_le h
    simp only [sz] at h
    have h1 := sz_sDer v a
    have e : sz (Tr.star a) * sz (Tr.star a) = sz a * sz a + 2 * sz a + 1 := by
      simp only [sz]
      have : (sz a + 1) * (sz a + 1) = sz a * sz a + 2 * sz a + 1 := by
        simp only [Nat.add_mul, Nat.mul_add]; omega
      exact this
    rw [e] at hs
    have c1 := catO_some (.star a) (sDer v a) (by simp only [sz]; omega)
    simp only [derP, sDer, derP_small v a (by omega), Option.bind_some, c1]
theorem derR_P (v : Int) : ∀ {x c : Tr}, derR v x = some c → derP v x = some c
  | .leaf n, c, h => h
  | .cat a b, c, h => by
    simp only [derR, Option.bind_eq_some_iff] at h
    obtain ⟨p, h1, q, h2, t, h3, h4⟩ := h
    simp only [derP, derR_P v h1, derR_P v h2, Option.bind_some, h3]
    split at h4
    · rename_i k; rw [if_pos k]; exact h4
    · rename_i k; rw [if_neg k]; exact h4
  | .alt a b, c, h => by
    simp only [derR, Option.bind_eq_some_iff] at h
    obtain ⟨p, h1, q, h2, h3⟩ := h
    simp only [derP, derR_P v h1, derR_P v h2, Option.bind_some, h3]
  | .star a, c, h => by
    simp only [derR, Option.bind_eq_some_iff] at h
    obtain ⟨p, h1, h2⟩ := h
    simp only [derP, derR_P v h1, Option.bind_some, h2]
theorem derR_small (v : Int) : ∀ x, sz x ≤ 199 → derR v x = derP v x
  | .leaf n, _ => rfl
  | .cat a b, h => by
    have hb := derP_small v b (by simp only [sz] at h; omega)
    simp only [sz] at h
    simp only [derR, derP, derR_small v a (by omega), derR_small v b (by omega), hb, Option.bind_some]
    congr 1; funext p
    split
    · rfl
    · cases catO p b <;> rfl
  | .alt a b, h => by
    simp only [sz] at h
    simp only [derR, derP, derR_small v a (by omega), derR_small v b (by omega)]
  | .star a, h => by
    simp only [sz] at h
    simp only [derR, derP, derR_small v a (by omega)]
def Rb : Tr → Prop
  | .leaf _ => True
  | .cat a b => Rb a ∧ sz b ≤ 199
  | .alt a b => Rb a ∧ Rb b
  | .star a => sz a ≤ 198
theorem rb_small : ∀ x, sz x ≤ 199 → Rb x
  | .leaf _, _ => trivial
  | .cat a b, h => by simp only [sz] at h; exact ⟨rb_small a (by omega), by omega⟩
  | .alt a b, h => by simp only [sz] at h; exact ⟨rb_small a (by omega), rb_small b (by omega)⟩
  | .star a, h => by simp only [sz] at h; simp only [Rb]; omega
theorem derR_eq (v : Int) : ∀ x, Rb x → derR v x = derP v x
  | .leaf n, _ => rfl
  | .cat a b, h => by
    have hb := derP_small v b h.2
    simp only [derR, derP, derR_eq v a h.1, derR_small v b h.2, hb, Option.bind_some]
    congr 1; funext p
    split
    · rfl
    · cases catO p b <;> rfl
  | .alt a b, h => by simp only [derR, derP, derR_eq v a h.1, derR_eq v b h.2]
  | .star a, h => by
    simp only [Rb] at h
    simp only [derR, derP, derR_small v a (by omega)]
theorem rb_cat : ∀ {b a : Tr}, Rb a → sz b ≤ 199 → Rb (sCat a b)
  | .leaf n, a, ha, hb => by
    simp only [sCat]
    split
    · trivial
    · split
      · trivial
      · split
        · exact ha
        · exact ⟨ha, hb⟩
  | .alt x y, a, ha, hb => by
    simp only [sCat]
    split
    · trivial
    · split
      · exact rb_small _ hb
      · exact ⟨ha, hb⟩
  | .star x, a, ha, hb => by
    simp only [sCat]
    split
    · trivial
    · split
      · exact rb_small _ hb
      · exact ⟨ha, hb⟩
  | .cat x y, a, ha, hb => by
    simp only [sz] at hb
    simp only [sCat]
    split
    · trivial
    · split
      · exact rb_small _ (by simp only [sz]; omega)
      · exact rb_cat (rb_cat ha (by omega)) (by omega)
theorem rb_mems : ∀ {a : Tr}, Rb a → ∀ m ∈ mems a, Rb m
  | .leaf n, _, m, hm => by rw [show m = .leaf n by simpa [mems] using hm]; trivial
  | .cat a b, h, m, hm => by rw [show m = .cat a b by simpa [mems] using hm]; exact h
  | .star a, h, m, hm => by rw [show m = .star a by simpa [mems] using hm]; exact h
  | .alt a b, h, m, hm => by
    simp only [mems, List.mem_append] at hm
    exact hm.elim (rb_mems h.1 m) (rb_mems h.2 m)
theorem rb_alts : ∀ (r : List Tr) (x : Tr), Rb x → (∀ m ∈ r, Rb m) → Rb (r.foldl .alt x)
  | [], x, hx, _ => hx
  | y :: r, x, hx, h => rb_alts r _ ⟨hx, h y (by simp)⟩ fun m hm => h m (by simp [hm])
theorem rb_alt {a b : Tr} (ha : Rb a) (hb : Rb b) : Rb (sAlt a b) := by
  unfold sAlt
  split
  · exact hb
  · split
    · exact ha
    · have h : ∀ m ∈ onceT (mems a ++ mems b), Rb m := fun m hm => by
        have := (onceT_sub _).subset hm
        rw [List.mem_append] at this
        exact this.elim (rb_mems ha m) (rb_mems hb m)
      have hne := onceT_ne (l := mems a ++ mems b) (by simp [mems_ne])
      generalize onceT (mems a ++ mems b) = L at h hne
      cases L with
      | nil => exact absurd rfl hne
      | cons y r => exact rb_alts r y (h y (by simp)) fun m hm => h m (by simp [hm])
theorem rb_der (v : Int) : ∀ x, Rb x → Rb (sDer v x)
  | .leaf n, _ => by simp only [sDer, derL]; split <;> trivial
  | .cat a b, h => by
    simp only [sDer]
    split
    · exact rb_alt (rb_cat (rb_der v a h.1) h.2) (rb_der v b (rb_small b h.2))
    · exact rb_cat (rb_der v a h.1) h.2
  | .alt a b, h => rb_alt (rb_der v a h.1) (rb_der v b h.2)
  | .star a, h => by
    simp only [Rb] at h
    exact rb_cat (rb_der v a (rb_small a (by omega))) (by simp only [sz]; omega)
def oneP (v : Int) (x : Tr) : Option Tr := if isS v then derP v x else none
def oneR (v : Int) (x : Tr) : Option Tr := if isS v then derR v x else none
def allP : Tr → List Int → Option Tr
  | x, [] => some x
  | x, v :: l => (oneP v x).bind fun y => allP y l
def allR : Tr → List Int → Option Tr
  | x, [] => some x
  | x, v :: l => (oneR v x).bind fun y => allR y l
theorem allR_eq : ∀ (l : List Int) (x : Tr), Rb x → allR x l = allP x l
  | [], x, _ => rfl
  | v :: l, x, h => by
    simp only [allR, allP]
    have e : oneR v x = oneP v x := by unfold oneR oneP; rw [derR_eq v x h]
    rw [e]
    cases ey : oneP v x with
    | none => rfl
    | some y =>
      simp only [Option.bind_some]
      refine allR_eq l y ?_
      unfold oneP at ey
      split at ey
      · rw [derP_eq v ey]; exact rb_der v x h
      · cases ey
theorem allR_P : ∀ (l : List Int) (x c : Tr), allR x l = some c → allP x l = some c
  | [], x, c, h => h
  | v :: l, x, c, h => by
    simp only [allR, allP, Option.bind_eq_some_iff] at h ⊢
    obtain ⟨y, h1, h2⟩ := h
    refine ⟨y, ?_, allR_P l y c h2⟩
    unfold oneR at h1; unfold oneP
    split at h1
    · rename_i k; rw [if_pos k]; exact derR_P v h1
    · cases h1
theorem ok_oneP {v : Int} {x c : Tr} (hx : OkS x) (h : oneP v x = some c) : OkS c := by
  unfold oneP at h
  split at h
  · exact ok_derP v hx h
  · cases h
theorem ok_allP : ∀ {l : List Int} {x c : Tr}, OkS x → allP x l = some c → OkS c
  | [], x, c, hx, h => by simp only [allP, Option.some.injEq] at h; rw [← h]; exact hx
  | v :: l, x, c, hx, h => by
    simp only [allP, Option.bind_eq_some_iff] at h
    obtain ⟨y, h1, h2⟩ := h
    exact ok_allP (ok_oneP hx h1) h2
theorem sem_leaf {n : Nd} (h : leafN n = true) (l : List Int) : Sem (.leaf n) l ↔ (n.kind = 1 ∧ l = []) ∨ (n.kind = 2 ∧ ∃ v, l = [v] ∧ hasS n.set v = true) := by
  have g := good_leaf h
  simp only [Sem]
  rw [takes_all g]
  have e : ([n] : List Nd).getD ([n].length - 1) default = n := rfl
  rcases leaf_kind h with k | k | k
  · rw [tk_other (by rw [e, k]; decide) (by rw [e, k]; decide) (by rw [e, k]; decide) (by rw [e, k]; decide) (by rw [e, k]; decide)]
    simp [k]
  · rw [tk_empty (by rw [e, k])]
    cases l <;> simp [k]
  · rw [tk_one (by rw [e, k]), e]
    simp only [k, Bool.and_eq_true, decide_eq_true_eq, true_and, show ¬ (2 : Int) = 1 by decide, false_and, false_or]
    constructor
    · rintro ⟨h1, h2⟩
      match l, h1 with
      | [v], _ => exact ⟨v, rfl, h2⟩
    · rintro ⟨v, rfl, h2⟩
      exact ⟨rfl, h2⟩
theorem sem_nul : ∀ x, Ok x → (nul x = true ↔ Sem x [])
  | .leaf n, h => by rw [sem_leaf h.1]; simp [nul]
  | .cat a b, h => by
    simp only [nul, Bool.and_eq_true, sem_nul a h.1, sem_nul b h.2, Sem]
    constructor
    · rintro ⟨h1, h2⟩; exact ⟨[], [], rfl, h1, h2⟩
    · rintro ⟨u, v, e, h1, h2⟩
      obtain ⟨rfl, rfl⟩ := List.append_eq_nil_iff.1 e.symm
      exact ⟨h1, h2⟩
  | .alt a b, h => by simp only [nul, Bool.or_eq_true, sem_nul a h.1, sem_nul b h.2, Sem]
  | .star a, h => by simp only [nul, Sem, true_iff]; exact .nil
theorem sem_derL (v : Int) {n : Nd} (h : leafN n = true) (l : List Int) : Sem (derL v n) l ↔ Sem (.leaf n) (v :: l) := by
  rw [sem_leaf h]
  unfold derL
  split
  · rename_i k
    rw [sem_empty]
    constructor
    · rintro rfl; exact .inr ⟨k.1, v, rfl, k.2⟩
    · rintro (⟨_, e⟩ | ⟨_, w, e, _⟩)
      · cases e
      · simp only [List.cons.injEq] at e; exact e.2
  · rename_i k
    rw [sem_never]
    constructor
    · exact False.elim
    · rintro (⟨_, e⟩ | ⟨h2, w, e, h3⟩)
      · cases e
      · simp only [List.cons.injEq] at e; rw [← e.1] at h3; exact k ⟨h2, h3⟩
theorem sem_sDer (v : Int) : ∀ x, Ok x → ∀ l, Sem (sDer v x) l ↔ Sem x (v :: l)
  | .leaf n, h, l => sem_derL v h.1 l
  | .cat a b, h, l => by
    have oa := ok_sDer v a h.1
    have ob := ok_sDer v b h.2
    have first : Sem (sCat (sDer v a) b) l ↔ ∃ u w, l = u ++ w ∧ Sem a (v :: u) ∧ Sem b w := by
      rw [sem_sCat b _ oa h.2]
      simp only [Sem, sem_sDer v a h.1]
    have both : Sem (.cat a b) (v :: l) ↔ (Sem a [] ∧ Sem b (v :: l)) ∨ ∃ u w, l = u ++ w ∧ Sem a (v :: u) ∧ Sem b w := by
      simp only [Sem]
      constructor
      · rintro ⟨u, w, e, h1, h2⟩
        cases u with
        | nil => simp only [List.nil_append] at e; rw [← e] at h2; exact .inl ⟨h1, h2⟩
        | cons y u =>
          simp only [List.cons_append, List.cons.injEq] at e
          obtain ⟨rfl, rfl⟩ := e
          exact .inr ⟨u, w, rfl, h1, h2⟩
      · rintro (⟨h1, h2⟩ | ⟨u, w, rfl, h1, h2⟩)
        · exact ⟨[], v :: l, rfl, h1, h2⟩
        · exact ⟨v :: u, w, rfl, h1, h2⟩
    rw [both]
    simp only [sDer]
    split
    · rename_i k
      rw [sem_sAlt (ok_sCat b _ oa h.2) ob, first, sem_sDer v b h.2]
      have := (sem_nul a h.1).1 k
      constructor
      · rintro (h1 | h1)
        · exact .inr h1
        · exact .inl ⟨this, h1⟩
      · rintro (h1 | h1)
        · exact .inr h1.2
        · exact .inl h1
    · rename_i k
      rw [first]
      constructor
      · exact .inr
      · rintro (h1 | h1)
        · exact absurd ((sem_nul a h.1).2 h1.1) k
        · exact h1
  | .alt a b, h, l => by
    simp only [sDer]
    rw [sem_sAlt (ok_sDer v a h.1) (ok_sDer v b h.2), sem_sDer v a h.1, sem_sDer v b h.2]
    rfl
  | .star a, h, l => by
    simp only [sDer]
    rw [sem_sCat (.star a) _ (ok_sDer v a h) h]
    simp only [Sem, sem_sDer v a h]
    constructor
    · rintro ⟨u, w, rfl, h1, h2⟩
      exact .cons (v :: u) w (by simp) h1 h2
    · intro h1
      generalize e : v :: l = m at h1
      cases h1 with
      | nil => cases e
      | cons u w hu h2 h3 =>
        cases u with
        | nil => exact absurd rfl hu
        | cons y u =>
          simp only [List.cons_append, List.cons.injEq] at e
          obtain ⟨rfl, rfl⟩ := e
          exact ⟨u, w, rfl, h2, h3⟩
theorem sem_allP : ∀ {l : List Int} {x c : Tr}, OkS x → allP x l = some c → ∀ m, Sem c m ↔ Sem x (l ++ m)
  | [], x, c, hx, h, m => by simp only [allP, Option.some.injEq] at h; rw [← h]; rfl
  | v :: l, x, c, hx, h, m => by
    simp only [allP, Option.bind_eq_some_iff] at h
    obtain ⟨y, h1, h2⟩ := h
    rw [sem_allP (ok_oneP hx h1) h2]
    unfold oneP at h1
    split at h1
    · rw [derP_eq v h1, sem_sDer v x hx.1]; rfl
    · cases h1
theorem takes_nul {x : Tr} (h : OkS x) : takesT (enc x) [] = nul x := by
  rw [Bool.eq_iff_iff, lk_sem x h, sem_nul x h.1]
def SameIn (v w : Int) : Tr → Prop
  | .leaf n => n.kind = 2 → hasS n.set v = hasS n.set w
  | .cat a b => SameIn v w a ∧ SameIn v w b
  | .alt a b => SameIn v w a ∧ SameIn v w b
  | .star a => SameIn v w a
theorem derP_same {v w : Int} : ∀ x, SameIn v w x → derP v x = derP w x
  | .leaf n, h => by
    simp only [SameIn] at h
    simp only [derP, derL]
    by_cases k : n.kind = 2
    · simp only [k, true_and, h k]
    · simp only [k, false_and]
  | .cat a b, h => by simp only [derP, derP_same a h.1, derP_same b h.2]
  | .alt a b, h => by simp only [derP, derP_same a h.1, derP_same b h.2]
  | .star a, h => by simp only [derP, derP_same a h]
end Go.Proofs.Abs

set_option maxRecDepth 100000
set_option maxHeartbeats 4000000
namespace Go.Proofs.Abs
open Go
noncomputable def d0 : FT := upd (upd (q7) 75 k58.ora) 20 k31.ora
theorem d0_ok : FTOK Tryz.prog d0 := upd_ok2 (f := 20) (upd_ok2 (f := 75) (q7_ok) ook58) ook31

def hasD (s : List (Int × Int)) (r : Int) : Bool := (List.range s.length).any fun i => decide (IntKind.i32.wrap (s.getD i (0, 0)).1 ≤ r) && decide (r ≤ IntKind.i32.wrap (s.getD i (0, 0)).2)
theorem run1165 (s : List (Int × Int)) (r : Int) (hs : s.length ≤ 9223372036854775807) : cwp d0 67 [] [(AV.list 2 (List.map (fun x => [AV.int .i64 x.1, AV.int .i64 x.2]) (s))), .int .i32 r] [] (fun v H => v = .bool (hasD s r) ∧ H = []) := by
  refine run_fn (fn := fn1165) rfl rfl ?_
  simp only [fn1165_body, c1165, D0, SP0, seval, -Int.reduceNatCast']
  refine lg_rule (fun j e H => e = [(0, (AV.list 2 (List.map (fun x => [AV.int .i64 x.1, AV.int .i64 x.2]) (s)))), (1, .int .i32 r), (4, .bool false), (7, (AV.list 2 (List.map (fun x => [AV.int .i64 x.1, AV.int .i64 x.2]) (s)))), (8, .int .i64 s.length), (9, .int .i64 j)] ∧ H = [[]] ∧ j ≤ s.length ∧ ∀ i, i < j → (decide (IntKind.i32.wrap (s.getD i (0, 0)).1 ≤ r) && decide (r ≤ IntKind.i32.wrap (s.getD i (0, 0)).2)) = false) s.length ?_ ?_
  · exact ⟨rfl, rfl, by simp, by simp⟩
  rintro j e H ⟨rfl, rfl, hj, hi⟩
  simp only [D0, SP0, seval, -Int.reduceNatCast']
  by_cases h : j < s.length
  · have h' : (j : Int) < (s.length : Int) := by omega
    have hp := wrapp (j := j) (by omega)
    have hg := map_get (f := fun x : Int × Int => [AV.int .i64 x.1, AV.int .i64 x.2]) h (0, 0)
    have step : (decide (IntKind.i32.wrap (s.getD j (0, 0)).1 ≤ r) && decide (r ≤ IntKind.i32.wrap (s.getD j (0, 0)).2)) = false → ∀ i, i < j + 1 → (decide (IntKind.i32.wrap (s.getD i (0, 0)).1 ≤ r) && decide (r ≤ IntKind.i32.wrap (s.getD i (0, 0)).2)) = false := fun h1 i h2 => by
      by_cases e : i = j
      · rw [e]; exact h1
      · exact hi i (by omega)
    have yes : (decide (IntKind.i32.wrap (s.getD j (0, 0)).1 ≤ r) && decide (r ≤ IntKind.i32.wrap (s.getD j (0, 0)).2)) = true → hasD s r = true := fun h1 => any_true h h1
    clear hi
    generalize s.getD j (0, 0) = x at hg step yes
    obtain ⟨x, y⟩ := x
    by_cases h1 : IntKind.i32.wrap x ≤ r
    · by_cases h2 : r ≤ IntKind.i32.wrap y
      · have hy := yes (by simp [h1, h2])
        clear yes step
        simp only [D0, SP0, seval, -Int.reduceNatCast', hg, h', h1, h2, hp, decide_true, Int.natCast_nonneg, Int.toNat_natCast]
        simp only [F1, SF0, SP0, seval, -Int.reduceNatCast', fn1165_res, fn1165_keep, hy]
      · have hn := step (by simp [h2])
        clear yes step
        simp only [D0, SP0, seval, -Int.reduceNatCast', hg, h', h1, h2, hp, decide_true, decide_false, Int.natCast_nonneg, Int.toNat_natCast]
        simp only [F1, SF0, SP0, seval, -Int.reduceNatCast']
        exact ⟨h, h, hn⟩
    · have hn := step (by simp [h1])
      clear yes step
      simp only [D0, SP0, seval, -Int.reduceNatCast', hg, h', h1, hp, decide_true, decide_false, Int.natCast_nonneg, Int.toNat_natCast]
      simp only [F1, SF0, SP0, seval, -Int.reduceNatCast']
      exact ⟨h, h, hn⟩
  · have h' : ¬ (j : Int) < (s.length : Int) := by omega
    have hn : hasD s r = false := any_false fun i hi' => hi i (by omega)
    simp only [D0, SP0, seval, -Int.reduceNatCast', h', decide_false]
    refine .inr ⟨by simp, ?_⟩
    simp only [F1, SF0, SP0, seval, -Int.reduceNatCast', fn1165_res, fn1165_keep, hn]
theorem setI32Inj : ∀ x y : List (Int × Int) × Int, [(AV.list 2 (List.map (fun x => [AV.int .i64 x.1, AV.int .i64 x.2]) (x.1))), AV.int .i32 x.2] = [(AV.list 2 (List.map (fun x => [AV.int .i64 x.1, AV.int .i64 x.2]) (y.1))), AV.int .i32 y.2] → x = y := by
  rintro ⟨a, m⟩ ⟨b, n⟩ h
  simp only [List.cons.injEq, AV.int.injEq, and_true, true_and] at h
  rw [eSet_inj (a := a) (b := b) h.1, h.2]
noncomputable def k1165 : Kon ((List (Int × Int)) × Int) := ⟨fun x => x.1.length ≤ 9223372036854775807, fun x => [(AV.list 2 (List.map (fun x => [AV.int .i64 x.1, AV.int .i64 x.2]) (x.1))), .int .i32 x.2], fun x => .bool (hasD x.1 x.2)⟩
theorem e1165 (s : List (Int × Int)) (r : Int) (hd : s.length ≤ 9223372036854775807) (q0 : Id) (H0 : Heap) : k1165.ora q0 ([(AV.list 2 (List.map (fun x => [AV.int .i64 x.1, AV.int .i64 x.2]) (s))), .int .i32 r]) H0 = some (.bool (hasD s r), H0) := k1165.eq (setI32Inj) (s, r) hd q0 H0
theorem ook1165 : OraOK Tryz.prog (67 % 100000) k1165.ora := k1165.ok orders d0_ok (fun x hd => by simp [k1165, PU]) (fun x hd => by simp [k1165, PU]) (fun x hd => run1165 x.1 x.2 hd)

noncomputable def d1 : FT := upd (d0) 67 k1165.ora
theorem d1_ok : FTOK Tryz.prog d1 := upd_ok2 (f := 67) (d0_ok) ook1165

theorem run1155 (s : List (Int × Int)) (r : Int) (hs : s.length ≤ 9223372036854775807) : cwp d1 44 [] [(AV.list 2 (List.map (fun x => [AV.int .i64 x.1, AV.int .i64 x.2]) (s))), .int .i32 r] [] (fun v H => v = (AV.list 5 (List.map eNd (enc (if hasD s r then empty else never)))) ∧ H = []) := by
  refine run_fn (fn := fn1155) rfl rfl ?_
  cases e : hasD s r with
  | true =>
    simp only [fn1155_body, c1155, D0, SP0, seval, -Int.reduceNatCast', @use_all d1 67 k1165.ora rfl, e1165, @use_all d1 46 k34.ora rfl, e34, hs, e, leafT1]
    simp only [F1, SF0, SP0, seval, -Int.reduceNatCast', fn1155_res, fn1155_keep, fz, fzd]
  | false =>
    simp only [fn1155_body, c1155, D0, SP0, seval, -Int.reduceNatCast', @use_all d1 67 k1165.ora rfl, e1165, @use_all d1 46 k34.ora rfl, e34, hs, e, leafT0]
    simp only [F1, SF0, SP0, seval, -Int.reduceNatCast', fn1155_res, fn1155_keep, fz, fzd]
noncomputable def k1155 : Kon ((List (Int × Int)) × Int) := ⟨fun x => x.1.length ≤ 9223372036854775807, fun x => [(AV.list 2 (List.map (fun x => [AV.int .i64 x.1, AV.int .i64 x.2]) (x.1))), .int .i32 x.2], fun x => (AV.list 5 (List.map eNd (enc (if hasD x.1 x.2 then empty else never))))⟩
theorem e1155 (s : List (Int × Int)) (r : Int) (hd : s.length ≤ 9223372036854775807) (q0 : Id) (H0 : Heap) : k1155.ora q0 ([(AV.list 2 (List.map (fun x => [AV.int .i64 x.1, AV.int .i64 x.2]) (s))), .int .i32 r]) H0 = some ((AV.list 5 (List.map eNd (enc (if hasD s r then empty else never)))), H0) := k1155.eq (setI32Inj) (s, r) hd q0 H0
theorem ook1155 : OraOK Tryz.prog (44 % 100000) k1155.ora := k1155.ok orders d1_ok (fun x hd => by simp [k1155, PU]) (fun x hd => by simp [k1155, PU]) (fun x hd => run1155 x.1 x.2 hd)

def rowsB (B : List Bool) (n j : Nat) : List (List AV) := List.map (fun b => [AV.bool b]) (B.take j) ++ List.replicate (n - j) [AV.bool false]
theorem take_snocB {l : List Bool} {j : Nat} (h : j < l.length) : l.take (j + 1) = l.take j ++ [l.getD j false] := by
  rw [List.take_succ, List.getElem?_eq_getElem h, List.getD_eq_getElem?_getD, List.getElem?_eq_getElem h]; rfl
theorem rowsB_get {B : List Bool} {n j i : Nat} (hi : i < j) (hM : j ≤ B.length) : (rowsB B n j)[i]? = some [AV.bool (B.getD i false)] := by
  unfold rowsB
  rw [List.getElem?_append_left (by simp; omega), List.getElem?_map, List.getElem?_take_of_lt hi, List.getD_eq_getElem?_getD, List.getElem?_eq_getElem (by omega)]
  rfl
theorem rowsB_len {B : List Bool} {n j : Nat} (hj : j ≤ n) (hM : B.length = n) : (rowsB B n j).length = n := by
  unfold rowsB
  simp only [List.length_append, List.length_map, List.length_take, List.length_replicate]
  omega
theorem rowsB_old {B : List Bool} {n j : Nat} (hj : j < n) (hM : B.length = n) : (rowsB B n j)[j]? = some [AV.bool false] := by
  unfold rowsB
  have l : (List.map (fun b => [AV.bool b]) (B.take j)).length = j := by simp; omega
  rw [List.getElem?_append_right (by omega), l, Nat.sub_self, List.getElem?_replicate, if_pos (by omega)]
theorem rowsB_set {B : List Bool} {n j : Nat} (hj : j < n) (hM : B.length = n) : (rowsB B n j).set j [AV.bool (B.getD j false)] = rowsB B n (j + 1) := by
  have e : n - j = (n - (j + 1)) + 1 := by omega
  have l : (List.map (fun b => [AV.bool b]) (B.take j)).length = j := by simp; omega
  unfold rowsB
  rw [List.set_append, if_neg (by omega), l, Nat.sub_self, e, List.replicate_succ, List.set_cons_zero, take_snocB (by omega)]
  simp
theorem rowsB_skip {B : List Bool} {n j : Nat} (hj : j < n) (hM : B.length = n) (hb : B.getD j false = false) : rowsB B n j = rowsB B n (j + 1) := by
  have e : n - j = (n - (j + 1)) + 1 := by omega
  unfold rowsB
  rw [e, List.replicate_succ, take_snocB (by omega), hb]
  simp
theorem bools_inj {a b : List Bool} (h : List.map (fun b => [AV.bool b]) a = List.map (fun b => [AV.bool b]) b) : a = b := map_inj' (fun x y h => by simpa using h) h
theorem pure_bools (l : List Bool) : Pure (.list 1 (List.map (fun b => [AV.bool b]) l)) = True := eq_true (.list _ _ (pure_flat (by
  intro r hr a ha
  obtain ⟨b, _, rfl⟩ := List.mem_map.1 hr
  rw [List.mem_singleton.1 ha]
  exact .bool b)))
attribute [simp] pure_bools
def nuls (x : Tr) : List Bool := (subs x).map nul
theorem run1150 (x : Tr) (hx : OkS x) : cwp d1 35 [] [(AV.list 5 (List.map eNd (enc x)))] [] (fun r H => r = .list 1 (List.map (fun b => [AV.bool b]) (nuls x)) ∧ H = []) := by
  refine run_fn (fn := fn1150) rfl rfl ?_
  unfold nuls
  have lx := enc_len x
  have px := sz_pos x
  have zx := hx.2
  have hc : (sz x : Int) * ((1 : Nat) : Int) ≤ 140737488355328 := by omega
  have hM : ((subs x).map nul).length = sz x := by rw [List.length_map, subs_len]
  have hrep : List.replicate (sz x) [AV.bool false] = rowsB ((subs x).map nul) (sz x) 0 := by simp [rowsB]
  have hMg : ∀ i, i < sz x → ((subs x).map nul).getD i false = nul ((subs x).getD i default) := fun i hi => by
    rw [List.getD_eq_getElem?_getD, List.getElem?_map, List.getD_eq_getElem?_getD, List.getElem?_eq_getElem (by rw [subs_len]; exact hi)]; rfl
  have hnd := nodes x hx.1
  generalize hS : subs x = S at *
  generalize hMM : S.map nul = M at *
  simp only [fn1150_body, c1150, D0, SP0, seval, -Int.reduceNatCast', lx, hc, hrep, Int.natCast_nonneg, Int.toNat_natCast]
  refine lg_rule (fun j e H => e = [(0, (AV.list 5 (List.map eNd (enc x)))), (2, .own [0] 0), (3, .own [3] (sz x)), (9, (AV.list 5 (List.map eNd (enc x)))), (10, .int .i64 (sz x)), (11, .int .i64 j)] ∧ H = [[([3], .row true true 4 1 (rowsB M (sz x) j)), ([0], .row true true 4 1 [])]] ∧ j ≤ sz x) (sz x) ?_ ?_
  · exact ⟨rfl, rfl, by simp⟩
  rintro j e H ⟨rfl, rfl, hj⟩
  simp only [D0, SP0, seval, -Int.reduceNatCast']
  by_cases h : j < sz x
  · have h' : (j : Int) < (sz x : Int) := by omega
    have hp := wrapp (j := j) (by omega)
    have hg := map_get (f := eNd) (l := enc x) (j := j) (by omega) default
    have hml := rowsB_len (B := M) (n := sz x) (j := j) (by omega) hM
    have hold := rowsB_old (B := M) h hM
    have hset := rowsB_set (B := M) h hM
    have hskip := rowsB_skip (B := M) h hM
    have hget := fun i (hi : i < j) => rowsB_get (B := M) (n := sz x) (j := j) hi (by omega)
    have hn := hnd j h
    have hMj := hMg j h
    generalize hsj : S.getD j default = y at hn hMj
    generalize (enc x).getD j default = nd at hg hn
    rw [hMj] at hset hskip
    clear hsj hMj hnd
    cases hn with
    | leaf _ hleaf =>
      obtain ⟨kk, a, b, c, z⟩ := nd
      obtain ⟨f1, f2⟩ := leaf_fork hleaf
      have hk3 : (kk == 3) = false := by simp [isFork] at f1; simp [f1]
      have hk4 : (kk == 4) = false := by simp [isFork] at f1; simp [f1]
      have hk5 : (kk == 5) = false := by simpa using f2
      simp only [nul] at hset hskip
      by_cases k1 : kk = 1
      · subst k1
        simp only [eq_self, decide_true] at hset
        simp only [D0, SP0, seval, -Int.reduceNatCast', hg, eNd, eSet, h', lx, hml, hold, hp, hset, Int.natCast_nonneg, Int.toNat_natCast, decide_true]
        simp only [F1, SF0, SP0, seval, -Int.reduceNatCast']
        exact ⟨h, h⟩
      · have k1' : (kk == 1) = false := by simpa using k1
        have hsk := hskip (by simp [k1])
        simp only [D0, SP0, seval, -Int.reduceNatCast', hg, eNd, eSet, h', lx, hml, hold, hp, k1', hk3, hk4, hk5, Int.natCast_nonneg, Int.toNat_natCast, decide_true]
        simp only [F1, SF0, SP0, seval, -Int.reduceNatCast']
        rw [hsk]
        exact ⟨h, rfl, h⟩
    | cat i k hik =>
      have gi := hget i hik.1
      have gk := hget k hik.2
      rw [hMg i (by omega)] at gi
      rw [hMg k (by omega)] at gk
      have hi' : (i : Int) < (sz x : Int) := by omega
      have hk' : (k : Int) < (sz x : Int) := by omega
      simp only [nul] at hset
      generalize S.getD i default = p at *
      generalize S.getD k default = q at *
      clear hskip hget
      cases ep : nul p <;> simp only [ep, Bool.true_and, Bool.false_and] at hset gi
      · simp only [D0, SP0, seval, -Int.reduceNatCast', hg, eNd, eSet, h', hi', hk', gi, gk, lx, hml, hold, hp, hset, Int.natCast_nonneg, Int.toNat_natCast, decide_true]
        simp only [F1, SF0, SP0, seval, -Int.reduceNatCast']
        exact ⟨h, h⟩
      · simp only [D0, SP0, seval, -Int.reduceNatCast', hg, eNd, eSet, h', hi', hk', gi, gk, lx, hml, hold, hp, hset, Int.natCast_nonneg, Int.toNat_natCast, decide_true]
        simp only [F1, SF0, SP0, seval, -Int.reduceNatCast']
        exact ⟨h, h⟩
    | alt i k hik =>
      have gi := hget i hik.1
      have gk := hget k hik.2
      rw [hMg i (by omega)] at gi
      rw [hMg k (by omega)] at gk
      have hi' : (i : Int) < (sz x : Int) := by omega
      have hk' : (k : Int) < (sz x : Int) := by omega
      simp only [nul] at hset
      generalize S.getD i default = p at *
      generalize S.getD k default = q at *
      clear hskip hget
      cases ep : nul p <;> simp only [ep, Bool.true_or, Bool.false_or] at hset gi
      · simp only [D0, SP0, seval, -Int.reduceNatCast', hg, eNd, eSet, h', hi', hk', gi, gk, lx, hml, hold, hp, hset, Int.natCast_nonneg, Int.toNat_natCast, decide_true]
        simp only [F1, SF0, SP0, seval, -Int.reduceNatCast']
        exact ⟨h, h⟩
      · simp only [D0, SP0, seval, -Int.reduceNatCast', hg, eNd, eSet, h', hi', hk', gi, gk, lx, hml, hold, hp, hset, Int.natCast_nonneg, Int.toNat_natCast, decide_true]
        simp only [F1, SF0, SP0, seval, -Int.reduceNatCast']
        exact ⟨h, h⟩
    | star i hi =>
      simp only [nul] at hset
      clear hskip hget
      simp only [D0, SP0, seval, -Int.reduceNatCast', hg, eNd, eSet, h', lx, hml, hold, hp, hset, Int.natCast_nonneg, Int.toNat_natCast, decide_true]
      simp only [F1, SF0, SP0, seval, -Int.reduceNatCast']
      exact ⟨h, h⟩
  · have h' : ¬ (j : Int) < (sz x : Int) := by omega
    have hj2 : j = sz x := by omega
    subst hj2
    have hml := rowsB_len (B := M) (n := sz x) (j := sz x) (by omega) hM
    have hfin : rowsB M (sz x) (sz x) = List.map (fun b => [AV.bool b]) M := by simp [rowsB, List.take_of_length_le (Nat.le_of_eq hM)]
    simp only [D0, SP0, seval, -Int.reduceNatCast', h', decide_false]
    refine .inr ⟨by simp, ?_⟩
    simp only [F1, SF0, SP0, seval, -Int.reduceNatCast', fn1150_res, fn1150_keep, fz, fzd, hml, hfin, hM]
noncomputable def k1150 : Kon (Tr) := ⟨fun x => OkS x, fun x => [(AV.list 5 (List.map eNd (enc x)))], fun x => .list 1 (List.map (fun b => [AV.bool b]) (nuls x))⟩
theorem e1150 (t : Tr) (hd : OkS t) (q0 : Id) (H0 : Heap) : k1150.ora q0 ([(AV.list 5 (List.map eNd (enc t)))]) H0 = some (.list 1 (List.map (fun b => [AV.bool b]) (nuls t)), H0) := k1150.eqD (trInj) (t) hd q0 H0
theorem ook1150 : OraOK Tryz.prog (35 % 100000) k1150.ora := k1150.ok orders d1_ok (fun x hd => by simp [k1150, PU]) (fun x hd => by simp [k1150, PU]) (fun x hd => run1150 x hd)

noncomputable def d2 : FT := upd (upd (d1) 44 k1155.ora) 35 k1150.ora
theorem d2_ok : FTOK Tryz.prog d2 := upd_ok2 (f := 35) (upd_ok2 (f := 44) (d1_ok) ook1155) ook1150

noncomputable def nullT (t : List Nd) : Bool := goodT t && nul (dec t)
theorem run1145 (t : List Nd) (st : SmS t) : cwp d2 15 [] [(AV.list 5 (List.map eNd t))] [] (fun r H => r = .bool (nullT t) ∧ H = []) := by
  refine run_fn (fn := fn1145) rfl rfl ?_
  have wt := st.wf
  by_cases g1 : goodT t = true
  case neg =>
    have g1' : goodT t = false := by simpa using g1
    have hr : nullT t = false := by simp [nullT, g1']
    simp only [fn1145_body, c1145, D0, SP0, seval, -Int.reduceNatCast', @use_all d2 25 k29.ora rfl, e29, wt, g1']
    simp only [F1, SF0, SP0, seval, -Int.reduceNatCast', fn1145_res, fn1145_keep, hr]
  obtain ⟨x, hx, rfl⟩ := okS_of ⟨st, g1⟩
  have hr : nullT (enc x) = nul x := by simp [nullT, g1, dec_enc hx.1 hx.2]
  have lx := enc_len x
  have px := sz_pos x
  have zx := hx.2
  have wm := wrapm (j := sz x) (by omega) (by omega)
  have hlen : (List.map (fun b => [AV.bool b]) (nuls x)).length = sz x := by simp [nuls, subs_len]
  have hlast : (List.map (fun b => [AV.bool b]) (nuls x))[sz x - 1]? = some [AV.bool (nul x)] := by
    unfold nuls
    have := subs_last x
    rw [List.getD_eq_getElem?_getD, List.getElem?_eq_getElem (by rw [subs_len]; omega)] at this
    simp only [List.getElem?_map, List.getElem?_eq_getElem (show sz x - 1 < (subs x).length by rw [subs_len]; omega), Option.map_some]
    simp only [Option.getD_some] at this
    rw [this]
  have hl2 : ((sz x - 1 : Nat) : Int) < (sz x : Int) := by omega
  simp only [fn1145_body, c1145, D0, SP0, seval, -Int.reduceNatCast', @use_all d2 25 k29.ora rfl, e29, @use_all d2 35 k1150.ora rfl, e1150, wt, g1, hx, lx, wm]
  generalize List.map (fun b => [AV.bool b]) (nuls x) = R at hlen hlast ⊢
  simp only [D0, SP0, seval, -Int.reduceNatCast', hlen, hlast, hl2, Int.natCast_nonneg, Int.toNat_natCast]
  simp only [F1, SF0, SP0, seval, -Int.reduceNatCast', fn1145_res, fn1145_keep, hr]
noncomputable def k1145 : Kon (List Nd) := ⟨fun x => SmS x, fun x => [(AV.list 5 (List.map eNd x))], fun x => .bool (nullT x)⟩
theorem e1145 (t : List Nd) (hd : SmS t) (q0 : Id) (H0 : Heap) : k1145.ora q0 ([(AV.list 5 (List.map eNd t))]) H0 = some (.bool (nullT t), H0) := k1145.eq (treeInj) (t) hd q0 H0
theorem ook1145 : OraOK Tryz.prog (15 % 100000) k1145.ora := k1145.ok orders d2_ok (fun x hd => by simp [k1145, PU]) (fun x hd => by simp [k1145, PU]) (fun x hd => run1145 x hd)

noncomputable def d3 : FT := upd (d2) 15 k1145.ora
theorem d3_ok : FTOK Tryz.prog d3 := upd_ok2 (f := 15) (d2_ok) ook1145

def catD (a b l r : Tr) : Option Tr := (catO l b).bind fun t => if nul a then altO t r else some t
theorem run1156 (a b l r : Tr) (ha : OkS a) (hb : OkS b) (hl : OkS l) (hr : OkS r) : cwp d3 48 [] [(AV.list 5 (List.map eNd (enc a))), (AV.list 5 (List.map eNd (enc b))), (AV.list 5 (List.map eNd (enc l))), (AV.list 5 (List.map eNd (enc r)))] [] (fun v H => v = resO (catD a b l r) ∧ H = []) := by
  refine run_fn (fn := fn1156) rfl rfl ?_
  have dom : ∀ {x y : Tr}, OkS x → OkS y → (SmS (enc x) ∧ SmS (enc y)) ∧ (enc x).length ≤ 1000000 ∧ (enc y).length ≤ 1000000 := fun hx hy => ⟨⟨hx.sm, hy.sm⟩, by have := hx.len; omega, by have := hy.len; omega⟩
  have d1' := dom hl hb
  have e1 := catT_enc hl hb
  have n1 : nullT (enc a) = nul a := by simp [nullT, ha.good, dec_enc ha.1 ha.2]
  have sa := ha.sm
  cases ec : catO l b with
  | none =>
    have hr : catD a b l r = none := by simp [catD, ec]
    simp only [fn1156_body, c1156, D0, SP0, seval, -Int.reduceNatCast', @use_all d3 47 k38.ora rfl, e38, @use_all d3 15 k1145.ora rfl, e1145, d1', e1, ec, resO, encO, Option.isSome_none]
    simp only [F1, SF0, SP0, seval, -Int.reduceNatCast', fn1156_res, fn1156_keep, fz, fzd, fzd.fzcells, hr, resO, encO, Option.isSome_none]
  | some c =>
    have hc := ok_catO hl hb ec
    by_cases k : nul a = true
    · have d2' := dom hc hr
      have e2 := altT_enc hc hr
      have hR : catD a b l r = altO c r := by simp [catD, ec, k]
      simp only [fn1156_body, c1156, D0, SP0, seval, -Int.reduceNatCast', @use_all d3 47 k38.ora rfl, e38, @use_all d3 49 k39.ora rfl, e39, @use_all d3 15 k1145.ora rfl, e1145, d1', d2', e1, e2, ec, n1, sa, k, resO, encO, Option.isSome_some]
      simp only [F1, SF0, SP0, seval, -Int.reduceNatCast', fn1156_res, fn1156_keep, fz, fzd, fzd.fzcells, hR, resO]
    · have k' : nul a = false := by simpa using k
      have hR : catD a b l r = some c := by simp [catD, ec, k']
      simp only [fn1156_body, c1156, D0, SP0, seval, -Int.reduceNatCast', @use_all d3 47 k38.ora rfl, e38, @use_all d3 15 k1145.ora rfl, e1145, d1', e1, ec, n1, sa, k', resO, encO, Option.isSome_some]
      simp only [F1, SF0, SP0, seval, -Int.reduceNatCast', fn1156_res, fn1156_keep, fz, fzd, fzd.fzcells, hR, resO, encO, Option.isSome_some]
noncomputable def k1156 : Kon (Tr × Tr × Tr × Tr) := ⟨fun x => (OkS x.1 ∧ OkS x.2.1) ∧ OkS x.2.2.1 ∧ OkS x.2.2.2, fun x => [(AV.list 5 (List.map eNd (enc x.1))), (AV.list 5 (List.map eNd (enc x.2.1))), (AV.list 5 (List.map eNd (enc x.2.2.1))), (AV.list 5 (List.map eNd (enc x.2.2.2)))], fun x => resO (catD x.1 x.2.1 x.2.2.1 x.2.2.2)⟩
theorem e1156 (a : Tr) (b : Tr) (l : Tr) (r : Tr) (hd : (OkS a ∧ OkS b) ∧ OkS l ∧ OkS r) (q0 : Id) (H0 : Heap) : k1156.ora q0 ([(AV.list 5 (List.map eNd (enc a))), (AV.list 5 (List.map eNd (enc b))), (AV.list 5 (List.map eNd (enc l))), (AV.list 5 (List.map eNd (enc r)))]) H0 = some (resO (catD a b l r), H0) := k1156.eqD (by dsimp only [k1156]; rintro ⟨a, b, l, r⟩ ⟨a', b', l', r'⟩ ⟨⟨h1, h2⟩, h3, h4⟩ ⟨⟨k1, k2⟩, k3, k4⟩ h; simp only [List.cons.injEq, and_true] at h; simp only [Prod.mk.injEq]; exact ⟨enc_injS h1 k1 (eTree_inj h.1), enc_injS h2 k2 (eTree_inj h.2.1), enc_injS h3 k3 (eTree_inj h.2.2.1), enc_injS h4 k4 (eTree_inj h.2.2.2)⟩) (a, b, l, r) hd q0 H0
theorem ook1156 : OraOK Tryz.prog (48 % 100000) k1156.ora := k1156.ok orders d3_ok (fun x hd => by simp [k1156, PU]) (fun x hd => by simp [k1156, PU, pure_resO]) (fun x hd => run1156 x.1 x.2.1 x.2.2.1 x.2.2.2 hd.1.1 hd.1.2 hd.2.1 hd.2.2)

noncomputable def d4 : FT := upd (d3) 48 k1156.ora
theorem d4_ok : FTOK Tryz.prog d4 := upd_ok2 (f := 48) (d3_ok) ook1156

end Go.Proofs.Abs

set_option maxRecDepth 100000
set_option maxHeartbeats 4000000
namespace Go.Proofs.Abs
open Go
theorem hasD_eq {s : List (Int × Int)} {r : Int} (g : goodS s = true) (hr : isS r = true) : hasD s r = hasS s r := by
  unfold hasD hasS
  rw [g, hr, Bool.true_and, Bool.true_and]
  refine any_congr fun i hi => ?_
  unfold goodS at g
  have := List.all_eq_true.1 g i (List.mem_range.2 hi)
  simp only [okAt, wholeS, Bool.and_eq_true, isS, Bool.or_eq_true, decide_eq_true_eq] at this
  obtain ⟨⟨⟨h1, h2⟩, h3⟩, _⟩ := this
  rw [wrap32 (by omega) (by omega), wrap32 (by omega) (by omega)]
  rfl
theorem derL_eq {n : Nd} {r : Int} (h : leafN n = true) (hk : n.kind = 2) (hr : isS r = true) : (if hasD n.set r then empty else never) = derL r n := by
  have g : goodS n.set = true := by
    simp only [leafN, hk, if_true, Bool.and_eq_true, decide_eq_true_eq] at h
    exact h.2.2
  rw [hasD_eq g hr]
  unfold derL
  by_cases e : hasS n.set r = true <;> simp [hk, e]
theorem treeI32Inj : ∀ x y : List Nd × Int, [(AV.list 5 (List.map eNd x.1)), AV.int .i32 x.2] = [(AV.list 5 (List.map eNd y.1)), AV.int .i32 y.2] → x = y := by
  rintro ⟨a, m⟩ ⟨b, n⟩ h
  simp only [List.cons.injEq, AV.int.injEq, and_true, true_and] at h
  rw [eTree_inj (a := a) (b := b) h.1, h.2]
theorem OkS.partsS {a : Tr} (h : OkS (.star a)) : partOK (enc (.star a)) = true ∧ partA (enc (.star a)) = enc a ∧ partB (enc (.star a)) = [] := by
  have hs := h.2
  simp only [sz] at hs
  exact parts_star h.s.good (by rw [enc_len]; exact hs)
theorem leaf_parts {n : Nd} (h : leafN n = true) : partOK [n] = false ∧ partA [n] = [] ∧ partB [n] = [] := by
  obtain ⟨f1, f2⟩ := leaf_fork h
  have e : lastN [n] = n := rfl
  have p : partOK [n] = false := by simp [partOK, e, f1, f2]
  refine ⟨p, by simp [partA, p], by simp [partB, e, f1]⟩
noncomputable def derT (t : List Nd) (r : Int) : Option Tr := derP r (dec t)
noncomputable def k1148 : Kon (List Nd × Int) := ⟨fun x => (SmS x.1 ∧ goodT x.1 = true) ∧ isS x.2 = true, fun x => [(AV.list 5 (List.map eNd x.1)), .int .i32 x.2], fun x => resO (derT x.1 x.2)⟩
theorem i1148 : ∀ a b, k1148.enc a = k1148.enc b → a = b := treeI32Inj
theorem e1148 (t : List Nd) (r : Int) (hd : (SmS t ∧ goodT t = true) ∧ isS r = true) (q0 : Id) (H0 : Heap) : k1148.ora q0 ([(AV.list 5 (List.map eNd t)), .int .i32 r]) H0 = some (resO (derT t r), H0) := k1148.eq i1148 (t, r) hd q0 H0
noncomputable def r1148 (n : Nat) : Kon (List Nd × Int) := ⟨fun x => k1148.dom x ∧ (fun x => x.1.length) x < n, k1148.enc, k1148.out⟩
theorem er1148 {n : Nat} (t : List Nd) (r : Int) (hd : ((SmS t ∧ goodT t = true) ∧ isS r = true) ∧ (t.length) < n) (q0 : Id) (H0 : Heap) : (r1148 n).ora q0 ([(AV.list 5 (List.map eNd t)), .int .i32 r]) H0 = some (resO (derT t r), H0) := (r1148 n).eq i1148 (t, r) hd q0 H0
noncomputable def z1148 (n : Nat) : FT := updC (upd d4 27 (r1148 n).ora) 200027 fn1148

theorem derT_enc {x : Tr} (hx : OkS x) (r : Int) : derT (enc x) r = derP r x := by unfold derT; rw [hx.dec]
theorem run1148 (n : Nat) (t : List Nd) (r : Int) (hd : ((SmS t ∧ goodT t = true) ∧ isS r = true) ∧ t.length < n + 1) : cwp (z1148 n) 200027 [] [(AV.list 5 (List.map eNd t)), .int .i32 r] [] (fun v H => v = resO (derT t r) ∧ H = []) := by
  refine run_fn (fn := fn1148) rfl rfl ?_
  obtain ⟨⟨⟨st, g⟩, hr⟩, hn⟩ := hd
  obtain ⟨x, hx, rfl⟩ := okS_of ⟨st, g⟩
  rw [derT_enc hx]
  have lx := enc_len x
  have px := sz_pos x
  have zx := hx.2
  have wm := wrapm (j := sz x) (by omega) (by omega)
  have hg := map_get (f := eNd) (l := enc x) (j := sz x - 1) (by omega) default
  have hln : (enc x).getD (sz x - 1) default = lastN (enc x) := by unfold lastN; rw [lx]
  rw [hln] at hg
  have hl2 : ((sz x - 1 : Nat) : Int) < (sz x : Int) := by omega
  have dom : ∀ {y : Tr}, OkS y → sz y < sz x → ((SmS (enc y) ∧ goodT (enc y) = true) ∧ isS r = true) ∧ (enc y).length < n := fun hy h => ⟨⟨⟨hy.sm, hy.good⟩, hr⟩, by rw [enc_len]; omega⟩
  have domc : ∀ {x y : Tr}, OkS x → OkS y → (SmS (enc x) ∧ SmS (enc y)) ∧ (enc x).length ≤ 1000000 ∧ (enc y).length ≤ 1000000 := fun hx hy => ⟨⟨hx.sm, hy.sm⟩, by have := hx.len; omega, by have := hy.len; omega⟩
  cases x with
  | leaf nd =>
    have hleaf := hx.1.1
    obtain ⟨p1, p2, p3⟩ := leaf_parts hleaf
    have hset := hx.1.2.2
    have hd0 := fun (k : nd.kind = 2) => derL_eq hleaf k hr
    have hk := leaf_kind hleaf
    have hdp : derP r (.leaf nd) = some (derL r nd) := rfl
    have hne : ¬ nd.kind = 2 → derL r nd = never := fun k => by simp [derL, k]
    obtain ⟨kk, a, b, c, z⟩ := nd
    have hle : c.length ≤ 9223372036854775807 := by simp only at hset; omega
    have hgT : (List.map eNd [(⟨kk, a, b, c, z⟩ : Nd)])[0]? = some [AV.int .i64 kk, AV.int .i64 a, AV.int .i64 b, (AV.list 2 (List.map (fun x => [AV.int .i64 x.1, AV.int .i64 x.2]) (c))), AV.str z] := rfl
    have lT : ([(⟨kk, a, b, c, z⟩ : Nd)] : List Nd).length = 1 := rfl
    have wT : IntKind.i64.wrap (((1 : Nat) : Int) - 1) = ((0 : Nat) : Int) := by decide
    have kT : ((0 : Nat) : Int) < ((1 : Nat) : Int) := by decide
    simp only [enc] at st ⊢
    clear hg hln hn lx g wm hl2
    generalize hT : ([(⟨kk, a, b, c, z⟩ : Nd)] : List Nd) = T at *
    by_cases k2 : kk = 2
    · subst k2
      have hd1 := hd0 rfl
      simp only at hd1
      simp only [hdp, ← hd1]
      simp only [fn1148_body, c1148, D0, SP0, seval, -Int.reduceNatCast', @use_all (z1148 n) 44 k1155.ora rfl, e1155, hle, hgT, lT, wT, kT, Int.natCast_nonneg, Int.toNat_natCast]
      simp only [F1, SF0, SP0, seval, -Int.reduceNatCast', fn1148_res, fn1148_keep, fz, fzd, fzd.fzcells, resO, encO, Option.isSome_some]
    · have k2' : (kk == 2) = false := by simpa using k2
      rw [hdp, hne k2]
      simp only [fn1148_body, c1148, D0, SP0, seval, -Int.reduceNatCast', @use_all (z1148 n) 45 k23.ora rfl, e23, @use_all (z1148 n) 46 k34.ora rfl, e34, st, p1, p2, p3, k2', hgT, lT, wT, kT, leafT0, Int.natCast_nonneg, Int.toNat_natCast]
      simp only [F1, SF0, SP0, seval, -Int.reduceNatCast', fn1148_res, fn1148_keep, fz, fzd, fzd.fzcells, resO, encO, Option.isSome_some]
  | cat a b =>
    obtain ⟨ha, hb⟩ := hx.c
    obtain ⟨p1, p2, p3⟩ := hx.partsC
    have da := dom ha (by simp only [sz]; omega)
    have db := dom hb (by simp only [sz]; omega)
    have ea := derT_enc ha r
    have eb := derT_enc hb r
    have na : nullT (enc a) = nul a := by simp [nullT, ha.good, ha.dec]
    have sa := ha.sm
    have hla : lastN (enc (.cat a b)) = _ := last_join 3 (enc a) (enc b)
    rw [hla] at hg
    clear hla
    generalize hE : enc (.cat a b) = E at *
    simp only [eNd, eSet, List.map_nil] at hg
    cases e1 : derP r a with
    | none =>
      have hR : derP r (.cat a b) = none := by simp [derP, e1]
      simp only [fn1148_body, c1148, D0, SP0, seval, -Int.reduceNatCast', @use_all (z1148 n) 45 k23.ora rfl, e23, @use_all (z1148 n) 27 (r1148 n).ora rfl, er1148, hg, hl2, st, p1, p2, p3, wm, lx, da, ea, e1, resO, encO, Option.isSome_none, Option.isSome_some, Int.natCast_nonneg, Int.toNat_natCast]
      simp only [F1, SF0, SP0, seval, -Int.reduceNatCast', fn1148_res, fn1148_keep, fz, fzd, fzd.fzcells, hR, resO, encO, Option.isSome_none]
    | some p =>
      have hp := ok_derP r ha e1
      have dc := domc hp hb
      have ec := catT_enc hp hb
      by_cases k : nul a = true
      · cases e2 : derP r b with
        | none =>
          have hR : derP r (.cat a b) = none := by simp [derP, e1, e2, k]
          simp only [fn1148_body, c1148, D0, SP0, seval, -Int.reduceNatCast', @use_all (z1148 n) 45 k23.ora rfl, e23, @use_all (z1148 n) 15 k1145.ora rfl, e1145, @use_all (z1148 n) 27 (r1148 n).ora rfl, er1148, hg, hl2, st, p1, p2, p3, wm, lx, da, ea, e1, db, eb, e2, na, sa, k, resO, encO, Option.isSome_none, Option.isSome_some, Int.natCast_nonneg, Int.toNat_natCast]
          simp only [F1, SF0, SP0, seval, -Int.reduceNatCast', fn1148_res, fn1148_keep, fz, fzd, fzd.fzcells, hR, resO, encO, Option.isSome_none]
        | some q =>
          have hq := ok_derP r hb e2
          have hR : derP r (.cat a b) = catD a b p q := by simp [derP, e1, e2, k, catD]
          have dd : (OkS a ∧ OkS b) ∧ OkS p ∧ OkS q := ⟨⟨ha, hb⟩, hp, hq⟩
          simp only [fn1148_body, c1148, D0, SP0, seval, -Int.reduceNatCast', @use_all (z1148 n) 45 k23.ora rfl, e23, @use_all (z1148 n) 15 k1145.ora rfl, e1145, @use_all (z1148 n) 48 k1156.ora rfl, e1156, @use_all (z1148 n) 27 (r1148 n).ora rfl, er1148, hg, hl2, st, p1, p2, p3, wm, lx, da, ea, e1, db, eb, e2, na, sa, k, dd, resO, encO, Option.isSome_none, Option.isSome_some, Int.natCast_nonneg, Int.toNat_natCast]
          simp only [F1, SF0, SP0, seval, -Int.reduceNatCast', fn1148_res, fn1148_keep, fz, fzd, fzd.fzcells, hR, resO]
      · have k' : nul a = false := by simpa using k
        have hR : derP r (.cat a b) = catO p b := by simp [derP, e1, k']
        simp only [fn1148_body, c1148, D0, SP0, seval, -Int.reduceNatCast', @use_all (z1148 n) 45 k23.ora rfl, e23, @use_all (z1148 n) 15 k1145.ora rfl, e1145, @use_all (z1148 n) 47 k38.ora rfl, e38, @use_all (z1148 n) 27 (r1148 n).ora rfl, er1148, hg, hl2, st, p1, p2, p3, wm, lx, da, ea, e1, na, sa, k', dc, ec, resO, encO, Option.isSome_none, Option.isSome_some, Int.natCast_nonneg, Int.toNat_natCast]
        simp only [F1, SF0, SP0, seval, -Int.reduceNatCast', fn1148_res, fn1148_keep, fz, fzd, fzd.fzcells, hR, resO]
  | alt a b =>
    obtain ⟨ha, hb⟩ := hx.l
    obtain ⟨p1, p2, p3⟩ := hx.parts
    have da := dom ha (by simp only [sz]; omega)
    have db := dom hb (by simp only [sz]; omega)
    have ea := derT_enc ha r
    have eb := derT_enc hb r
    have hla : lastN (enc (.alt a b)) = _ := last_join 4 (enc a) (enc b)
    rw [hla] at hg
    clear hla
    generalize hE : enc (.alt a b) = E at *
    simp only [eNd, eSet, List.map_nil] at hg
    cases e1 : derP r a with
    | none =>
      have hR : derP r (.alt a b) = none := by simp [derP, e1]
      simp only [fn1148_body, c1148, D0, SP0, seval, -Int.reduceNatCast', @use_all (z1148 n) 45 k23.ora rfl, e23, @use_all (z1148 n) 27 (r1148 n).ora rfl, er1148, hg, hl2, st, p1, p2, p3, wm, lx, da, ea, e1, resO, encO, Option.isSome_none, Option.isSome_some, Int.natCast_nonneg, Int.toNat_natCast]
      simp only [F1, SF0, SP0, seval, -Int.reduceNatCast', fn1148_res, fn1148_keep, fz, fzd, fzd.fzcells, hR, resO, encO, Option.isSome_none]
    | some p =>
      have hp := ok_derP r ha e1
      cases e2 : derP r b with
      | none =>
        have hR : derP r (.alt a b) = none := by simp [derP, e1, e2]
        simp only [fn1148_body, c1148, D0, SP0, seval, -Int.reduceNatCast', @use_all (z1148 n) 45 k23.ora rfl, e23, @use_all (z1148 n) 27 (r1148 n).ora rfl, er1148, hg, hl2, st, p1, p2, p3, wm, lx, da, ea, e1, db, eb, e2, resO, encO, Option.isSome_none, Option.isSome_some, Int.natCast_nonneg, Int.toNat_natCast]
        simp only [F1, SF0, SP0, seval, -Int.reduceNatCast', fn1148_res, fn1148_keep, fz, fzd, fzd.fzcells, hR, resO, encO, Option.isSome_none]
      | some q =>
        have hq := ok_derP r hb e2
        have hR : derP r (.alt a b) = altO p q := by simp [derP, e1, e2]
        have dc := domc hp hq
        have ec := altT_enc hp hq
        simp only [fn1148_body, c1148, D0, SP0, seval, -Int.reduceNatCast', @use_all (z1148 n) 45 k23.ora rfl, e23, @use_all (z1148 n) 49 k39.ora rfl, e39, @use_all (z1148 n) 27 (r1148 n).ora rfl, er1148, hg, hl2, st, p1, p2, p3, wm, lx, da, ea, e1, db, eb, e2, dc, ec, resO, encO, Option.isSome_none, Option.isSome_some, Int.natCast_nonneg, Int.toNat_natCast]
        simp only [F1, SF0, SP0, seval, -Int.reduceNatCast', fn1148_res, fn1148_keep, fz, fzd, fzd.fzcells, hR, resO]
  | star a =>
    have ha := hx.s
    obtain ⟨p1, p2, p3⟩ := hx.partsS
    have da := dom ha (by simp only [sz]; omega)
    have ea := derT_enc ha r
    have hla : lastN (enc (.star a)) = _ := last_star (enc a)
    rw [hla] at hg
    clear hla
    have ec' := fun (p : Tr) (hp : OkS p) => catT_enc hp hx
    have dc' := fun (p : Tr) (hp : OkS p) => domc hp hx
    generalize hE : enc (.star a) = E at *
    simp only [eNd, eSet, List.map_nil] at hg
    cases e1 : derP r a with
    | none =>
      have hR : derP r (.star a) = none := by simp [derP, e1]
      simp only [fn1148_body, c1148, D0, SP0, seval, -Int.reduceNatCast', @use_all (z1148 n) 45 k23.ora rfl, e23, @use_all (z1148 n) 27 (r1148 n).ora rfl, er1148, hg, hl2, st, p1, p2, p3, wm, lx, da, ea, e1, resO, encO, Option.isSome_none, Option.isSome_some, Int.natCast_nonneg, Int.toNat_natCast]
      simp only [F1, SF0, SP0, seval, -Int.reduceNatCast', fn1148_res, fn1148_keep, fz, fzd, fzd.fzcells, hR, resO, encO, Option.isSome_none]
    | some p =>
      have hp := ok_derP r ha e1
      have hR : derP r (.star a) = catO p (.star a) := by simp [derP, e1]
      have dc := dc' p hp
      have zl : sz (.star a) ≤ 1000000 := by omega
      have ec := ec' p hp
      simp only [fn1148_body, c1148, D0, SP0, seval, -Int.reduceNatCast', @use_all (z1148 n) 45 k23.ora rfl, e23, @use_all (z1148 n) 47 k38.ora rfl, e38, @use_all (z1148 n) 27 (r1148 n).ora rfl, er1148, hg, hl2, st, p1, p2, p3, wm, lx, da, ea, e1, dc, zl, ec, resO, encO, Option.isSome_none, Option.isSome_some, Int.natCast_nonneg, Int.toNat_natCast]
      simp only [F1, SF0, SP0, seval, -Int.reduceNatCast', fn1148_res, fn1148_keep, fz, fzd, fzd.fzcells, hR, resO]
theorem ook1148 : OraOK Tryz.prog (27 % 100000) k1148.ora := ora_rec (fun x => x.1.length) (fun a b _ _ h => i1148 a b h) fun n h => (r1148 (n + 1)).ok (f := 200027) orders (updC_ok (upd_ok2 (f := 27) d4_ok h) ok1148) (fun x hd => by simp [r1148, k1148, PU]) (fun x hd => by simp [r1148, k1148, PU, pure_resO]) (fun x hd => run1148 n x.1 x.2 hd)

noncomputable def d5 : FT := upd (d4) 27 k1148.ora
theorem d5_ok : FTOK Tryz.prog d5 := upd_ok2 (f := 27) (d4_ok) ook1148

noncomputable def byT (t : List Nd) (v : Int) : Option Tr := if goodT t && isS v then derP v (dec t) else none
theorem byT_enc {x : Tr} (hx : OkS x) (v : Int) : byT (enc x) v = oneP v x := by simp [byT, oneP, hx.good, hx.dec]
theorem run1141 (t : List Nd) (v : Int) (st : SmS t) : cwp d5 10 [] [(AV.list 5 (List.map eNd t)), .int .i64 v] [] (fun r H => r = resO (byT t v) ∧ H = []) := by
  refine run_fn (fn := fn1141) rfl rfl ?_
  have wt := st.wf
  by_cases g : goodT t = true
  case neg =>
    have g' : goodT t = false := by simpa using g
    have hr : byT t v = none := by simp [byT, g']
    simp only [fn1141_body, c1141, D0, SP0, seval, -Int.reduceNatCast', @use_all d5 25 k29.ora rfl, e29, wt, g']
    simp only [F1, SF0, SP0, seval, -Int.reduceNatCast', fn1141_res, fn1141_keep, fz, fzd, fzd.fzcells, hr, resO, encO, Option.isSome_none]
  by_cases i : isS v = true
  case neg =>
    have i' : isS v = false := by simpa using i
    have hr : byT t v = none := by simp [byT, i']
    simp only [fn1141_body, c1141, D0, SP0, seval, -Int.reduceNatCast', @use_all d5 25 k29.ora rfl, e29, @use_all d5 26 k97.ora rfl, e97, wt, g, i']
    simp only [F1, SF0, SP0, seval, -Int.reduceNatCast', fn1141_res, fn1141_keep, fz, fzd, fzd.fzcells, hr, resO, encO, Option.isSome_none]
  have hr : byT t v = derT t v := by simp [byT, derT, g, i]
  have hw : IntKind.i32.wrap v = v := by
    simp only [isS, Bool.or_eq_true, Bool.and_eq_true, decide_eq_true_eq] at i
    exact wrap32 (by omega) (by omega)
  have hd : (SmS t ∧ goodT t = true) ∧ isS v = true := ⟨⟨st, g⟩, i⟩
  simp only [fn1141_body, c1141, D0, SP0, seval, -Int.reduceNatCast', @use_all d5 25 k29.ora rfl, e29, @use_all d5 26 k97.ora rfl, e97, @use_all d5 27 k1148.ora rfl, e1148, wt, g, i, hw, hd, resO]
  simp only [F1, SF0, SP0, seval, -Int.reduceNatCast', fn1141_res, fn1141_keep, fz, fzd, fzd.fzcells, hr, resO]
noncomputable def k1141 : Kon (List Nd × Int) := ⟨fun x => SmS x.1, fun x => [(AV.list 5 (List.map eNd x.1)), .int .i64 x.2], fun x => resO (byT x.1 x.2)⟩
theorem e1141 (t : List Nd) (v : Int) (hd : SmS t) (q0 : Id) (H0 : Heap) : k1141.ora q0 ([(AV.list 5 (List.map eNd t)), .int .i64 v]) H0 = some (resO (byT t v), H0) := k1141.eq (treeIntInj) (t, v) hd q0 H0
theorem ook1141 : OraOK Tryz.prog (10 % 100000) k1141.ora := k1141.ok orders d5_ok (fun x hd => by simp [k1141, PU]) (fun x hd => by simp [k1141, PU, pure_resO]) (fun x hd => run1141 x.1 x.2 hd)

noncomputable def d6 : FT := upd (d5) 10 k1141.ora
theorem d6_ok : FTOK Tryz.prog d6 := upd_ok2 (f := 10) (d5_ok) ook1141

noncomputable def allT (t : List Nd) (l : List Int) : Option Tr := if goodT t then allP (dec t) l else none
theorem allT_enc {x : Tr} (hx : OkS x) (l : List Int) : allT (enc x) l = allP x l := by simp [allT, hx.good, hx.dec]
theorem allP_snoc : ∀ (l : List Int) (x : Tr) (v : Int), allP x (l ++ [v]) = (allP x l).bind fun y => oneP v y
  | [], x, v => by
    simp only [List.nil_append, allP, Option.bind_some]
    cases oneP v x <;> rfl
  | w :: l, x, v => by
    simp only [List.cons_append, allP]
    cases oneP w x with
    | none => rfl
    | some y => simp only [Option.bind_some]; exact allP_snoc l y v
theorem allP_take_none {l : List Int} {x : Tr} {j : Nat} (h : allP x (l.take j) = none) : allP x l = none := by
  have key : ∀ (m k : List Int) (x : Tr), allP x m = none → allP x (m ++ k) = none := by
    intro m
    induction m with
    | nil => intro k x h; cases h
    | cons v m ih =>
      intro k x h
      simp only [allP, List.cons_append] at h ⊢
      cases e : oneP v x with
      | none => rfl
      | some y => rw [e] at h; simp only [Option.bind_some] at h ⊢; exact ih k y h
  have := key (l.take j) (l.drop j) x h
  rwa [List.take_append_drop] at this
theorem take_snocI {l : List Int} {j : Nat} (h : j < l.length) : l.take (j + 1) = l.take j ++ [l.getD j 0] := by
  rw [List.take_succ, List.getElem?_eq_getElem h, List.getD_eq_getElem?_getD, List.getElem?_eq_getElem h]; rfl
theorem run1143 (t : List Nd) (l : List Int) (st : SmS t) (ll : l.length ≤ 9223372036854775807) : cwp d6 12 [] [(AV.list 5 (List.map eNd t)), (AV.list 1 (List.map (fun x => [AV.int .i64 x]) (l)))] [] (fun r H => r = resO (allT t l) ∧ H = []) := by
  refine run_fn (fn := fn1143) rfl rfl ?_
  have wt := st.wf
  by_cases g : goodT t = true
  case neg =>
    have g' : goodT t = false := by simpa using g
    have hr : allT t l = none := by simp [allT, g']
    simp only [fn1143_body, c1143, D0, SP0, seval, -Int.reduceNatCast', @use_all d6 25 k29.ora rfl, e29, wt, g']
    simp only [F1, SF0, SP0, seval, -Int.reduceNatCast', fn1143_res, fn1143_keep, fz, fzd, fzd.fzcells, hr, resO, encO, Option.isSome_none]
  obtain ⟨x, hx, rfl⟩ := okS_of ⟨st, g⟩
  rw [allT_enc hx]
  simp only [fn1143_body, c1143, D0, SP0, seval, -Int.reduceNatCast', @use_all d6 25 k29.ora rfl, e29, wt, g]
  refine lg_rule (fun j e H => ∃ y, allP x (l.take j) = some y ∧ e = [(0, (AV.list 5 (List.map eNd (enc y)))), (1, (AV.list 1 (List.map (fun x => [AV.int .i64 x]) (l)))), (4, .own [0] 0), (5, .bool false), (6, .bool true), (12, (AV.list 1 (List.map (fun x => [AV.int .i64 x]) (l)))), (13, .int .i64 l.length), (14, .int .i64 j)] ∧ H = [[([0], .row true true 39 5 [])]] ∧ j ≤ l.length) l.length ?_ ?_
  · exact ⟨x, rfl, rfl, rfl, by simp⟩
  rintro j e H ⟨y, hy, rfl, rfl, hj⟩
  have oy := ok_allP hx hy
  have sy := oy.sm
  have ey := byT_enc oy
  simp only [D0, SP0, seval, -Int.reduceNatCast']
  by_cases h : j < l.length
  · have h' : (j : Int) < (l.length : Int) := by omega
    have hp := wrapp (j := j) (by omega)
    have hg := map_get (f := fun x : Int => [AV.int .i64 x]) h 0
    have hs := allP_snoc (l.take j) x (l.getD j 0)
    rw [← take_snocI h, hy, Option.bind_some] at hs
    have hno := fun e => allP_take_none (l := l) (x := x) (j := j + 1) e
    generalize l.getD j 0 = v at hg hs
    have eyv := ey v
    cases ev : oneP v y with
    | none =>
      have hr := hno (by rw [hs, ev])
      simp only [D0, SP0, seval, -Int.reduceNatCast', @use_all d6 10 k1141.ora rfl, e1141, hg, h', hp, sy, eyv, ev, decide_true, resO, encO, Option.isSome_none, Int.natCast_nonneg, Int.toNat_natCast]
      simp only [F1, SF0, SP0, seval, -Int.reduceNatCast', fn1143_res, fn1143_keep, fz, fzd, fzd.fzcells, hr, resO, encO, Option.isSome_none]
    | some w =>
      rw [ev] at hs
      simp only [D0, SP0, seval, -Int.reduceNatCast', @use_all d6 10 k1141.ora rfl, e1141, hg, h', hp, sy, eyv, ev, decide_true, resO, encO, Option.isSome_some, Int.natCast_nonneg, Int.toNat_natCast]
      simp only [F1, SF0, SP0, seval, -Int.reduceNatCast']
      refine ⟨h, w, hs, ?_⟩
      simp
      omega
  · have h' : ¬ (j : Int) < (l.length : Int) := by omega
    have hjl : j = l.length := by omega
    subst hjl
    rw [List.take_length] at hy
    simp only [D0, SP0, seval, -Int.reduceNatCast', h', decide_false]
    refine .inr ⟨by simp, ?_⟩
    simp only [F1, SF0, SP0, seval, -Int.reduceNatCast', fn1143_res, fn1143_keep, fz, fzd, fzd.fzcells, hy, resO, encO, Option.isSome_some]
theorem treeRowInj : ∀ x y : List Nd × List Int, [(AV.list 5 (List.map eNd x.1)), (AV.list 1 (List.map (fun x => [AV.int .i64 x]) (x.2)))] = [(AV.list 5 (List.map eNd y.1)), (AV.list 1 (List.map (fun x => [AV.int .i64 x]) (y.2)))] → x = y := by
  rintro ⟨a, m⟩ ⟨b, n⟩ h
  simp only [List.cons.injEq, and_true] at h
  rw [eTree_inj (a := a) (b := b) h.1, eRow_inj (a := m) (b := n) h.2]
noncomputable def k1143 : Kon (List Nd × List Int) := ⟨fun x => SmS x.1 ∧ x.2.length ≤ 9223372036854775807, fun x => [(AV.list 5 (List.map eNd x.1)), (AV.list 1 (List.map (fun x => [AV.int .i64 x]) (x.2)))], fun x => resO (allT x.1 x.2)⟩
theorem e1143 (t : List Nd) (l : List Int) (hd : SmS t ∧ l.length ≤ 9223372036854775807) (q0 : Id) (H0 : Heap) : k1143.ora q0 ([(AV.list 5 (List.map eNd t)), (AV.list 1 (List.map (fun x => [AV.int .i64 x]) (l)))]) H0 = some (resO (allT t l), H0) := k1143.eq (treeRowInj) (t, l) hd q0 H0
theorem ook1143 : OraOK Tryz.prog (12 % 100000) k1143.ora := k1143.ok orders d6_ok (fun x hd => by simp [k1143, PU]) (fun x hd => by simp [k1143, PU, pure_resO]) (fun x hd => run1143 x.1 x.2 hd.1 hd.2)

noncomputable def d7 : FT := upd (d6) 12 k1143.ora
theorem d7_ok : FTOK Tryz.prog d7 := upd_ok2 (f := 12) (d6_ok) ook1143

end Go.Proofs.Abs

set_option maxRecDepth 100000
set_option maxHeartbeats 4000000
namespace Go.Proofs.Abs
open Go
theorem movN_add (n : Nd) (m k : Int) : movN (movN n m) k = movN n (m + k) := by
  unfold movN
  by_cases h : isFork n = true
  · have : isFork { n with a := n.a + m, b := n.b + m } = true := h
    rw [if_pos h, if_pos this, if_pos h]
    cases n; simp; omega
  · rw [if_neg h, if_neg h]
    by_cases hk : n.kind = 5
    · have h2 : ¬ isFork { n with a := n.a + m } = true := h
      rw [if_pos hk, if_neg h2, if_pos (by exact hk), if_pos hk]
      cases n; simp; omega
    · rw [if_neg hk, if_neg h, if_neg hk, if_neg hk]
theorem mov_add (t : List Nd) (m k : Int) : mov (mov t m) k = mov t (m + k) := by
  unfold mov
  rw [List.map_map]
  exact List.map_congr_left fun n _ => movN_add n m k
theorem sub_le : ∀ x j, j < sz x → sz ((subs x).getD j default) ≤ j + 1
  | .leaf n, j, h => by simp only [sz] at h; have : j = 0 := by omega
                        subst this; simp [subs, sz]
  | .star a, j, h => by
    simp only [sz] at h
    simp only [subs]
    by_cases c : j < sz a
    · rw [getD_app_l (by rw [subs_len]; exact c)]; exact sub_le a j c
    · rw [getD_app_r (by rw [subs_len]; omega), subs_len, show j - sz a = 0 by omega]
      simp only [List.getD_cons_zero, sz]; omega
  | .cat a b, j, h => by
    simp only [sz] at h
    simp only [subs]
    by_cases c : j < sz a
    · rw [getD_app_l (by simp only [List.length_append, subs_len]; omega), getD_app_l (by rw [subs_len]; exact c)]; exact sub_le a j c
    · by_cases c2 : j < sz a + sz b
      · rw [getD_app_l (by simp only [List.length_append, subs_len]; omega), getD_app_r (by rw [subs_len]; omega), subs_len]
        have := sub_le b (j - sz a) (by omega); omega
      · rw [getD_app_r (by simp only [List.length_append, subs_len]; omega)]
        simp only [List.length_append, subs_len]
        rw [show j - (sz a + sz b) = 0 by omega]
        simp only [List.getD_cons_zero, sz]; omega
  | .alt a b, j, h => by
    simp only [sz] at h
    simp only [subs]
    by_cases c : j < sz a
    · rw [getD_app_l (by simp only [List.length_append, subs_len]; omega), getD_app_l (by rw [subs_len]; exact c)]; exact sub_le a j c
    · by_cases c2 : j < sz a + sz b
      · rw [getD_app_l (by simp only [List.length_append, subs_len]; omega), getD_app_r (by rw [subs_len]; omega), subs_len]
        have := sub_le b (j - sz a) (by omega); omega
      · rw [getD_app_r (by simp only [List.length_append, subs_len]; omega)]
        simp only [List.length_append, subs_len]
        rw [show j - (sz a + sz b) = 0 by omega]
        simp only [List.getD_cons_zero, sz]; omega
theorem ben_left {A R : List Nd} {j s : Nat} (h : j < A.length) : benT (A ++ R) s j = benT A s j := by
  unfold benT
  rw [List.take_append_of_le_length (by omega)]
theorem ben_right {A B R : List Nd} {j s : Nat} (h : j < B.length) (hs : s ≤ j + 1) : benT (A ++ mov B A.length ++ R) (A.length + s) (A.length + j) = benT B s j := by
  have hl : (mov B (A.length : Int)).length = B.length := by simp [mov]
  unfold benT
  rw [List.append_assoc, show A.length + j + 1 = A.length + (j + 1) by omega, List.take_length_add_append, List.take_append_of_le_length (by omega), List.drop_length_add_append]
  have : ((mov B (A.length : Int)).take (j + 1)).drop s = mov ((B.take (j + 1)).drop s) A.length := by simp [mov, List.map_take, List.map_drop]
  rw [this, mov_add]
  congr 1; omega
theorem ben_all {t : List Nd} (h : 1 ≤ t.length) : benT t 0 (t.length - 1) = t := by
  unfold benT
  rw [show t.length - 1 + 1 = t.length by omega, List.take_length, List.drop_zero]
  exact mov_zero t
theorem ben_sub : ∀ x j, j < sz x → benT (enc x) (j + 1 - sz ((subs x).getD j default)) j = enc ((subs x).getD j default)
  | .leaf n, j, h => by
    simp only [sz] at h
    have : j = 0 := by omega
    subst this
    simp only [subs, enc, List.getD_cons_zero, sz]
    exact ben_all (t := [n]) (by simp)
  | .star a, j, h => by
    have hl := enc_len a
    simp only [sz] at h
    by_cases c : j < sz a
    · have e : (subs (.star a)).getD j default = (subs a).getD j default := by simp only [subs]; rw [getD_app_l (by rw [subs_len]; exact c)]
      rw [e]
      simp only [enc, starT]
      rw [ben_left (by omega)]
      exact ben_sub a j c
    · have hj : j = sz a := by omega
      have e : (subs (.star a)).getD j default = .star a := by
        simp only [subs]; rw [getD_app_r (by rw [subs_len]; omega), subs_len, show j - sz a = 0 by omega]; rfl
      rw [e, show j + 1 - sz (.star a) = 0 by simp only [sz]; omega]
      have := ben_all (t := enc (.star a)) (by rw [enc_len]; exact sz_pos _)
      rw [enc_len] at this
      simp only [sz, Nat.add_sub_cancel] at this
      rw [hj]; exact this
  | .cat a b, j, h => by
    have hl := enc_len a
    have hb := enc_len b
    simp only [sz] at h
    by_cases c : j < sz a
    · have e : (subs (.cat a b)).getD j default = (subs a).getD j default := by
        simp only [subs]; rw [getD_app_l (by simp only [List.length_append, subs_len]; omega), getD_app_l (by rw [subs_len]; exact c)]
      rw [e]
      simp only [enc, joinT, List.append_assoc]
      rw [ben_left (by omega)]
      exact ben_sub a j c
    · by_cases c2 : j < sz a + sz b
      · have e : (subs (.cat a b)).getD j default = (subs b).getD (j - sz a) default := by
          simp only [subs]; rw [getD_app_l (by simp only [List.length_append, subs_len]; omega), getD_app_r (by rw [subs_len]; omega), subs_len]
        have hle := sub_le b (j - sz a) (by omega)
        rw [e]
        simp only [enc, joinT]
        have := ben_right (A := enc a) (B := enc b) (R := [⟨3, ((enc a).length : Int) - 1, ((enc a).length : Int) + (enc b).length - 1, [], ⟨#[]⟩⟩]) (j := j - sz a) (s := j - sz a + 1 - sz ((subs b).getD (j - sz a) default)) (by omega) (by omega)
        rw [← ben_sub b (j - sz a) (by omega), ← this]
        congr 1 <;> omega
      · have hj : j = sz a + sz b := by omega
        have e : (subs (.cat a b)).getD j default = .cat a b := by
          simp only [subs]; rw [getD_app_r (by simp only [List.length_append, subs_len]; omega)]
          simp only [List.length_append, subs_len]; rw [show j - (sz a + sz b) = 0 by omega]; rfl
        rw [e, show j + 1 - sz (.cat a b) = 0 by simp only [sz]; omega]
        have := ben_all (t := enc (.cat a b)) (by rw [enc_len]; exact sz_pos _)
        rw [enc_len] at this
        simp only [sz, Nat.add_sub_cancel] at this
        rw [hj]; exact this
  | .alt a b, j, h => by
    have hl := enc_len a
    have hb := enc_len b
    simp only [sz] at h
    by_cases c : j < sz a
    · have e : (subs (.alt a b)).getD j default = (subs a).getD j default := by
        simp only [subs]; rw [getD_app_l (by simp only [List.length_append, subs_len]; omega), getD_app_l (by rw [subs_len]; exact c)]
      rw [e]
      simp only [enc, joinT, List.append_assoc]
      rw [ben_left (by omega)]
      exact ben_sub a j c
    · by_cases c2 : j < sz a + sz b
      · have e : (subs (.alt a b)).getD j default = (subs b).getD (j - sz a) default := by
          simp only [subs]; rw [getD_app_l (by simp only [List.length_append, subs_len]; omega), getD_app_r (by rw [subs_len]; omega), subs_len]
        have hle := sub_le b (j - sz a) (by omega)
        rw [e]
        simp only [enc, joinT]
        have := ben_right (A := enc a) (B := enc b) (R := [⟨4, ((enc a).length : Int) - 1, ((enc a).length : Int) + (enc b).length - 1, [], ⟨#[]⟩⟩]) (j := j - sz a) (s := j - sz a + 1 - sz ((subs b).getD (j - sz a) default)) (by omega) (by omega)
        rw [← ben_sub b (j - sz a) (by omega), ← this]
        congr 1 <;> omega
      · have hj : j = sz a + sz b := by omega
        have e : (subs (.alt a b)).getD j default = .alt a b := by
          simp only [subs]; rw [getD_app_r (by simp only [List.length_append, subs_len]; omega)]
          simp only [List.length_append, subs_len]; rw [show j - (sz a + sz b) = 0 by omega]; rfl
        rw [e, show j + 1 - sz (.alt a b) = 0 by simp only [sz]; omega]
        have := ben_all (t := enc (.alt a b)) (by rw [enc_len]; exact sz_pos _)
        rw [enc_len] at this
        simp only [sz, Nat.add_sub_cancel] at this
        rw [hj]; exact this
theorem beg_sub {x : Tr} (hx : OkS x) : ∀ j, j < sz x → (begL (enc x)).getD j 0 + sz ((subs x).getD j default) = j + 1 := by
  obtain ⟨_, _, l, hb, _⟩ := goodT_iff.1 hx.good
  rw [begL_some hb]
  have hl := enc_len x
  have hnd := nodes x hx.1
  intro j
  induction j using Nat.strongRecOn with
  | ind j ih =>
    intro h
    obtain ⟨hle, hc⟩ := begs_cut hb j (by omega)
    have hn := hnd j h
    have hg : (enc x)[j]'(by omega) = (enc x).getD j default := by rw [List.getD_eq_getElem?_getD, List.getElem?_eq_getElem (by omega)]; rfl
    rw [hg] at hc
    generalize (enc x).getD j default = nd at hc hn
    generalize (subs x).getD j default = y at hn
    cases hn with
    | leaf _ hleaf =>
      obtain ⟨f1, f2⟩ := leaf_fork hleaf
      cases hc with
      | fork hk => rw [f1] at hk; cases hk
      | star _ hk => exact absurd hk f2
      | leaf _ _ _ hg => rw [hg]; simp only [sz]
    | cat i k hik =>
      cases hc with
      | fork hk c2 hb c1 ha hn hg =>
        simp only at hb ha hg
        have ek : k = j - 1 := by omega
        have h1 := ih (j - 1) (by omega) (by omega)
        have h2 := ih i (by omega) (by omega)
        rw [Int.toNat_natCast] at hg
        subst ek
        simp only [sz]
        omega
      | star hf => cases hf
      | leaf hf => cases hf
    | alt i k hik =>
      cases hc with
      | fork hk c2 hb c1 ha hn hg =>
        simp only at hb ha hg
        have ek : k = j - 1 := by omega
        have h1 := ih (j - 1) (by omega) (by omega)
        have h2 := ih i (by omega) (by omega)
        rw [Int.toNat_natCast] at hg
        subst ek
        simp only [sz]
        omega
      | star hf => cases hf
      | leaf hf => cases hf
    | star i hi =>
      cases hc with
      | fork hk => cases hk
      | star hf hk c1 ha hb hn hg =>
        simp only at ha hg
        rw [Int.toNat_natCast] at hg
        have h2 := ih i (by omega) (by omega)
        simp only [sz]
        omega
      | leaf _ hk => exact absurd rfl hk
theorem ben_at {x : Tr} (hx : OkS x) {j : Nat} (h : j < sz x) : benT (enc x) ((begL (enc x)).getD j 0) j = enc ((subs x).getD j default) := by
  have h1 := beg_sub hx j h
  rw [show (begL (enc x)).getD j 0 = j + 1 - sz ((subs x).getD j default) by omega]
  exact ben_sub x j h
noncomputable def d8 : FT := upd (upd (upd (upd (upd (upd (upd (d7) 30 k35.ora) 29 k36.ora) 31 k42.ora) 33 k43.ora) 19 k59.ora) 18 k66.ora) 100032 k100070.ora
theorem d8_ok : FTOK Tryz.prog d8 := upd_ok2 (f := 100032) (upd_ok2 (f := 18) (upd_ok2 (f := 19) (upd_ok2 (f := 33) (upd_ok2 (f := 31) (upd_ok2 (f := 29) (upd_ok2 (f := 30) (d7_ok) ook35) ook36) ook42) ook43) ook59) ook66) ook100070

theorem run1149 (x : Tr) (hx : OkS x) : cwp d8 28 [] [(AV.list 5 (List.map eNd (enc x)))] [] (fun r H => r = .list 1 (List.map (fun b => [AV.bool b]) (nuls x)) ∧ H = []) := by
  refine run_fn (fn := fn1149) rfl rfl ?_
  unfold nuls
  have lx := enc_len x
  have px := sz_pos x
  have zx := hx.2
  have hM : ((subs x).map nul).length = sz x := by rw [List.length_map, subs_len]
  have hMg : ∀ i, i < sz x → ((subs x).map nul).getD i false = nul ((subs x).getD i default) := fun i hi => by
    rw [List.getD_eq_getElem?_getD, List.getElem?_map, List.getD_eq_getElem?_getD, List.getElem?_eq_getElem (by rw [subs_len]; exact hi)]; rfl
  have hnd := nodes x hx.1
  generalize hS : subs x = S at *
  generalize hMM : S.map nul = M at *
  have hget : ∀ j, j ≤ sz x → ∀ i, i < j → (List.map (fun b => [AV.bool b]) (M.take j))[i]? = some [AV.bool (M.getD i false)] := fun j hj i hi => by
    rw [List.getElem?_map, List.getElem?_take_of_lt hi, List.getD_eq_getElem?_getD, List.getElem?_eq_getElem (by omega)]; rfl
  have hlen : ∀ j, j ≤ sz x → (M.take j).length = j := fun j hj => by simp; omega
  simp only [fn1149_body, c1149, D0, SP0, seval, -Int.reduceNatCast']
  refine lg_rule (fun j e H => e = [(0, (AV.list 5 (List.map eNd (enc x)))), (2, .own [0] 0), (3, .own [1] j), (4, .int .i64 j)] ∧ H = [[([1], .row true true 4 1 (List.map (fun b => [AV.bool b]) (M.take j))), ([0], .row true true 4 1 [])]] ∧ j ≤ sz x) (sz x) ?_ ?_
  · exact ⟨rfl, rfl, by simp⟩
  rintro j e H ⟨rfl, rfl, hj⟩
  have hlj := hlen j hj
  simp only [D0, SP0, seval, -Int.reduceNatCast', lx]
  by_cases h : j < sz x
  · have h' : (j : Int) < (sz x : Int) := by omega
    have hp := wrapp (j := j) (by omega)
    have hg := map_get (f := eNd) (l := enc x) (j := j) (by omega) default
    have hget := hget j hj
    have hsn : List.map (fun b => [AV.bool b]) (M.take j) ++ [[AV.bool (M.getD j false)]] = List.map (fun b => [AV.bool b]) (M.take (j + 1)) := by rw [take_snocB (by omega)]; simp
    have hn := hnd j h
    have hMj := hMg j h
    have hcap : (j + 1) * 1 ≤ 140737488355328 := by omega
    generalize hsj : S.getD j default = y at hn hMj
    generalize (enc x).getD j default = nd at hg hn
    rw [hMj] at hsn
    clear hsj hMj hnd
    cases hn with
    | leaf _ hleaf =>
      obtain ⟨kk, a, b, c, z⟩ := nd
      obtain ⟨f1, f2⟩ := leaf_fork hleaf
      have hk3 : (kk == 3) = false := by simp [isFork] at f1; simp [f1]
      have hk4 : (kk == 4) = false := by simp [isFork] at f1; simp [f1]
      have hk5 : (kk == 5) = false := by simpa using f2
      simp only [nul] at hsn
      by_cases k1 : kk = 1
      · subst k1
        simp only [eq_self, decide_true] at hsn
        simp only [D0, SP0, seval, -Int.reduceNatCast', hg, eNd, eSet, h', lx, hlj, hp, hcap, hsn, Int.natCast_nonneg, Int.toNat_natCast, decide_true, List.length_map]
        simp only [F1, SF0, SP0, seval, -Int.reduceNatCast']
        exact ⟨h, by omega⟩
      · have k1' : (kk == 1) = false := by simpa using k1
        simp only [k1, decide_false] at hsn
        simp only [D0, SP0, seval, -Int.reduceNatCast', hg, eNd, eSet, h', lx, hlj, hp, hcap, k1', hk3, hk4, hk5, hsn, Int.natCast_nonneg, Int.toNat_natCast, decide_true, List.length_map]
        simp only [F1, SF0, SP0, seval, -Int.reduceNatCast']
        exact ⟨h, by omega⟩
    | cat i k hik =>
      have gi := hget i hik.1
      have gk := hget k hik.2
      rw [hMg i (by omega)] at gi
      rw [hMg k (by omega)] at gk
      have hi' : (i : Int) < (j : Int) := by omega
      have hk' : (k : Int) < (j : Int) := by omega
      simp only [nul] at hsn
      generalize S.getD i default = p at *
      generalize S.getD k default = q at *
      clear hget
      cases ep : nul p <;> simp only [ep, Bool.true_and, Bool.false_and] at hsn gi
      · simp only [D0, SP0, seval, -Int.reduceNatCast', hg, eNd, eSet, h', hi', hk', gi, gk, lx, hlj, hp, hcap, hsn, Int.natCast_nonneg, Int.toNat_natCast, decide_true, List.length_map]
        simp only [F1, SF0, SP0, seval, -Int.reduceNatCast']
        exact ⟨h, by omega⟩
      · simp only [D0, SP0, seval, -Int.reduceNatCast', hg, eNd, eSet, h', hi', hk', gi, gk, lx, hlj, hp, hcap, hsn, Int.natCast_nonneg, Int.toNat_natCast, decide_true, List.length_map]
        simp only [F1, SF0, SP0, seval, -Int.reduceNatCast']
        exact ⟨h, by omega⟩
    | alt i k hik =>
      have gi := hget i hik.1
      have gk := hget k hik.2
      rw [hMg i (by omega)] at gi
      rw [hMg k (by omega)] at gk
      have hi' : (i : Int) < (j : Int) := by omega
      have hk' : (k : Int) < (j : Int) := by omega
      simp only [nul] at hsn
      generalize S.getD i default = p at *
      generalize S.getD k default = q at *
      clear hget
      cases ep : nul p <;> simp only [ep, Bool.true_or, Bool.false_or] at hsn gi
      · simp only [D0, SP0, seval, -Int.reduceNatCast', hg, eNd, eSet, h', hi', hk', gi, gk, lx, hlj, hp, hcap, hsn, Int.natCast_nonneg, Int.toNat_natCast, decide_true, List.length_map]
        simp only [F1, SF0, SP0, seval, -Int.reduceNatCast']
        exact ⟨h, by omega⟩
      · simp only [D0, SP0, seval, -Int.reduceNatCast', hg, eNd, eSet, h', hi', hk', gi, gk, lx, hlj, hp, hcap, hsn, Int.natCast_nonneg, Int.toNat_natCast, decide_true, List.length_map]
        simp only [F1, SF0, SP0, seval, -Int.reduceNatCast']
        exact ⟨h, by omega⟩
    | star i hi =>
      simp only [nul] at hsn
      clear hget
      simp only [D0, SP0, seval, -Int.reduceNatCast', hg, eNd, eSet, h', lx, hlj, hp, hcap, hsn, Int.natCast_nonneg, Int.toNat_natCast, decide_true, List.length_map]
      simp only [F1, SF0, SP0, seval, -Int.reduceNatCast']
      exact ⟨h, by omega⟩
  · have h' : ¬ (j : Int) < (sz x : Int) := by omega
    have hj2 : j = sz x := by omega
    subst hj2
    have hfin : M.take (sz x) = M := List.take_of_length_le (Nat.le_of_eq hM)
    simp only [D0, SP0, seval, -Int.reduceNatCast', h', decide_false]
    refine .inr ⟨by simp, ?_⟩
    simp only [F1, SF0, SP0, seval, -Int.reduceNatCast', fn1149_res, fn1149_keep, fz, fzd, hlj, hfin, List.length_map, hM]
noncomputable def k1149 : Kon (Tr) := ⟨fun x => OkS x, fun x => [(AV.list 5 (List.map eNd (enc x)))], fun x => .list 1 (List.map (fun b => [AV.bool b]) (nuls x))⟩
theorem e1149 (t : Tr) (hd : OkS t) (q0 : Id) (H0 : Heap) : k1149.ora q0 ([(AV.list 5 (List.map eNd (enc t)))]) H0 = some (.list 1 (List.map (fun b => [AV.bool b]) (nuls t)), H0) := k1149.eqD (trInj) (t) hd q0 H0
theorem ook1149 : OraOK Tryz.prog (28 % 100000) k1149.ora := k1149.ok orders d8_ok (fun x hd => by simp [k1149, PU]) (fun x hd => by simp [k1149, PU]) (fun x hd => run1149 x hd)

noncomputable def d9 : FT := upd (d8) 28 k1149.ora
theorem d9_ok : FTOK Tryz.prog d9 := upd_ok2 (f := 28) (d8_ok) ook1149

end Go.Proofs.Abs

set_option maxRecDepth 100000
set_option maxHeartbeats 16000000
namespace Go.Proofs.Abs
open Go
theorem derR_sub (v : Int) : ∀ (x y : Tr), y ∈ subs x → derR v y = none → derR v x = none
  | .leaf n, y, h, e => by
    rw [show y = .leaf n by simpa [subs] using h] at e; exact e
  | .star a, y, h, e => by
    simp only [subs, List.mem_append, List.mem_singleton] at h
    rcases h with h | rfl
    · simp [derR, derR_sub v a y h e]
    · exact e
  | .cat a b, y, h, e => by
    simp only [subs, List.mem_append, List.mem_singleton] at h
    rcases h with (h | h) | rfl
    · simp [derR, derR_sub v a y h e]
    · simp [derR, derR_sub v b y h e]
    · exact e
  | .alt a b, y, h, e => by
    simp only [subs, List.mem_append, List.mem_singleton] at h
    rcases h with (h | h) | rfl
    · simp [derR, derR_sub v a y h e]
    · simp [derR, derR_sub v b y h e]
    · exact e
noncomputable def byR (t : List Nd) (v : Int) : Option Tr := if goodT t && isS v then derR v (dec t) else none
theorem byR_enc {x : Tr} (hx : OkS x) (v : Int) : byR (enc x) v = oneR v x := by simp [byR, oneR, hx.good, hx.dec]
theorem nuls_get {x : Tr} {i : Nat} (h : i < sz x) : (List.map (fun b => [AV.bool b]) (nuls x))[i]? = some [AV.bool (nul ((subs x).getD i default))] := by
  have hl := subs_len x
  unfold nuls
  rw [List.getElem?_map, List.getElem?_map, List.getD_eq_getElem?_getD, List.getElem?_eq_getElem (by omega)]
  rfl
theorem ok_sub {x : Tr} (hx : OkS x) {i : Nat} (h : i < sz x) : OkS ((subs x).getD i default) := by
  have hm : (subs x).getD i default ∈ subs x := getD_memT (by rw [subs_len]; exact h)
  exact ⟨subs_ok x hx.1 _ hm, by have := subs_sz x _ hm; have := hx.2; omega⟩
theorem leafT_never {v : Int} {n : Nd} (h : ¬ n.kind = 2) : derL v n = never := by simp [derL, h]
theorem n0g : decide (((0 : Nat) : Int) > 0) = false := by decide
theorem n0e : ((((0 : Nat) : Int)) == 0) = true := rfl
theorem run1142 (t : List Nd) (v : Int) (st : SmS t) (lt : t.length ≤ 1000000) : cwp d9 11 [] [(AV.list 5 (List.map eNd t)), .int .i64 v] [] (fun r H => r = (AV.list 5 (List.map eNd (encO (byR t v)))) ∧ H = []) := by
  refine run_fn (fn := fn1142) rfl rfl ?_
  have wt := st.wf
  by_cases g1 : goodT t = true
  case neg =>
    have g1' : goodT t = false := by simpa using g1
    have hr : byR t v = none := by simp [byR, g1']
    simp only [fn1142_body, c1142, D0, SP0, seval, -Int.reduceNatCast', @use_all d9 17 k30.ora rfl, e30, wt, g1']
    simp only [F1, SF0, SP0, seval, -Int.reduceNatCast', fn1142_res, fn1142_keep, fz, fzd, fzd.fzcells, hr, encO]
  by_cases i1 : isS v = true
  case neg =>
    have i1' : isS v = false := by simpa using i1
    have hr : byR t v = none := by simp [byR, i1']
    simp only [fn1142_body, c1142, D0, SP0, seval, -Int.reduceNatCast', @use_all d9 17 k30.ora rfl, e30, @use_all d9 18 k66.ora rfl, e66, wt, g1, i1']
    simp only [F1, SF0, SP0, seval, -Int.reduceNatCast', fn1142_res, fn1142_keep, fz, fzd, fzd.fzcells, hr, encO]
  obtain ⟨x, hx, rfl⟩ := okS_of ⟨st, g1⟩
  have hbe := byR_enc hx v
  rw [hbe]
  have hone : oneR v x = derR v x := by simp [oneR, i1]
  rw [hone]
  have lx := enc_len x
  have px := sz_pos x
  have zx := hx.2
  have hwl : WfT (enc x) ∧ (enc x).length ≤ 40000 := ⟨wt, by omega⟩
  have hsub : ∀ i, i < sz x → (subs x).getD i default ∈ subs x := fun i hi => getD_memT (by rw [subs_len]; exact hi)
  have hno : ∀ i, i < sz x → derR v ((subs x).getD i default) = none → derR v x = none := fun i hi e => derR_sub v x _ (hsub i hi) e
  have hoks : ∀ i, i < sz x → OkS ((subs x).getD i default) := fun i hi => ok_sub hx hi
  have hng : ∀ i, i < sz x → (List.map (fun b => [AV.bool b]) (nuls x))[i]? = some [AV.bool (nul ((subs x).getD i default))] := fun i hi => nuls_get hi
  have hnl : (nuls x).length = sz x := by simp [nuls, subs_len]
  have hbl : (begL (enc x)).length = sz x := by
    obtain ⟨_, _, l, hb, _⟩ := goodT_iff.1 hx.good
    rw [begL_some hb, begs_len hb, lx]
  have hbg : ∀ i, i < sz x → (eNats (begL (enc x)))[i]? = some [AV.int .i64 (((begL (enc x)).getD i 0 : Nat) : Int)] := fun i hi => eNats_get (by omega)
  have hba : ∀ i, i < sz x → benT (enc x) ((begL (enc x)).getD i 0) i = enc ((subs x).getD i default) := fun i hi => ben_at hx hi
  have hble : ∀ i, i < sz x → (begL (enc x)).getD i 0 ≤ i + 1 := fun i hi => by have := beg_sub hx i hi; omega
  have hlast := subs_last x
  have hsmt := good_sm st g1
  have hnd := nodes x hx.1
  have hsl := subs_len x
  have hM : ((subs x).map fun y => (derR v y).getD default).length = sz x := by rw [List.length_map, subs_len]
  have hMg : ∀ i, i < sz x → ((subs x).map fun y => (derR v y).getD default).getD i default = (derR v ((subs x).getD i default)).getD default := fun i hi => by
    rw [List.getD_eq_getElem?_getD, List.getElem?_map, List.getD_eq_getElem?_getD, List.getElem?_eq_getElem (by rw [subs_len]; exact hi)]; rfl
  generalize hS : subs x = S at *
  generalize hMM : S.map (fun y => (derR v y).getD default) = M at *
  generalize hB : begL (enc x) = B at *
  generalize hU : nuls x = U at *
  have hget : ∀ j, j ≤ sz x → ∀ i, i < j → (List.map eTr1 (M.take j))[i]? = some (eTr1 (M.getD i default)) := fun j hj i hi => by
    rw [List.getElem?_map, List.getElem?_take_of_lt hi, List.getD_eq_getElem?_getD, List.getElem?_eq_getElem (by omega)]; rfl
  have hlen : ∀ j, j ≤ sz x → (M.take j).length = j := fun j hj => by simp; omega
  simp (maxSteps := 2000000) only [fn1142_body, c1142, D0, SP0, seval, -Int.reduceNatCast', @use_all d9 17 k30.ora rfl, e30, @use_all d9 18 k66.ora rfl, e66, @use_all d9 28 k1149.ora rfl, e1149, @use_all d9 29 k36.ora rfl, e36, wt, g1, i1, hx, hwl, hB, hU]
  refine lg_rule (fun j e H => e = [(0, (AV.list 5 (List.map eNd (enc x)))), (1, .int .i64 v), (4, .own [0] 0), (5, .list 1 (List.map (fun b => [AV.bool b]) U)), (6, .list 1 (eNats B)), (7, .own [15] j), (8, .int .i64 j)] ∧ H = [[([15], .row true true 23 1 (List.map eTr1 (M.take j))), ([0], .row true true 39 5 [])]] ∧ j ≤ sz x ∧ ∀ i, i < j → (derR v (S.getD i default)).isSome = true) (sz x) ?_ ?_
  · exact ⟨rfl, rfl, by simp, by simp⟩
  rintro j e H ⟨rfl, rfl, hj, hsm⟩
  have hlj := hlen j hj
  simp (maxSteps := 2000000) only [D0, SP0, seval, -Int.reduceNatCast', lx]
  by_cases h : j < sz x
  · have h' : (j : Int) < (sz x : Int) := by omega
    have hp := wrapp (j := j) (by omega)
    have hg := map_get (f := eNd) (l := enc x) (j := j) (by omega) default
    have hget := hget j hj
    have hsn : List.map eTr1 (M.take j) ++ [eTr1 (M.getD j default)] = List.map eTr1 (M.take (j + 1)) := by rw [take_snocT (by omega)]; simp
    have hn := hnd j h
    have hMj := hMg j h
    have hoj := hoks j h
    have hnj := hno j h
    have hcap : (j + 1) * 24 ≤ 140737488355328 := by omega
    have hsome : ∀ i, i < j → ∃ p, derR v (S.getD i default) = some p ∧ OkS p ∧ M.getD i default = p := fun i hi => by
      have := hsm i hi
      rw [Option.isSome_iff_exists] at this
      obtain ⟨p, ep⟩ := this
      exact ⟨p, ep, ok_derP v (hoks i (by omega)) (derR_P v ep), by rw [hMg i (by omega), ep]; rfl⟩
    have hnext : ∀ p, derR v (S.getD j default) = some p → ∀ i, i < j + 1 → (derR v (S.getD i default)).isSome = true := fun p e i hi => by
      by_cases k : i = j
      · rw [k, e]; rfl
      · exact hsm i (by omega)
    have hbj := hba j h
    have hbjl := hble j h
    have hbjg := hbg j h
    have dom : ∀ {x y : Tr}, OkS x → OkS y → (SmS (enc x) ∧ SmS (enc y)) ∧ (enc x).length ≤ 1000000 ∧ (enc y).length ≤ 1000000 := fun hx hy => ⟨⟨hx.sm, hy.sm⟩, by have := hx.len; omega, by have := hy.len; omega⟩
    generalize hsj : S.getD j default = y at hn hMj hoj hnj hnext hbj
    generalize (enc x).getD j default = nd at hg hn
    cases hn with
    | leaf _ hleaf =>
      have hd : derR v (.leaf nd) = some (derL v nd) := rfl
      have hnx := hnext _ hd
      rw [hd, Option.getD_some] at hMj
      have hset := hoj.1.2.2
      have hk01 := leaf_kind hleaf
      have hno2 := leafT_never (v := v) (n := nd)
      have hyes : nd.kind = 2 → hasS nd.set v = true → derL v nd = empty := fun a b => by simp [derL, a, b]
      have hnot : nd.kind = 2 → hasS nd.set v = false → derL v nd = never := fun a b => by simp [derL, b]
      obtain ⟨kk, a, b, c, z⟩ := nd
      obtain ⟨f1, f2⟩ := leaf_fork hleaf
      have hk3 : (kk == 3) = false := by simp [isFork] at f1; simp [f1]
      have hk4 : (kk == 4) = false := by simp [isFork] at f1; simp [f1]
      have hk5 : (kk == 5) = false := by simpa using f2
      have hcl : c.length ≤ 9223372036854775807 := by simp only at hset; omega
      by_cases k2 : kk = 2
      · subst k2
        cases hh : hasS c v with
        | true =>
          rw [hyes rfl hh] at hMj
          rw [hMj] at hsn
          simp only [eTr1, ← leafT1] at hsn
          have hne : ((List.length (leafT 1) : Int) == 0) = false := rfl
          simp (maxSteps := 2000000) only [D0, SP0, seval, -Int.reduceNatCast', @use_all d9 30 k35.ora rfl, e35, @use_all d9 19 k59.ora rfl, e59, hg, eNd, eSet, h', lx, hlj, hcl, hh, hp, hne, hcap, fz, fzd, hsn, Int.natCast_nonneg, Int.toNat_natCast, decide_true, List.length_map]
          simp only [F1, SF0, SP0, seval, -Int.reduceNatCast']
          exact ⟨h, by omega, hnx⟩
        | false =>
          rw [hnot rfl hh] at hMj
          rw [hMj] at hsn
          simp only [eTr1, ← leafT0] at hsn
          have hne : ((List.length (leafT 0) : Int) == 0) = false := rfl
          simp (maxSteps := 2000000) only [D0, SP0, seval, -Int.reduceNatCast', @use_all d9 30 k35.ora rfl, e35, @use_all d9 19 k59.ora rfl, e59, hg, eNd, eSet, h', lx, hlj, hcl, hh, hp, hne, hcap, fz, fzd, hsn, Int.natCast_nonneg, Int.toNat_natCast, decide_true, List.length_map]
          simp only [F1, SF0, SP0, seval, -Int.reduceNatCast']
          exact ⟨h, by omega, hnx⟩
      · have hk2 : (kk == 2) = false := by simpa using k2
        rw [hno2 k2] at hMj
        rw [hMj] at hsn
        simp only [eTr1, ← leafT0] at hsn
        have hne : ((List.length (leafT 0) : Int) == 0) = false := rfl
        simp (maxSteps := 2000000) only [D0, SP0, seval, -Int.reduceNatCast', @use_all d9 30 k35.ora rfl, e35, hg, eNd, eSet, h', lx, hlj, hk2, hk3, hk4, hk5, hp, hne, hcap, fz, fzd, hsn, Int.natCast_nonneg, Int.toNat_natCast, decide_true, List.length_map]
        simp only [F1, SF0, SP0, seval, -Int.reduceNatCast']
        exact ⟨h, by omega, hnx⟩
    | cat i k hik =>
      obtain ⟨p, ep, op, mp⟩ := hsome i hik.1
      obtain ⟨q, eq, oq, mq⟩ := hsome k hik.2
      have gi := hget i hik.1
      have gk := hget k hik.2
      rw [mp] at gi
      rw [mq] at gk
      have gn := hng i (by omega)
      have gb := hbg k (by omega)
      have gbl := hble k (by omega)
      have ba := hba k (by omega)
      have hi' : (i : Int) < (sz x : Int) := by omega
      have hk' : (k : Int) < (sz x : Int) := by omega
      have hij : (i : Int) < (j : Int) := by omega
      have hkj : (k : Int) < (j : Int) := by omega
      have hbenk : SmT (enc x) ∧ k < (enc x).length ∧ B.getD k 0 ≤ k + 1 := ⟨hsmt, by omega, gbl⟩
      have e70' := e100070 (enc x) (B.getD k 0) k hbenk
      rw [ba] at e70'
      obtain ⟨oi, ok⟩ := hoj.c
      have hder : derR v (.cat (S.getD i default) (S.getD k default)) = (catO p (S.getD k default)).bind fun t => if nul (S.getD i default) then altO t q else some t := by simp only [derR, ep, eq, Option.bind_some]
      rw [hder] at hMj hnj hnext
      clear hoks hng hbg hble hba hsome hsm hget hnd hMg hno ep eq hbj hbjl hbjg hbenk ba gbl
      generalize S.getD i default = a at *
      generalize S.getD k default = b at *
      generalize B.getD k 0 = bk at *
      have ec := catT_enc op ok
      have dc := dom op ok
      simp only [eTr1] at gi gk
      cases e1 : catO p b with
      | none =>
        have hr := hnj (by simp [e1])
        simp (maxSteps := 2000000) only [D0, SP0, seval, -Int.reduceNatCast', @use_all d9 100032 k100070.ora rfl, e70', @use_all d9 30 k35.ora rfl, e35, @use_all d9 31 k42.ora rfl, e42, hg, eNd, eSet, h', hij, hkj, hi', hk', gi, gk, gn, gb, lx, hlj, dc, ec, e1, encO, n0g, n0e, fz, fzd, lrc_x, apx, apart, apart1, needs, Int.natCast_nonneg, Int.toNat_natCast, decide_true, List.length_map, hnl, hbl, eNats_len]
        simp only [F1, SF0, SP0, seval, -Int.reduceNatCast', fn1142_res, fn1142_keep, fz, fzd, fzd.fzcells, hr, encO]
      | some c =>
        have oc := ok_catO op ok e1
        have cne := oc.ne
        have hg0 : ((enc c).length : Int) > 0 := by omega
        have hz0 : (((enc c).length : Int) == 0) = false := beq_no (by omega)
        by_cases hna : nul a = true
        · have e2' := altT_enc oc oq
          have dc2 := dom oc oq
          cases e2 : altO c q with
          | none =>
            have hr := hnj (by simp [e1, hna, e2])
            simp (maxSteps := 2000000) only [D0, SP0, seval, -Int.reduceNatCast', @use_all d9 100032 k100070.ora rfl, e70', @use_all d9 30 k35.ora rfl, e35, @use_all d9 31 k42.ora rfl, e42, @use_all d9 33 k43.ora rfl, e43, hg, eNd, eSet, h', hij, hkj, hi', hk', gi, gk, gn, gb, lx, hlj, dc, ec, e1, hg0, hna, dc2, e2', e2, encO, n0g, n0e, fz, fzd, lrc_x, apx, apart, apart1, needs, Int.natCast_nonneg, Int.toNat_natCast, decide_true, List.length_map, hnl, hbl, eNats_len]
            simp only [F1, SF0, SP0, seval, -Int.reduceNatCast', fn1142_res, fn1142_keep, fz, fzd, fzd.fzcells, hr, encO]
          | some d =>
            have od := ok_altO oc oq e2
            have dne := od.ne
            have hzd : (((enc d).length : Int) == 0) = false := beq_no (by omega)
            have hnx := hnext d (by simp [e1, hna, e2])
            have hMj' : M.getD j default = d := by rw [hMj]; simp [e1, hna, e2]
            rw [hMj'] at hsn
            simp only [eTr1] at hsn
            simp (maxSteps := 2000000) only [D0, SP0, seval, -Int.reduceNatCast', @use_all d9 100032 k100070.ora rfl, e70', @use_all d9 30 k35.ora rfl, e35, @use_all d9 31 k42.ora rfl, e42, @use_all d9 33 k43.ora rfl, e43, hg, eNd, eSet, h', hij, hkj, hi', hk', gi, gk, gn, gb, lx, hlj, dc, ec, e1, hg0, hna, dc2, e2', e2, hzd, hp, hcap, hsn, encO, fz, fzd, lrc_x, apx, apart, apart1, needs, Int.natCast_nonneg, Int.toNat_natCast, decide_true, List.length_map, hnl, hbl, eNats_len]
            simp only [F1, SF0, SP0, seval, -Int.reduceNatCast']
            exact ⟨h, by omega, hnx⟩
        · have hna' : nul a = false := by simpa using hna
          have hnx := hnext c (by simp [e1, hna'])
          have hMj' : M.getD j default = c := by rw [hMj]; simp [e1, hna']
          rw [hMj'] at hsn
          simp only [eTr1] at hsn
          simp (maxSteps := 2000000) only [D0, SP0, seval, -Int.reduceNatCast', @use_all d9 100032 k100070.ora rfl, e70', @use_all d9 30 k35.ora rfl, e35, @use_all d9 31 k42.ora rfl, e42, hg, eNd, eSet, h', hij, hkj, hi', hk', gi, gk, gn, gb, lx, hlj, dc, ec, e1, hg0, hna', hz0, hp, hcap, hsn, encO, fz, fzd, lrc_x, apx, apart, apart1, needs, Int.natCast_nonneg, Int.toNat_natCast, decide_true, List.length_map, hnl, hbl, eNats_len]
          simp only [F1, SF0, SP0, seval, -Int.reduceNatCast']
          exact ⟨h, by omega, hnx⟩
    | alt i k hik =>
      obtain ⟨p, ep, op, mp⟩ := hsome i hik.1
      obtain ⟨q, eq, oq, mq⟩ := hsome k hik.2
      have gi := hget i hik.1
      have gk := hget k hik.2
      rw [mp] at gi
      rw [mq] at gk
      have hij : (i : Int) < (j : Int) := by omega
      have hkj : (k : Int) < (j : Int) := by omega
      have hder : derR v (.alt (S.getD i default) (S.getD k default)) = altO p q := by simp only [derR, ep, eq, Option.bind_some]
      rw [hder] at hMj hnj hnext
      have e2' := altT_enc op oq
      have dc2 := dom op oq
      simp only [eTr1] at gi gk
      clear hoks hng hbg hble hba hsome hsm hget hnd hMg hno ep eq hbj hbjl hbjg
      cases e2 : altO p q with
      | none =>
        have hr := hnj e2
        simp (maxSteps := 2000000) only [D0, SP0, seval, -Int.reduceNatCast', @use_all d9 30 k35.ora rfl, e35, @use_all d9 33 k43.ora rfl, e43, hg, eNd, eSet, h', hij, hkj, gi, gk, lx, hlj, dc2, e2', e2, encO, n0g, n0e, fz, fzd, lrc_x, apx, apart, apart1, needs, Int.natCast_nonneg, Int.toNat_natCast, decide_true, List.length_map]
        simp only [F1, SF0, SP0, seval, -Int.reduceNatCast', fn1142_res, fn1142_keep, fz, fzd, fzd.fzcells, hr, encO]
      | some d =>
        have od := ok_altO op oq e2
        have dne := od.ne
        have hzd : (((enc d).length : Int) == 0) = false := beq_no (by omega)
        have hnx := hnext d e2
        have hMj' : M.getD j default = d := by rw [hMj, e2]; rfl
        rw [hMj'] at hsn
        simp only [eTr1] at hsn
        simp (maxSteps := 2000000) only [D0, SP0, seval, -Int.reduceNatCast', @use_all d9 30 k35.ora rfl, e35, @use_all d9 33 k43.ora rfl, e43, hg, eNd, eSet, h', hij, hkj, gi, gk, lx, hlj, dc2, e2', e2, hzd, hp, hcap, hsn, encO, fz, fzd, lrc_x, apx, apart, apart1, needs, Int.natCast_nonneg, Int.toNat_natCast, decide_true, List.length_map]
        simp only [F1, SF0, SP0, seval, -Int.reduceNatCast']
        exact ⟨h, by omega, hnx⟩
    | star i hi =>
      obtain ⟨p, ep, op, mp⟩ := hsome i hi
      have gi := hget i hi
      rw [mp] at gi
      have hij : (i : Int) < (j : Int) := by omega
      have hbenj : SmT (enc x) ∧ j < (enc x).length ∧ B.getD j 0 ≤ j + 1 := ⟨hsmt, by omega, hbjl⟩
      have e70' := e100070 (enc x) (B.getD j 0) j hbenj
      rw [hbj] at e70'
      have hder : derR v (.star (S.getD i default)) = catO p (.star (S.getD i default)) := by simp only [derR, ep, Option.bind_some]
      rw [hder] at hMj hnj hnext
      clear hoks hng hbg hble hba hsome hsm hget hnd hMg hno ep hbj hbjl
      generalize S.getD i default = a at *
      generalize B.getD j 0 = bk at *
      have ec := catT_enc op hoj
      have dc := dom op hoj
      generalize enc (.star a) = sa at *
      simp only [eTr1] at gi
      cases e1 : catO p (.star a) with
      | none =>
        have hr := hnj e1
        simp (maxSteps := 2000000) only [D0, SP0, seval, -Int.reduceNatCast', @use_all d9 100032 k100070.ora rfl, e70', @use_all d9 30 k35.ora rfl, e35, @use_all d9 31 k42.ora rfl, e42, hg, eNd, eSet, h', hij, gi, hbjg, lx, hlj, dc, ec, e1, encO, n0g, n0e, fz, fzd, lrc_x, apx, apart, apart1, needs, Int.natCast_nonneg, Int.toNat_natCast, decide_true, List.length_map, hbl, eNats_len]
        simp only [F1, SF0, SP0, seval, -Int.reduceNatCast', fn1142_res, fn1142_keep, fz, fzd, fzd.fzcells, hr, encO]
      | some c =>
        have oc := ok_catO op hoj e1
        have cne := oc.ne
        have hz0 : (((enc c).length : Int) == 0) = false := beq_no (by omega)
        have hnx := hnext c e1
        have hMj' : M.getD j default = c := by rw [hMj, e1]; rfl
        rw [hMj'] at hsn
        simp only [eTr1] at hsn
        simp (maxSteps := 2000000) only [D0, SP0, seval, -Int.reduceNatCast', @use_all d9 100032 k100070.ora rfl, e70', @use_all d9 30 k35.ora rfl, e35, @use_all d9 31 k42.ora rfl, e42, hg, eNd, eSet, h', hij, gi, hbjg, lx, hlj, dc, ec, e1, hz0, hp, hcap, hsn, encO, fz, fzd, lrc_x, apx, apart, apart1, needs, Int.natCast_nonneg, Int.toNat_natCast, decide_true, List.length_map, hbl, eNats_len]
        simp only [F1, SF0, SP0, seval, -Int.reduceNatCast']
        exact ⟨h, by omega, hnx⟩
  · have h' : ¬ (j : Int) < (sz x : Int) := by omega
    have hj2 : j = sz x := by omega
    subst hj2
    have wm := wrapm (j := sz x) (by omega) (by omega)
    have gl := hget (sz x) (by omega) (sz x - 1) (by omega)
    have hs := hsm (sz x - 1) (by omega)
    rw [hMg _ (by omega), hlast] at gl
    rw [hlast, Option.isSome_iff_exists] at hs
    obtain ⟨c, ec⟩ := hs
    rw [ec, Option.getD_some] at gl
    have hl2 : ((sz x - 1 : Nat) : Int) < (sz x : Int) := by omega
    simp only [eTr1] at gl
    simp (maxSteps := 2000000) only [D0, SP0, seval, -Int.reduceNatCast', h', decide_false]
    refine .inr ⟨by simp, ?_⟩
    simp only [D0, SP0, seval, -Int.reduceNatCast', lx, wm, hlj, gl, hl2, Int.natCast_nonneg, Int.toNat_natCast, List.length_map]
    simp only [F1, SF0, SP0, seval, -Int.reduceNatCast', fn1142_res, fn1142_keep, fz, fzd, fzd.fzcells, ec, encO]
noncomputable def k1142 : Kon (List Nd × Int) := ⟨fun x => SmS x.1 ∧ x.1.length ≤ 1000000, fun x => [(AV.list 5 (List.map eNd x.1)), .int .i64 x.2], fun x => (AV.list 5 (List.map eNd (encO (byR x.1 x.2))))⟩
theorem e1142 (t : List Nd) (v : Int) (hd : SmS t ∧ t.length ≤ 1000000) (q0 : Id) (H0 : Heap) : k1142.ora q0 ([(AV.list 5 (List.map eNd t)), .int .i64 v]) H0 = some ((AV.list 5 (List.map eNd (encO (byR t v)))), H0) := k1142.eq (treeIntInj) (t, v) hd q0 H0
theorem ook1142 : OraOK Tryz.prog (11 % 100000) k1142.ora := k1142.ok orders d9_ok (fun x hd => by simp [k1142, PU]) (fun x hd => by simp [k1142, PU]) (fun x hd => run1142 x.1 x.2 hd.1 hd.2)

noncomputable def d10 : FT := upd (d9) 11 k1142.ora
theorem d10_ok : FTOK Tryz.prog d10 := upd_ok2 (f := 11) (d9_ok) ook1142

end Go.Proofs.Abs
