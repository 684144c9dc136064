/- A part of a proof: the text that states the row tells what is proved. No condition is laid on anything. -/
import Derived.Test.YtdmnnbmjhpoipaaGreatDoorAbsGk
import Derived.Test.YtdmnnbmjhpoipaaGreatDoorAbsGj
import Derived.Test.YtdmnnbmjhpoipaaGreatDoorAbsWZ
set_option linter.all false
set_option linter.constructorNameAsVariable false
set_option linter.defProp false
set_option linter.unusedVariables false
set_option linter.unusedSimpArgs false
set_option maxRecDepth 100000
namespace Go.Proofs.Abs
open Go
def nul : Tr → Bool
  | .leaf n => decide (n.kind = 1)
  | .cat a b => nul a && nul b
  | .alt a b => nul a || nul b
  | .star _ => true
def derL (v : Int) (n : Nd) : Tr := if n.kind = 2 ∧ hasS n.set v = true then empty else never
def derR (v : Int) : Tr → Option Tr
  | .leaf n => some (derL v n)
  | .cat a b => (derR v a).bind fun p => (derR v b).bind fun q => (catO p b).bind fun t => if nul a then altO t q else some t
  | .alt a b => (derR v a).bind fun p => (derR v b).bind fun q => altO p q
  | .star a => (derR v a).bind fun p => catO p (.star a)
def derP (v : Int) : Tr → Option Tr
  | .leaf n => some (derL v n)
  | .cat a b => (derP v a).bind fun p => if nul a then (derP v b).bind fun q => (catO p b).bind fun t => altO t q else catO p b
  | .alt a b => (derP v a).bind fun p => (derP v b).bind fun q => altO p q
  | .star a => (derP v a).bind fun p => catO p (.star a)
def sDer (v : Int) : Tr → Tr
  | .leaf n => derL v n
  | .cat a b => if nul a then sAlt (sCat (sDer v a) b) (sDer v b) else sCat (sDer v a) b
  | .alt a b => sAlt (sDer v a) (sDer v b)
  | .star a => sCat (sDer v a) (.star a)
theorem ok_derL (v : Int) (n : Nd) : Ok (derL v n) ∧ sz (derL v n) = 1 := by
  unfold derL; split
  · exact ⟨okS_empty.1, rfl⟩
  · exact ⟨okS_never.1, rfl⟩
theorem ok_sDer (v : Int) : ∀ x, Ok x → Ok (sDer v x)
  | .leaf n, _ => (ok_derL v n).1
  | .cat a b, h => by
    simp only [sDer]; split
    · exact ok_sAlt (ok_sCat b _ (ok_sDer v a h.1) h.2) (ok_sDer v b h.2)
    · exact ok_sCat b _ (ok_sDer v a h.1) h.2
  | .alt a b, h => ok_sAlt (ok_sDer v a h.1) (ok_sDer v b h.2)
  | .star a, h => ok_sCat (.star a) _ (ok_sDer v a h) h
theorem sz_sDer (v : Int) : ∀ x, sz (sDer v x) ≤ sz x * sz x
  | .leaf n => by simp only [sDer, (ok_derL v n).2]; exact Nat.le_refl _
  | .cat a b => by
    have h1 := sz_sDer v a
    have h2 := sz_sDer v b
    have h3 := sz_sCat b (sDer v a)
    have h4 := sz_sAlt (sCat (sDer v a) b) (sDer v b)
    have p1 := sz_pos a
    have p2 := sz_pos b
    have e : sz (Tr.cat a b) * sz (Tr.cat a b) = sz a * sz a + sz b * sz b + 2 * (sz a * sz b) + 2 * sz a + 2 * sz b + 1 := by
      simp only [sz]
      have : (sz a + sz b + 1) * (sz a + sz b + 1) = sz a * sz a + sz b * sz b + 2 * (sz a * sz b) + 2 * sz a + 2 * sz b + 1 := by
        simp only [Nat.add_mul, Nat.mul_add, Nat.mul_comm (sz b) (sz a)]; omega
      exact this
    rw [e]
    simp only [sDer]; split <;> omega
  | .alt a b => by
    have h1 := sz_sDer v a
    have h2 := sz_sDer v b
    have h4 := sz_sAlt (sDer v a) (sDer v b)
    have e : sz (Tr.alt a b) * sz (Tr.alt a b) = sz a * sz a + sz b * sz b + 2 * (sz a * sz b) + 2 * sz a + 2 * sz b + 1 := by
      simp only [sz]
      have : (sz a + sz b + 1) * (sz a + sz b + 1) = sz a * sz a + sz b * sz b + 2 * (sz a * sz b) + 2 * sz a + 2 * sz b + 1 := by
        simp only [Nat.add_mul, Nat.mul_add, Nat.mul_comm (sz b) (sz a)]; omega
      exact this
    rw [e]
    simp only [sDer]; omega
  | .star a => by
    have h1 := sz_sDer v a
    have h3 := sz_sCat (.star a) (sDer v a)
    have p1 := sz_pos a
    have e : sz (Tr.star a) * sz (Tr.star a) = sz a * sz a + 2 * sz a + 1 := by
      simp only [sz]
      have : (sz a + 1) * (sz a + 1) = sz a * sz a + 2 * sz a + 1 := by
        simp only [Nat.add_mul, Nat.mul_add]; omega
      exact this
    rw [e]
    simp only [sDer]
    simp only [sz] at h3
    omega
theorem sCat_leaf (a : Tr) (n : Nd) : sCat a (.leaf n) = if rk a = 0 ∨ rk (Tr.leaf n) = 0 then never else if rk a = 1 then .leaf n else if rk (Tr.leaf n) = 1 then a else .cat a (.leaf n) := rfl
theorem cat1_of {a b c : Tr} (hs : sCat a b = if rk a = 0 ∨ rk b = 0 then never else if rk a = 1 then b else if rk b = 1 then a else .cat a b) (h : cat1 a b = some c) : c = sCat a b := by
  rw [hs]
  unfold cat1 at h
  split at h
  · rename_i k; rw [if_pos k]; simpa using h.symm
  · rename_i k; rw [if_neg k]
    split at h
    · rename_i k1; rw [if_pos k1]; simpa using h.symm
    · rename_i k1; rw [if_neg k1]
      split at h
      · rename_i k2; rw [if_pos k2]; simpa using h.symm
      · rename_i k2; rw [if_neg k2]
        unfold joinO at h
        split at h
        · simpa using h.symm
        · cases h
theorem catO_eq : ∀ {b a c : Tr}, catO a b = some c → c = sCat a b
  | .leaf n, a, c, h => cat1_of (sCat_leaf a n) h
  | .alt x y, a, c, h => cat1_of (b := .alt x y) (by
      have e : rk (.alt x y) = 4 := rfl
      simp [sCat, e]) h
  | .star x, a, c, h => cat1_of (b := .star x) (by
      have e : rk (.star x) = 5 := rfl
      simp [sCat, e]) h
  | .cat x y, a, c, h => by
    simp only [catO] at h
    simp only [sCat]
    by_cases k : rk a = 0
    · rw [if_pos k] at h ⊢; simpa using h.symm
    · rw [if_neg k] at h ⊢
      by_cases k1 : rk a = 1
      · rw [if_pos k1] at h ⊢; simpa using h.symm
      · rw [if_neg k1] at h ⊢
        rw [Option.bind_eq_some_iff] at h
        obtain ⟨d, h1, h2⟩ := h
        have e := catO_eq h1
        subst e
        exact catO_eq h2
theorem altsO_eq : ∀ {r : List Tr} {x c : Tr}, altsO x r = some c → c = r.foldl .alt x
  | [], x, c, h => by simpa [altsO] using h.symm
  | y :: r, x, c, h => by
    simp only [altsO, Option.bind_eq_some_iff] at h
    obtain ⟨d, h1, h2⟩ := h
    unfold joinO at h1
    split at h1
    · rw [if_neg (by decide), Option.some.injEq] at h1
      subst h1
      exact altsO_eq (r := r) (x := .alt x y) h2
    · cases h1
theorem altO_eq {a b c : Tr} (h : altO a b = some c) : c = sAlt a b := by
  unfold altO at h
  unfold sAlt
  by_cases k : rk a = 0
  · rw [if_pos k] at h ⊢; simpa using h.symm
  · rw [if_neg k] at h ⊢
    by_cases k1 : rk b = 0
    · rw [if_pos k1] at h ⊢; simpa using h.symm
    · rw [if_neg k1] at h ⊢
      generalize onceT (mems a ++ mems b) = L at h
      cases L with
      | nil => cases h
      | cons y r => exact altsO_eq h
theorem derP_eq (v : Int) : ∀ {x c : Tr}, derP v x = some c → c = sDer v x
  | .leaf n, c, h => by simpa [derP, sDer] using h.symm
  | .cat a b, c, h => by
    simp only [derP, Option.bind_eq_some_iff] at h
    obtain ⟨p, h1, h2⟩ := h
    have e1 := derP_eq v h1
    subst e1
    simp only [sDer]
    split at h2
    · rename_i k
      rw [if_pos k]
      simp only [Option.bind_eq_some_iff] at h2
      obtain ⟨q, h3, t, h4, h5⟩ := h2
      have e2 := derP_eq v h3
      subst e2
      have e3 := catO_eq h4
      subst e3
      exact altO_eq h5
    · rename_i k
      rw [if_neg k]
      exact catO_eq h2
  | .alt a b, c, h => by
    simp only [derP, Option.bind_eq_some_iff] at h
    obtain ⟨p, h1, q, h2, h3⟩ := h
    have e1 := derP_eq v h1
    have e2 := derP_eq v h2
    subst e1; subst e2
    exact altO_eq h3
  | .star a, c, h => by
    simp only [derP, Option.bind_eq_some_iff] at h
    obtain ⟨p, h1, h2⟩ := h
    have e1 := derP_eq v h1
    subst e1
    exact catO_eq h2
theorem ok_derP (v : Int) : ∀ {x c : Tr}, OkS x → derP v x = some c → OkS c
  | .leaf n, c, _, h => by
    simp only [derP, Option.some.injEq] at h
    subst h
    exact ⟨(ok_derL v n).1, by rw [(ok_derL v n).2]; decide⟩
  | .cat a b, c, hx, h => by
    obtain ⟨ha, hb⟩ := hx.c
    simp only [derP, Option.bind_eq_some_iff] at h
    obtain ⟨p, h1, h2⟩ := h
    have op := ok_derP v ha h1
    split at h2
    · simp only [Option.bind_eq_some_iff] at h2
      obtain ⟨q, h3, t, h4, h5⟩ := h2
      exact ok_altO (ok_catO op hb h4) (ok_derP v hb h3) h5
    · exact ok_catO op hb h2
  | .alt a b, c, hx, h => by
    obtain ⟨ha, hb⟩ := hx.l
    simp only [derP, Option.bind_eq_some_iff] at h
    obtain ⟨p, h1, q, h2, h3⟩ := h
    exact ok_altO (ok_derP v ha h1) (ok_derP v hb h2) h3
  | .star a, c, hx, h => by
    simp only [derP, Option.bind_eq_some_iff] at h
    obtain ⟨p, h1, h2⟩ := h
    exact ok_catO (ok_derP v hx.s h1) hx h2
theorem sq_le {a : Nat} (h : a ≤ 199) : a * a ≤ 39601 := Nat.le_trans (Nat.mul_le_mul h h) (by decide)
theorem derP_small (v : Int) : ∀ x, sz x ≤ 199 → derP v x = some (sDer v x)
  | .leaf n, _ => rfl
  | .cat a b, h => by
    have hs := sq_le h
    have p1 := sz_pos a
    have p2 := sz_pos b
    simp only [sz] at h
    have h1 := sz_sDer v a
    have h2 := sz_sDer v b
    have h3 := sz_sCat b (sDer v a)
    have e : sz (Tr.cat a b) * sz (Tr.cat a b) = sz a * sz a + sz b * sz b + 2 * (sz a * sz b) + 2 * sz a + 2 * sz b + 1 := by
      simp only [sz]
      have : (sz a + sz b + 1) * (sz a + sz b + 1) = sz a * sz a + sz b * sz b + 2 * (sz a * sz b) + 2 * sz a + 2 * sz b + 1 := by
        simp only [Nat.add_mul, Nat.mul_add, Nat.mul_comm (sz b) (sz a)]; omega
      exact this
    rw [e] at hs
    have c1 := catO_some b (sDer v a) (by omega)
    have c2 := altO_some (a := sCat (sDer v a) b) (b := sDer v b) (by omega)
    simp only [derP, sDer, derP_small v a (by omega), derP_small v b (by omega), Option.bind_some, c1, c2]
    split <;> rfl
  | .alt a b, h => by
    have hs := sq_le h
    simp only [sz] at h
    have h1 := sz_sDer v a
    have h2 := sz_sDer v b
    have e : sz (Tr.alt a b) * sz (Tr.alt a b) = sz a * sz a + sz b * sz b + 2 * (sz a * sz b) + 2 * sz a + 2 * sz b + 1 := by
      simp only [sz]
      have : (sz a + sz b + 1) * (sz a + sz b + 1) = sz a * sz a + sz b * sz b + 2 * (sz a * sz b) + 2 * sz a + 2 * sz b + 1 := by
        simp only [Nat.add_mul, Nat.mul_add, Nat.mul_comm (sz b) (sz a)]; omega
      exact this
    rw [e] at hs
    have c2 := altO_some (a := sDer v a) (b := sDer v b) (by omega)
    simp only [derP, sDer, derP_small v a (by omega), derP_small v b (by omega), Option.bind_some, c2]
  | .star a, h => by
    have hs := sq_le h
    simp only [sz] at h
    have h1 := sz_sDer v a
    have e : sz (Tr.star a) * sz (Tr.star a) = sz a * sz a + 2 * sz a + 1 := by
      simp only [sz]
      have : (sz a + 1) * (sz a + 1) = sz a * sz a + 2 * sz a + 1 := by
        simp only [Nat.add_mul, Nat.mul_add]; omega
      exact this
    rw [e] at hs
    have c1 := catO_some (.star a) (sDer v a) (by simp only [sz]; omega)
    simp only [derP, sDer, derP_small v a (by omega), Option.bind_some, c1]
theorem derR_P (v : Int) : ∀ {x c : Tr}, derR v x = some c → derP v x = some c
  | .leaf n, c, h => h
  | .cat a b, c, h => by
    simp only [derR, Option.bind_eq_some_iff] at h
    obtain ⟨p, h1, q, h2, t, h3, h4⟩ := h
    simp only [derP, derR_P v h1, derR_P v h2, Option.bind_some, h3]
    split at h4
    · rename_i k; rw [if_pos k]; exact h4
    · rename_i k; rw [if_neg k]; exact h4
  | .alt a b, c, h => by
    simp only [derR, Option.bind_eq_some_iff] at h
    obtain ⟨p, h1, q, h2, h3⟩ := h
    simp only [derP, derR_P v h1, derR_P v h2, Option.bind_some, h3]
  | .star a, c, h => by
    simp only [derR, Option.bind_eq_some_iff] at h
    obtain ⟨p, h1, h2⟩ := h
    simp only [derP, derR_P v h1, Option.bind_some, h2]
theorem derR_small (v : Int) : ∀ x, sz x ≤ 199 → derR v x = derP v x
  | .leaf n, _ => rfl
  | .cat a b, h => by
    have hb := derP_small v b (by simp only [sz] at h; omega)
    simp only [sz] at h
    simp only [derR, derP, derR_small v a (by omega), derR_small v b (by omega), hb, Option.bind_some]
    congr 1; funext p
    split
    · rfl
    · cases catO p b <;> rfl
  | .alt a b, h => by
    simp only [sz] at h
    simp only [derR, derP, derR_small v a (by omega), derR_small v b (by omega)]
  | .star a, h => by
    simp only [sz] at h
    simp only [derR, derP, derR_small v a (by omega)]
def Rb : Tr → Prop
  | .leaf _ => True
  | .cat a b => Rb a ∧ sz b ≤ 199
  | .alt a b => Rb a ∧ Rb b
  | .star a => sz a ≤ 198
theorem rb_small : ∀ x, sz x ≤ 199 → Rb x
  | .leaf _, _ => trivial
  | .cat a b, h => by simp only [sz] at h; exact ⟨rb_small a (by omega), by omega⟩
  | .alt a b, h => by simp only [sz] at h; exact ⟨rb_small a (by omega), rb_small b (by omega)⟩
  | .star a, h => by simp only [sz] at h; simp only [Rb]; omega
theorem derR_eq (v : Int) : ∀ x, Rb x → derR v x = derP v x
  | .leaf n, _ => rfl
  | .cat a b, h => by
    have hb := derP_small v b h.2
    simp only [derR, derP, derR_eq v a h.1, derR_small v b h.2, hb, Option.bind_some]
    congr 1; funext p
    split
    · rfl
    · cases catO p b <;> rfl
  | .alt a b, h => by simp only [derR, derP, derR_eq v a h.1, derR_eq v b h.2]
  | .star a, h => by
    simp only [Rb] at h
    simp only [derR, derP, derR_small v a (by omega)]
theorem rb_cat : ∀ {b a : Tr}, Rb a → sz b ≤ 199 → Rb (sCat a b)
  | .leaf n, a, ha, hb => by
    simp only [sCat]
    split
    · trivial
    · split
      · trivial
      · split
        · exact ha
        · exact ⟨ha, hb⟩
  | .alt x y, a, ha, hb => by
    simp only [sCat]
    split
    · trivial
    · split
      · exact rb_small _ hb
      · exact ⟨ha, hb⟩
  | .star x, a, ha, hb => by
    simp only [sCat]
    split
    · trivial
    · split
      · exact rb_small _ hb
      · exact ⟨ha, hb⟩
  | .cat x y, a, ha, hb => by
    simp only [sz] at hb
    simp only [sCat]
    split
    · trivial
    · split
      · exact rb_small _ (by simp only [sz]; omega)
      · exact rb_cat (rb_cat ha (by omega)) (by omega)
theorem rb_mems : ∀ {a : Tr}, Rb a → ∀ m ∈ mems a, Rb m
  | .leaf n, _, m, hm => by rw [show m = .leaf n by simpa [mems] using hm]; trivial
  | .cat a b, h, m, hm => by rw [show m = .cat a b by simpa [mems] using hm]; exact h
  | .star a, h, m, hm => by rw [show m = .star a by simpa [mems] using hm]; exact h
  | .alt a b, h, m, hm => by
    simp only [mems, List.mem_append] at hm
    exact hm.elim (rb_mems h.1 m) (rb_mems h.2 m)
theorem rb_alts : ∀ (r : List Tr) (x : Tr), Rb x → (∀ m ∈ r, Rb m) → Rb (r.foldl .alt x)
  | [], x, hx, _ => hx
  | y :: r, x, hx, h => rb_alts r _ ⟨hx, h y (by simp)⟩ fun m hm => h m (by simp [hm])
theorem rb_alt {a b : Tr} (ha : Rb a) (hb : Rb b) : Rb (sAlt a b) := by
  unfold sAlt
  split
  · exact hb
  · split
    · exact ha
    · have h : ∀ m ∈ onceT (mems a ++ mems b), Rb m := fun m hm => by
        have := (onceT_sub _).subset hm
        rw [List.mem_append] at this
        exact this.elim (rb_mems ha m) (rb_mems hb m)
      have hne := onceT_ne (l := mems a ++ mems b) (by simp [mems_ne])
      generalize onceT (mems a ++ mems b) = L at h hne
      cases L with
      | nil => exact absurd rfl hne
      | cons y r => exact rb_alts r y (h y (by simp)) fun m hm => h m (by simp [hm])
theorem rb_der (v : Int) : ∀ x, Rb x → Rb (sDer v x)
  | .leaf n, _ => by simp only [sDer, derL]; split <;> trivial
  | .cat a b, h => by
    simp only [sDer]
    split
    · exact rb_alt (rb_cat (rb_der v a h.1) h.2) (rb_der v b (rb_small b h.2))
    · exact rb_cat (rb_der v a h.1) h.2
  | .alt a b, h => rb_alt (rb_der v a h.1) (rb_der v b h.2)
  | .star a, h => by
    simp only [Rb] at h
    exact rb_cat (rb_der v a (rb_small a (by omega))) (by simp only [sz]; omega)
def oneP (v : Int) (x : Tr) : Option Tr := if isS v then derP v x else none
def oneR (v : Int) (x : Tr) : Option Tr := if isS v then derR v x else none
def allP : Tr → List Int → Option Tr
  | x, [] => some x
  | x, v :: l => (oneP v x).bind fun y => allP y l
def allR : Tr → List Int → Option Tr
  | x, [] => some x
  | x, v :: l => (oneR v x).bind fun y => allR y l
theorem allR_eq : ∀ (l : List Int) (x : Tr), Rb x → allR x l = allP x l
  | [], x, _ => rfl
  | v :: l, x, h => by
    simp only [allR, allP]
    have e : oneR v x = oneP v x := by unfold oneR oneP; rw [derR_eq v x h]
    rw [e]
    cases ey : oneP v x with
    | none => rfl
    | some y =>
      simp only [Option.bind_some]
      refine allR_eq l y ?_
      unfold oneP at ey
      split at ey
      · rw [derP_eq v ey]; exact rb_der v x h
      · cases ey
theorem allR_P : ∀ (l : List Int) (x c : Tr), allR x l = some c → allP x l = some c
  | [], x, c, h => h
  | v :: l, x, c, h => by
    simp only [allR, allP, Option.bind_eq_some_iff] at h ⊢
    obtain ⟨y, h1, h2⟩ := h
    refine ⟨y, ?_, allR_P l y c h2⟩
    unfold oneR at h1; unfold oneP
    split at h1
    · rename_i k; rw [if_pos k]; exact derR_P v h1
    · cases h1
theorem ok_oneP {v : Int} {x c : Tr} (hx : OkS x) (h : oneP v x = some c) : OkS c := by
  unfold oneP at h
  split at h
  · exact ok_derP v hx h
  · cases h
theorem ok_allP : ∀ {l : List Int} {x c : Tr}, OkS x → allP x l = some c → OkS c
  | [], x, c, hx, h => by simp only [allP, Option.some.injEq] at h; rw [← h]; exact hx
  | v :: l, x, c, hx, h => by
    simp only [allP, Option.bind_eq_some_iff] at h
    obtain ⟨y, h1, h2⟩ := h
    exact ok_allP (ok_oneP hx h1) h2
theorem sem_leaf {n : Nd} (h : leafN n = true) (l : List Int) : Sem (.leaf n) l ↔ (n.kind = 1 ∧ l = []) ∨ (n.kind = 2 ∧ ∃ v, l = [v] ∧ hasS n.set v = true) := by
  have g := good_leaf h
  simp only [Sem]
  rw [takes_all g]
  have e : ([n] : List Nd).getD ([n].length - 1) default = n := rfl
  rcases leaf_kind h with k | k | k
  · rw [tk_other (by rw [e, k]; decide) (by rw [e, k]; decide) (by rw [e, k]; decide) (by rw [e, k]; decide) (by rw [e, k]; decide)]
    simp [k]
  · rw [tk_empty (by rw [e, k])]
    cases l <;> simp [k]
  · rw [tk_one (by rw [e, k]), e]
    simp only [k, Bool.and_eq_true, decide_eq_true_eq, true_and, show ¬ (2 : Int) = 1 by decide, false_and, false_or]
    constructor
    · rintro ⟨h1, h2⟩
      match l, h1 with
      | [v], _ => exact ⟨v, rfl, h2⟩
    · rintro ⟨v, rfl, h2⟩
      exact ⟨rfl, h2⟩
theorem sem_nul : ∀ x, Ok x → (nul x = true ↔ Sem x [])
  | .leaf n, h => by rw [sem_leaf h.1]; simp [nul]
  | .cat a b, h => by
    simp only [nul, Bool.and_eq_true, sem_nul a h.1, sem_nul b h.2, Sem]
    constructor
    · rintro ⟨h1, h2⟩; exact ⟨[], [], rfl, h1, h2⟩
    · rintro ⟨u, v, e, h1, h2⟩
      obtain ⟨rfl, rfl⟩ := List.append_eq_nil_iff.1 e.symm
      exact ⟨h1, h2⟩
  | .alt a b, h => by simp only [nul, Bool.or_eq_true, sem_nul a h.1, sem_nul b h.2, Sem]
  | .star a, h => by simp only [nul, Sem, true_iff]; exact .nil
theorem sem_derL (v : Int) {n : Nd} (h : leafN n = true) (l : List Int) : Sem (derL v n) l ↔ Sem (.leaf n) (v :: l) := by
  rw [sem_leaf h]
  unfold derL
  split
  · rename_i k
    rw [sem_empty]
    constructor
    · rintro rfl; exact .inr ⟨k.1, v, rfl, k.2⟩
    · rintro (⟨_, e⟩ | ⟨_, w, e, _⟩)
      · cases e
      · simp only [List.cons.injEq] at e; exact e.2
  · rename_i k
    rw [sem_never]
    constructor
    · exact False.elim
    · rintro (⟨_, e⟩ | ⟨h2, w, e, h3⟩)
      · cases e
      · simp only [List.cons.injEq] at e; rw [← e.1] at h3; exact k ⟨h2, h3⟩
theorem sem_sDer (v : Int) : ∀ x, Ok x → ∀ l, Sem (sDer v x) l ↔ Sem x (v :: l)
  | .leaf n, h, l => sem_derL v h.1 l
  | .cat a b, h, l => by
    have oa := ok_sDer v a h.1
    have ob := ok_sDer v b h.2
    have first : Sem (sCat (sDer v a) b) l ↔ ∃ u w, l = u ++ w ∧ Sem a (v :: u) ∧ Sem b w := by
      rw [sem_sCat b _ oa h.2]
      simp only [Sem, sem_sDer v a h.1]
    have both : Sem (.cat a b) (v :: l) ↔ (Sem a [] ∧ Sem b (v :: l)) ∨ ∃ u w, l = u ++ w ∧ Sem a (v :: u) ∧ Sem b w := by
      simp only [Sem]
      constructor
      · rintro ⟨u, w, e, h1, h2⟩
        cases u with
        | nil => simp only [List.nil_append] at e; rw [← e] at h2; exact .inl ⟨h1, h2⟩
        | cons y u =>
          simp only [List.cons_append, List.cons.injEq] at e
          obtain ⟨rfl, rfl⟩ := e
          exact .inr ⟨u, w, rfl, h1, h2⟩
      · rintro (⟨h1, h2⟩ | ⟨u, w, rfl, h1, h2⟩)
        · exact ⟨[], v :: l, rfl, h1, h2⟩
        · exact ⟨v :: u, w, rfl, h1, h2⟩
    rw [both]
    simp only [sDer]
    split
    · rename_i k
      rw [sem_sAlt (ok_sCat b _ oa h.2) ob, first, sem_sDer v b h.2]
      have := (sem_nul a h.1).1 k
      constructor
      · rintro (h1 | h1)
        · exact .inr h1
        · exact .inl ⟨this, h1⟩
      · rintro (h1 | h1)
        · exact .inr h1.2
        · exact .inl h1
    · rename_i k
      rw [first]
      constructor
      · exact .inr
      · rintro (h1 | h1)
        · exact absurd ((sem_nul a h.1).2 h1.1) k
        · exact h1
  | .alt a b, h, l => by
    simp only [sDer]
    rw [sem_sAlt (ok_sDer v a h.1) (ok_sDer v b h.2), sem_sDer v a h.1, sem_sDer v b h.2]
    rfl
  | .star a, h, l => by
    simp only [sDer]
    rw [sem_sCat (.star a) _ (ok_sDer v a h) h]
    simp only [Sem, sem_sDer v a h]
    constructor
    · rintro ⟨u, w, rfl, h1, h2⟩
      exact .cons (v :: u) w (by simp) h1 h2
    · intro h1
      generalize e : v :: l = m at h1
      cases h1 with
      | nil => cases e
      | cons u w hu h2 h3 =>
        cases u with
        | nil => exact absurd rfl hu
        | cons y u =>
          simp only [List.cons_append, List.cons.injEq] at e
          obtain ⟨rfl, rfl⟩ := e
          exact ⟨u, w, rfl, h2, h3⟩
theorem sem_allP : ∀ {l : List Int} {x c : Tr}, OkS x → allP x l = some c → ∀ m, Sem c m ↔ Sem x (l ++ m)
  | [], x, c, hx, h, m => by simp only [allP, Option.some.injEq] at h; rw [← h]; rfl
  | v :: l, x, c, hx, h, m => by
    simp only [allP, Option.bind_eq_some_iff] at h
    obtain ⟨y, h1, h2⟩ := h
    rw [sem_allP (ok_oneP hx h1) h2]
    unfold oneP at h1
    split at h1
    · rw [derP_eq v h1, sem_sDer v x hx.1]; rfl
    · cases h1
theorem takes_nul {x : Tr} (h : OkS x) : takesT (enc x) [] = nul x := by
  rw [Bool.eq_iff_iff, lk_sem x h, sem_nul x h.1]
def SameIn (v w : Int) : Tr → Prop
  | .leaf n => n.kind = 2 → hasS n.set v = hasS n.set w
  | .cat a b => SameIn v w a ∧ SameIn v w b
  | .alt a b => SameIn v w a ∧ SameIn v w b
  | .star a => SameIn v w a
theorem derP_same {v w : Int} : ∀ x, SameIn v w x → derP v x = derP w x
  | .leaf n, h => by
    simp only [SameIn] at h
    simp only [derP, derL]
    by_cases k : n.kind = 2
    · simp only [k, true_and, h k]
    · simp only [k, false_and]
  | .cat a b, h => by simp only [derP, derP_same a h.1, derP_same b h.2]
  | .alt a b, h => by simp only [derP, derP_same a h.1, derP_same b h.2]
  | .star a, h => by simp only [derP, derP_same a h]
end Go.Proofs.Abs

set_option maxRecDepth 100000
set_option maxHeartbeats 4000000
namespace Go.Proofs.Abs
open Go
noncomputable def d0 : FT := upd (upd (q7) 75 k58.ora) 20 k31.ora
theorem d0_ok : FTOK Tryz.prog d0 := upd_ok2 (f := 20) (upd_ok2 (f := 75) (q7_ok) ook58) ook31

def hasD (s : List (Int × Int)) (r : Int) : Bool := (List.range s.length).any fun i => decide (IntKind.i32.wrap (s.getD i (0, 0)).1 ≤ r) && decide (r ≤ IntKind.i32.wrap (s.getD i (0, 0)).2)
theorem run1165 (s : List (Int × Int)) (r : Int) (hs : s.length ≤ 9223372036854775807) : cwp d0 67 [] [(AV.list 2 (List.map (fun x => [AV.int .i64 x.1, AV.int .i64 x.2]) (s))), .int .i32 r] [] (fun v H => v = .bool (hasD s r) ∧ H = []) := by
  refine run_fn (fn := fn1165) rfl rfl ?_
  simp only [fn1165_body, c1165, D0, SP0, seval, -Int.reduceNatCast']
  refine lg_rule (fun j e H => e = [(0, (AV.list 2 (List.map (fun x => [AV.int .i64 x.1, AV.int .i64 x.2]) (s)))), (1, .int .i32 r), (4, .bool false), (7, (AV.list 2 (List.map (fun x => [AV.int .i64 x.1, AV.int .i64 x.2]) (s)))), (8, .int .i64 s.length), (9, .int .i64 j)] ∧ H = [[]] ∧ j ≤ s.length ∧ ∀ i, i < j → (decide (IntKind.i32.wrap (s.getD i (0, 0)).1 ≤ r) && decide (r ≤ IntKind.i32.wrap (s.getD i (0, 0)).2)) = false) s.length ?_ ?_
  · exact ⟨rfl, rfl, by simp, by simp⟩
  rintro j e H ⟨rfl, rfl, hj, hi⟩
  simp only [D0, SP0, seval, -Int.reduceNatCast']
  by_cases h : j < s.length
  · have h' : (j : Int) < (s.length : Int) := by omega
    have hp := wrapp (j := j) (by omega)
    have hg := map_get (f := fun x : Int × Int => [AV.int .i64 x.1, AV.int .i64 x.2]) h (0, 0)
    have step : (decide (IntKind.i32.wrap (s.getD j (0, 0)).1 ≤ r) && decide (r ≤ IntKind.i32.wrap (s.getD j (0, 0)).2)) = false → ∀ i, i < j + 1 → (decide (IntKind.i32.wrap (s.getD i (0, 0)).1 ≤ r) && decide (r ≤ IntKind.i32.wrap (s.getD i (0, 0)).2)) = false := fun h1 i h2 => by
      by_cases e : i = j
      · rw [e]; exact h1
      · exact hi i (by omega)
    have yes : (decide (IntKind.i32.wrap (s.getD j (0, 0)).1 ≤ r) && decide (r ≤ IntKind.i32.wrap (s.getD j (0, 0)).2)) = true → hasD s r = true := fun h1 => any_true h h1
    clear hi
    generalize s.getD j (0, 0) = x at hg step yes
    obtain ⟨x, y⟩ := x
    by_cases h1 : IntKind.i32.wrap x ≤ r
    · by_cases h2 : r ≤ IntKind.i32.wrap y
      · have hy := yes (by simp [h1, h2])
        clear yes step
        simp only [D0, SP0, seval, -Int.reduceNatCast', hg, h', h1, h2, hp, decide_true, Int.natCast_nonneg, Int.toNat_natCast]
        simp only [F1, SF0, SP0, seval, -Int.reduceNatCast', fn1165_res, fn1165_keep, hy]
      · have hn := step (by simp [h2])
        clear yes step
        simp only [D0, SP0, seval, -Int.reduceNatCast', hg, h', h1, h2, hp, decide_true, decide_false, Int.natCast_nonneg, Int.toNat_natCast]
        simp only [F1, SF0, SP0, seval, -Int.reduceNatCast']
        exact ⟨h, h, hn⟩
    · have hn := step (by simp [h1])
      clear yes step
      simp only [D0, SP0, seval, -Int.reduceNatCast', hg, h', h1, hp, decide_true, decide_false, Int.natCast_nonneg, Int.toNat_natCast]
      simp only [F1, SF0, SP0, seval, -Int.reduceNatCast']
      exact ⟨h, h, hn⟩
  · have h' : ¬ (j : Int) < (s.length : Int) := by omega
    have hn : hasD s r = false := any_false fun i hi' => hi i (by omega)
    simp only [D0, SP0, seval, -Int.reduceNatCast', h', decide_false]
    refine .inr ⟨by simp, ?_⟩
    simp only [F1, SF0, SP0, seval, -Int.reduceNatCast', fn1165_res, fn1165_keep, hn]
theorem setI32Inj : ∀ x y : List (Int × Int) × Int, [(AV.list 2 (List.map (fun x => [AV.int .i64 x.1, AV.int .i64 x.2]) (x.1))), AV.int .i32 x.2] = [(AV.list 2 (List.map (fun x => [AV.int .i64 x.1, AV.int .i64 x.2]) (y.1))), AV.int .i32 y.2] → x = y := by
  rintro ⟨a, m⟩ ⟨b, n⟩ h
  simp only [List.cons.injEq, AV.int.injEq, and_true, true_and] at h
  rw [eSet_inj (a := a) (b := b) h.1, h.2]
noncomputable def k1165 : Kon ((List (Int × Int)) × Int) := ⟨fun x => x.1.length ≤ 9223372036854775807, fun x => [(AV.list 2 (List.map (fun x => [AV.int .i64 x.1, AV.int .i64 x.2]) (x.1))), .int .i32 x.2], fun x => .bool (hasD x.1 x.2)⟩
theorem e1165 (s : List (Int × Int)) (r : Int) (hd : s.length ≤ 9223372036854775807) (q0 : Id) (H0 : Heap) : k1165.ora q0 ([(AV.list 2 (List.map (fun x => [AV.int .i64 x.1, AV.int .i64 x.2]) (s))), .int .i32 r]) H0 = some (.bool (hasD s r), H0) := k1165.eq (setI32Inj) (s, r) hd q0 H0
theorem ook1165 : OraOK Tryz.prog (67 % 100000) k1165.ora := k1165.ok orders d0_ok (fun x hd => by simp [k1165, PU]) (fun x hd => by simp [k1165, PU]) (fun x hd => run1165 x.1 x.2 hd)

noncomputable def d1 : FT := upd (d0) 67 k1165.ora
theorem d1_ok : FTOK Tryz.prog d1 := upd_ok2 (f := 67) (d0_ok) ook1165

theorem run1155 (s : List (Int × Int)) (r : Int) (hs : s.length ≤ 9223372036854775807) : cwp d1 44 [] [(AV.list 2 (List.map (fun x => [AV.int .i64 x.1, AV.int .i64 x.2]) (s))), .int .i32 r] [] (fun v H => v = (AV.list 5 (List.map eNd (enc (if hasD s r then empty else never)))) ∧ H = []) := by
  refine run_fn (fn := fn1155) rfl rfl ?_
  cases e : hasD s r with
  | true =>
    simp only [fn1155_body, c1155, D0, SP0, seval, -Int.reduceNatCast', @use_all d1 67 k1165.ora rfl, e1165, @use_all d1 46 k34.ora rfl, e34, hs, e, leafT1]
    simp only [F1, SF0, SP0, seval, -Int.reduceNatCast', fn1155_res, fn1155_keep, fz, fzd]
  | false =>
    simp only [fn1155_body, c1155, D0, SP0, seval, -Int.reduceNatCast', @use_all d1 67 k1165.ora rfl, e1165, @use_all d1 46 k34.ora rfl, e34, hs, e, leafT0]
    simp only [F1, SF0, SP0, seval, -Int.reduceNatCast', fn1155_res, fn1155_keep, fz, fzd]
noncomputable def k1155 : Kon ((List (Int × Int)) × Int) := ⟨fun x => x.1.length ≤ 9223372036854775807, fun x => [(AV.list 2 (List.map (fun x => [AV.int .i64 x.1, AV.int .i64 x.2]) (x.1))), .int .i32 x.2], fun x => (AV.list 5 (List.map eNd (enc (if hasD x.1 x.2 then empty else never))))⟩
theorem e1155 (s : List (Int × Int)) (r : Int) (hd : s.length ≤ 9223372036854775807) (q0 : Id) (H0 : Heap) : k1155.ora q0 ([(AV.list 2 (List.map (fun x => [AV.int .i64 x.1, AV.int .i64 x.2]) (s))), .int .i32 r]) H0 = some ((AV.list 5 (List.map eNd (enc (if hasD s r then empty else never)))), H0) := k1155.eq (setI32Inj) (s, r) hd q0 H0
theorem ook1155 : OraOK Tryz.prog (44 % 100000) k1155.ora := k1155.ok orders d1_ok (fun x hd => by simp [k1155, PU]) (fun x hd => by simp [k1155, PU]) (fun x hd => run1155 x.1 x.2 hd)

def rowsB (B : List Bool) (n j : Nat) : List (List AV) := List.map (fun b => [AV.bool b]) (B.take j) ++ List.replicate (n - j) [AV.bool false]
theorem take_snocB {l : List Bool} {j : Nat} (h : j < l.length) : l.take (j + 1) = l.take j ++ [l.getD j false] := by
  rw [List.take_succ, List.getElem?_eq_getElem h, List.getD_eq_getElem?_getD, List.getElem?_eq_getElem h]; rfl
theorem rowsB_get {B : List Bool} {n j i : Nat} (hi : i < j) (hM : j ≤ B.length) : (rowsB B n j)[i]? = some [AV.bool (B.getD i false)] := by
  unfold rowsB
  rw [List.getElem?_append_left (by simp; omega), List.getElem?_map, List.getElem?_take_of_lt hi, List.getD_eq_getElem?_getD, List.getElem?_eq_getElem (by omega)]
  rfl
theorem rowsB_len {B : List Bool} {n j : Nat} (hj : j ≤ n) (hM : B.length = n) : (rowsB B n j).length = n := by
  unfold rowsB
  simp only [List.length_append, List.length_map, List.length_take, List.length_replicate]
  omega
theorem rowsB_old {B : List Bool} {n j : Nat} (hj : j < n) (hM : B.length = n) : (rowsB B n j)[j]? = some [AV.bool false] := by
  unfold rowsB
  have l : (List.map (fun b => [AV.bool b]) (B.take j)).length = j := by simp; omega
  rw [List.getElem?_append_right (by omega), l, Nat.sub_self, List.getElem?_replicate, if_pos (by omega)]
theorem rowsB_set {B : List Bool} {n j : Nat} (hj : j < n) (hM : B.length = n) : (rowsB B n j).set j [AV.bool (B.getD j false)] = rowsB B n (j + 1) := by
  have e : n - j = (n - (j + 1)) + 1 := by omega
  have l : (List.map (fun b => [AV.bool b]) (B.take j)).length = j := by simp; omega
  unfold rowsB
  rw [List.set_append, if_neg (by omega), l, Nat.sub_self, e, List.replicate_succ, List.set_cons_zero, take_snocB (by omega)]
  simp
theorem rowsB_skip {B : List Bool} {n j : Nat} (hj : j < n) (hM : B.length = n) (hb : B.getD j false = false) : rowsB B n j = rowsB B n (j + 1) := by
  have e : n - j = (n - (j + 1)) + 1 := by omega
  unfold rowsB
  rw [e, List.replicate_succ, take_snocB (by omega), hb]
  simp
theorem bools_inj {a b : List Bool} (h : List.map (fun b => [AV.bool b]) a = List.map (fun b => [AV.bool b]) b) : a = b := map_inj' (fun x y h => by simpa using h) h
theorem pure_bools (l : List Bool) : Pure (.list 1 (List.map (fun b => [AV.bool b]) l)) = True := eq_true (.list _ _ (pure_flat (by
  intro r hr a ha
  obtain ⟨b, _, rfl⟩ := List.mem_map.1 hr
  rw [List.mem_singleton.1 ha]
  exact .bool b)))
attribute [simp] pure_bools
def nuls (x : Tr) : List Bool := (subs x).map nul
theorem run1150 (x : Tr) (hx : OkS x) : cwp d1 35 [] [(AV.list 5 (List.map eNd (enc x)))] [] (fun r H => r = .list 1 (List.map (fun b => [AV.bool b]) (nuls x)) ∧ H = []) := by
  refine run_fn (fn := fn1150) rfl rfl ?_
  unfold nuls
  have lx := enc_len x
  have px := sz_pos x
  have zx := hx.2
  have hc : (sz x : Int) * ((1 : Nat) : Int) ≤ 140737488355328 := by omega
  have hM : ((subs x).map nul).length = sz x := by rw [List.length_map, subs_len]
  have hrep : List.replicate (sz x) [AV.bool false] = rowsB ((subs x).map nul) (sz x) 0 := by simp [rowsB]
  have hMg : ∀ i, i < sz x → ((subs x).map nul).getD i false = nul ((subs x).getD i default) := fun i hi => by
    rw [List.getD_eq_getElem?_getD, List.getElem?_map, List.getD_eq_getElem?_getD, List.getElem?_eq_getElem (by rw [subs_len]; exact hi)]; rfl
  have hnd := nodes x hx.1
  generalize hS : subs x = S at *
  generalize hMM : S.map nul = M at *
  simp only [fn1150_body, c1150, D0, SP0, seval, -Int.reduceNatCast', lx, hc, hrep, Int.natCast_nonneg, Int.toNat_natCast]
  refine lg_rule (fun j e H => e = [(0, (AV.list 5 (List.map eNd (enc x)))), (2, .own [0] 0), (3, .own [3] (sz x)), (9, (AV.list 5 (List.map eNd (enc x)))), (10, .int .i64 (sz x)), (11, .int .i64 j)] ∧ H = [[([3], .row true true 4 1 (rowsB M (sz x) j)), ([0], .row true true 4 1 [])]] ∧ j ≤ sz x) (sz x) ?_ ?_
  · exact ⟨rfl, rfl, by simp⟩
  rintro j e H ⟨rfl, rfl, hj⟩
  simp only [D0, SP0, seval, -Int.reduceNatCast']
  by_cases h : j < sz x
  · have h' : (j : Int) < (sz x : Int) := by omega
    have hp := wrapp (j := j) (by omega)
    have hg := map_get (f := eNd) (l := enc x) (j := j) (by omega) default
    have hml := rowsB_len (B := M) (n := sz x) (j := j) (by omega) hM
    have hold := rowsB_old (B := M) h hM
    have hset := rowsB_set (B := M) h hM
    have hskip := rowsB_skip (B := M) h hM
    have hget := fun i (hi : i < j) => rowsB_get (B := M) (n := sz x) (j := j) hi (by omega)
    have hn := hnd j h
    have hMj := hMg j h
    generalize hsj : S.getD j default = y at hn hMj
    generalize (enc x).getD j default = nd at hg hn
    rw [hMj] at hset hskip
    clear hsj hMj hnd
    cases hn with
    | leaf _ hleaf =>
      obtain ⟨kk, a, b, c, z⟩ := nd
      obtain ⟨f1, f2⟩ := leaf_fork hleaf
      have hk3 : (kk == 3) = false := by simp [isFork] at f1; simp [f1]
      have hk4 : (kk == 4) = false := by simp [isFork] at f1; simp [f1]
      have hk5 : (kk == 5) = false := by simpa using f2
      simp only [nul] at hset hskip
      by_cases k1 : kk = 1
      · subst k1
        simp only [eq_self, decide_true] at hset
        simp only [D0, SP0, seval, -Int.reduceNatCast', hg, eNd, eSet, h', lx, hml, hold, hp, hset, Int.natCast_nonneg, Int.toNat_natCast, decide_true]
        simp only [F1, SF0, SP0, seval, -Int.reduceNatCast']
        exact ⟨h, h⟩
      · have k1' : (kk == 1) = false := by simpa using k1
        have hsk := hskip (by simp [k1])
        simp only [D0, SP0, seval, -Int.reduceNatCast', hg, eNd, eSet, h', lx, hml, hold, hp, k1', hk3, hk4, hk5, Int.natCast_nonneg, Int.toNat_natCast, decide_true]
        simp only [F1, SF0, SP0, seval, -Int.reduceNatCast']
        rw [hsk]
        exact ⟨h, rfl, h⟩
    | cat i k hik =>
      have gi := hget i hik.1
      have gk := hget k hik.2
      rw [hMg i (by omega)] at gi
      rw [hMg k (by omega)] at gk
      have hi' : (i : Int) < (sz x : Int) := by omega
      have hk' : (k : Int) < (sz x : Int) := by omega
      simp only [nul] at hset
      generalize S.getD i default = p at *
      generalize S.getD k default = q at *
      clear hskip hget
      cases ep : nul p <;> simp only [ep, Bool.true_and, Bool.false_and] at hset gi
      · simp only [D0, SP0, seval, -Int.reduceNatCast', hg, eNd, eSet, h', hi', hk', gi, gk, lx, hml, hold, hp, hset, Int.natCast_nonneg, Int.toNat_natCast, decide_true]
        simp only [F1, SF0, SP0, seval, -Int.reduceNatCast']
        exact ⟨h, h⟩
      · simp only [D0, SP0, seval, -Int.reduceNatCast', hg, eNd, eSet, h', hi', hk', gi, gk, lx, hml, hold, hp, hset, Int.natCast_nonneg, Int.toNat_natCast, decide_true]
        simp only [F1, SF0, SP0, seval, -Int.reduceNatCast']
        exact ⟨h, h⟩
    | alt i k hik =>
      have gi := hget i hik.1
      have gk := hget k hik.2
      rw [hMg i (by omega)] at gi
      rw [hMg k (by omega)] at gk
      have hi' : (i : Int) < (sz x : Int) := by omega
      have hk' : (k : Int) < (sz x : Int) := by omega
      simp only [nul] at hset
      generalize S.getD i default = p at *
      generalize S.getD k default = q at *
      clear hskip hget
      cases ep : nul p <;> simp only [ep, Bool.true_or, Bool.false_or] at hset gi
      · simp only [D0, SP0, seval, -Int.reduceNatCast', hg, eNd, eSet, h', hi', hk', gi, gk, lx, hml, hold, hp, hset, Int.natCast_nonneg, Int.toNat_natCast, decide_true]
        simp only [F1, SF0, SP0, seval, -Int.reduceNatCast']
        exact ⟨h, h⟩
      · simp only [D0, SP0, seval, -Int.reduceNatCast', hg, eNd, eSet, h', hi', hk', gi, gk, lx, hml, hold, hp, hset, Int.natCast_nonneg, Int.toNat_natCast, decide_true]
        simp only [F1, SF0, SP0, seval, -Int.reduceNatCast']
        exact ⟨h, h⟩
    | star i hi =>
      simp only [nul] at hset
      clear hskip hget
      simp only [D0, SP0, seval, -Int.reduceNatCast', hg, eNd, eSet, h', lx, hml, hold, hp, hset, Int.natCast_nonneg, Int.toNat_natCast, decide_true]
      simp only [F1, SF0, SP0, seval, -Int.reduceNatCast']
      exact ⟨h, h⟩
  · have h' : ¬ (j : Int) < (sz x : Int) := by omega
    have hj2 : j = sz x := by omega
    subst hj2
    have hml := rowsB_len (B := M) (n := sz x) (j := sz x) (by omega) hM
    have hfin : rowsB M (sz x) (sz x) = List.map (fun b => [AV.bool b]) M := by simp [rowsB, List.take_of_length_le (Nat.le_of_eq hM)]
    simp only [D0, SP0, seval, -Int.reduceNatCast', h', decide_false]
    refine .inr ⟨by simp, ?_⟩
    simp only [F1, SF0, SP0, seval, -Int.reduceNatCast', fn1150_res, fn1150_keep, fz, fzd, hml, hfin, hM]
noncomputable def k1150 : Kon (Tr) := ⟨fun x => OkS x, fun x => [(AV.list 5 (List.map eNd (enc x)))], fun x => .list 1 (List.map (fun b => [AV.bool b]) (nuls x))⟩
theorem e1150 (t : Tr) (hd : OkS t) (q0 : Id) (H0 : Heap) : k1150.ora q0 ([(AV.list 5 (List.map eNd (enc t)))]) H0 = some (.list 1 (List.map (fun b => [AV.bool b]) (nuls t)), H0) := k1150.eqD (trInj) (t) hd q0 H0
theorem ook1150 : OraOK Tryz.prog (35 % 100000) k1150.ora := k1150.ok orders d1_ok (fun x hd => by simp [k1150, PU]) (fun x hd => by simp [k1150, PU]) (fun x hd => run1150 x hd)

noncomputable def d2 : FT := upd (upd (d1) 44 k1155.ora) 35 k1150.ora
theorem d2_ok : FTOK Tryz.prog d2 := upd_ok2 (f := 35) (upd_ok2 (f := 44) (d1_ok) ook1155) ook1150

noncomputable def nullT (t : List Nd) : Bool := goodT t && nul (dec t)
theorem run1145 (t : List Nd) (st : SmS t) : cwp d2 15 [] [(AV.list 5 (List.map eNd t))] [] (fun r H => r = .bool (nullT t) ∧ H = []) := by
  refine run_fn (fn := fn1145) rfl rfl ?_
  have wt := st.wf
  by_cases g1 : goodT t = true
  case neg =>
    have g1' : goodT t = false := by simpa using g1
    have hr : nullT t = false := by simp [nullT, g1']
    simp only [fn1145_body, c1145, D0, SP0, seval, -Int.reduceNatCast', @use_all d2 25 k29.ora rfl, e29, wt, g1']
    simp only [F1, SF0, SP0, seval, -Int.reduceNatCast', fn1145_res, fn1145_keep, hr]
  obtain ⟨x, hx, rfl⟩ := okS_of ⟨st, g1⟩
  have hr : nullT (enc x) = nul x := by simp [nullT, g1, dec_enc hx.1 hx.2]
  have lx := enc_len x
  have px := sz_pos x
  have zx := hx.2
  have wm := wrapm (j := sz x) (by omega) (by omega)
  have hlen : (List.map (fun b => [AV.bool b]) (nuls x)).length = sz x := by simp [nuls, subs_len]
  have hlast : (List.map (fun b => [AV.bool b]) (nuls x))[sz x - 1]? = some [AV.bool (nul x)] := by
    unfold nuls
    have := subs_last x
    rw [List.getD_eq_getElem?_getD, List.getElem?_eq_getElem (by rw [subs_len]; omega)] at this
    simp only [List.getElem?_map, List.getElem?_eq_getElem (show sz x - 1 < (subs x).length by rw [subs_len]; omega), Option.map_some]
    simp only [Option.getD_some] at this
    rw [this]
  have hl2 : ((sz x - 1 : Nat) : Int) < (sz x : Int) := by omega
  simp only [fn1145_body, c1145, D0, SP0, seval, -Int.reduceNatCast', @use_all d2 25 k29.ora rfl, e29, @use_all d2 35 k1150.ora rfl, e1150, wt, g1, hx, lx, wm]
  generalize List.map (fun b => [AV.bool b]) (nuls x) = R at hlen hlast ⊢
  simp only [D0, SP0, seval, -Int.reduceNatCast', hlen, hlast, hl2, Int.natCast_nonneg, Int.toNat_natCast]
  simp only [F1, SF0, SP0, seval, -Int.reduceNatCast', fn1145_res, fn1145_keep, hr]
noncomputable def k1145 : Kon (List Nd) := ⟨fun x => SmS x, fun x => [(AV.list 5 (List.map eNd x))], fun x => .bool (nullT x)⟩
theorem e1145 (t : List Nd) (hd : SmS t) (q0 : Id) (H0 : Heap) : k1145.ora q0 ([(AV.list 5 (List.map eNd t))]) H0 = some (.bool (nullT t), H0) := k1145.eq (treeInj) (t) hd q0 H0
theorem ook1145 : OraOK Tryz.prog (15 % 100000) k1145.ora := k1145.ok orders d2_ok (fun x hd => by simp [k1145, PU]) (fun x hd => by simp [k1145, PU]) (fun x hd => run1145 x hd)

noncomputable def d3 : FT := upd (d2) 15 k1145.ora
theorem d3_ok : FTOK Tryz.prog d3 := upd_ok2 (f := 15) (d2_ok) ook1145

def catD (a b l r : Tr) : Option Tr := (catO l b).bind fun t => if nul a then altO t r else some t
theorem run1156 (a b l r : Tr) (ha : OkS a) (hb : OkS b) (hl : OkS l) (hr : OkS r) : cwp d3 48 [] [(AV.list 5 (List.map eNd (enc a))), (AV.list 5 (List.map eNd (enc b))), (AV.list 5 (List.map eNd (enc l))), (AV.list 5 (List.map eNd (enc r)))] [] (fun v H => v = resO (catD a b l r) ∧ H = []) := by
  refine run_fn (fn := fn1156) rfl rfl ?_
  have dom : ∀ {x y : Tr}, OkS x → OkS y → (SmS (enc x) ∧ SmS (enc y)) ∧ (enc x).length ≤ 1000000 ∧ (enc y).length ≤ 1000000 := fun hx hy => ⟨⟨hx.sm, hy.sm⟩, by have := hx.len; omega, by have := hy.len; omega⟩
  have d1' := dom hl hb
  have e1 := catT_enc hl hb
  have n1 : nullT (enc a) = nul a := by simp [nullT, ha.good, dec_enc ha.1 ha.2]
  have sa := ha.sm
  cases ec : catO l b with
  | none =>
    have hr : catD a b l r = none := by simp [catD, ec]
    simp only [fn1156_body, c1156, D0, SP0, seval, -Int.reduceNatCast', @use_all d3 47 k38.ora rfl, e38, @use_all d3 15 k1145.ora rfl, e1145, d1', e1, ec, resO, encO, Option.isSome_none]
    simp only [F1, SF0, SP0, seval, -Int.reduceNatCast', fn1156_res, fn1156_keep, fz, fzd, fzd.fzcells, hr, resO, encO, Option.isSome_none]
  | some c =>
    have hc := ok_catO hl hb ec
    by_cases k : nul a = true
    · have d2' := dom hc hr
      have e2 := altT_enc hc hr
      have hR : catD a b l r = altO c r := by simp [catD, ec, k]
      simp only [fn1156_body, c1156, D0, SP0, seval, -Int.reduceNatCast', @use_all d3 47 k38.ora rfl, e38, @use_all d3 49 k39.ora rfl, e39, @use_all d3 15 k1145.ora rfl, e1145, d1', d2', e1, e2, ec, n1, sa, k, resO, encO, Option.isSome_some]
      simp only [F1, SF0, SP0, seval, -Int.reduceNatCast', fn1156_res, fn1156_keep, fz, fzd, fzd.fzcells, hR, resO]
    · have k' : nul a = false := by simpa using k
      have hR : catD a b l r = some c := by simp [catD, ec, k']
      simp only [fn1156_body, c1156, D0, SP0, seval, -Int.reduceNatCast', @use_all d3 47 k38.ora rfl, e38, @use_all d3 15 k1145.ora rfl, e1145, d1', e1, ec, n1, sa, k', resO, encO, Option.isSome_some]
      simp only [F1, SF0, SP0, seval, -Int.reduceNatCast', fn1156_res, fn1156_keep, fz, fzd, fzd.fzcells, hR, resO, encO, Option.isSome_some]
noncomputable def k1156 : Kon (Tr × Tr × Tr × Tr) := ⟨fun x => (OkS x.1 ∧ OkS x.2.1) ∧ OkS x.2.2.1 ∧ OkS x.2.2.2, fun x => [(AV.list 5 (List.map eNd (enc x.1))), (AV.list 5 (List.map eNd (enc x.2.1))), (AV.list 5 (List.map eNd (enc x.2.2.1))), (AV.list 5 (List.map eNd (enc x.2.2.2)))], fun x => resO (catD x.1 x.2.1 x.2.2.1 x.2.2.2)⟩
theorem e1156 (a : Tr) (b : Tr) (l : Tr) (r : Tr) (hd : (OkS a ∧ OkS b) ∧ OkS l ∧ OkS r) (q0 : Id) (H0 : Heap) : k1156.ora q0 ([(AV.list 5 (List.map eNd (enc a))), (AV.list 5 (List.map eNd (enc b))), (AV.list 5 (List.map eNd (enc l))), (AV.list 5 (List.map eNd (enc r)))]) H0 = some (resO (catD a b l r), H0) := k1156.eqD (by dsimp only [k1156]; rintro ⟨a, b, l, r⟩ ⟨a', b', l', r'⟩ ⟨⟨h1, h2⟩, h3, h4⟩ ⟨⟨k1, k2⟩, k3, k4⟩ h; simp only [List.cons.injEq, and_true] at h; simp only [Prod.mk.injEq]; exact ⟨enc_injS h1 k1 (eTree_inj h.1), enc_injS h2 k2 (eTree_inj h.2.1), enc_injS h3 k3 (eTree_inj h.2.2.1), enc_injS h4 k4 (eTree_inj h.2.2.2)⟩) (a, b, l, r) hd q0 H0
theorem ook1156 : OraOK Tryz.prog (48 % 100000) k1156.ora := k1156.ok orders d3_ok (fun x hd => by simp [k1156, PU]) (fun x hd => by simp [k1156, PU, pure_resO]) (fun x hd => run1156 x.1 x.2.1 x.2.2.1 x.2.2.2 hd.1.1 hd.1.2 hd.2.1 hd.2.2)

noncomputable def d4 : FT := upd (d3) 48 k1156.ora
theorem d4_ok : FTOK Tryz.prog d4 := upd_ok2 (f := 48) (d3_ok) ook1156

end Go.Proofs.Abs

set_option maxRecDepth 100000
set_option maxHeartbeats 4000000
namespace Go.Proofs.Abs
open Go
theorem hasD_eq {s : List (Int × Int)} {r : Int} (g : goodS s = true) (hr : isS r = true) : hasD s r = hasS s r := by
  unfold hasD hasS
  rw [g, hr, Bool.true_and, Bool.true_and]
  refine any_congr fun i hi => ?_
  unfold goodS at g
  have := List.all_eq_true.1 g i (List.mem_range.2 hi)
  simp only [okAt, wholeS, Bool.and_eq_true, isS, Bool.or_eq_true, decide_eq_true_eq] at this
  obtain ⟨⟨⟨h1, h2⟩, h3⟩, _⟩ := this
  rw [wrap32 (by omega) (by omega), wrap32 (by omega) (by omega)]
  rfl
theorem derL_eq {n : Nd} {r : Int} (h : leafN n = true) (hk : n.kind = 2) (hr : isS r = true) : (if hasD n.set r then empty else never) = derL r n := by
  have g : goodS n.set = true := by
    simp only [leafN, hk, if_true, Bool.and_eq_true, decide_eq_true_eq] at h
    exact h.2.2
  rw [hasD_eq g hr]
  unfold derL
  by_cases e : hasS n.set r = true <;> simp [hk, e]
theorem treeI32Inj : ∀ x y : List Nd × Int, [(AV.list 5 (List.map eNd x.1)), AV.int .i32 x.2] = [(AV.list 5 (List.map eNd y.1)), AV.int .i32 y.2] → x = y := by
  rintro ⟨a, m⟩ ⟨b, n⟩ h
  simp only [List.cons.injEq, AV.int.injEq, and_true, true_and] at h
  rw [eTree_inj (a := a) (b := b) h.1, h.2]
theorem OkS.partsS {a : Tr} (h : OkS (.star a)) : partOK (enc (.star a)) = true ∧ partA (enc (.star a)) = enc a ∧ partB (enc (.star a)) = [] := by
  have hs := h.2
  simp only [sz] at hs
  exact parts_star h.s.good (by rw [enc_len]; exact hs)
theorem leaf_parts {n : Nd} (h : leafN n = true) : partOK [n] = false ∧ partA [n] = [] ∧ partB [n] = [] := by
  obtain ⟨f1, f2⟩ := leaf_fork h
  have e : lastN [n] = n := rfl
  have p : partOK [n] = false := by simp [partOK, e, f1, f2]
  refine ⟨p, by simp [partA, p], by simp [partB, e, f1]⟩
noncomputable def derT (t : List Nd) (r : Int) : Option Tr := derP r (dec t)
noncomputable def k1148 : Kon (List Nd × Int) := ⟨fun x => (SmS x.1 ∧ goodT x.1 = true) ∧ isS x.2 = true, fun x => [(AV.list 5 (List.map eNd x.1)), .int .i32 x.2], fun x => resO (derT x.1 x.2)⟩
theorem i1148 : ∀ a b, k1148.enc a = k1148.enc b → a = b := treeI32Inj
theorem e1148 (t : List Nd) (r : Int) (hd : (SmS t ∧ goodT t = true) ∧ isS r = true) (q0 : Id) (H0 : Heap) : k1148.ora q0 ([(AV.list 5 (List.map eNd t)), .int .i32 r]) H0 = some (resO (derT t r), H0) := k1148.eq i1148 (t, r) hd q0 H0
noncomputable def r1148 (n : Nat) : Kon (List Nd × Int) := ⟨fun x => k1148.dom x ∧ (fun x => x.1.length) x < n, k1148.enc, k1148.out⟩
theorem er1148 {n : Nat} (t : List Nd) (r : Int) (hd : ((SmS t ∧ goodT t = true) ∧ isS r = true) ∧ (t.length) < n) (q0 : Id) (H0 : Heap) : (r1148 n).ora q0 ([(AV.list 5 (List.map eNd t)), .int .i32 r]) H0 = some (resO (derT t r), H0) := (r1148 n).eq i1148 (t, r) hd q0 H0
noncomputable def z1148 (n : Nat) : FT := updC (upd d4 27 (r1148 n).ora) 200027 fn1148

theorem derT_enc {x : Tr} (hx : OkS x) (r : Int) : derT (enc x) r = derP r x := by unfold derT; rw [hx.dec]
theorem run1148 (n : Nat) (t : List Nd) (r : Int) (hd : ((SmS t ∧ goodT t = true) ∧ isS r = true) ∧ t.length < n + 1) : cwp (z1148 n) 200027 [] [(AV.list 5 (List.map eNd t)), .int .i32 r] [] (fun v H => v = resO (derT t r) ∧ H = []) := by
  refine run_fn (fn := fn1148) rfl rfl ?_
  obtain ⟨⟨⟨st, g⟩, hr⟩, hn⟩ := hd
  obtain ⟨x, hx, rfl⟩ := okS_of ⟨st, g⟩
  rw [derT_enc hx]
  have lx := enc_len x
  have px := sz_pos x
  have zx := hx.2
  have wm := wrapm (j := sz x) (by omega) (by omega)
  have hg := map_get (f := eNd) (l := enc x) (j := sz x - 1) (by omega) default
  have hln : (enc x).getD (sz x - 1) default = lastN (enc x) := by unfold lastN; rw [lx]
  rw [hln] at hg
  have hl2 : ((sz x - 1 : Nat) : Int) < (sz x : Int) := by omega
  have dom : ∀ {y : Tr}, OkS y → sz y < sz x → ((SmS (enc y) ∧ goodT (enc y) = true) ∧ isS r = true) ∧ (enc y).length < n := fun hy h => ⟨⟨⟨hy.sm, hy.good⟩, hr⟩, by rw [enc_len]; omega⟩
  have domc : ∀ {x y : Tr}, OkS x → OkS y → (SmS (enc x) ∧ SmS (enc y)) ∧ (enc x).length ≤ 1000000 ∧ (enc y).length ≤ 1000000 := fun hx hy => ⟨⟨hx.sm, hy.sm⟩, by have := hx.len; omega, by have := hy.len; omega⟩
  cases x with
  | leaf nd =>
    have hleaf := hx.1.1
    obtain ⟨p1, p2, p3⟩ := leaf_parts hleaf
    have hset := hx.1.2.2
    have hd0 := fun (k : nd.kind = 2) => derL_eq hleaf k hr
    have hk := leaf_kind hleaf
    have hdp : derP r (.leaf nd) = some (derL r nd) := rfl
    have hne : ¬ nd.kind = 2 → derL r nd = never := fun k => by simp [derL, k]
    obtain ⟨kk, a, b, c, z⟩ := nd
    have hle : c.length ≤ 9223372036854775807 := by simp only at hset; omega
    have hgT : (List.map eNd [(⟨kk, a, b, c, z⟩ : Nd)])[0]? = some [AV.int .i64 kk, AV.int .i64 a, AV.int .i64 b, (AV.list 2 (List.map (fun x => [AV.int .i64 x.1, AV.int .i64 x.2]) (c))), AV.str z] := rfl
    have lT : ([(⟨kk, a, b, c, z⟩ : Nd)] : List Nd).length = 1 := rfl
    have wT : IntKind.i64.wrap (((1 : Nat) : Int) - 1) = ((0 : Nat) : Int) := by decide
    have kT : ((0 : Nat) : Int) < ((1 : Nat) : Int) := by decide
    simp only [enc] at st ⊢
    clear hg hln hn lx g wm hl2
    generalize hT : ([(⟨kk, a, b, c, z⟩ : Nd)] : List Nd) = T at *
    by_cases k2 : kk = 2
    · subst k2
      have hd1 := hd0 rfl
      simp only at hd1
      simp only [hdp, ← hd1]
      simp only [fn1148_body, c1148, D0, SP0, seval, -Int.reduceNatCast', @use_all (z1148 n) 44 k1155.ora rfl, e1155, hle, hgT, lT, wT, kT, Int.natCast_nonneg, Int.toNat_natCast]
      simp only [F1, SF0, SP0, seval, -Int.reduceNatCast', fn1148_res, fn1148_keep, fz, fzd, fzd.fzcells, resO, encO, Option.isSome_some]
    · have k2' : (kk == 2) = false := by simpa using k2
      rw [hdp, hne k2]
      simp only [fn1148_body, c1148, D0, SP0, seval, -Int.reduceNatCast', @use_all (z1148 n) 45 k23.ora rfl, e23, @use_all (z1148 n) 46 k34.ora rfl, e34, st, p1, p2, p3, k2', hgT, lT, wT, kT, leafT0, Int.natCast_nonneg, Int.toNat_natCast]
      simp only [F1, SF0, SP0, seval, -Int.reduceNatCast', fn1148_res, fn1148_keep, fz, fzd, fzd.fzcells, resO, encO, Option.isSome_some]
  | cat a b =>
    obtain ⟨ha, hb⟩ := hx.c
    obtain ⟨p1, p2, p3⟩ := hx.partsC
    have da := dom ha (by simp only [sz]; omega)
    have db := dom hb (by simp only [sz]; omega)
    have ea := derT_enc ha r
    have eb := derT_enc hb r
    have na : nullT (enc a) = nul a := by simp [nullT, ha.good, ha.dec]
    have sa := ha.sm
    have hla : lastN (enc (.cat a b)) = _ := last_join 3 (enc a) (enc b)
    rw [hla] at hg
    clear hla
    generalize hE : enc (.cat a b) = E at *
    simp only [eNd, eSet, List.map_nil] at hg
    cases e1 : derP r a with
    | none =>
      have hR : derP r (.cat a b) = none := by simp [derP, e1]
      simp only [fn1148_body, c1148, D0, SP0, seval, -Int.reduceNatCast', @use_all (z1148 n) 45 k23.ora rfl, e23, @use_all (z1148 n) 27 (r1148 n).ora rfl, er1148, hg, hl2, st, p1, p2, p3, wm, lx, da, ea, e1, resO, encO, Option.isSome_none, Option.isSome_some, Int.natCast_nonneg, Int.toNat_natCast]
      simp only [F1, SF0, SP0, seval, -Int.reduceNatCast', fn1148_res, fn1148_keep, fz, fzd, fzd.fzcells, hR, resO, encO, Option.isSome_none]
    | some p =>
      have hp := ok_derP r ha e1
      have dc := domc hp hb
      have ec := catT_enc hp hb
      by_cases k : nul a = true
      · cases e2 : derP r b with
        | none =>
          have hR : derP r (.cat a b) = none := by simp [derP, e1, e2, k]
          simp only [fn1148_body, c1148, D0, SP0, seval, -Int.reduceNatCast', @use_all (z1148 n) 45 k23.ora rfl, e23, @use_all (z1148 n) 15 k1145.ora rfl, e1145, @use_all (z1148 n) 27 (r1148 n).ora rfl, er1148, hg, hl2, st, p1, p2, p3, wm, lx, da, ea, e1, db, eb, e2, na, sa, k, resO, encO, Option.isSome_none, Option.isSome_some, Int.natCast_nonneg, Int.toNat_natCast]
          simp only [F1, SF0, SP0, seval, -Int.reduceNatCast', fn1148_res, fn1148_keep, fz, fzd, fzd.fzcells, hR, resO, encO, Option.isSome_none]
        | some q =>
          have hq := ok_derP r hb e2
          have hR : derP r (.cat a b) = catD a b p q := by simp [derP, e1, e2, k, catD]
          have dd : (OkS a ∧ OkS b) ∧ OkS p ∧ OkS q := ⟨⟨ha, hb⟩, hp, hq⟩
          simp only [fn1148_body, c1148, D0, SP0, seval, -Int.reduceNatCast', @use_all (z1148 n) 45 k23.ora rfl, e23, @use_all (z1148 n) 15 k1145.ora rfl, e1145, @use_all (z1148 n) 48 k1156.ora rfl, e1156, @use_all (z1148 n) 27 (r1148 n).ora rfl, er1148, hg, hl2, st, p1, p2, p3, wm, lx, da, ea, e1, db, eb, e2, na, sa, k, dd, resO, encO, Option.isSome_none, Option.isSome_some, Int.natCast_nonneg, Int.toNat_natCast]
          simp only [F1, SF0, SP0, seval, -Int.reduceNatCast', fn1148_res, fn1148_keep, fz, fzd, fzd.fzcells, hR, resO]
      · have k' : nul a = false := by simpa using k
        have hR : derP r (.cat a b) = catO p b := by simp [derP, e1, k']
        simp only [fn1148_body, c1148, D0, SP0, seval, -Int.reduceNatCast', @use_all (z1148 n) 45 k23.ora rfl, e23, @use_all (z1148 n) 15 k1145.ora rfl, e1145, @use_all (z1148 n) 47 k38.ora rfl, e38, @use_all (z1148 n) 27 (r1148 n).ora rfl, er1148, hg, hl2, st, p1, p2, p3, wm, lx, da, ea, e1, na, sa, k', dc, ec, resO, encO, Option.isSome_none, Option.isSome_some, Int.natCast_nonneg, Int.toNat_natCast]
        simp only [F1, SF0, SP0, seval, -Int.reduceNatCast', fn1148_res, fn1148_keep, fz, fzd, fzd.fzcells, hR, resO]
  | alt a b =>
    obtain ⟨ha, hb⟩ := hx.l
    obtain ⟨p1, p2, p3⟩ := hx.parts
    have da := dom ha (by simp only [sz]; omega)
    have db := dom hb (by simp only [sz]; omega)
    have ea := derT_enc ha r
    have eb := derT_enc hb r
    have hla : lastN (enc (.alt a b)) = _ := last_join 4 (enc a) (enc b)
    rw [hla] at hg
    clear hla
    generalize hE : enc (.alt a b) = E at *
    simp only [eNd, eSet, List.map_nil] at hg
    cases e1 : derP r a with
    | none =>
      have hR : derP r (.alt a b) = none := by simp [derP, e1]
      simp only [fn1148_body, c1148, D0, SP0, seval, -Int.reduceNatCast', @use_all (z1148 n) 45 k23.ora rfl, e23, @use_all (z1148 n) 27 (r1148 n).ora rfl, er1148, hg, hl2, st, p1, p2, p3, wm, lx, da, ea, e1, resO, encO, Option.isSome_none, Option.isSome_some, Int.natCast_nonneg, Int.toNat_natCast]
      simp only [F1, SF0, SP0, seval, -Int.reduceNatCast', fn1148_res, fn1148_keep, fz, fzd, fzd.fzcells, hR, resO, encO, Option.isSome_none]
    | some p =>
      have hp := ok_derP r ha e1
      cases e2 : derP r b with
      | none =>
        have hR : derP r (.alt a b) = none := by simp [derP, e1, e2]
        simp only [fn1148_body, c1148, D0, SP0, seval, -Int.reduceNatCast', @use_all (z1148 n) 45 k23.ora rfl, e23, @use_all (z1148 n) 27 (r1148 n).ora rfl, er1148, hg, hl2, st, p1, p2, p3, wm, lx, da, ea, e1, db, eb, e2, resO, encO, Option.isSome_none, Option.isSome_some, Int.natCast_nonneg, Int.toNat_natCast]
        simp only [F1, SF0, SP0, seval, -Int.reduceNatCast', fn1148_res, fn1148_keep, fz, fzd, fzd.fzcells, hR, resO, encO, Option.isSome_none]
      | some q =>
        have hq := ok_derP r hb e2
        have hR : derP r (.alt a b) = altO p q := by simp [derP, e1, e2]
        have dc := domc hp hq
        have ec := altT_enc hp hq
        simp only [fn1148_body, c1148, D0, SP0, seval, -Int.reduceNatCast', @use_all (z1148 n) 45 k23.ora rfl, e23, @use_all (z1148 n) 49 k39.ora rfl, e39, @use_all (z1148 n) 27 (r1148 n).ora rfl, er1148, hg, hl2, st, p1, p2, p3, wm, lx, da, ea, e1, db, eb, e2, dc, ec, resO, encO, Option.isSome_none, Option.isSome_some, Int.natCast_nonneg, Int.toNat_natCast]
        simp only [F1, SF0, SP0, seval, -Int.reduceNatCast', fn1148_res, fn1148_keep, fz, fzd, fzd.fzcells, hR, resO]
  | star a =>
    have ha := hx.s
    obtain ⟨p1, p2, p3⟩ := hx.partsS
    have da := dom ha (by simp only [sz]; omega)
    have ea := derT_enc ha r
    have hla : lastN (enc (.star a)) = _ := last_star (enc a)
    rw [hla] at hg
    clear hla
    have ec' := fun (p : Tr) (hp : OkS p) => catT_enc hp hx
    have dc' := fun (p : Tr) (hp : OkS p) => domc hp hx
    generalize hE : enc (.star a) = E at *
    simp only [eNd, eSet, List.map_nil] at hg
    cases e1 : derP r a with
    | none =>
      have hR : derP r (.star a) = none := by simp [derP, e1]
      simp only [fn1148_body, c1148, D0, SP0, seval, -Int.reduceNatCast', @use_all (z1148 n) 45 k23.ora rfl, e23, @use_all (z1148 n) 27 (r1148 n).ora rfl, er1148, hg, hl2, st, p1, p2, p3, wm, lx, da, ea, e1, resO, encO, Option.isSome_none, Option.isSome_some, Int.natCast_nonneg, Int.toNat_natCast]
      simp only [F1, SF0, SP0, seval, -Int.reduceNatCast', fn1148_res, fn1148_keep, fz, fzd, fzd.fzcells, hR, resO, encO, Option.isSome_none]
    | some p =>
      have hp := ok_derP r ha e1
      have hR : derP r (.star a) = catO p (.star a) := by simp [derP, e1]
      have dc := dc' p hp
      have zl : sz (.star a) ≤ 1000000 := by omega
      have ec := ec' p hp
      simp only [fn1148_body, c1148, D0, SP0, seval, -Int.reduceNatCast', @use_all (z1148 n) 45 k23.ora rfl, e23, @use_all (z1148 n) 47 k38.ora rfl, e38, @use_all (z1148 n) 27 (r1148 n).ora rfl, er1148, hg, hl2, st, p1, p2, p3, wm, lx, da, ea, e1, dc, zl, ec, resO, encO, Option.isSome_none, Option.isSome_some, Int.natCast_nonneg, Int.toNat_natCast]
      simp only [F1, SF0, SP0, seval, -Int.reduceNatCast', fn1148_res, fn1148_keep, fz, fzd, fzd.fzcells, hR, resO]
theorem ook1148 : OraOK Tryz.prog (27 % 100000) k1148.ora := ora_rec (fun x => x.1.length) (fun a b _ _ h => i1148 a b h) fun n h => (r1148 (n + 1)).ok (f := 200027) orders (updC_ok (upd_ok2 (f := 27) d4_ok h) ok1148) (fun x hd => by simp [r1148, k1148, PU]) (fun x hd => by simp [r1148, k1148, PU, pure_resO]) (fun x hd => run1148 n x.1 x.2 hd)

noncomputable def d5 : FT := upd (d4) 27 k1148.ora
theorem d5_ok : FTOK Tryz.prog d5 := upd_ok2 (f := 27) (d4_ok) ook1148

noncomputable def byT (t : List Nd) (v : Int) : Option Tr := if goodT t && isS v then derP v (dec t) else none
theorem byT_enc {x : Tr} (hx : OkS x) (v : Int) : byT (enc x) v = oneP v x := by simp [byT, oneP, hx.good, hx.dec]
theorem run1141 (t : List Nd) (v : Int) (st : SmS t) : cwp d5 10 [] [(AV.list 5 (List.map eNd t)), .int .i64 v] [] (fun r H => r = resO (byT t v) ∧ H = []) := by
  refine run_fn (fn := fn1141) rfl rfl ?_
  have wt := st.wf
  by_cases g : goodT t = true
  case neg =>
    have g' : goodT t = false := by simpa using g
    have hr : byT t v = none := by simp [byT, g']
    simp only [fn1141_body, c1141, D0, SP0, seval, -Int.reduceNatCast', @use_all d5 25 k29.ora rfl, e29, wt, g']
    simp only [F1, SF0, SP0, seval, -Int.reduceNatCast', fn1141_res, fn1141_keep, fz, fzd, fzd.fzcells, hr, resO, encO, Option.isSome_none]
  by_cases i : isS v = true
  case neg =>
    have i' : isS v = false := by simpa using i
    have hr : byT t v = none := by simp [byT, i']
    simp only [fn1141_body, c1141, D0, SP0, seval, -Int.reduceNatCast', @use_all d5 25 k29.ora rfl, e29, @use_all d5 26 k97.ora rfl, e97, wt, g, i']
    simp only [F1, SF0, SP0, seval, -Int.reduceNatCast', fn1141_res, fn1141_keep, fz, fzd, fzd.fzcells, hr, resO, encO, Option.isSome_none]
  have hr : byT t v = derT t v := by simp [byT, derT, g, i]
  have hw : IntKind.i32.wrap v = v := by
    simp only [isS, Bool.or_eq_true, Bool.and_eq_true, decide_eq_true_eq] at i
    exact wrap32 (by omega) (by omega)
  have hd : (SmS t ∧ goodT t = true) ∧ isS v = true := ⟨⟨st, g⟩, i⟩
  simp only [fn1141_body, c1141, D0, SP0, seval, -Int.reduceNatCast', @use_all d5 25 k29.ora rfl, e29, @use_all d5 26 k97.ora rfl, e97, @use_all d5 27 k1148.ora rfl, e1148, wt, g, i, hw, hd, resO]
  simp only [F1, SF0, SP0, seval, -Int.reduceNatCast', fn1141_res, fn1141_keep, fz, fzd, fzd.fzcells, hr, resO]
noncomputable def k1141 : Kon (List Nd × Int) := ⟨fun x => SmS x.1, fun x => [(AV.list 5 (List.map eNd x.1)), .int .i64 x.2], fun x => resO (byT x.1 x.2)⟩
theorem e1141 (t : List Nd) (v : Int) (hd : SmS t) (q0 : Id) (H0 : Heap) : k1141.ora q0 ([(AV.list 5 (List.map eNd t)), .int .i64 v]) H0 = some (resO (byT t v), H0) := k1141.eq (treeIntInj) (t, v) hd q0 H0
theorem ook1141 : OraOK Tryz.prog (10 % 100000) k1141.ora := k1141.ok orders d5_ok (fun x hd => by simp [k1141, PU]) (fun x hd => by simp [k1141, PU, pure_resO]) (fun x hd => run1141 x.1 x.2 hd)

noncomputable def d6 : FT := upd (d5) 10 k1141.ora
theorem d6_ok : FTOK Tryz.prog d6 := upd_ok2 (f := 10) (d5_ok) ook1141

noncomputable def allT (t : List Nd) (l : List Int) : Option Tr := if goodT t then allP (dec t) l else none
theorem allT_enc {x : Tr} (hx : OkS x) (l : List Int) : allT (enc x) l = allP x l := by simp [allT, hx.good, hx.dec]
theorem allP_snoc : ∀ (l : List Int) (x : Tr) (v : Int), allP x (l ++ [v]) = (allP x l).bind fun y => oneP v y
  | [], x, v => by
    simp only [List.nil_append, allP, Option.bind_some]
    cases oneP v x <;> rfl
  | w :: l, x, v => by
    simp only [List.cons_append, allP]
    cases oneP w x with
    | none => rfl
    | some y => simp only [Option.bind_some]; exact allP_snoc l y v
theorem allP_take_none {l : List Int} {x : Tr} {j : Nat} (h : allP x (l.take j) = none) : allP x l = none := by
  have key : ∀ (m k : List Int) (x : Tr), allP x m = none → allP x (m ++ k) = none := by
    intro m
    induction m with
    | nil => intro k x h; cases h
    | cons v m ih =>
      intro k x h
      simp only [allP, List.cons_append] at h ⊢
      cases e : oneP v x with
      | none => rfl
      | some y => rw [e] at h; simp only [Option.bind_some] at h ⊢; exact ih k y h
  have := key (l.take j) (l.drop j) x h
  rwa [List.take_append_drop] at this
theorem take_snocI {l : List Int} {j : Nat} (h : j < l.length) : l.take (j + 1) = l.take j ++ [l.getD j 0] := by
  rw [List.take_succ, List.getElem?_eq_getElem h, List.getD_eq_getElem?_getD, List.getElem?_eq_getElem h]; rfl
theorem run1143 (t : List Nd) (l : List Int) (st : SmS t) (ll : l.length ≤ 9223372036854775807) : cwp d6 12 [] [(AV.list 5 (List.map eNd t)), (AV.list 1 (List.map (fun x => [AV.int .i64 x]) (l)))] [] (fun r H => r = resO (allT t l) ∧ H = []) := by
  refine run_fn (fn := fn1143) rfl rfl ?_
  have wt := st.wf
  by_cases g : goodT t = true
  case neg =>
    have g' : goodT t = false := by simpa using g
    have hr : allT t l = none := by simp [allT, g']
    simp only [fn1143_body, c1143, D0, SP0, seval, -Int.reduceNatCast', @use_all d6 25 k29.ora rfl, e29, wt, g']
    simp only [F1, SF0, SP0, seval, -Int.reduceNatCast', fn1143_res, fn1143_keep, fz, fzd, fzd.fzcells, hr, resO, encO, Option.isSome_none]
  obtain ⟨x, hx, rfl⟩ := okS_of ⟨st, g⟩
  rw [allT_enc hx]
  simp only [fn1143_body, c1143, D0, SP0, seval, -Int.reduceNatCast', @use_all d6 25 k29.ora rfl, e29, wt, g]
  refine lg_rule (fun j e H => ∃ y, allP x (l.take j) = some y ∧ e = [(0, (AV.list 5 (List.map eNd (enc y)))), (1, (AV.list 1 (List.map (fun x => [AV.int .i64 x]) (l)))), (4, .own [0] 0), (5, .bool false), (6, .bool true), (12, (AV.list 1 (List.map (fun x => [AV.int .i64 x]) (l)))), (13, .int .i64 l.length), (14, .int .i64 j)] ∧ H = [[([0], .row true true 39 5 [])]] ∧ j ≤ l.length) l.length ?_ ?_
  · exact ⟨x, rfl, rfl, rfl, by simp⟩
  rintro j e H ⟨y, hy, rfl, rfl, hj⟩
  have oy := ok_allP hx hy
  have sy := oy.sm
  have ey := byT_enc oy
  simp only [D0, SP0, seval, -Int.reduceNatCast']
  by_cases h : j < l.length
  · have h' : (j : Int) < (l.length : Int) := by omega
    have hp := wrapp (j := j) (by omega)
    have hg := map_get (f := fun x : Int => [AV.int .i64 x]) h 0
    have hs := allP_snoc (l.take j) x (l.getD j 0)
    rw [← take_snocI h, hy, Option.bind_some] at hs
    have hno := fun e => allP_take_none (l := l) (x := x) (j := j + 1) e
    generalize l.getD j 0 = v at hg hs
    have eyv := ey v
    cases ev : oneP v y with
    | none =>
      have hr := hno (by rw [hs, ev])
      simp only [D0, SP0, seval, -Int.reduceNatCast', @use_all d6 10 k1141.ora rfl, e1141, hg, h', hp, sy, eyv, ev, decide_true, resO, encO, Option.isSome_none, Int.natCast_nonneg, Int.toNat_natCast]
      simp only [F1, SF0, SP0, seval, -Int.reduceNatCast', fn1143_res, fn1143_keep, fz, fzd, fzd.fzcells, hr, resO, encO, Option.isSome_none]
    | some w =>
      rw [ev] at hs
      simp only [D0, SP0, seval, -Int.reduceNatCast', @use_all d6 10 k1141.ora rfl, e1141, hg, h', hp, sy, eyv, ev, decide_true, resO, encO, Option.isSome_some, Int.natCast_nonneg, Int.toNat_natCast]
      simp only [F1, SF0, SP0, seval, -Int.reduceNatCast']
      refine ⟨h, w, hs, ?_⟩
      simp
      omega
  · have h' : ¬ (j : Int) < (l.length : Int) := by omega
    have hjl : j = l.length := by omega
    subst hjl
    rw [List.take_length] at hy
    simp only [D0, SP0, seval, -Int.reduceNatCast', h', decide_false]
    refine .inr ⟨by simp, ?_⟩
    simp only [F1, SF0, SP0, seval, -Int.reduceNatCast', fn1143_res, fn1143_keep, fz, fzd, fzd.fzcells, hy, resO, encO, Option.isSome_some]
theorem treeRowInj : ∀ x y : List Nd × List Int, [(AV.list 5 (List.map eNd x.1)), (AV.list 1 (List.map (fun x => [AV.int .i64 x]) (x.2)))] = [(AV.list 5 (List.map eNd y.1)), (AV.list 1 (List.map (fun x => [AV.int .i64 x]) (y.2)))] → x = y := by
  rintro ⟨a, m⟩ ⟨b, n⟩ h
  simp only [List.cons.injEq, and_true] at h
  rw [eTree_inj (a := a) (b := b) h.1, eRow_inj (a := m) (b := n) h.2]
noncomputable def k1143 : Kon (List Nd × List Int) := ⟨fun x => SmS x.1 ∧ x.2.length ≤ 9223372036854775807, fun x => [(AV.list 5 (List.map eNd x.1)), (AV.list 1 (List.map (fun x => [AV.int .i64 x]) (x.2)))], fun x => resO (allT x.1 x.2)⟩
theorem e1143 (t : List Nd) (l : List Int) (hd : SmS t ∧ l.length ≤ 9223372036854775807) (q0 : Id) (H0 : Heap) : k1143.ora q0 ([(AV.list 5 (List.map eNd t)), (AV.list 1 (List.map (fun x => [AV.int .i64 x]) (l)))]) H0 = some (resO (allT t l), H0) := k1143.eq (treeRowInj) (t, l) hd q0 H0
theorem ook1143 : OraOK Tryz.prog (12 % 100000) k1143.ora := k1143.ok orders d6_ok (fun x hd => by simp [k1143, PU]) (fun x hd => by simp [k1143, PU, pure_resO]) (fun x hd => run1143 x.1 x.2 hd.1 hd.2)

noncomputable def d7 : FT := upd (d6) 12 k1143.ora
theorem d7_ok : FTOK Tryz.prog d7 := upd_ok2 (f := 12) (d6_ok) ook1143

end Go.Proofs.Abs

set_option maxRecDepth 100000
set_option maxHeartbeats 16000000
namespace Go.Proofs.Abs
open Go
def light (t : List Nd) : Bool := !large t && decide (t.length ≤ 60)
theorem run1139 (t : List Nd) (wt : WfT t) : cwp d7 7 [] [(AV.list 5 (List.map eNd t))] [] (fun r H => r = .bool (light t) ∧ H = []) := by
  refine run_fn (fn := fn1139) rfl rfl ?_
  cases e : large t with
  | true =>
    have hr : light t = false := by simp [light, e]
    simp only [fn1139_body, c1139, D0, SP0, seval, -Int.reduceNatCast', @use_all d7 23 k16.ora rfl, e16, wt, e]
    simp only [F1, SF0, SP0, seval, -Int.reduceNatCast', fn1139_res, fn1139_keep, hr]
  | false =>
    by_cases h : t.length ≤ 60
    · have h' : (t.length : Int) ≤ 60 := by omega
      have hr : light t = true := by simp [light, e, h]
      simp only [fn1139_body, c1139, D0, SP0, seval, -Int.reduceNatCast', @use_all d7 23 k16.ora rfl, e16, wt, e, h', decide_true]
      simp only [F1, SF0, SP0, seval, -Int.reduceNatCast', fn1139_res, fn1139_keep, hr]
    · have h' : ¬ (t.length : Int) ≤ 60 := by omega
      have hr : light t = false := by simp [light, e, h]
      simp only [fn1139_body, c1139, D0, SP0, seval, -Int.reduceNatCast', @use_all d7 23 k16.ora rfl, e16, wt, e, h', decide_false]
      simp only [F1, SF0, SP0, seval, -Int.reduceNatCast', fn1139_res, fn1139_keep, hr]
noncomputable def k1139 : Kon (List Nd) := ⟨fun x => WfT x, fun x => [(AV.list 5 (List.map eNd x))], fun x => .bool (light x)⟩
theorem e1139 (t : List Nd) (hd : WfT t) (q0 : Id) (H0 : Heap) : k1139.ora q0 ([(AV.list 5 (List.map eNd t))]) H0 = some (.bool (light t), H0) := k1139.eq (treeInj) (t) hd q0 H0
theorem ook1139 : OraOK Tryz.prog (7 % 100000) k1139.ora := k1139.ok orders d7_ok (fun x hd => by simp [k1139, PU]) (fun x hd => by simp [k1139, PU]) (fun x hd => run1139 x hd)

noncomputable def e11' : FT := upd (upd (upd (upd (upd (d7) 7 k1139.ora) 17 k30.ora) 18 k66.ora) 21 k25.ora) 22 k26.ora
theorem e11'_ok : FTOK Tryz.prog e11' := upd_ok2 (f := 22) (upd_ok2 (f := 21) (upd_ok2 (f := 18) (upd_ok2 (f := 17) (upd_ok2 (f := 7) (d7_ok) ook1139) ook30) ook66) ook25) ook26

noncomputable def e11 : FT := upd e11' 8 kW.ora
theorem e11_ok : FTOK Tryz.prog e11 := upd_ok2 (f := 8) e11'_ok ook1140
theorem light_iff {t : List Nd} (wt : WfT t) (h : light t = true) : SmS t ∧ t.length ≤ 60 := by
  simp only [light, Bool.and_eq_true, Bool.not_eq_true', decide_eq_true_eq] at h
  exact ⟨large_set wt h.1, h.2⟩
def catK (a : Tr) (P Q B : List Nd) (r : List Int) (k : Nat) : Bool := (nul a && takesT Q r) || (List.range k).any fun i => takesT P (r.take i) && takesT B (r.drop i)
def starK (P S : List Nd) (r : List Int) (k : Nat) : Bool := (List.range k).any fun i => takesT P (r.take i) && takesT S (r.drop i)
theorem catK_succ (a : Tr) (P Q B : List Nd) (r : List Int) (k : Nat) : catK a P Q B r (k + 1) = (catK a P Q B r k || (takesT P (r.take k) && takesT B (r.drop k))) := by
  unfold catK; rw [any_succ, Bool.or_assoc]
theorem starK_succ (P S : List Nd) (r : List Int) (k : Nat) : starK P S r (k + 1) = (starK P S r k || (takesT P (r.take k) && takesT S (r.drop k))) := by
  unfold starK; rw [any_succ]
theorem split_iff {x y : Tr} (hx : OkS x) (hy : OkS y) (r : List Int) : ((List.range (r.length + 1)).any fun i => takesT (enc x) (r.take i) && takesT (enc y) (r.drop i)) = true ↔ ∃ u w, r = u ++ w ∧ Sem x u ∧ Sem y w := by
  simp only [List.any_eq_true, List.mem_range, Bool.and_eq_true, lk_sem x hx, lk_sem y hy]
  constructor
  · rintro ⟨i, _, h1, h2⟩; exact ⟨r.take i, r.drop i, by simp, h1, h2⟩
  · rintro ⟨u, w, rfl, h1, h2⟩
    exact ⟨u.length, by simp; omega, by simpa using h1, by simpa using h2⟩
theorem sem_cat_cons {a b : Tr} (ha : Ok a) (v : Int) (r : List Int) : Sem (.cat a b) (v :: r) ↔ (nul a = true ∧ Sem b (v :: r)) ∨ ∃ u w, r = u ++ w ∧ Sem a (v :: u) ∧ Sem b w := by
  rw [sem_nul a ha]
  simp only [Sem]
  constructor
  · rintro ⟨u, w, e, h1, h2⟩
    cases u with
    | nil => simp only [List.nil_append] at e; rw [← e] at h2; exact .inl ⟨h1, h2⟩
    | cons y u =>
      simp only [List.cons_append, List.cons.injEq] at e
      obtain ⟨rfl, rfl⟩ := e
      exact .inr ⟨u, w, rfl, h1, h2⟩
  · rintro (⟨h1, h2⟩ | ⟨u, w, rfl, h1, h2⟩)
    · exact ⟨[], v :: r, rfl, h1, h2⟩
    · exact ⟨v :: u, w, rfl, h1, h2⟩
theorem sem_star_cons {a : Tr} (v : Int) (r : List Int) : Sem (.star a) (v :: r) ↔ ∃ u w, r = u ++ w ∧ Sem a (v :: u) ∧ Sem (.star a) w := by
  simp only [Sem]
  constructor
  · intro h1
    generalize e : v :: r = m at h1
    cases h1 with
    | nil => cases e
    | cons u w hu h2 h3 =>
      cases u with
      | nil => exact absurd rfl hu
      | cons y u =>
        simp only [List.cons_append, List.cons.injEq] at e
        obtain ⟨rfl, rfl⟩ := e
        exact ⟨u, w, rfl, h2, h3⟩
  · rintro ⟨u, w, rfl, h1, h2⟩
    exact .cons (v :: u) w (by simp) h1 h2
theorem takes_sem {x : Tr} (h : OkS x) (l : List Int) (b : Bool) (hb : b = true ↔ Sem x l) : takesT (enc x) l = b := by
  rw [Bool.eq_iff_iff, lk_sem x h, hb]
theorem run1138 (a b : List Nd) (l : List Int) (wa : WfT a) (wb : WfT b) (wl : l.length ≤ 9223372036854775807 ∧ ∀ x ∈ l, I64 x) : cwp e11 6 [] [(AV.list 5 (List.map eNd a)), (AV.list 5 (List.map eNd b)), (AV.list 1 (List.map (fun x => [AV.int .i64 x]) (l)))] [] (fun r H => r = .bool true ∧ H = []) := by
  refine run_fn (fn := fn1138) rfl rfl ?_
  have ll := wl.1
  by_cases g : light a = true
  case neg =>
    have g' : light a = false := by simpa using g
    simp (maxSteps := 2000000) only [fn1138_body, c1138, D0, SP0, seval, -Int.reduceNatCast', @use_all e11 7 k1139.ora rfl, e1139, @use_all e11 8 kW.ora rfl, eW, wa, g']
    simp only [F1, SF0, SP0, seval, -Int.reduceNatCast', fn1138_res, fn1138_keep]
  by_cases gb : light b = true
  case neg =>
    have gb' : light b = false := by simpa using gb
    simp (maxSteps := 2000000) only [fn1138_body, c1138, D0, SP0, seval, -Int.reduceNatCast', @use_all e11 7 k1139.ora rfl, e1139, @use_all e11 8 kW.ora rfl, eW, wa, wb, g, gb']
    simp only [F1, SF0, SP0, seval, -Int.reduceNatCast', fn1138_res, fn1138_keep]
  obtain ⟨sa, la⟩ := light_iff wa g
  obtain ⟨sb, lb⟩ := light_iff wb gb
  have e1 : IntKind.i64.wrap ((a.length : Int) + (b.length : Int)) = ((a.length + b.length : Nat) : Int) := by
    rw [wrap64 (by omega) (by omega)]; omega
  by_cases l4 : ((a.length + b.length : Nat) : Int) > 40
  case pos =>
    simp (maxSteps := 2000000) only [fn1138_body, c1138, D0, SP0, seval, -Int.reduceNatCast', @use_all e11 7 k1139.ora rfl, e1139, @use_all e11 8 kW.ora rfl, eW, wa, wb, g, gb, e1, l4, decide_true]
    simp only [F1, SF0, SP0, seval, -Int.reduceNatCast', fn1138_res, fn1138_keep]
  by_cases ga : goodT a = true
  case neg =>
    have ga' : goodT a = false := by simpa using ga
    simp (maxSteps := 2000000) only [fn1138_body, c1138, D0, SP0, seval, -Int.reduceNatCast', @use_all e11 7 k1139.ora rfl, e1139, @use_all e11 17 k30.ora rfl, e30, @use_all e11 8 kW.ora rfl, eW, wa, wb, g, gb, e1, l4, ga', decide_false]
    simp only [F1, SF0, SP0, seval, -Int.reduceNatCast', fn1138_res, fn1138_keep]
  by_cases gc : goodT b = true
  case neg =>
    have gc' : goodT b = false := by simpa using gc
    simp (maxSteps := 2000000) only [fn1138_body, c1138, D0, SP0, seval, -Int.reduceNatCast', @use_all e11 7 k1139.ora rfl, e1139, @use_all e11 17 k30.ora rfl, e30, @use_all e11 8 kW.ora rfl, eW, wa, wb, g, gb, e1, l4, ga, gc', decide_false]
    simp only [F1, SF0, SP0, seval, -Int.reduceNatCast', fn1138_res, fn1138_keep]
  by_cases n1 : (l.length : Int) < 1
  case pos =>
    simp (maxSteps := 2000000) only [fn1138_body, c1138, D0, SP0, seval, -Int.reduceNatCast', @use_all e11 7 k1139.ora rfl, e1139, @use_all e11 17 k30.ora rfl, e30, @use_all e11 8 kW.ora rfl, eW, wa, wb, g, gb, e1, l4, ga, gc, n1, decide_false, decide_true]
    simp only [F1, SF0, SP0, seval, -Int.reduceNatCast', fn1138_res, fn1138_keep]
  by_cases n5 : (l.length : Int) > 5
  case pos =>
    simp (maxSteps := 2000000) only [fn1138_body, c1138, D0, SP0, seval, -Int.reduceNatCast', @use_all e11 7 k1139.ora rfl, e1139, @use_all e11 17 k30.ora rfl, e30, @use_all e11 8 kW.ora rfl, eW, wa, wb, g, gb, e1, l4, ga, gc, n1, n5, decide_false, decide_true]
    simp only [F1, SF0, SP0, seval, -Int.reduceNatCast', fn1138_res, fn1138_keep]
  obtain ⟨v, r, hv⟩ : ∃ v r, l = v :: r := by
    cases l with
    | nil => simp at n1
    | cons v r => exact ⟨v, r, rfl⟩
  have hlen : l.length = r.length + 1 := by rw [hv]; rfl
  have hl1 : (0 : Int) < (l.length : Int) := by omega
  have hg0 : (List.map (fun x => [AV.int .i64 x]) l)[0]? = some [AV.int .i64 v] := by rw [hv]; rfl
  have hdr : List.drop 1 (List.map (fun x => [AV.int .i64 x]) l) = List.map (fun x => [AV.int .i64 x]) r := by rw [hv]; rfl
  have h1l : 1 ≤ l.length := by omega
  have hll : (l.length ≤ l.length) = True := eq_true (Nat.le_refl _)
  have htk : List.take l.length (List.map (fun x => [AV.int .i64 x]) l) = List.map (fun x => [AV.int .i64 x]) l := List.take_of_length_le (by simp)
  by_cases iv : isS v = true
  case neg =>
    have iv' : isS v = false := by simpa using iv
    simp (maxSteps := 2000000) only [fn1138_body, c1138, D0, SP0, seval, -Int.reduceNatCast', @use_all e11 7 k1139.ora rfl, e1139, @use_all e11 17 k30.ora rfl, e30, @use_all e11 18 k66.ora rfl, e66, @use_all e11 8 kW.ora rfl, eW, wa, wb, g, gb, e1, l4, ga, gc, n1, n5, hl1, hg0, iv', Int.reduceLE, Int.toNat_zero, decide_false]
    simp only [F1, SF0, SP0, seval, -Int.reduceNatCast', fn1138_res, fn1138_keep]
  obtain ⟨x, hx, rfl⟩ := okS_of ⟨sa, ga⟩
  obtain ⟨y, hy, rfl⟩ := okS_of ⟨sb, gc⟩
  have lx := enc_len x
  have ly := enc_len y
  have px := sz_pos x
  have py := sz_pos y
  obtain ⟨j1, j2⟩ := encO_join (k := 3) (.inl rfl) hx hy
  obtain ⟨j3, j4⟩ := encO_join (k := 4) (.inr rfl) hx hy
  obtain ⟨j5, j6⟩ := encO_star hx
  have k1 : joinO 3 x y = some (.cat x y) := by simp [joinO]; omega
  have k2 : joinO 4 x y = some (.alt x y) := by simp [joinO]; omega
  have k3 : starJ x = some (.star x) := by simp [starJ]; omega
  rw [k1] at j1
  rw [k2] at j3
  rw [k3] at j5
  simp only [encO] at j1 j3 j5
  have o5 : OkS (.cat x y) := ok_joinO hx hy k1
  have o6 : OkS (.alt x y) := ok_joinO hx hy k2
  have o7 : OkS (.star x) := ⟨hx.1, by simp only [sz]; omega⟩
  have by_ : ∀ {z : Tr}, OkS z → sz z ≤ 100 → OkS (sDer v z) ∧ ∀ q0 H0, k1141.ora q0 [(AV.list 5 (List.map eNd (enc z))), .int .i64 v] H0 = some (.tuple [(AV.list 5 (List.map eNd (enc (sDer v z)))), .bool true], H0) := fun {z} hz hs => by
    have e := derP_small v z (by omega)
    have E := e1141 (enc z) v hz.sm
    rw [byT_enc hz] at E
    simp only [oneP, iv, if_true, e, resO, encO, Option.isSome_some] at E
    exact ⟨ok_derP v hz e, E⟩
  obtain ⟨op, E1⟩ := by_ hx (by omega)
  obtain ⟨oq, E2⟩ := by_ hy (by omega)
  obtain ⟨oc, E3⟩ := by_ o5 (by simp only [sz]; omega)
  obtain ⟨od, E4⟩ := by_ o6 (by simp only [sz]; omega)
  obtain ⟨os, E5⟩ := by_ o7 (by simp only [sz]; omega)
  have en : nullT (enc x) = nul x := by simp [nullT, ga, hx.dec]
  have d25 : (SmS (enc x) ∧ SmS (enc y)) ∧ (enc x).length ≤ 1000000 ∧ (enc y).length ≤ 1000000 := ⟨⟨sa, sb⟩, by omega, by omega⟩
  have d26 : SmS (enc x) ∧ (enc x).length ≤ 1000000 := ⟨sa, by omega⟩
  have J1 := e25 3 (enc x) (enc y) d25
  have J2 := e25 4 (enc x) (enc y) d25
  have J3 := e26 (enc x) d26
  rw [j1] at J1
  rw [j3] at J2
  rw [j5] at J3
  have hr6 : r.length ≤ 1000000 := by omega
  have T : ∀ {z : Tr}, OkS z → ∀ m : List Int, m.length ≤ 1000000 → ∀ q0 H0, k31.ora q0 [(AV.list 5 (List.map eNd (enc z))), (AV.list 1 (List.map (fun x => [AV.int .i64 x]) (m)))] H0 = some (.bool (takesT (enc z) m), H0) := fun hz m hm => e31 _ m ⟨hz.sm.wf, hm⟩
  have Tq := T oq r hr6
  have Tp := T op r hr6
  have Tc := T oc r hr6
  have Td := T od r hr6
  have Ts := T os r hr6
  have fc : takesT (enc (sDer v (.cat x y))) r = catK x (enc (sDer v x)) (enc (sDer v y)) (enc y) r (r.length + 1) := takes_sem oc r _ (by
    unfold catK
    rw [Bool.or_eq_true, Bool.and_eq_true, split_iff op hy, lk_sem _ oq, sem_sDer v y hy.1, sem_sDer v (.cat x y) o5.1, sem_cat_cons hx.1]
    simp only [sem_sDer v x hx.1])
  have fd : takesT (enc (sDer v (.alt x y))) r = (takesT (enc (sDer v x)) r || takesT (enc (sDer v y)) r) := takes_sem od r _ (by
    rw [Bool.or_eq_true, lk_sem _ op, lk_sem _ oq, sem_sDer v x hx.1, sem_sDer v y hy.1, sem_sDer v (.alt x y) o6.1]; rfl)
  have fs : takesT (enc (sDer v (.star x))) r = starK (enc (sDer v x)) (enc (.star x)) r (r.length + 1) := takes_sem os r _ (by
    unfold starK
    rw [split_iff op o7, sem_sDer v (.star x) o7.1, sem_star_cons]
    simp only [sem_sDer v x hx.1])
  have TP := fun m hm => T op m hm
  have TB := fun m hm => T hy m hm
  have TS := fun m hm => T o7 m hm
  generalize sDer v (.cat x y) = dc at *
  generalize sDer v (.alt x y) = dd at *
  generalize sDer v (.star x) = ds at *
  generalize sDer v x = dx at *
  generalize sDer v y = dy at *
  generalize Tr.cat x y = tc at *
  generalize Tr.alt x y = td at *
  generalize Tr.star x = ts at *
  rw [fc] at Tc
  rw [fd] at Td
  rw [fs] at Ts
  have htr : List.take r.length (List.map (fun x => [AV.int .i64 x]) r) = List.map (fun x => [AV.int .i64 x]) r := List.take_of_length_le (by simp)
  have hrr : (r.length ≤ r.length) = True := eq_true (Nat.le_refl _)
  have hz : (0 ≤ r.length) = True := eq_true (Nat.zero_le _)
  have c0 : catK x (enc dx) (enc dy) (enc y) r 0 = (nul x && takesT (enc dy) r) := by simp [catK]
  have s0 : starK (enc dx) (enc ts) r 0 = false := by simp [starK]
  clear by_ T fc fd fs
  cases hn : nul x
  case' true =>
    rw [hn] at en c0
    rw [Bool.true_and] at c0
    simp (maxSteps := 2000000) only [fn1138_body, c1138, D0, SP0, seval, -Int.reduceNatCast', @use_all e11 7 k1139.ora rfl, e1139, @use_all e11 17 k30.ora rfl, e30, @use_all e11 18 k66.ora rfl, e66, @use_all e11 15 k1145.ora rfl, e1145, @use_all e11 8 kW.ora rfl, eW, @use_all e11 10 k1141.ora rfl, E1, E2, E3, E4, E5, @use_all e11 21 k25.ora rfl, J1, J2, @use_all e11 22 k26.ora rfl, J3, @use_all e11 20 k31.ora rfl, Tq, sa, wa, wb, g, gb, e1, l4, ga, gc, n1, n5, hl1, hg0, hdr, htk, h1l, hll, iv, en, lrc_x, apx, apart, apart1, needs, Int.reduceLE, Int.toNat_zero, Int.toNat_natCast, decide_false]
  case' false =>
    rw [hn] at en c0
    rw [Bool.false_and] at c0
    simp (maxSteps := 2000000) only [fn1138_body, c1138, D0, SP0, seval, -Int.reduceNatCast', @use_all e11 7 k1139.ora rfl, e1139, @use_all e11 17 k30.ora rfl, e30, @use_all e11 18 k66.ora rfl, e66, @use_all e11 15 k1145.ora rfl, e1145, @use_all e11 8 kW.ora rfl, eW, @use_all e11 10 k1141.ora rfl, E1, E2, E3, E4, E5, @use_all e11 21 k25.ora rfl, J1, J2, @use_all e11 22 k26.ora rfl, J3, @use_all e11 20 k31.ora rfl, Tq, sa, wa, wb, g, gb, e1, l4, ga, gc, n1, n5, hl1, hg0, hdr, htk, h1l, hll, iv, en, lrc_x, apx, apart, apart1, needs, Int.reduceLE, Int.toNat_zero, Int.toNat_natCast, decide_false]
  all_goals
    refine lg_rule (fun j e H => e = [(0, (AV.list 5 (List.map eNd (enc x)))), (1, (AV.list 5 (List.map eNd (enc y)))), (2, (AV.list 1 (List.map (fun x => [AV.int .i64 x]) (l)))), (6, .bool false), (7, .int .i64 v), (8, (AV.list 1 (List.map (fun x => [AV.int .i64 x]) (r)))), (9, (AV.list 5 (List.map eNd (enc dx)))), (10, .bool true), (11, (AV.list 5 (List.map eNd (enc dy)))), (12, .bool true),
      (13, (AV.list 5 (List.map eNd (enc dc)))), (14, .bool true), (15, (AV.list 5 (List.map eNd (enc dd)))), (16, .bool true), (17, (AV.list 5 (List.map eNd (enc ds)))), (18, .bool true), (19, .bool (catK x (enc dx) (enc dy) (enc y) r j)), (20, .bool (starK (enc dx) (enc ts) r j)), (21, .int .i64 j)] ∧ H = [[]] ∧ j ≤ r.length + 1) (r.length + 1) ?_ ?_
    · exact ⟨by rw [c0, s0]; rfl, rfl, by simp⟩
    rintro j e H ⟨rfl, rfl, hj⟩
    simp (maxSteps := 2000000) only [D0, SP0, seval, -Int.reduceNatCast']
    by_cases h : j ≤ r.length
    · have h' : (j : Int) ≤ (r.length : Int) := by omega
      have hlt : j < r.length + 1 := by omega
      have hp := wrapp (j := j) (by omega)
      have hcn := catK_succ x (enc dx) (enc dy) (enc y) r j
      have hsn := starK_succ (enc dx) (enc ts) r j
      have htj : List.take j (List.map (fun x => [AV.int .i64 x]) r) = List.map (fun x => [AV.int .i64 x]) (r.take j) := by rw [List.map_take]
      have hdj : List.drop j (List.map (fun x => [AV.int .i64 x]) r) = List.map (fun x => [AV.int .i64 x]) (r.drop j) := by rw [List.map_drop]
      have tp' := TP (r.take j) (by simp; omega)
      have tb' := TB (r.drop j) (by simp; omega)
      have ts' := TS (r.drop j) (by simp; omega)
      have hz' : (0 ≤ j) = True := eq_true (Nat.zero_le _)
      generalize catK x (enc dx) (enc dy) (enc y) r j = cj at hcn ⊢
      generalize starK (enc dx) (enc ts) r j = sj at hsn ⊢
      generalize takesT (enc dx) (r.take j) = tp at tp' hcn hsn
      generalize takesT (enc y) (r.drop j) = tb at tb' hcn
      generalize takesT (enc ts) (r.drop j) = tt at ts' hsn
      cases cj <;> cases sj <;> cases tp
      all_goals
        simp only [Bool.true_or, Bool.false_or, Bool.true_and, Bool.false_and] at hcn hsn
        simp (maxSteps := 2000000) only [D0, SP0, seval, -Int.reduceNatCast', @use_all e11 20 k31.ora rfl, tp', tb', ts', @use_all e11 22 k26.ora rfl, J3, h, h', hp, htj, hdj, htr, hrr, hz, hz', lrc_x, apx, apart, apart1, needs, List.drop_zero, Int.natCast_nonneg, Int.toNat_natCast, decide_true]
        simp only [F1, SF0, SP0, seval, -Int.reduceNatCast']
        rw [hcn, hsn]
        first | exact ⟨hlt, rfl, rfl⟩ | exact ⟨hlt, rfl, hlt⟩ | exact ⟨hlt, rfl, rfl, hlt⟩
    · have h' : ¬ (j : Int) ≤ (r.length : Int) := by omega
      have hjl : j = r.length + 1 := by omega
      subst hjl
      simp (maxSteps := 2000000) only [D0, SP0, seval, -Int.reduceNatCast', h', decide_false]
      refine .inr ⟨by simp, ?_⟩
      generalize takesT (enc dx) r = tp at Tp Td
      generalize takesT (enc dy) r = tq at Tq Td
      generalize catK x (enc dx) (enc dy) (enc y) r (r.length + 1) = C at Tc ⊢
      generalize starK (enc dx) (enc ts) r (r.length + 1) = S at Ts ⊢
      cases tp
      all_goals
        simp only [Bool.true_or, Bool.false_or] at Td
        simp (maxSteps := 2000000) only [D0, SP0, seval, -Int.reduceNatCast', @use_all e11 20 k31.ora rfl, Tc, Td, Ts, Tp, Tq, @use_all e11 8 kW.ora rfl, eW, beq_self_eq_true]
        simp only [F1, SF0, SP0, seval, -Int.reduceNatCast', fn1138_res, fn1138_keep]
end Go.Proofs.Abs
