/- A part of a proof: the text that states the row tells what is proved. No condition is laid on anything. -/
import Derived.Test.YtligpalonlliaaaGreatAbsY6
set_option linter.all false
set_option linter.constructorNameAsVariable false
set_option linter.defProp false
set_option linter.unusedVariables false
set_option linter.unusedSimpArgs false
namespace Go.Proofs.Abs
open Go
/-! 91, 124: the scalar ahead; how many numbers. -/
def prevV (v : Int) : Int := if v ≤ 0 then 0 else if 1114111 < v then 1114111 else if 55295 < v ∧ v ≤ 57344 then 55295 else v - 1
def prevB (v : Int) : Bool := decide (0 < v)
def numV (a b : Int) : Int := if b < a then 0 else b - a + 1
theorem GdL.tail {r : R2} {s : List R2} (h : GdL (r :: s)) : GdL s := ⟨fun x hx => h.whole x (List.mem_cons_of_mem _ hx), (List.pairwise_cons.1 h.apart).2⟩
theorem GdL.head {r : R2} {s : List R2} (h : GdL (r :: s)) : ∀ x ∈ s, apartS r x = true := (List.pairwise_cons.1 h.apart).1
theorem GdL.nil : GdL [] := ⟨by simp, .nil⟩
theorem GdL.above {r : R2} {s : List R2} (h : GdL (r :: s)) {v : Int} (hv : memS s v) : r.2 < v := by
  obtain ⟨x, hx, a, b⟩ := hv
  have := apartS_lt (h.head x hx)
  omega
/-! ### Both -/
def mxI (a b : Int) : Int := if a < b then b else a
def mnI (a b : Int) : Int := if b < a then b else a
theorem mxI_ok (a b : Int) : a ≤ mxI a b ∧ b ≤ mxI a b ∧ (mxI a b = a ∨ mxI a b = b) := by unfold mxI; split <;> omega
theorem mnI_ok (a b : Int) : mnI a b ≤ a ∧ mnI a b ≤ b ∧ (mnI a b = a ∨ mnI a b = b) := by unfold mnI; split <;> omega
/-- What two ranges have in common. -/
def cutR (x y : R2) : List R2 := if mxI x.1 y.1 ≤ mnI x.2 y.2 then [(mxI x.1 y.1, mnI x.2 y.2)] else []
theorem mem_cutR {x y r : R2} : r ∈ cutR x y ↔ r = (mxI x.1 y.1, mnI x.2 y.2) ∧ mxI x.1 y.1 ≤ mnI x.2 y.2 := by
  unfold cutR
  split
  · rename_i h; simp [h]
  · rename_i h; simp [h]
theorem memS_cutR {x y : R2} {v : Int} : memS (cutR x y) v ↔ (x.1 ≤ v ∧ v ≤ x.2) ∧ (y.1 ≤ v ∧ v ≤ y.2) := by
  have h1 := mxI_ok x.1 y.1
  have h2 := mnI_ok x.2 y.2
  constructor
  · rintro ⟨r, hr, k⟩
    obtain ⟨rfl, _⟩ := mem_cutR.1 hr
    simp only at k
    omega
  · intro k
    exact ⟨_, mem_cutR.2 ⟨rfl, by omega⟩, by simp only; omega, by simp only; omega⟩
def bothF : Nat → List R2 → List R2 → List R2
  | n + 1, x :: a, y :: b => cutR x y ++ (if x.2 < y.2 then bothF n a (y :: b) else bothF n (x :: a) b)
  | _, _, _ => []
theorem bothF_lo : ∀ (n : Nat) (a b : List R2), ∀ r ∈ bothF n a b, (∃ x ∈ a, x.1 ≤ r.1) ∧ ∃ y ∈ b, y.1 ≤ r.1
  | 0, _, _, r, h => by simp [bothF] at h
  | n + 1, [], b, r, h => by simp [bothF] at h
  | n + 1, x :: a, [], r, h => by simp [bothF] at h
  | n + 1, x :: a, y :: b, r, h => by
    simp only [bothF] at h
    rcases List.mem_append.1 h with h | h
    · obtain ⟨rfl, _⟩ := mem_cutR.1 h
      have := mxI_ok x.1 y.1
      exact ⟨⟨x, List.mem_cons_self .., this.1⟩, ⟨y, List.mem_cons_self .., this.2.1⟩⟩
    · split at h
      · obtain ⟨⟨x', hx, h1⟩, h2⟩ := bothF_lo n _ _ r h
        exact ⟨⟨x', List.mem_cons_of_mem _ hx, h1⟩, h2⟩
      · obtain ⟨h1, ⟨y', hy, h2⟩⟩ := bothF_lo n _ _ r h
        exact ⟨h1, ⟨y', List.mem_cons_of_mem _ hy, h2⟩⟩
theorem bothF_good : ∀ (n : Nat) (a b : List R2), GdL a → GdL b → GdL (bothF n a b)
  | 0, _, _, _, _ => by simp only [bothF]; exact .nil
  | n + 1, [], b, _, _ => by simp only [bothF]; exact .nil
  | n + 1, x :: a, [], _, _ => by simp only [bothF]; exact .nil
  | n + 1, x :: a, y :: b, ha, hb => by
    obtain ⟨x1, x2, x3⟩ := wholeS_iff.1 (ha.whole x (List.mem_cons_self ..))
    obtain ⟨y1, y2, y3⟩ := wholeS_iff.1 (hb.whole y (List.mem_cons_self ..))
    simp only [bothF]
    have rest : GdL (if x.2 < y.2 then bothF n a (y :: b) else bothF n (x :: a) b) := by
      split
      · exact bothF_good n _ _ ha.tail hb
      · exact bothF_good n _ _ ha hb.tail
    have m1 := mxI_ok x.1 y.1
    have m2 := mnI_ok x.2 y.2
    refine ⟨fun r hr => ?_, List.pairwise_append.2 ⟨by unfold cutR; split <;> simp, rest.apart, fun u hu r hr => ?_⟩⟩
    · rcases List.mem_append.1 hr with hr | hr
      · obtain ⟨rfl, hle⟩ := mem_cutR.1 hr
        rw [wholeS_iff]
        refine ⟨?_, ?_, hle⟩
        · rcases m1.2.2 with e | e <;> (simp only; rw [e]; assumption)
        · rcases m2.2.2 with e | e <;> (simp only; rw [e]; assumption)
      · exact rest.whole r hr
    · obtain ⟨rfl, hle⟩ := mem_cutR.1 hu
      rw [apartS_iff]
      simp only
      split at hr
      · obtain ⟨⟨x', hx, h1⟩, _⟩ := bothF_lo n _ _ r hr
        have := apartS_iff.1 (ha.head x' hx)
        have e : mnI x.2 y.2 = x.2 := by omega
        rw [e]
        omega
      · obtain ⟨_, ⟨y', hy, h1⟩⟩ := bothF_lo n _ _ r hr
        have := apartS_iff.1 (hb.head y' hy)
        have e : mnI x.2 y.2 = y.2 := by omega
        rw [e]
        omega
theorem bothF_mem : ∀ (n : Nat) (a b : List R2), GdL a → GdL b → a.length + b.length ≤ n → ∀ v, memS (bothF n a b) v ↔ memS a v ∧ memS b v
  | 0, a, b, _, _, h, v => by
    have : a = [] := List.eq_nil_of_length_eq_zero (by omega)
    subst this
    simp [bothF, memS]
  | n + 1, [], b, _, _, _, v => by simp [bothF, memS]
  | n + 1, x :: a, [], _, _, _, v => by simp [bothF, memS]
  | n + 1, x :: a, y :: b, ha, hb, h, v => by
    simp only [List.length_cons] at h
    simp only [bothF]
    rw [memS_append, memS_cutR, memS_cons, memS_cons]
    have na : memS a v → x.2 < v := ha.above
    have nb : memS b v → y.2 < v := hb.above
    split
    · rename_i hlt
      rw [bothF_mem n a (y :: b) ha.tail hb (by simp; omega) v, memS_cons]
      constructor
      · rintro (k | ⟨k1, k2⟩)
        · exact ⟨.inl k.1, .inl k.2⟩
        · exact ⟨.inr k1, k2⟩
      · rintro ⟨k1 | k1, k2 | k2⟩
        · exact .inl ⟨k1, k2⟩
        · have := nb k2; omega
        · exact .inr ⟨k1, .inl k2⟩
        · exact .inr ⟨k1, .inr k2⟩
    · rename_i hlt
      rw [bothF_mem n (x :: a) b ha hb.tail (by simp; omega) v, memS_cons]
      constructor
      · rintro (k | ⟨k1, k2⟩)
        · exact ⟨.inl k.1, .inl k.2⟩
        · exact ⟨k1, .inr k2⟩
      · rintro ⟨k1 | k1, k2 | k2⟩
        · exact .inl ⟨k1, k2⟩
        · exact .inr ⟨.inl k1, k2⟩
        · have := na k1; omega
        · exact .inr ⟨.inr k1, k2⟩
def bothS (a b : List R2) : List R2 := if goodS a && goodS b then bothF (a.length + b.length) a b else []
/-! ### Not -/
def notA : List R2 → Int → Bool → List R2
  | [], f, m => if m then [(f, 1114111)] else []
  | r :: l, f, _ => (if prevB r.1 && decide (f ≤ prevV r.1) then [(f, prevV r.1)] else []) ++ notA l (nextV r.2) (nextB r.2)
theorem prevV_facts {v : Int} (h : isS v = true) (h0 : 0 < v) : isS (prevV v) = true ∧ prevV v < v ∧ nextV (prevV v) = v ∧ ∀ w, isS w = true → (w < v ↔ w ≤ prevV v) := by
  have e : prevV v = if 55295 < v ∧ v ≤ 57344 then 55295 else v - 1 := by
    have := isS_iff.1 h
    unfold prevV
    rw [if_neg (by omega), if_neg (by omega)]
  have hv := isS_iff.1 h
  rw [e]
  split
  · have : v = 57344 := by omega
    subst this
    refine ⟨by decide, by omega, by decide, fun w hw => ?_⟩
    have := isS_iff.1 hw
    omega
  · refine ⟨isS_iff.2 (by omega), by omega, ?_, fun w hw => by omega⟩
    unfold nextV
    rw [if_neg (by omega), if_neg (by omega), if_neg (by omega)]
    omega
structure NotInv (l : List R2) (f : Int) (m : Bool) : Prop where
  ok : GdL l
  no : m = false → l = []
  yes : m = true → isS f = true ∧ ∀ r ∈ l, f ≤ r.1
theorem notInv_next {r : R2} {l : List R2} {f : Int} {m : Bool} (h : NotInv (r :: l) f m) : NotInv l (nextV r.2) (nextB r.2) := by
  obtain ⟨r1, r2, r3⟩ := wholeS_iff.1 (h.ok.whole r (List.mem_cons_self ..))
  refine ⟨h.ok.tail, fun hm => ?_, fun hm => ?_⟩
  · simp only [nextB, decide_eq_false_iff_not] at hm
    cases l with
    | nil => rfl
    | cons y l =>
      have := apartS_iff.1 (h.ok.head y (List.mem_cons_self ..))
      omega
  · simp only [nextB, decide_eq_true_eq] at hm
    refine ⟨nextV_isS r2 hm, fun y hy => ?_⟩
    have := apartS_iff.1 (h.ok.head y hy)
    omega
theorem notA_lo : ∀ (l : List R2) (f : Int) (m : Bool), NotInv l f m → ∀ r ∈ notA l f m, f ≤ r.1
  | [], f, m, h, r, hr => by
    cases m with
    | false => simp [notA] at hr
    | true => simp [notA] at hr; rw [hr]; simp
  | x :: l, f, m, h, r, hr => by
    have hm : m = true := by
      cases m with
      | true => rfl
      | false => have := h.no rfl; cases this
    obtain ⟨hf, hlo⟩ := h.yes hm
    obtain ⟨r1, r2, r3⟩ := wholeS_iff.1 (h.ok.whole x (List.mem_cons_self ..))
    have hx := hlo x (List.mem_cons_self ..)
    simp only [notA] at hr
    rcases List.mem_append.1 hr with hr | hr
    · split at hr
      · rw [List.mem_singleton.1 hr]; simp
      · cases hr
    · have := notA_lo l _ _ (notInv_next h) r hr
      have hs := isS_iff.1 r2
      by_cases hb : x.2 < 1114111
      · have := nextV_gt hb; omega
      · have hb' : nextB x.2 = false := by simp [nextB, hb]
        have := (notInv_next h).no hb'
        subst this
        rw [hb'] at hr
        simp [notA] at hr
theorem notA_good : ∀ (l : List R2) (f : Int) (m : Bool), NotInv l f m → GdL (notA l f m)
  | [], f, m, h => by
    cases m with
    | false => simp only [notA]; exact .nil
    | true =>
      obtain ⟨hf, _⟩ := h.yes rfl
      have := isS_iff.1 hf
      simp only [notA, if_true]
      exact ⟨fun r hr => by rw [List.mem_singleton.1 hr, wholeS_iff]; exact ⟨hf, (by decide : isS 1114111 = true), by simp only; omega⟩, by simp⟩
  | x :: l, f, m, h => by
    have hm : m = true := by
      cases m with
      | true => rfl
      | false => have := h.no rfl; cases this
    obtain ⟨hf, hlo⟩ := h.yes hm
    obtain ⟨r1, r2, r3⟩ := wholeS_iff.1 (h.ok.whole x (List.mem_cons_self ..))
    have rest := notA_good l _ _ (notInv_next h)
    simp only [notA]
    split
    rotate_left
    · simpa using rest
    rename_i hc
    simp only [prevB, Bool.and_eq_true, decide_eq_true_eq] at hc
    obtain ⟨p1, p2, p3, p4⟩ := prevV_facts r1 hc.1
    have hs := isS_iff.1 r1
    refine ⟨fun r hr => ?_, List.pairwise_append.2 ⟨by simp, rest.apart, fun u hu r hr => ?_⟩⟩
    · rcases List.mem_append.1 hr with hr | hr
      · rw [List.mem_singleton.1 hr, wholeS_iff]
        exact ⟨hf, p1, hc.2⟩
      · exact rest.whole r hr
    · rw [List.mem_singleton.1 hu, apartS_iff]
      simp only
      have := notA_lo l _ _ (notInv_next h) r hr
      rw [p3]
      by_cases hb : x.2 < 1114111
      · have := nextV_gt hb; omega
      · have hb' : nextB x.2 = false := by simp [nextB, hb]
        have := (notInv_next h).no hb'
        subst this
        rw [hb'] at hr
        simp [notA] at hr
theorem notA_mem : ∀ (l : List R2) (f : Int) (m : Bool), NotInv l f m → ∀ v, isS v = true → (memS (notA l f m) v ↔ m = true ∧ f ≤ v ∧ ¬ memS l v)
  | [], f, m, h, v, hv => by
    have := isS_iff.1 hv
    cases m with
    | false => simp [notA, memS]
    | true =>
      simp only [notA, if_true, memS_cons, memS_nil, or_false, not_false_eq_true, and_true, true_and]
      omega
  | x :: l, f, m, h, v, hv => by
    have hm : m = true := by
      cases m with
      | true => rfl
      | false => have := h.no rfl; cases this
    obtain ⟨hf, hlo⟩ := h.yes hm
    obtain ⟨r1, r2, r3⟩ := wholeS_iff.1 (h.ok.whole x (List.mem_cons_self ..))
    have hx := hlo x (List.mem_cons_self ..)
    have hs := isS_iff.1 r1
    have hs2 := isS_iff.1 hv
    simp only [notA]
    rw [memS_append, notA_mem l _ _ (notInv_next h) v hv, memS_cons, hm]
    have above : memS l v → x.2 < v := h.ok.above
    have first : memS (if (prevB x.1 && decide (f ≤ prevV x.1)) = true then [(f, prevV x.1)] else []) v ↔ f ≤ v ∧ v < x.1 := by
      by_cases h0 : 0 < x.1
      · obtain ⟨p1, p2, p3, p4⟩ := prevV_facts r1 h0
        have := p4 v hv
        split
        · rename_i hc
          rw [memS_cons]
          simp only [memS_nil, or_false]
          omega
        · rename_i hc
          simp only [prevB, Bool.and_eq_true, decide_eq_true_eq, not_and] at hc
          have hc := hc h0
          constructor
          · intro k; exact absurd k memS_nil
          · omega
      · have : prevB x.1 = false := by simp [prevB]; omega
        rw [this]
        simp only [Bool.false_and, Bool.false_eq_true, if_false]
        have := isS_iff.1 hf
        constructor
        · intro k; exact absurd k memS_nil
        · omega
    rw [first]
    have second : (nextB x.2 = true ∧ nextV x.2 ≤ v) ↔ x.2 < v := by
      constructor
      · rintro ⟨k1, k2⟩
        simp only [nextB, decide_eq_true_eq] at k1
        have := nextV_gt k1
        omega
      · intro k
        exact ⟨by simp only [nextB, decide_eq_true_eq]; omega, nextV_le hv k⟩
    rw [← and_assoc, second]
    constructor
    · rintro (k | ⟨k1, k2⟩)
      · exact ⟨rfl, k.1, fun q => by
          rcases q with q | q
          · omega
          · have := above q; omega⟩
      · exact ⟨rfl, by omega, fun q => by
          rcases q with q | q
          · omega
          · exact k2 q⟩
    · rintro ⟨_, k1, k2⟩
      by_cases hlt : v < x.1
      · exact .inl ⟨k1, hlt⟩
      · refine .inr ⟨?_, fun q => k2 (.inr q)⟩
        rcases Int.lt_or_le x.2 v with h' | h'
        · exact h'
        · exact absurd (.inl ⟨by omega, h'⟩) k2
theorem not_good {s : List R2} (h : GdL s) : GdL (notA s 0 true) ∧ ∀ v, isS v = true → (memS (notA s 0 true) v ↔ ¬ memS s v) := by
  have inv : NotInv s 0 true := ⟨h, fun h => (by cases h), fun _ => ⟨by decide, fun r hr => by
    have := isS_iff.1 (wholeS_iff.1 (h.whole r hr)).1
    omega⟩⟩
  refine ⟨notA_good _ _ _ inv, fun v hv => ?_⟩
  have := isS_iff.1 hv
  rw [notA_mem _ _ _ inv v hv]
  constructor
  · exact fun k => k.2.2
  · exact fun k => ⟨rfl, by omega, k⟩
/-! ### Size -/
def scal (n : Nat) : List Nat := List.range n
theorem scal_iv (a b n : Nat) : (scal n).countP (fun x => decide (a ≤ x) && decide (x < b)) = min b n - a := by
  unfold scal
  induction n with
  | zero => simp
  | succ n ih =>
    rw [List.range_succ, List.countP_append, ih]
    simp only [List.countP_cons, List.countP_nil]
    split <;> rename_i h <;> simp at h <;> omega
/-- How many scalars have p (N: one behind the last number). -/
def cardS (N : Nat) (p : Int → Bool) : Nat := (scal N).countP fun n : Nat => isS (n : Int) && p (n : Int)
theorem countP_add {α : Type} (p q : α → Bool) (l : List α) : l.countP (fun x => p x || q x) + l.countP (fun x => p x && q x) = l.countP p + l.countP q := by
  induction l with
  | nil => rfl
  | cons x l ih =>
    simp only [List.countP_cons]
    cases p x <;> cases q x <;> simp <;> omega
theorem card_add (N : Nat) (p q : Int → Bool) : cardS N (fun v => p v || q v) + cardS N (fun v => p v && q v) = cardS N p + cardS N q := by
  unfold cardS
  rw [← countP_add (fun n : Nat => isS (n : Int) && p n) (fun n : Nat => isS (n : Int) && q n)]
  have e1 : (fun n : Nat => isS (n : Int) && (p n || q n)) = fun n : Nat => (isS (n : Int) && p n) || (isS (n : Int) && q n) := by funext n; cases isS (n : Int) <;> simp
  have e2 : (fun n : Nat => isS (n : Int) && (p n && q n)) = fun n : Nat => (isS (n : Int) && p n) && (isS (n : Int) && q n) := by funext n; cases isS (n : Int) <;> simp
  rw [e1, e2]
theorem card_congr {N : Nat} {p q : Int → Bool} (h : ∀ v, isS v = true → p v = q v) : cardS N p = cardS N q := by
  unfold cardS
  have e : (fun n : Nat => isS (n : Int) && p n) = fun n : Nat => isS (n : Int) && q n := by
    funext n
    cases e : isS (n : Int) with
    | false => simp
    | true => simp [h _ e]
  rw [e]
theorem card_false {N : Nat} {p : Int → Bool} (h : ∀ v, isS v = true → p v = false) : cardS N p = 0 := by
  rw [card_congr (q := fun _ => false) h]
  unfold cardS
  rw [List.countP_eq_zero]
  simp
theorem card_iv {a b : Int} {N : Nat} (ha : 0 ≤ a) (hb : b ≤ 1114111) (hN : N = 1114112) : (cardS N (fun v => decide (a ≤ v) && decide (v ≤ b)) : Int) = numV a (min b 55295) + numV (max a 57344) b := by
  unfold cardS
  have e : (fun n : Nat => isS (n : Int) && (decide (a ≤ (n : Int)) && decide ((n : Int) ≤ b))) = fun n : Nat => (decide (a.toNat ≤ n) && decide (n < (min (b + 1) 55296).toNat)) || (decide ((max a 57344).toNat ≤ n) && decide (n < (b + 1).toNat)) := by
    funext n
    rw [Bool.eq_iff_iff]
    simp [isS]
    omega
  rw [e]
  have h := countP_add (fun n : Nat => decide (a.toNat ≤ n) && decide (n < (min (b + 1) 55296).toNat)) (fun n : Nat => decide ((max a 57344).toNat ≤ n) && decide (n < (b + 1).toNat)) (scal N)
  rw [scal_iv, scal_iv] at h
  have z : (scal N).countP (fun x => (decide (a.toNat ≤ x) && decide (x < (min (b + 1) 55296).toNat)) && (decide ((max a 57344).toNat ≤ x) && decide (x < (b + 1).toNat))) = 0 := by
    rw [List.countP_eq_zero]
    intro n _
    simp
    omega
  rw [z] at h
  simp only [Nat.add_zero] at h
  rw [h]
  unfold numV
  split <;> split <;> omega
def cntV (a b : Int) : Int := numV a (min b 55295) + numV (max a 57344) b
theorem card_set (N : Nat) (hN : N = 1114112) : ∀ {s : List R2}, GdL s → (cardS N (fun v => inS v s) : Int) = (s.map fun r => cntV r.1 r.2).sum
  | [], _ => by
    rw [card_false (p := fun v => inS v []) fun v _ => rfl]
    rfl
  | r :: s, h => by
    obtain ⟨r1, r2, r3⟩ := wholeS_iff.1 (h.whole r (List.mem_cons_self ..))
    have s1 := isS_iff.1 r1
    have s2 := isS_iff.1 r2
    have hadd := card_add N (fun v => decide (r.1 ≤ v) && decide (v ≤ r.2)) (fun v => inS v s)
    have z : cardS N (fun v => (decide (r.1 ≤ v) && decide (v ≤ r.2)) && inS v s) = 0 := card_false fun v hv => by
      cases e : inS v s with
      | false => simp
      | true =>
        have := h.above (inS_iff.1 e)
        simp
        omega
    have e : cardS N (fun v => inS v (r :: s)) = cardS N (fun v => (decide (r.1 ≤ v) && decide (v ≤ r.2)) || inS v s) := card_congr fun v _ => by simp [inS, inR]
    have iv := card_iv (a := r.1) (b := r.2) (by omega) (by omega) hN
    have ih := card_set N hN h.tail
    rw [e, List.map_cons, List.sum_cons]
    unfold cntV at ih ⊢
    omega
theorem card_not {s t : List R2} (N : Nat) (hN : N = 1114112) (h : ∀ v, isS v = true → (memS t v ↔ ¬ memS s v)) : (cardS N (fun v => inS v t) : Int) + cardS N (fun v => inS v s) = 1112064 := by
  have hadd := card_add N (fun v => inS v t) (fun v => inS v s)
  have key : ∀ v, isS v = true → inS v t = !inS v s := fun v hv => by
    have := h v hv
    rw [← inS_iff, ← inS_iff] at this
    cases e1 : inS v t <;> cases e2 : inS v s <;> simp_all
  have z : cardS N (fun v => inS v t && inS v s) = 0 := card_false fun v hv => by rw [key v hv]; simp
  have o : cardS N (fun v => inS v t || inS v s) = cardS N (fun v => decide ((0 : Int) ≤ v) && decide (v ≤ 1114111)) := card_congr fun v hv => by
    rw [key v hv]
    have := isS_iff.1 hv
    simp
    omega
  have iv := card_iv (a := 0) (b := 1114111) (by omega) (by omega) hN
  have nv : numV 0 (min 1114111 55295) + numV (max 0 57344) 1114111 = 1112064 := by decide
  omega
theorem card_union {a b d e : List R2} (N : Nat) (hd : ∀ v, isS v = true → (memS d v ↔ memS a v ∨ memS b v)) (he : ∀ v, isS v = true → (memS e v ↔ memS a v ∧ memS b v)) :
    cardS N (fun v => inS v d) + cardS N (fun v => inS v e) = cardS N (fun v => inS v a) + cardS N (fun v => inS v b) := by
  have h1 : cardS N (fun v => inS v d) = cardS N (fun v => inS v a || inS v b) := card_congr fun v hv => by
    have := hd v hv
    rw [Bool.eq_iff_iff, Bool.or_eq_true, inS_iff, inS_iff, inS_iff]
    exact this
  have h2 : cardS N (fun v => inS v e) = cardS N (fun v => inS v a && inS v b) := card_congr fun v hv => by
    have := he v hv
    rw [Bool.eq_iff_iff, Bool.and_eq_true, inS_iff, inS_iff, inS_iff]
    exact this
  rw [h1, h2]
  exact card_add N _ _
/-! The functions' answers. -/
def notS (s : List R2) : List R2 := if goodS s then notA s 0 true else []
def sizeS (s : List R2) : Int := if goodS s then (s.map fun r => cntV r.1 r.2).sum else 0
def unionS (a b : List R2) : List R2 := if goodS a && goodS b then ofV (a ++ b) else []
theorem union_good {a b : List R2} (ha : goodS a = true) (hb : goodS b = true) : ofB (a ++ b) = true ∧ GdL (unionS a b) ∧ ∀ v, isS v = true → (memS (unionS a b) v ↔ memS a v ∨ memS b v) := by
  have ga := (gdL_iff _).1 ha
  have gb := (gdL_iff _).1 hb
  obtain ⟨e1, e2, e3, _⟩ := of_good (l := a ++ b) fun r hr => (List.mem_append.1 hr).elim (ga.whole r) (gb.whole r)
  have e : unionS a b = ofV (a ++ b) := by simp [unionS, ha, hb]
  rw [e]
  exact ⟨e1, e2, fun v hv => (e3 v hv).trans memS_append⟩
theorem both_good {a b : List R2} (ha : goodS a = true) (hb : goodS b = true) : GdL (bothS a b) ∧ ∀ v, memS (bothS a b) v ↔ memS a v ∧ memS b v := by
  have ga := (gdL_iff _).1 ha
  have gb := (gdL_iff _).1 hb
  have e : bothS a b = bothF (a.length + b.length) a b := by simp [bothS, ha, hb]
  rw [e]
  exact ⟨bothF_good _ _ _ ga gb, bothF_mem _ _ _ ga gb (Nat.le_refl _)⟩
theorem notS_good {s : List R2} (h : goodS s = true) : GdL (notS s) ∧ ∀ v, isS v = true → (memS (notS s) v ↔ ¬ memS s v) := by
  have e : notS s = notA s 0 true := by simp [notS, h]
  rw [e]
  exact not_good ((gdL_iff _).1 h)
theorem sizeS_card {s : List R2} (h : goodS s = true) (N : Nat) (hN : N = 1114112) : sizeS s = cardS N (fun v => inS v s) := by
  have e : sizeS s = (s.map fun r => cntV r.1 r.2).sum := by simp [sizeS, h]
  rw [e, card_set N hN ((gdL_iff _).1 h)]
end Go.Proofs.Abs
