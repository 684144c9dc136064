/- A part of a proof: the text that states the row tells what is proved. No condition is laid on anything. -/
import Derived.Test.YtligpalonlliaaaGreatAbsY17
set_option linter.all false
set_option linter.constructorNameAsVariable false
set_option linter.defProp false
set_option linter.unusedVariables false
set_option linter.unusedSimpArgs false
namespace Go.Proofs.Abs
open Go
/-! ### The reference's Build, in plain words -/
def hiA (at_ : List Int) (i : Nat) : Int := if i + 1 < at_.length then prevV (at_.getD (i + 1) 0) else 1114111
/-- One stretch more. -/
def bldA (out : List R2) (a h : Int) : List R2 :=
  if out.length ≠ 0 ∧ nextV (out.getD (out.length - 1) (0, 0)).2 = a then out.set (out.length - 1) ((out.getD (out.length - 1) (0, 0)).1, h) else out ++ [(a, h)]
def bldN (at_ : List Int) (m : List Bool) : Nat → List R2
  | 0 => []
  | n + 1 => if m.getD n false then bldA (bldN at_ m n) (at_.getD n 0) (hiA at_ n) else bldN at_ m n
def buildL (at_ : List Int) (m : List Bool) : List R2 := bldN at_ m at_.length
theorem bldA_length (out : List R2) (a h : Int) : (bldA out a h).length ≤ out.length + 1 := by
  unfold bldA
  split <;> simp
theorem bldN_length (at_ : List Int) (m : List Bool) : ∀ n, (bldN at_ m n).length ≤ n
  | 0 => Nat.le_refl 0
  | n + 1 => by
    have h1 := bldN_length at_ m n
    have h2 := bldA_length (bldN at_ m n) (at_.getD n 0) (hiA at_ n)
    simp only [bldN]
    split <;> omega
/-! ### Where something may begin -/
structure Grid (at_ : List Int) : Prop where
  up : at_.Pairwise (· < ·)
  sc : ∀ v ∈ at_, isS v = true
  zero : 0 ∈ at_
theorem putL_mem : ∀ (l : List Int) (v w : Int), w ∈ putL l v ↔ w = v ∨ w ∈ l
  | [], v, w => by simp [putL]
  | x :: l, v, w => by
    have ih := putL_mem l v w
    simp only [putL]
    split
    · rw [List.mem_cons, ih, List.mem_cons]
      constructor
      · rintro (h | h | h)
        · exact .inr (.inl h)
        · exact .inl h
        · exact .inr (.inr h)
      · rintro (h | h | h)
        · exact .inr (.inl h)
        · exact .inl h
        · exact .inr (.inr h)
    · split
      · rename_i h
        subst h
        simp
      · simp
theorem putL_up : ∀ (l : List Int) (v : Int), l.Pairwise (· < ·) → (putL l v).Pairwise (· < ·)
  | [], v, _ => by simp [putL]
  | x :: l, v, h => by
    obtain ⟨h1, h2⟩ := List.pairwise_cons.1 h
    simp only [putL]
    split
    · rename_i hx
      refine List.pairwise_cons.2 ⟨fun w hw => ?_, putL_up l v h2⟩
      rcases (putL_mem l v w).1 hw with rfl | hw
      · exact hx
      · exact h1 w hw
    · split
      · exact h
      · rename_i n1 n2
        refine List.pairwise_cons.2 ⟨fun w hw => ?_, h⟩
        rcases List.mem_cons.1 hw with rfl | hw
        · omega
        · have := h1 w hw
          omega
theorem putL_grid {l : List Int} {v : Int} (h : Grid l) (hv : isS v = true) : Grid (putL l v) :=
  ⟨putL_up l v h.up, fun w hw => ((putL_mem l v w).1 hw).elim (fun e => e ▸ hv) (h.sc w), (putL_mem l v 0).2 (.inr h.zero)⟩
/-- What the starts of whole ranges are. -/
structure Stt (at_ : List Int) (l : List R2) : Prop where
  g : Grid at_
  lo : ∀ r ∈ l, r.1 ∈ at_
  hi : ∀ r ∈ l, r.2 < 1114111 → nextV r.2 ∈ at_
theorem stA_stt {o : List Int} {l : List R2} {r : R2} (h : Stt o l) (hw : wholeS r = true) : Stt (stA o r) (l ++ [r]) := by
  obtain ⟨w1, w2, w3⟩ := wholeS_iff.1 hw
  unfold stA
  split
  · rename_i hb
    simp only [nextB, decide_eq_true_eq] at hb
    refine ⟨putL_grid (putL_grid h.g w1) (nextV_isS w2 hb), fun x hx => ?_, fun x hx hlt => ?_⟩
    · rcases List.mem_append.1 hx with hx | hx
      · exact (putL_mem ..).2 (.inr ((putL_mem ..).2 (.inr (h.lo x hx))))
      · rw [List.mem_singleton.1 hx]
        exact (putL_mem ..).2 (.inr ((putL_mem ..).2 (.inl rfl)))
    · rcases List.mem_append.1 hx with hx | hx
      · exact (putL_mem ..).2 (.inr ((putL_mem ..).2 (.inr (h.hi x hx hlt))))
      · rw [List.mem_singleton.1 hx]
        exact (putL_mem ..).2 (.inl rfl)
  · rename_i hb
    simp only [nextB, decide_eq_true_eq] at hb
    refine ⟨putL_grid h.g w1, fun x hx => ?_, fun x hx hlt => ?_⟩
    · rcases List.mem_append.1 hx with hx | hx
      · exact (putL_mem ..).2 (.inr (h.lo x hx))
      · rw [List.mem_singleton.1 hx]
        exact (putL_mem ..).2 (.inl rfl)
    · rcases List.mem_append.1 hx with hx | hx
      · exact (putL_mem ..).2 (.inr (h.hi x hx hlt))
      · rw [List.mem_singleton.1 hx] at hlt
        exact absurd hlt hb
theorem startsL_stt {l : List R2} (h : ∀ r ∈ l, wholeS r = true) : Stt (startsL l) l := by
  suffices k : ∀ (l pre : List R2) (o : List Int), Stt o pre → (∀ r ∈ l, wholeS r = true) → Stt (l.foldl stA o) (pre ++ l) by
    have := k l [] [0] ⟨⟨by simp, fun v hv => by rw [List.mem_singleton.1 hv]; decide, by simp⟩, by simp, by simp⟩ h
    simpa [startsL] using this
  intro l
  induction l with
  | nil => intro pre o h _; simpa using h
  | cons r l ih =>
    intro pre o h hw
    have := ih (pre ++ [r]) (stA o r) (stA_stt h (hw r (List.mem_cons_self ..))) fun x hx => hw x (List.mem_cons_of_mem _ hx)
    simpa using this
theorem getD_int {s : List Int} {i : Nat} (h : i < s.length) : s.getD i 0 = s[i] := by simp [List.getElem?_eq_getElem h]
theorem Grid.lt {at_ : List Int} (h : Grid at_) {i j : Nat} (hij : i < j) (hj : j < at_.length) : at_.getD i 0 < at_.getD j 0 := by
  rw [getD_int (by omega), getD_int hj]
  exact List.pairwise_iff_getElem.1 h.up i j (by omega) hj hij
theorem Grid.mem {at_ : List Int} {i : Nat} (hi : i < at_.length) : at_.getD i 0 ∈ at_ := by
  rw [getD_int hi]
  exact List.getElem_mem hi
theorem Grid.is {at_ : List Int} (h : Grid at_) {i : Nat} (hi : i < at_.length) : isS (at_.getD i 0) = true := h.sc _ (Grid.mem hi)
theorem Grid.pos {at_ : List Int} (h : Grid at_) : 0 < at_.length ∧ at_.getD 0 0 = 0 := by
  obtain ⟨i, hi, e⟩ := List.getElem_of_mem h.zero
  refine ⟨by omega, ?_⟩
  have h0 := isS_iff.1 (h.is (i := 0) (by omega))
  by_cases hz : i = 0
  · subst hz
    rw [getD_int hi, e]
  · have := h.lt (i := 0) (j := i) (by omega) hi
    rw [getD_int hi, e] at this
    omega
/-- v is in the i-th stretch. -/
def InSt (at_ : List Int) (i : Nat) (v : Int) : Prop := at_.getD i 0 ≤ v ∧ (i + 1 < at_.length → v < at_.getD (i + 1) 0)
/-- Nothing begins within a stretch. -/
theorem Grid.none_in {at_ : List Int} (h : Grid at_) {i : Nat} (hi : i < at_.length) {v w : Int} (hv : InSt at_ i v) (hw : w ∈ at_) (h1 : at_.getD i 0 < w) : v < w := by
  obtain ⟨j, hj, e⟩ := List.getElem_of_mem hw
  rw [← getD_int hj] at e
  subst e
  have hij : i < j := by
    rcases Nat.lt_trichotomy i j with k | k | k
    · exact k
    · subst k; omega
    · have := h.lt k hi; omega
  have h2 := hv.2 (by omega)
  by_cases e : i + 1 = j
  · rw [← e]; exact h2
  · have := h.lt (i := i + 1) (j := j) (by omega) hj
    omega
theorem stretch_range {at_ : List Int} {l : List R2} (h : Stt at_ l) {i : Nat} (hi : i < at_.length) {v : Int} (hv : InSt at_ i v) (hs : isS v = true) {r : R2} (hr : r ∈ l) : inR v r = inR (at_.getD i 0) r := by
  rw [Bool.eq_iff_iff]
  simp only [inR, Bool.and_eq_true, decide_eq_true_eq]
  have ha := h.g.is hi
  have hv1 := hv.1
  have b := isS_iff.1 hs
  constructor
  · rintro ⟨k1, k2⟩
    refine ⟨?_, by omega⟩
    rcases Int.lt_or_le (at_.getD i 0) r.1 with k | k
    · have := h.g.none_in hi hv (h.lo r hr) k
      omega
    · exact k
  · rintro ⟨k1, k2⟩
    refine ⟨by omega, ?_⟩
    rcases Int.lt_or_le r.2 v with k | k
    · have hlt : r.2 < 1114111 := by omega
      have hg := nextV_gt hlt
      have := h.g.none_in hi hv (h.hi r hr hlt) (by omega)
      have := nextV_le hs k
      omega
    · exact k
theorem stretch_in {at_ : List Int} {l : List R2} (h : Stt at_ l) {i : Nat} (hi : i < at_.length) {v : Int} (hv : InSt at_ i v) (hs : isS v = true) {l' : List R2} (hl : ∀ r ∈ l', r ∈ l) : inS v l' = inS (at_.getD i 0) l' := by
  unfold inS
  rw [Bool.eq_iff_iff, List.any_eq_true, List.any_eq_true]
  constructor
  · rintro ⟨r, hr, k⟩
    exact ⟨r, hr, by rw [← stretch_range h hi hv hs (hl r hr)]; exact k⟩
  · rintro ⟨r, hr, k⟩
    exact ⟨r, hr, by rw [stretch_range h hi hv hs (hl r hr)]; exact k⟩
/-- What holds between two rounds of Build. -/
structure BldInv (at_ : List Int) (P : Int → Bool) (n : Nat) (u : List R2) : Prop where
  ok : GdL u
  mem : ∀ v, isS v = true → (memS u v ↔ (n < at_.length → v < at_.getD n 0) ∧ 0 < n ∧ P v = true)
theorem hiA_ok {at_ : List Int} (h : Grid at_) {i : Nat} (hi : i < at_.length) : isS (hiA at_ i) = true ∧ at_.getD i 0 ≤ hiA at_ i ∧ ∀ v, isS v = true → (v ≤ hiA at_ i ↔ (i + 1 < at_.length → v < at_.getD (i + 1) 0)) := by
  unfold hiA
  split
  · rename_i h1
    have hs := h.is h1
    have ha := isS_iff.1 (h.is hi)
    have hlt := h.lt (Nat.lt_succ_self i) h1
    obtain ⟨p1, p2, p3, p4⟩ := prevV_facts hs (by simp only [Nat.succ_eq_add_one] at hlt; omega)
    refine ⟨p1, (p4 _ (h.is hi)).1 hlt, fun v hv => ?_⟩
    rw [← p4 v hv]
    exact ⟨fun k _ => k, fun k => k h1⟩
  · rename_i h1
    have ha := isS_iff.1 (h.is hi)
    refine ⟨by decide, by omega, fun v hv => ?_⟩
    have := isS_iff.1 hv
    exact ⟨fun _ k => absurd k h1, fun _ => by omega⟩
theorem bldA_inv {at_ : List Int} (h : Grid at_) {P : Int → Bool} {n : Nat} {u : List R2} (hn : n < at_.length) (hu : BldInv at_ P n u)
    (hP : ∀ v, isS v = true → InSt at_ n v → P v = P (at_.getD n 0)) (hm : P (at_.getD n 0) = true) : BldInv at_ P (n + 1) (bldA u (at_.getD n 0) (hiA at_ n)) := by
  obtain ⟨q1, q2, q3⟩ := hiA_ok h hn
  have hs := h.is hn
  have hw : wholeS (at_.getD n 0, hiA at_ n) = true := wholeS_iff.2 ⟨hs, q1, q2⟩
  have below : ∀ x ∈ u, x.2 < at_.getD n 0 := fun x hx => by
    obtain ⟨a1, a2, a3⟩ := wholeS_iff.1 (hu.ok.whole x hx)
    exact ((hu.mem x.2 a2).1 ⟨x, hx, a3, Int.le_refl _⟩).1 hn
  have hmem : ∀ v, isS v = true → ((memS u v ∨ (at_.getD n 0 ≤ v ∧ v ≤ hiA at_ n)) ↔ (n + 1 < at_.length → v < at_.getD (n + 1) 0) ∧ 0 < n + 1 ∧ P v = true) := fun v hv => by
    rw [hu.mem v hv, q3 v hv]
    constructor
    · rintro (⟨k1, k2, k3⟩ | ⟨k1, k2⟩)
      · refine ⟨fun k => ?_, by omega, k3⟩
        have := h.lt (Nat.lt_succ_self n) k
        have := k1 hn
        simp only [Nat.succ_eq_add_one] at *
        omega
      · exact ⟨k2, by omega, by rw [hP v hv ⟨k1, k2⟩]; exact hm⟩
    · rintro ⟨k1, _, k3⟩
      by_cases hlt : v < at_.getD n 0
      · refine .inl ⟨fun _ => hlt, ?_, k3⟩
        rcases Nat.eq_zero_or_pos n with e | e
        · subst e
          rw [h.pos.2] at hlt
          have := isS_iff.1 hv
          omega
        · exact e
      · exact .inr ⟨by omega, k1⟩
  unfold bldA
  split
  · rename_i hc
    obtain ⟨u', p, rfl, hp⟩ := last_split hc.1
    rw [hp] at hc ⊢
    obtain ⟨g1, g2, g3⟩ := List.pairwise_append.1 hu.ok.apart
    have hpw := hu.ok.whole p (by simp)
    obtain ⟨p1, p2, p3⟩ := wholeS_iff.1 hpw
    have hpb := below p (by simp)
    have e : (u' ++ [p]).set ((u' ++ [p]).length - 1) (p.1, hiA at_ n) = u' ++ [(p.1, hiA at_ n)] := by
      rw [List.length_append, List.set_append_right _ _ (by simp)]
      simp
    rw [e]
    refine ⟨⟨fun x hx => ?_, List.pairwise_append.2 ⟨g1, by simp, fun x hx y hy => ?_⟩⟩, fun v hv => ?_⟩
    · rcases List.mem_append.1 hx with hx | hx
      · exact hu.ok.whole x (List.mem_append_left _ hx)
      · rw [List.mem_singleton.1 hx, wholeS_iff]
        exact ⟨p1, q1, by simp only; omega⟩
    · rw [List.mem_singleton.1 hy]
      have := g3 x hx p (by simp)
      rw [apartS_iff] at this ⊢
      exact this
    · rw [← hmem v hv, memS_append, memS_append]
      simp only [memS_cons, memS_nil, or_false]
      have nx : p.2 < v → at_.getD n 0 ≤ v := fun k => by
        rw [← hc.2]
        exact nextV_le hv k
      constructor
      · rintro (k | ⟨k1, k2⟩)
        · exact .inl (.inl k)
        · by_cases hv2 : v ≤ p.2
          · exact .inl (.inr ⟨k1, hv2⟩)
          · exact .inr ⟨nx (by omega), k2⟩
      · rintro ((k | ⟨k1, k2⟩) | ⟨k1, k2⟩)
        · exact .inl k
        · exact .inr ⟨k1, by omega⟩
        · exact .inr ⟨by omega, k2⟩
  · rename_i hc
    refine ⟨⟨fun x hx => ?_, List.pairwise_append.2 ⟨hu.ok.apart, by simp, fun x hx y hy => ?_⟩⟩, fun v hv => ?_⟩
    · rcases List.mem_append.1 hx with hx | hx
      · exact hu.ok.whole x hx
      · rw [List.mem_singleton.1 hx]; exact hw
    · rw [List.mem_singleton.1 hy]
      have h0 : u.length ≠ 0 := fun e => by
        rw [List.eq_nil_of_length_eq_zero e] at hx
        cases hx
      obtain ⟨u', p, rfl, hp⟩ := last_split h0
      rw [hp] at hc
      have hne : nextV p.2 ≠ at_.getD n 0 := fun e => hc ⟨h0, e⟩
      have hpb := below p (by simp)
      have hb := isS_iff.1 hs
      have hle := nextV_le hs hpb
      have hap : apartS p (at_.getD n 0, hiA at_ n) = true := apartS_iff.2 ⟨by omega, by simp only; omega⟩
      rcases List.mem_append.1 hx with hx | hx
      · exact apartS_trans ((List.pairwise_append.1 hu.ok.apart).2.2 x hx p (by simp)) (hu.ok.whole p (by simp)) hap
      · rw [List.mem_singleton.1 hx]; exact hap
    · rw [← hmem v hv, memS_append]
      simp only [memS_cons, memS_nil, or_false]
theorem bldN_inv {at_ : List Int} (h : Grid at_) {P : Int → Bool} {m : List Bool} (hP : ∀ i, i < at_.length → ∀ v, isS v = true → InSt at_ i v → P v = P (at_.getD i 0))
    (hm : ∀ i, i < at_.length → m.getD i false = P (at_.getD i 0)) : ∀ n, n ≤ at_.length → BldInv at_ P n (bldN at_ m n)
  | 0, _ => ⟨.nil, fun v hv => by
    constructor
    · intro k; exact absurd k memS_nil
    · rintro ⟨_, k, _⟩; omega⟩
  | n + 1, hn => by
    have ih := bldN_inv h hP hm n (by omega)
    simp only [bldN]
    rw [hm n (by omega)]
    split
    · rename_i hc
      exact bldA_inv h (by omega) ih (hP n (by omega)) hc
    · rename_i hc
      refine ⟨ih.ok, fun v hv => ?_⟩
      rw [ih.mem v hv]
      have hnl : n < at_.length := by omega
      constructor
      · rintro ⟨k1, k2, k3⟩
        refine ⟨fun k => ?_, by omega, k3⟩
        have := h.lt (Nat.lt_succ_self n) k
        have := k1 hnl
        simp only [Nat.succ_eq_add_one] at *
        omega
      · rintro ⟨k1, _, k3⟩
        have hlt : v < at_.getD n 0 := by
          rcases Int.lt_or_le v (at_.getD n 0) with k | k
          · exact k
          · rw [hP n hnl v hv ⟨k, k1⟩] at k3
            exact absurd k3 hc
        refine ⟨fun _ => hlt, ?_, k3⟩
        rcases Nat.eq_zero_or_pos n with e | e
        · subst e
          rw [h.pos.2] at hlt
          have := isS_iff.1 hv
          omega
        · exact e
theorem build_ok {at_ : List Int} (h : Grid at_) {P : Int → Bool} {m : List Bool} (hP : ∀ i, i < at_.length → ∀ v, isS v = true → InSt at_ i v → P v = P (at_.getD i 0))
    (hm : ∀ i, i < at_.length → m.getD i false = P (at_.getD i 0)) : GdL (buildL at_ m) ∧ ∀ v, isS v = true → (memS (buildL at_ m) v ↔ P v = true) := by
  have := bldN_inv h hP hm at_.length (Nat.le_refl _)
  refine ⟨this.ok, fun v hv => (this.mem v hv).trans ⟨fun k => k.2.2, fun k => ⟨fun q => absurd q (Nat.lt_irrefl _), h.pos.1, k⟩⟩⟩
/-! ### The reference's answers are the program's -/
def mrkOf (l : List R2) : List Bool := (startsL l).map fun v => inS v l
def mrkTwo (a b : List R2) (both : Bool) : List Bool := (startsL (a ++ b)).map fun v => (hasS a v && hasS b v) || (!both && (hasS a v || hasS b v))
def mrkNot (s : List R2) : List Bool := (startsL s).map fun v => !hasS s v
def rOfV (l : List R2) : List R2 := if l.all wholeS then buildL (startsL l) (mrkOf l) else []
def rTwoV (a b : List R2) (both : Bool) : List R2 := if goodS a && goodS b then buildL (startsL (a ++ b)) (mrkTwo a b both) else []
def rNotV (s : List R2) : List R2 := if goodS s then buildL (startsL s) (mrkNot s) else []
theorem getD_map {f : Int → Bool} {l : List Int} {i : Nat} (h : i < l.length) : (l.map f).getD i false = f (l.getD i 0) := by
  simp [List.getElem?_eq_getElem h]
theorem hasS_good {s : List R2} (h : goodS s = true) {v : Int} (hv : isS v = true) : hasS s v = inS v s := by
  rw [hasS_iff, h, hv]; simp
theorem all_whole {l : List R2} : l.all wholeS = ofB l := by
  rw [Bool.eq_iff_iff, List.all_eq_true, ofB_iff]
theorem rOf_eq (l : List R2) : rOfV l = ofV l := by
  unfold rOfV
  rw [all_whole]
  cases e : ofB l with
  | false =>
    rw [if_neg (by simp)]
    unfold ofB at e
    unfold ofV
    cases k : ofA [] (Rg.sortZ l) with
    | none => rfl
    | some x => rw [k] at e; cases e
  | true =>
    rw [if_pos rfl]
    have hw := (ofB_iff l).1 e
    have st := startsL_stt hw
    obtain ⟨o1, o2, o3, _⟩ := of_good hw
    obtain ⟨b1, b2⟩ := build_ok st.g (P := fun v => inS v l) (m := mrkOf l) (fun i hi v hv hin => stretch_in st hi hin hv fun r hr => hr) fun i hi => getD_map hi
    refine gdL_ext b1 o2 fun v hv => ?_
    rw [b2 v hv, o3 v hv, inS_iff]
theorem rTwo_false (a b : List R2) : rTwoV a b false = unionS a b := by
  unfold rTwoV
  split
  · rename_i h
    simp only [Bool.and_eq_true] at h
    obtain ⟨ha, hb⟩ := h
    obtain ⟨u1, u2, u3⟩ := union_good ha hb
    have st := startsL_stt (l := a ++ b) fun r hr => (List.mem_append.1 hr).elim (((gdL_iff _).1 ha).whole r) (((gdL_iff _).1 hb).whole r)
    obtain ⟨b1, b2⟩ := build_ok st.g (P := fun v => inS v a || inS v b) (m := mrkTwo a b false) (fun i hi v hv hin => by
      rw [stretch_in st hi hin hv (l' := a) (fun r hr => List.mem_append_left _ hr), stretch_in st hi hin hv (l' := b) (fun r hr => List.mem_append_right _ hr)]) fun i hi => by
        have hs := st.g.is hi
        unfold mrkTwo
        rw [getD_map hi, hasS_good ha hs, hasS_good hb hs]
        cases inS ((startsL (a ++ b)).getD i 0) a <;> cases inS ((startsL (a ++ b)).getD i 0) b <;> rfl
    refine gdL_ext b1 u2 fun v hv => ?_
    rw [b2 v hv, u3 v hv, Bool.or_eq_true, inS_iff, inS_iff]
  · rename_i h
    unfold unionS
    rw [if_neg h]
theorem rTwo_true (a b : List R2) : rTwoV a b true = bothS a b := by
  unfold rTwoV
  split
  · rename_i h
    simp only [Bool.and_eq_true] at h
    obtain ⟨ha, hb⟩ := h
    obtain ⟨u2, u3⟩ := both_good ha hb
    have st := startsL_stt (l := a ++ b) fun r hr => (List.mem_append.1 hr).elim (((gdL_iff _).1 ha).whole r) (((gdL_iff _).1 hb).whole r)
    obtain ⟨b1, b2⟩ := build_ok st.g (P := fun v => inS v a && inS v b) (m := mrkTwo a b true) (fun i hi v hv hin => by
      rw [stretch_in st hi hin hv (l' := a) (fun r hr => List.mem_append_left _ hr), stretch_in st hi hin hv (l' := b) (fun r hr => List.mem_append_right _ hr)]) fun i hi => by
        have hs := st.g.is hi
        unfold mrkTwo
        rw [getD_map hi, hasS_good ha hs, hasS_good hb hs]
        cases inS ((startsL (a ++ b)).getD i 0) a <;> cases inS ((startsL (a ++ b)).getD i 0) b <;> rfl
    refine gdL_ext b1 u2 fun v hv => ?_
    rw [b2 v hv, u3 v, Bool.and_eq_true, inS_iff, inS_iff]
  · rename_i h
    unfold bothS
    rw [if_neg h]
theorem rNot_eq (s : List R2) : rNotV s = notS s := by
  unfold rNotV
  split
  · rename_i h
    obtain ⟨n1, n2⟩ := notS_good h
    have st := startsL_stt (l := s) ((gdL_iff _).1 h).whole
    obtain ⟨b1, b2⟩ := build_ok st.g (P := fun v => !inS v s) (m := mrkNot s) (fun i hi v hv hin => by
      rw [stretch_in st hi hin hv (l' := s) fun r hr => hr]) fun i hi => by
        have hs := st.g.is hi
        unfold mrkNot
        rw [getD_map hi, hasS_good h hs]
    refine gdL_ext b1 n1 fun v hv => ?_
    rw [b2 v hv, n2 v hv, Bool.not_eq_true', ← Bool.not_eq_true, inS_iff]
  · rename_i h
    unfold notS
    rw [if_neg h]
end Go.Proofs.Abs
