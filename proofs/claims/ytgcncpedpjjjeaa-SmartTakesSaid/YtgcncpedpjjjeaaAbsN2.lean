/- A part of a proof: the text that states the row tells what is proved. No condition is laid on anything. -/
import Derived.Test.YtgcncpedpjjjeaaAbsN0
import Derived.Test.YtgcncpedpjjjeaaAbsS4
set_option linter.all false
set_option linter.constructorNameAsVariable false
set_option linter.defProp false
set_option linter.unusedVariables false
set_option linter.unusedSimpArgs false
set_option maxRecDepth 100000
namespace Go.Proofs.Abs
open Go
/-! ### What trees take, as a set of rows -/
inductive StarL (P : List Int → Prop) : List Int → Prop
  | nil : StarL P []
  | cons (u v : List Int) (hu : u ≠ []) (h : P u) (hv : StarL P v) : StarL P (u ++ v)
def Sem : Tr → List Int → Prop
  | .leaf n, l => takesT [n] l = true
  | .cat a b, l => ∃ u v, l = u ++ v ∧ Sem a u ∧ Sem b v
  | .alt a b, l => Sem a l ∨ Sem b l
  | .star a, l => StarL (Sem a) l
theorem lk_cat {a b : Tr} (h : OkS (.cat a b)) (l : List Int) : takesT (enc (.cat a b)) l = true ↔ ∃ u v, l = u ++ v ∧ takesT (enc a) u = true ∧ takesT (enc b) v = true := by
  obtain ⟨ha, hb⟩ := h.c
  have hs := h.2
  simp only [sz] at hs
  simp only [enc]
  rw [takes_cat ha.good hb.good (by rw [enc_len, enc_len]; exact hs)]
  unfold catF
  simp only [List.any_eq_true, List.mem_range, Bool.and_eq_true]
  constructor
  · rintro ⟨d, hd, h1, h2⟩
    exact ⟨l.take d, l.drop d, by simp, by rw [takes_take ha.good (by omega)]; exact h1, by rw [takes_drop hb.good (by omega)]; exact h2⟩
  · rintro ⟨u, v, rfl, h1, h2⟩
    have hl : u.length ≤ (u ++ v).length := by simp
    refine ⟨u.length, by simp; omega, ?_, ?_⟩
    · rw [← takes_take ha.good hl]; simpa using h1
    · rw [← takes_drop hb.good hl]; simpa using h2
theorem lk_alt {a b : Tr} (h : OkS (.alt a b)) (l : List Int) : takesT (enc (.alt a b)) l = true ↔ takesT (enc a) l = true ∨ takesT (enc b) l = true := by
  obtain ⟨ha, hb⟩ := h.l
  have hs := h.2
  simp only [sz] at hs
  simp only [enc]
  rw [takes_alt ha.good hb.good (by rw [enc_len, enc_len]; exact hs), Bool.or_eq_true]
theorem lk_star {a : Tr} (h : OkS (.star a)) (l : List Int) : takesT (enc (.star a)) l = true ↔ l = [] ∨ ∃ u v, u ≠ [] ∧ l = u ++ v ∧ takesT (enc a) u = true ∧ takesT (enc (.star a)) v = true := by
  have ha := h.s
  have hs := h.2
  simp only [sz] at hs
  have hl1 := enc_len a
  have gs := good_star ha.good (by rw [enc_len]; exact hs)
  simp only [enc]
  have e := takes_star (l := l) ha.good (by rw [enc_len]; exact hs)
  rw [e]
  unfold starF
  have hlen : (starT (enc a)).length - 1 = (enc a).length := by rw [starT_len]; rfl
  simp only [Bool.or_eq_true, decide_eq_true_eq, List.any_eq_true, List.mem_range, Bool.and_eq_true, List.length_eq_zero_iff]
  constructor
  · rintro (h | ⟨d, hd, h0, h1, h2⟩)
    · exact .inl h
    · refine .inr ⟨l.take d, l.drop d, fun e => ?_, by simp, by rw [takes_take ha.good (by omega)]; exact h1, by rw [takes_drop gs (by omega), hlen]; exact h2⟩
      have hlt : (l.take d).length = d := by rw [List.length_take]; omega
      rw [e] at hlt
      simp only [List.length_nil] at hlt
      omega
  · rintro (h | ⟨u, v, hu, rfl, h1, h2⟩)
    · exact .inl h
    · have hl : u.length ≤ (u ++ v).length := by simp
      have hu0 : 0 < u.length := List.length_pos_iff.2 hu
      refine .inr ⟨u.length, by simp; omega, hu0, ?_, ?_⟩
      · rw [← takes_take ha.good hl]; simpa using h1
      · rw [← hlen, ← takes_drop gs hl]; simpa using h2
theorem lk_sem : ∀ (x : Tr), OkS x → ∀ l, takesT (enc x) l = true ↔ Sem x l
  | .leaf n, h, l => Iff.rfl
  | .cat a b, h, l => by
    obtain ⟨ha, hb⟩ := h.c
    rw [lk_cat h]
    simp only [Sem]
    constructor
    · rintro ⟨u, v, e, h1, h2⟩; exact ⟨u, v, e, (lk_sem a ha u).1 h1, (lk_sem b hb v).1 h2⟩
    · rintro ⟨u, v, e, h1, h2⟩; exact ⟨u, v, e, (lk_sem a ha u).2 h1, (lk_sem b hb v).2 h2⟩
  | .alt a b, h, l => by
    obtain ⟨ha, hb⟩ := h.l
    rw [lk_alt h, lk_sem a ha l, lk_sem b hb l]
    rfl
  | .star a, h, l => by
    have ha := h.s
    have hs := lk_star h
    have to : ∀ n (l : List Int), l.length ≤ n → takesT (enc (.star a)) l = true → StarL (Sem a) l := by
      intro n
      induction n with
      | zero =>
        intro l hl _
        rw [List.length_eq_zero_iff.1 (Nat.le_zero.1 hl)]
        exact .nil
      | succ n ih =>
        intro l hl h1
        rcases (hs l).1 h1 with rfl | ⟨u, v, hu, rfl, h2, h3⟩
        · exact .nil
        · have hu0 : 0 < u.length := List.length_pos_iff.2 hu
          exact .cons u v hu ((lk_sem a ha u).1 h2) (ih v (by simp at hl; omega) h3)
    constructor
    · exact to l.length l (Nat.le_refl _)
    · intro h1
      simp only [Sem] at h1
      induction h1 with
      | nil => exact (hs []).2 (.inl rfl)
      | cons u v hu h2 h3 ih => exact (hs _).2 (.inr ⟨u, v, hu, rfl, (lk_sem a ha u).2 h2, ih⟩)
theorem sem_never (l : List Int) : Sem never l ↔ False := by
  have := takes_leaf 0 l
  have e : leafT 0 = [nodeK 0] := rfl
  rw [e] at this
  simp only [Sem]
  rw [this]; simp
theorem sem_empty (l : List Int) : Sem empty l ↔ l = [] := by
  have := takes_leaf 1 l
  have e : leafT 1 = [nodeK 1] := rfl
  rw [e] at this
  simp only [Sem]
  rw [this]; simp
theorem cat_empty_l (b : Tr) (l : List Int) : Sem (.cat empty b) l ↔ Sem b l := by
  simp only [Sem]
  constructor
  · rintro ⟨u, v, rfl, h1, h2⟩
    rw [show u = [] from (sem_empty u).1 h1]; exact h2
  · intro h; exact ⟨[], l, rfl, (sem_empty []).2 rfl, h⟩
theorem cat_empty_r (a : Tr) (l : List Int) : Sem (.cat a empty) l ↔ Sem a l := by
  simp only [Sem]
  constructor
  · rintro ⟨u, v, rfl, h1, h2⟩
    rw [show v = [] from (sem_empty v).1 h2, List.append_nil]; exact h1
  · intro h; exact ⟨l, [], by simp, h, (sem_empty []).2 rfl⟩
theorem cat_never_l (b : Tr) (l : List Int) : Sem (.cat never b) l ↔ False := by
  simp only [Sem, iff_false]
  rintro ⟨u, v, _, h1, _⟩
  exact (sem_never u).1 h1
theorem cat_never_r (a : Tr) (l : List Int) : Sem (.cat a never) l ↔ False := by
  simp only [Sem, iff_false]
  rintro ⟨u, v, _, _, h1⟩
  exact (sem_never v).1 h1
theorem sem_sCat : ∀ (b a : Tr), Ok a → Ok b → ∀ l, Sem (sCat a b) l ↔ Sem (.cat a b) l := by
  have triv : ∀ (b a : Tr), Ok a → Ok b → rk b ≠ 3 → ∀ l, Sem (sCat a b) l ↔ Sem (.cat a b) l := by
    intro b a ha hb h3 l
    by_cases a0 : rk a = 0
    · have : sCat a b = never := by cases b <;> simp [sCat, a0]
      rw [this, rk_never ha a0, cat_never_l, sem_never]
    by_cases b0 : rk b = 0
    · rw [rk_never hb b0, cat_never_r]
      have : sCat a never = never := by simp [sCat, nodeK]
      rw [this, sem_never]
    by_cases a1 : rk a = 1
    · have : sCat a b = b := by
        cases b with
        | leaf n => simp only [rk] at b0; simp [sCat, a1, b0]
        | cat => exact absurd rfl h3
        | alt => simp [sCat, a1]
        | star => simp [sCat, a1]
      rw [this, rk_empty ha a1, cat_empty_l]
    by_cases b1 : rk b = 1
    · rw [rk_empty hb b1, cat_empty_r]
      have : sCat a empty = a := by simp [sCat, nodeK, a0, a1]
      rw [this]
    · have : sCat a b = .cat a b := by
        cases b with
        | leaf n => simp only [rk] at b0 b1; simp [sCat, a0, a1, b0, b1]
        | cat => exact absurd rfl h3
        | alt => simp [sCat, a0, a1]
        | star => simp [sCat, a0, a1]
      rw [this]
  intro b
  induction b with
  | leaf n => intro a ha hb; exact triv _ a ha hb (by rcases leaf_kind hb.1 with e | e | e <;> simp [rk, e])
  | alt x y => intro a ha hb; exact triv _ a ha hb (by simp [rk])
  | star x => intro a ha hb; exact triv _ a ha hb (by simp [rk])
  | cat x y ihx ihy =>
    intro a ha hb l
    by_cases a0 : rk a = 0
    · have : sCat a (.cat x y) = never := by simp [sCat, a0]
      rw [this, rk_never ha a0, cat_never_l, sem_never]
    by_cases a1 : rk a = 1
    · have : sCat a (.cat x y) = .cat x y := by simp [sCat, a1]
      rw [this, rk_empty ha a1, cat_empty_l]
    have : sCat a (.cat x y) = sCat (sCat a x) y := by simp [sCat, a0, a1]
    rw [this, ihy _ (ok_sCat x a ha hb.1) hb.2]
    have h1 := ihx a ha hb.1
    simp only [Sem] at h1 ⊢
    constructor
    · rintro ⟨u, v, rfl, h2, h3⟩
      obtain ⟨u1, u2, rfl, h4, h5⟩ := (h1 u).1 h2
      exact ⟨u1, u2 ++ v, by simp, h4, u2, v, rfl, h5, h3⟩
    · rintro ⟨u, w, rfl, h2, v1, v2, rfl, h3, h4⟩
      exact ⟨u ++ v1, v2, by simp, (h1 _).2 ⟨u, v1, rfl, h2, h3⟩, h4⟩
theorem sem_mems : ∀ (a : Tr) (l : List Int), Sem a l ↔ ∃ m ∈ mems a, Sem m l
  | .leaf n, l => by simp [mems]
  | .cat a b, l => by simp [mems]
  | .star a, l => by simp [mems]
  | .alt a b, l => by
    simp only [Sem, mems, List.mem_append]
    rw [sem_mems a, sem_mems b]
    constructor
    · rintro (⟨m, h1, h2⟩ | ⟨m, h1, h2⟩)
      · exact ⟨m, .inl h1, h2⟩
      · exact ⟨m, .inr h1, h2⟩
    · rintro ⟨m, h1 | h1, h2⟩
      · exact .inl ⟨m, h1, h2⟩
      · exact .inr ⟨m, h1, h2⟩
theorem sem_alts : ∀ (r : List Tr) (a : Tr) (l : List Int), Sem (r.foldl .alt a) l ↔ Sem a l ∨ ∃ m ∈ r, Sem m l
  | [], a, l => by simp
  | y :: r, a, l => by
    rw [List.foldl_cons, sem_alts r]
    simp [Sem, or_assoc]
theorem sem_altL {L : List Tr} (h : L ≠ []) (l : List Int) : Sem (altL L) l ↔ ∃ m ∈ L, Sem m l := by
  cases L with
  | nil => exact absurd rfl h
  | cons x r => simp only [altL, sem_alts]; simp
theorem sem_once {L : List Tr} (hok : ∀ m ∈ L, Ok m) (l : List Int) : (∃ m ∈ onceT L, Sem m l) ↔ ∃ m ∈ L, Sem m l := by
  constructor
  · rintro ⟨m, h1, h2⟩; exact ⟨m, (onceT_sub L).subset h1, h2⟩
  · rintro ⟨m, h1, h2⟩
    by_cases h : hasStar L = true → rk m ≠ 1
    · exact ⟨m, mem_onceT.2 ⟨h1, h⟩, h2⟩
    · have hs : hasStar L = true := by
        by_cases hs : hasStar L = true
        · exact hs
        · exact absurd (fun h' => absurd h' hs) h
      have h3 : rk m = 1 := by
        by_cases h3 : rk m = 1
        · exact h3
        · exact absurd (fun _ => h3) h
      rw [rk_empty (hok m h1) h3] at h2
      have hl := (sem_empty l).1 h2
      subst hl
      unfold hasStar at hs
      rw [List.any_eq_true] at hs
      obtain ⟨t, ht, h5⟩ := hs
      simp only [decide_eq_true_eq] at h5
      refine ⟨t, mem_onceT.2 ⟨ht, fun _ => by omega⟩, ?_⟩
      obtain ⟨c, rfl⟩ := rk_star (hok t ht) h5
      exact .nil
theorem sem_sAlt {a b : Tr} (ha : Ok a) (hb : Ok b) (l : List Int) : Sem (sAlt a b) l ↔ Sem a l ∨ Sem b l := by
  unfold sAlt
  split
  · rename_i h; rw [rk_never ha h, sem_never]; simp
  split
  · rename_i h; rw [rk_never hb h, sem_never]; simp
  have hok : ∀ m ∈ mems a ++ mems b, Ok m := fun m hm => by
    rcases List.mem_append.1 hm with h | h
    · exact ok_mems a ha m h
    · exact ok_mems b hb m h
  rw [sem_altL (onceT_ne (by simp [mems_ne])), sem_once hok, sem_mems a, sem_mems b]
  simp only [List.mem_append]
  constructor
  · rintro ⟨m, h1 | h1, h2⟩
    · exact .inl ⟨m, h1, h2⟩
    · exact .inr ⟨m, h1, h2⟩
  · rintro (⟨m, h1, h2⟩ | ⟨m, h1, h2⟩)
    · exact ⟨m, .inl h1, h2⟩
    · exact ⟨m, .inr h1, h2⟩
theorem star_congr {P Q : List Int → Prop} (h : ∀ u, u ≠ [] → (P u ↔ Q u)) (l : List Int) : StarL P l ↔ StarL Q l := by
  constructor
  · intro hs
    induction hs with
    | nil => exact .nil
    | cons u v hu h1 h2 ih => exact .cons u v hu ((h u hu).1 h1) ih
  · intro hs
    induction hs with
    | nil => exact .nil
    | cons u v hu h1 h2 ih => exact .cons u v hu ((h u hu).2 h1) ih
theorem star_none {P : List Int → Prop} (h : ∀ u, u ≠ [] → ¬ P u) (l : List Int) : StarL P l ↔ l = [] := by
  constructor
  · intro hs
    cases hs with
    | nil => rfl
    | cons u v hu h1 h2 => exact absurd h1 (h u hu)
  · rintro rfl; exact .nil
theorem star_app {P : List Int → Prop} {u v : List Int} (h1 : StarL P u) (h2 : StarL P v) : StarL P (u ++ v) := by
  induction h1 with
  | nil => exact h2
  | cons a b ha h3 h4 ih => rw [List.append_assoc]; exact .cons a _ ha h3 ih
theorem star_star (P : List Int → Prop) (l : List Int) : StarL (StarL P) l ↔ StarL P l := by
  constructor
  · intro hs
    induction hs with
    | nil => exact .nil
    | cons u v hu h1 h2 ih => exact star_app h1 ih
  · intro hs
    by_cases hl : l = []
    · subst hl; exact .nil
    · have := StarL.cons l [] hl hs .nil
      rwa [List.append_nil] at this
theorem sem_star1 {a : Tr} (ha : Ok a) (l : List Int) : Sem (star1 a) l ↔ StarL (Sem a) l := by
  unfold star1
  split
  · rename_i h
    rw [sem_empty]
    refine (star_none (fun u hu h1 => ?_) l).symm
    rcases h with h | h
    · rw [rk_never ha h] at h1; exact (sem_never u).1 h1
    · rw [rk_empty ha h] at h1; exact hu ((sem_empty u).1 h1)
  split
  · rename_i h
    obtain ⟨c, rfl⟩ := rk_star ha h
    simp only [Sem]
    exact (star_star _ l).symm
  · rfl
theorem sem_fold : ∀ (r : List Tr) (a : Tr), Ok a → (∀ m ∈ r, Ok m) → ∀ l, Sem (r.foldl sAlt a) l ↔ Sem a l ∨ ∃ m ∈ r, Sem m l
  | [], a, _, _, l => by simp
  | y :: r, a, ha, hr, l => by
    have hy := hr y (by simp)
    rw [List.foldl_cons, sem_fold r _ (ok_sAlt ha hy) (fun m hm => hr m (by simp [hm])), sem_sAlt ha hy]
    simp [or_assoc]
theorem sem_full {a : Tr} (ha : Ok a) (u : List Int) (hu : u ≠ []) : Sem (fullT a) u ↔ Sem a u := by
  have key : (∃ m ∈ noK 1 (mems a), Sem m u) ↔ Sem a u := by
    rw [sem_mems a]
    constructor
    · rintro ⟨m, h1, h2⟩; exact ⟨m, (mem_noK.1 h1).1, h2⟩
    · rintro ⟨m, h1, h2⟩
      refine ⟨m, mem_noK.2 ⟨h1, fun h => ?_⟩, h2⟩
      rw [rk_empty (ok_mems a ha m h1) h] at h2
      exact hu ((sem_empty u).1 h2)
  have hok : ∀ m ∈ noK 1 (mems a), Ok m := fun m hm => ok_mems a ha m (mem_noK.1 hm).1
  rw [← key]
  unfold fullT
  cases e : noK 1 (mems a) with
  | nil => simp only [sem_empty, hu]; simp
  | cons x r =>
    rw [e] at hok
    simp only
    rw [sem_fold r x (hok x (by simp)) (fun m hm => hok m (by simp [hm]))]
    simp
theorem sem_sStar {a : Tr} (ha : Ok a) (l : List Int) : Sem (sStar a) l ↔ StarL (Sem a) l := by
  have hf := ok_fullT ha
  have hc := star_congr (sem_full ha) l
  unfold sStar
  split
  · split
    · exact hc
    · rw [sem_star1 hf]; exact hc
  · exact sem_star1 ha l
theorem sem_sClean : ∀ a, Ok a → ∀ l, Sem (sClean a) l ↔ Sem a l
  | .leaf n, h, l => Iff.rfl
  | .cat a b, h, l => by
    simp only [sClean]
    rw [sem_sCat _ _ (ok_sClean a h.1) (ok_sClean b h.2)]
    simp only [Sem]
    constructor
    · rintro ⟨u, v, e, h1, h2⟩; exact ⟨u, v, e, (sem_sClean a h.1 u).1 h1, (sem_sClean b h.2 v).1 h2⟩
    · rintro ⟨u, v, e, h1, h2⟩; exact ⟨u, v, e, (sem_sClean a h.1 u).2 h1, (sem_sClean b h.2 v).2 h2⟩
  | .alt a b, h, l => by
    simp only [sClean]
    rw [sem_sAlt (ok_sClean a h.1) (ok_sClean b h.2), sem_sClean a h.1, sem_sClean b h.2]
    rfl
  | .star a, h, l => by
    simp only [sClean]
    rw [sem_sStar (ok_sClean a h)]
    exact star_congr (fun u _ => sem_sClean a h u) l
theorem takes_eq {x y : Tr} (hx : OkS x) (hy : OkS y) (h : ∀ l, Sem x l ↔ Sem y l) (l : List Int) : takesT (enc x) l = takesT (enc y) l := by
  rw [Bool.eq_iff_iff, lk_sem x hx, lk_sem y hy, h]
end Go.Proofs.Abs
