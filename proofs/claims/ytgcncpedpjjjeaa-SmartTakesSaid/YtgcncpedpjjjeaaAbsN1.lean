/- A part of a proof: the text that states the row tells what is proved. No condition is laid on anything. -/
import Derived.Test.YtgcncpedpjjjeaaAbsN0
set_option linter.all false
set_option linter.constructorNameAsVariable false
set_option linter.defProp false
set_option linter.unusedVariables false
set_option linter.unusedSimpArgs false
set_option maxRecDepth 100000
namespace Go.Proofs.Abs
open Go
/-! ### Chains: brackets do not matter -/
def facs : Tr → List Tr
  | .cat a b => facs a ++ [b]
  | x => [x]
theorem facs_fold : ∀ (r : List Tr) (a : Tr), facs (r.foldl .cat a) = facs a ++ r
  | [], a => by simp
  | y :: r, a => by rw [List.foldl_cons, facs_fold r]; simp [facs]
theorem facs_one {a : Tr} (h : rk a ≠ 3) : facs a = [a] := by cases a <;> first | rfl | exact absurd rfl h
theorem fold_rk (r : List Tr) (a : Tr) (h : r ≠ []) : rk (r.foldl .cat a) = 3 := by
  have : ∀ (r : List Tr) (a : Tr), rk a = 3 → rk (r.foldl .cat a) = 3 := by
    intro r
    induction r with
    | nil => intro a h; exact h
    | cons y r ih => intro a _; exact ih _ rfl
  cases r with
  | nil => exact absurd rfl h
  | cons y r => exact this r _ rfl
theorem facs_ne (a : Tr) : facs a ≠ [] := by cases a <;> simp [facs]
theorem sCat_last {a b : Tr} (a0 : rk a ≠ 0) (a1 : rk a ≠ 1) (b0 : rk b ≠ 0) (b1 : rk b ≠ 1) (b3 : rk b ≠ 3) : sCat a b = .cat a b := by
  cases b with
  | leaf n => simp only [rk] at b0 b1; simp [sCat, a0, a1, b0, b1]
  | cat => exact absurd rfl b3
  | alt => simp [sCat, a0, a1]
  | star => simp [sCat, a0, a1]
theorem sCat_fold : ∀ (b a : Tr), Nf b → rk a ≠ 0 → rk a ≠ 1 → rk b ≠ 0 → rk b ≠ 1 → sCat a b = (facs b).foldl .cat a
  | .cat x y, a, hb, a0, a1, _, _ => by
    obtain ⟨h1, h2, x0, x1, y0, y1, y3⟩ := hb
    have e : sCat a (.cat x y) = sCat (sCat a x) y := by simp [sCat, a0, a1]
    rw [e, sCat_fold x a h1 a0 a1 x0 x1]
    have r3 := fold_rk (facs x) a (facs_ne x)
    rw [sCat_last (by omega) (by omega) y0 y1 y3]
    simp [facs, List.foldl_append]
  | .leaf n, a, hb, a0, a1, b0, b1 => by
    rw [sCat_last a0 a1 b0 b1 (by rcases leaf_kind hb with e | e | e <;> simp [rk, e])]
    rfl
  | .alt x y, a, hb, a0, a1, b0, b1 => by rw [sCat_last a0 a1 b0 b1 (by simp [rk])]; rfl
  | .star x, a, hb, a0, a1, b0, b1 => by rw [sCat_last a0 a1 b0 b1 (by simp [rk])]; rfl
theorem law_cat_n (p : Tr) : sCat p never = never := by
  simp [sCat, nodeK]
theorem law_cat_assoc {p q s : Tr} (hp : Nf p) (hq : Nf q) (hs : Nf s) : sCat (sCat p q) s = sCat p (sCat q s) := by
  by_cases p0 : rk p = 0
  · rw [nf_rk0 hp p0, law_n_cat, law_n_cat, law_n_cat]
  by_cases q0 : rk q = 0
  · rw [nf_rk0 hq q0, law_cat_n, law_n_cat, law_cat_n]
  by_cases s0 : rk s = 0
  · rw [nf_rk0 hs s0, law_cat_n, law_cat_n, law_cat_n]
  by_cases p1 : rk p = 1
  · rw [nf_rk1 hp p1, law_e_cat hq, law_e_cat (nf_sCat s q hq hs)]
  by_cases q1 : rk q = 1
  · rw [nf_rk1 hq q1, law_cat_e hp, law_e_cat hs]
  by_cases s1 : rk s = 1
  · rw [nf_rk1 hs s1, law_cat_e (nf_sCat q p hp hq), law_cat_e hq]
  have r1 := fold_rk (facs q) p (facs_ne q)
  have r2 := fold_rk (facs s) q (facs_ne s)
  have n2 := nf_sCat s q hq hs
  rw [sCat_fold s q hs q0 q1 s0 s1] at n2 ⊢
  rw [sCat_fold q p hq p0 p1 q0 q1, sCat_fold s _ hs (by omega) (by omega) s0 s1, sCat_fold _ p n2 p0 p1 (by omega) (by omega), facs_fold, List.foldl_append]
theorem mem_fold (s : Bool) : ∀ (l d : List Tr) (t : Tr), t ∈ l → t ∈ l.foldl (keepF s) d ∨ (s = true ∧ rk t = 1) := by
  have mono : ∀ (l d : List Tr) (t : Tr), t ∈ d → t ∈ l.foldl (keepF s) d := by
    intro l
    induction l with
    | nil => intro d t h; exact h
    | cons x l ih =>
      intro d t h
      rw [List.foldl_cons]
      refine ih _ t ?_
      unfold keepF
      split
      · exact h
      · simp [h]
  intro l
  induction l with
  | nil => intro d t h; cases h
  | cons x l ih =>
    intro d t h
    rw [List.foldl_cons]
    rcases List.mem_cons.1 h with rfl | h
    · by_cases h1 : s = true ∧ rk t = 1
      · exact .inr h1
      · refine .inl (mono l _ t ?_)
        unfold keepF
        split
        · rename_i h2; exact h2.resolve_right h1
        · simp
    · exact ih _ t h
theorem fold_dedup (s : Bool) (d : List Tr) : ∀ l : List Tr, (dedup l).foldl (keepF s) d = l.foldl (keepF s) d := by
  have key : ∀ (n : Nat) (l : List Tr), l.length = n → (dedup l).foldl (keepF s) d = l.foldl (keepF s) d := by
    intro n
    induction n with
    | zero => intro l h; rw [List.length_eq_zero_iff.1 h]; rfl
    | succ n ih =>
      intro l h
      obtain ⟨m, t, rfl⟩ : ∃ m t, l = m ++ [t] := ⟨l.dropLast, l.getLast (by intro e; simp [e] at h), (List.dropLast_concat_getLast _).symm⟩
      have hm : m.length = n := by simpa using h
      rw [dedup_snoc, List.foldl_append, ← ih m hm]
      by_cases ht : t ∈ dedup m
      · rw [if_pos ht]
        have := mem_fold s (dedup m) d t ht
        generalize (dedup m).foldl (keepF s) d = r at this ⊢
        show r = keepF s r t
        unfold keepF
        rw [if_pos this]
      · rw [if_neg ht, List.foldl_append]
  exact fun l => key _ l rfl
theorem fold_noK (d : List Tr) : ∀ l : List Tr, (noK 1 l).foldl (keepF true) d = l.foldl (keepF true) d := by
  intro l
  induction l generalizing d with
  | nil => rfl
  | cons x l ih =>
    by_cases h : rk x = 1
    · have e : noK 1 (x :: l) = noK 1 l := by simp [noK, h]
      have e2 : keepF true d x = d := by simp [keepF, h]
      rw [e, List.foldl_cons, e2, ih]
    · have e : noK 1 (x :: l) = x :: noK 1 l := by simp [noK, h]
      rw [e, List.foldl_cons, List.foldl_cons, ih]
theorem fold_once {s : Bool} (d l : List Tr) (h : hasStar l = true → s = true) : (onceT l).foldl (keepF s) d = l.foldl (keepF s) d := by
  have e : onceT l = if hasStar l then noK 1 (dedup l) else dedup l := by rw [onceT_eq, keepF_eq]
  rw [e]
  by_cases hl : hasStar l = true
  · rw [if_pos hl, h hl, fold_noK, fold_dedup]
  · rw [if_neg hl, fold_dedup]
theorem hasStar_once (l : List Tr) : hasStar (onceT l) = hasStar l := by
  rw [Bool.eq_iff_iff]
  unfold hasStar
  rw [List.any_eq_true, List.any_eq_true]
  constructor
  · rintro ⟨t, h1, h2⟩; exact ⟨t, (mem_onceT.1 h1).1, h2⟩
  · rintro ⟨t, h1, h2⟩
    refine ⟨t, mem_onceT.2 ⟨h1, fun _ => ?_⟩, h2⟩
    simp only [decide_eq_true_eq] at h2
    omega
theorem hasStar_app (l m : List Tr) : hasStar (l ++ m) = (hasStar l || hasStar m) := by simp [hasStar]
theorem once_left (l m : List Tr) : onceT (onceT l ++ m) = onceT (l ++ m) := by
  rw [onceT_eq (onceT l ++ m), onceT_eq (l ++ m), hasStar_app, hasStar_once, ← hasStar_app, List.foldl_append, List.foldl_append, fold_once]
  intro h
  rw [hasStar_app, h]; rfl
theorem once_right (l m : List Tr) : onceT (l ++ onceT m) = onceT (l ++ m) := by
  rw [onceT_eq (l ++ onceT m), onceT_eq (l ++ m), hasStar_app, hasStar_once, ← hasStar_app, List.foldl_append, List.foldl_append, fold_once]
  intro h
  rw [hasStar_app, h]; simp
theorem law_n_alt (q : Tr) : sAlt never q = q := by
  have e0 : rk never = 0 := rfl
  simp [sAlt, e0]
theorem law_alt_assoc {p q s : Tr} (hp : Nf p) (hq : Nf q) (hs : Nf s) : sAlt (sAlt p q) s = sAlt p (sAlt q s) := by
  by_cases p0 : rk p = 0
  · rw [nf_rk0 hp p0, law_n_alt, law_n_alt]
  by_cases q0 : rk q = 0
  · rw [nf_rk0 hq q0, law_alt_n hp, law_n_alt]
  by_cases s0 : rk s = 0
  · rw [nf_rk0 hs s0, law_alt_n (nf_sAlt hp hq), law_alt_n hq]
  obtain ⟨m1, m2⟩ := sAlt_mems hp hq p0 q0
  obtain ⟨m3, m4⟩ := sAlt_mems hq hs q0 s0
  generalize sAlt p q = c at m1 m2
  generalize sAlt q s = d at m3 m4
  unfold sAlt
  rw [if_neg m2, if_neg s0, if_neg p0, if_neg m4, m1, m3, once_left, once_right, List.append_assoc]
end Go.Proofs.Abs
