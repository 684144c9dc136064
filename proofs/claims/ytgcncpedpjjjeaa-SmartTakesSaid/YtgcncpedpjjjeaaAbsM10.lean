/- A part of a proof: the text that states the row tells what is proved. No condition is laid on anything. -/
import Derived.Test.YtgcncpedpjjjeaaAbsX2
set_option linter.all false
set_option linter.constructorNameAsVariable false
set_option linter.defProp false
set_option linter.unusedVariables false
set_option linter.unusedSimpArgs false
set_option maxRecDepth 100000
namespace Go.Proofs.Abs
open Go
/-! ### The trees beneath a tree's nodes, in the nodes' order -/
def subs : Tr → List Tr
  | .leaf n => [.leaf n]
  | .cat a b => subs a ++ subs b ++ [.cat a b]
  | .alt a b => subs a ++ subs b ++ [.alt a b]
  | .star a => subs a ++ [.star a]
theorem subs_len : ∀ x, (subs x).length = sz x
  | .leaf n => rfl
  | .cat a b => by simp only [subs, sz, List.length_append, subs_len a, subs_len b, List.length_cons, List.length_nil]
  | .alt a b => by simp only [subs, sz, List.length_append, subs_len a, subs_len b, List.length_cons, List.length_nil]
  | .star a => by simp only [subs, sz, List.length_append, subs_len a, List.length_cons, List.length_nil]
theorem subs_sz : ∀ x, ∀ y ∈ subs x, sz y ≤ sz x
  | .leaf n, y, h => by simp only [subs, List.mem_singleton] at h; subst h; exact Nat.le_refl _
  | .cat a b, y, h => by
    simp only [subs, List.mem_append, List.mem_singleton] at h
    rcases h with (h | h) | h
    · have := subs_sz a y h; simp only [sz]; omega
    · have := subs_sz b y h; simp only [sz]; omega
    · subst h; exact Nat.le_refl _
  | .alt a b, y, h => by
    simp only [subs, List.mem_append, List.mem_singleton] at h
    rcases h with (h | h) | h
    · have := subs_sz a y h; simp only [sz]; omega
    · have := subs_sz b y h; simp only [sz]; omega
    · subst h; exact Nat.le_refl _
  | .star a, y, h => by
    simp only [subs, List.mem_append, List.mem_singleton] at h
    rcases h with h | h
    · have := subs_sz a y h; simp only [sz]; omega
    · subst h; exact Nat.le_refl _
theorem subs_ok : ∀ x, Ok x → ∀ y ∈ subs x, Ok y
  | .leaf n, hx, y, h => by simp only [subs, List.mem_singleton] at h; subst h; exact hx
  | .cat a b, hx, y, h => by
    simp only [subs, List.mem_append, List.mem_singleton] at h
    rcases h with (h | h) | h
    · exact subs_ok a hx.1 y h
    · exact subs_ok b hx.2 y h
    · subst h; exact hx
  | .alt a b, hx, y, h => by
    simp only [subs, List.mem_append, List.mem_singleton] at h
    rcases h with (h | h) | h
    · exact subs_ok a hx.1 y h
    · exact subs_ok b hx.2 y h
    · subst h; exact hx
  | .star a, hx, y, h => by
    simp only [subs, List.mem_append, List.mem_singleton] at h
    rcases h with h | h
    · exact subs_ok a hx y h
    · subst h; exact hx
theorem subs_last : ∀ x, (subs x).getD (sz x - 1) default = x := by
  have key : ∀ (l : List Tr) (y : Tr) (n : Nat), l.length = n → (l ++ [y]).getD n default = y := fun l y n h => by
    rw [List.getD_eq_getElem?_getD, List.getElem?_append_right (by omega), h, Nat.sub_self]; rfl
  intro x
  cases x with
  | leaf n => rfl
  | cat a b => exact key _ _ _ (by simp only [List.length_append, subs_len, sz]; omega)
  | alt a b => exact key _ _ _ (by simp only [List.length_append, subs_len, sz]; omega)
  | star a => exact key _ _ _ (by simp only [subs_len, sz]; omega)
/-- A node tells of its tree by the trees ahead of it. -/
inductive NodeOf (S : List Tr) (j : Nat) : Nd → Tr → Prop
  | leaf (n : Nd) (h : leafN n = true) : NodeOf S j n (.leaf n)
  | cat (i k : Nat) (h : i < j ∧ k < j) : NodeOf S j ⟨3, i, k, [], ⟨#[]⟩⟩ (.cat (S.getD i default) (S.getD k default))
  | alt (i k : Nat) (h : i < j ∧ k < j) : NodeOf S j ⟨4, i, k, [], ⟨#[]⟩⟩ (.alt (S.getD i default) (S.getD k default))
  | star (i : Nat) (h : i < j) : NodeOf S j ⟨5, i, 0, [], ⟨#[]⟩⟩ (.star (S.getD i default))
theorem movN_leafN {n : Nd} (h : leafN n = true) (m : Int) : movN n m = n := by
  obtain ⟨h1, h2⟩ := leaf_fork h
  simp [movN, h1, h2]
theorem NodeOf.shift {S : List Tr} {j : Nat} {n : Nd} {y : Tr} (h : NodeOf S j n y) (hj : j ≤ S.length) (P R : List Tr) (s : Nat) (hs : P.length = s) : NodeOf (P ++ S ++ R) (s + j) (movN n s) y := by
  have get : ∀ i, i < j → S.getD i default = (P ++ S ++ R).getD (s + i) default := fun i hi => by
    rw [List.getD_eq_getElem?_getD, List.getD_eq_getElem?_getD, List.append_assoc, List.getElem?_append_right (by omega), List.getElem?_append_left (by omega)]
    congr 2
    omega
  cases h with
  | leaf _ h => rw [movN_leafN h]; exact .leaf n h
  | cat i k h =>
    rw [get i h.1, get k h.2]
    have : movN ⟨3, i, k, [], ⟨#[]⟩⟩ s = ⟨3, (s + i : Nat), (s + k : Nat), [], ⟨#[]⟩⟩ := by simp [movN, isFork]; omega
    rw [this]
    exact .cat _ _ (by omega)
  | alt i k h =>
    rw [get i h.1, get k h.2]
    have : movN ⟨4, i, k, [], ⟨#[]⟩⟩ s = ⟨4, (s + i : Nat), (s + k : Nat), [], ⟨#[]⟩⟩ := by simp [movN, isFork]; omega
    rw [this]
    exact .alt _ _ (by omega)
  | star i h =>
    rw [get i h]
    have : movN ⟨5, i, 0, [], ⟨#[]⟩⟩ s = ⟨5, (s + i : Nat), 0, [], ⟨#[]⟩⟩ := by simp [movN, isFork]; omega
    rw [this]
    exact .star _ (by omega)
theorem getD_app_l {α : Type} {l m : List α} {j : Nat} (h : j < l.length) (z : α) : (l ++ m).getD j z = l.getD j z := by
  rw [List.getD_eq_getElem?_getD, List.getElem?_append_left h, List.getD_eq_getElem?_getD]
theorem getD_app_r {α : Type} {l m : List α} {j : Nat} (h : l.length ≤ j) (z : α) : (l ++ m).getD j z = m.getD (j - l.length) z := by
  rw [List.getD_eq_getElem?_getD, List.getElem?_append_right h, List.getD_eq_getElem?_getD]
theorem mov_getD {t : List Nd} {m : Int} {j : Nat} (h : j < t.length) : (mov t m).getD j default = movN (t.getD j default) m := by
  unfold mov
  rw [List.getD_eq_getElem?_getD, List.getElem?_map, List.getElem?_eq_getElem h, List.getD_eq_getElem?_getD, List.getElem?_eq_getElem h]
  rfl
theorem join_nodes {k : Int} {a b y : Tr} (ha : ∀ j, j < sz a → NodeOf (subs a) j ((enc a).getD j default) ((subs a).getD j default)) (hb : ∀ j, j < sz b → NodeOf (subs b) j ((enc b).getD j default) ((subs b).getD j default))
    (hy : NodeOf (subs a ++ subs b ++ [y]) (sz a + sz b) ⟨k, ((sz a - 1 : Nat) : Int), ((sz a + sz b - 1 : Nat) : Int), [], ⟨#[]⟩⟩ y) (j : Nat) (hj : j < sz a + sz b + 1) :
    NodeOf (subs a ++ subs b ++ [y]) j ((joinT k (enc a) (enc b)).getD j default) ((subs a ++ subs b ++ [y]).getD j default) := by
  have l1 := subs_len a
  have l2 := subs_len b
  have m1 := enc_len a
  have m2 := enc_len b
  have p1 := sz_pos a
  have p2 := sz_pos b
  unfold joinT
  by_cases h1 : j < sz a
  · rw [getD_app_l (by simp only [List.length_append, mov_len]; omega), getD_app_l (by omega), getD_app_l (by simp only [List.length_append]; omega), getD_app_l (by omega)]
    have := (ha j h1).shift (by omega) [] (subs b ++ [y]) 0 rfl
    rw [show ((0 : Nat) : Int) = 0 from rfl, movN_zero, Nat.zero_add, List.nil_append, ← List.append_assoc] at this
    exact this
  by_cases h2 : j < sz a + sz b
  · rw [getD_app_l (by simp only [List.length_append, mov_len]; omega), getD_app_r (by omega), getD_app_l (by simp only [List.length_append]; omega), getD_app_r (by omega), m1, l1, mov_getD (by omega)]
    have := (hb (j - sz a) (by omega)).shift (by omega) (subs a) [y] (sz a) l1
    rw [show sz a + (j - sz a) = j by omega] at this
    exact this
  · have hj2 : j = sz a + sz b := by omega
    subst hj2
    rw [getD_app_r (by simp only [List.length_append, mov_len]; omega), getD_app_r (by simp only [List.length_append]; omega)]
    have e1 : sz a + sz b - (enc a ++ mov (enc b) ↑(enc a).length).length = 0 := by simp only [List.length_append, mov_len]; omega
    have e2 : sz a + sz b - (subs a ++ subs b).length = 0 := by simp only [List.length_append]; omega
    rw [e1, e2, m1, m2]
    have e3 : ((sz a - 1 : Nat) : Int) = (sz a : Int) - 1 := by omega
    have e4 : ((sz a + sz b - 1 : Nat) : Int) = (sz a : Int) + sz b - 1 := by omega
    rw [e3, e4] at hy
    exact hy
theorem nodes : ∀ x, Ok x → ∀ j, j < sz x → NodeOf (subs x) j ((enc x).getD j default) ((subs x).getD j default)
  | .leaf n, h, j, hj => by
    have : j = 0 := by simp only [sz] at hj; omega
    subst this
    exact .leaf n h.1
  | .cat a b, h, j, hj => by
    have l1 := subs_len a
    have l2 := subs_len b
    have p1 := sz_pos a
    have p2 := sz_pos b
    refine join_nodes (k := 3) (nodes a h.1) (nodes b h.2) ?_ j hj
    have := NodeOf.cat (S := subs a ++ subs b ++ [.cat a b]) (j := sz a + sz b) (sz a - 1) (sz a + sz b - 1) (by omega)
    rw [getD_app_l (by simp only [List.length_append]; omega), getD_app_l (by omega), getD_app_l (by simp only [List.length_append]; omega), getD_app_r (by omega), l1, show sz a + sz b - 1 - sz a = sz b - 1 by omega, subs_last, subs_last] at this
    exact this
  | .alt a b, h, j, hj => by
    have l1 := subs_len a
    have l2 := subs_len b
    have p1 := sz_pos a
    have p2 := sz_pos b
    refine join_nodes (k := 4) (nodes a h.1) (nodes b h.2) ?_ j hj
    have := NodeOf.alt (S := subs a ++ subs b ++ [.alt a b]) (j := sz a + sz b) (sz a - 1) (sz a + sz b - 1) (by omega)
    rw [getD_app_l (by simp only [List.length_append]; omega), getD_app_l (by omega), getD_app_l (by simp only [List.length_append]; omega), getD_app_r (by omega), l1, show sz a + sz b - 1 - sz a = sz b - 1 by omega, subs_last, subs_last] at this
    exact this
  | .star a, h, j, hj => by
    have l1 := subs_len a
    have m1 := enc_len a
    have p1 := sz_pos a
    simp only [sz] at hj
    simp only [enc, subs, starT]
    by_cases h1 : j < sz a
    · rw [getD_app_l (by omega), getD_app_l (by omega)]
      have := (nodes a h j h1).shift (by omega) [] [.star a] 0 rfl
      rw [show ((0 : Nat) : Int) = 0 from rfl, movN_zero, Nat.zero_add, List.nil_append] at this
      exact this
    · have hj2 : j = sz a := by omega
      subst hj2
      rw [getD_app_r (by omega), getD_app_r (by omega), m1, l1, Nat.sub_self]
      have := NodeOf.star (S := subs a ++ [.star a]) (j := sz a) (sz a - 1) (by omega)
      rw [getD_app_l (by omega), subs_last, show ((sz a - 1 : Nat) : Int) = (sz a : Int) - 1 by omega] at this
      exact this
end Go.Proofs.Abs
