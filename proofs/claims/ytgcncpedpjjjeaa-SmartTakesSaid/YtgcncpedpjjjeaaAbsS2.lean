/- A part of a proof: the text that states the row tells what is proved. No condition is laid on anything. -/
import Derived.Test.YtgcncpedpjjjeaaAbsS
set_option linter.all false
set_option linter.constructorNameAsVariable false
set_option linter.defProp false
set_option linter.unusedVariables false
set_option linter.unusedSimpArgs false
namespace Go.Proofs.Abs
open Go

/-! ### Trees put together, and taken apart -/
theorem cut_step {l : List Nat} {i : Nat} {n : Nd} (hi : i < l.length) (hle : ∀ k, k < i → l.getD k 0 ≤ k) (h : Cut l i n) : stepB (l.take i) n = some (l.getD i 0) := by
  have e : (l.take i).length = i := by simp; omega
  unfold stepB
  rw [e]
  cases h with
  | fork hk c2 hb c1 ha hn hg =>
    have := hle (i - 1) (by omega)
    rw [if_pos hk, getD_take (by omega), if_pos ⟨c2, by omega, c1, by omega, hn⟩, getD_take (by omega), hg]
  | star hf hk c1 ha hb hn hg =>
    rw [if_neg (by simp [hf]), if_pos hk, if_pos ⟨c1, by omega, hb, hn⟩, getD_take (by omega), hg]
  | leaf hf hk hn hg =>
    rw [if_neg (by simp [hf]), if_neg hk, if_pos hn, hg]
theorem begsFrom_of : ∀ (r : List Nd) (out l : List Nat), l.length = out.length + r.length → l.take out.length = out → (∀ i, (h : i < r.length) → stepB (l.take (out.length + i)) r[i] = some (l.getD (out.length + i) 0)) → begsFrom out r = some l
  | [], out, l, h1, h2, _ => by
    unfold begsFrom
    rw [← h2, List.take_of_length_le (by simp at h1; omega)]
  | n :: r, out, l, h1, h2, h3 => by
    have h0 := h3 0 (by simp)
    simp only [Nat.add_zero, h2, List.getElem_cons_zero] at h0
    unfold begsFrom
    rw [h0]
    simp only
    have hlt : out.length < l.length := by simp at h1; omega
    have et : l.take (out.length + 1) = out ++ [l.getD out.length 0] := by
      rw [show l.take (out.length + 1) = l.take out.length ++ [l[out.length]] by simp, h2, List.getD_eq_getElem?_getD, List.getElem?_eq_getElem hlt]
      rfl
    refine begsFrom_of r _ l (by simp at h1 ⊢; omega) (by simpa using et) fun i hi => ?_
    have := h3 (i + 1) (by simp; omega)
    simp only [List.length_append, List.length_cons, List.length_nil]
    simpa [Nat.add_assoc, Nat.add_comm 1 i] using this
theorem begs_of_cut {t : List Nd} {l : List Nat} (hl : l.length = t.length) (h : ∀ i, (hi : i < t.length) → l.getD i 0 ≤ i ∧ Cut l i t[i]) : begs t = some l := by
  refine begsFrom_of t [] l (by simpa using hl) (by simp) fun i hi => ?_
  have := cut_step (by omega) (fun k hk => (h k (by omega)).1) (h i hi).2
  simpa using this

def movN (n : Nd) (m : Int) : Nd := if isFork n then { n with a := n.a + m, b := n.b + m } else if n.kind = 5 then { n with a := n.a + m } else n
def mov (t : List Nd) (m : Int) : List Nd := t.map (movN · m)
theorem movN_zero (n : Nd) : movN n 0 = n := by
  unfold movN
  cases n
  split
  · simp
  · split <;> simp
theorem mov_zero (t : List Nd) : mov t 0 = t := by
  unfold mov
  conv => rhs; rw [← List.map_id t]
  exact List.map_congr_left fun n _ => movN_zero n
theorem movN_kind (n : Nd) (m : Int) : (movN n m).kind = n.kind := by
  unfold movN; split
  · rfl
  · split <;> rfl
theorem movN_set (n : Nd) (m : Int) : (movN n m).set = n.set := by
  unfold movN; split
  · rfl
  · split <;> rfl
theorem movN_name (n : Nd) (m : Int) : (movN n m).name = n.name := by
  unfold movN; split
  · rfl
  · split <;> rfl
theorem movN_fork (n : Nd) (m : Int) : isFork (movN n m) = isFork n := by simp only [isFork, movN_kind]
theorem movN_bare (n : Nd) (m : Int) : bareN (movN n m) = bareN n := by simp only [bareN, movN_set, movN_name]
theorem movN_leaf {n : Nd} (hf : isFork n = false) (hk : n.kind ≠ 5) (m : Int) : movN n m = n := by simp [movN, hf, hk]
theorem movN_back (n : Nd) (m : Int) : movN (movN n m) (-m) = n := by
  unfold movN
  by_cases h : isFork n = true
  · have : isFork { n with a := n.a + m, b := n.b + m } = true := h
    rw [if_pos h, if_pos this]
    cases n; simp; omega
  · rw [if_neg h]
    by_cases hk : n.kind = 5
    · have h2 : ¬ isFork { n with a := n.a + m } = true := h
      rw [if_pos hk, if_neg h2, if_pos (by exact hk)]
      cases n; simp; omega
    · rw [if_neg hk, if_neg h, if_neg hk]

/-- The begins nest. -/
theorem nest {t : List Nd} {l : List Nat} (h : begs t = some l) : ∀ m, m < t.length → ∀ i, i ≤ m → l.getD m 0 ≤ i → l.getD m 0 ≤ l.getD i 0 := by
  intro m
  induction m using Nat.strongRecOn with
  | ind m ih =>
    intro hm i him hi
    obtain ⟨hle, hc⟩ := begs_cut h m hm
    by_cases e : i = m
    · subst e; exact Nat.le_refl _
    have hlt : i ≤ m - 1 := by omega
    cases hc with
    | leaf _ _ _ hg => omega
    | star hf hk c1 ha hb hn hg =>
      have ea : t[m].a.toNat = m - 1 := by omega
      rw [hg, ea] at hi ⊢
      exact ih (m - 1) (by omega) (by omega) i hlt hi
    | fork hk c2 hb c1 ha hn hg =>
      have hp := (begs_cut h (m - 1) (by omega)).1
      have ea : t[m].a.toNat = l.getD (m - 1) 0 - 1 := by omega
      rw [ea] at hg
      by_cases c : l.getD (m - 1) 0 ≤ i
      · have := ih (m - 1) (by omega) (by omega) i hlt c
        have hq := (begs_cut h (l.getD (m - 1) 0 - 1) (by omega)).1
        omega
      · rw [hg] at hi ⊢
        exact ih (l.getD (m - 1) 0 - 1) (by omega) (by omega) i (by omega) hi

/-- A node whose place is another one. -/
theorem cut_shift {l l' : List Nat} {i s : Nat} {n : Nd} (hs : ∀ k, k ≤ i → l'.getD (k + s) 0 = l.getD k 0 + s) (hle : ∀ k, k ≤ i → l.getD k 0 ≤ k) (h : Cut l i n) : Cut l' (i + s) (movN n s) := by
  cases h with
  | fork hk c2 hb c1 ha hn hg =>
    have hp := hle (i - 1) (by omega)
    have e1 := hs (i - 1) (by omega)
    have e2 : i - 1 + s = i + s - 1 := by omega
    rw [e2] at e1
    have ea : (movN n s).a = n.a + s := by simp [movN, hk]
    have eb : (movN n s).b = n.b + s := by simp [movN, hk]
    refine .fork (by rw [movN_fork]; exact hk) (by omega) (by omega) (by omega) (by omega) (by rw [movN_bare]; exact hn) ?_
    have e3 : (movN n s).a.toNat = n.a.toNat + s := by omega
    rw [e3, hs i (Nat.le_refl _), hs n.a.toNat (by omega), hg]
  | star hf hk c1 ha hb hn hg =>
    have ea : (movN n s).a = n.a + s := by simp [movN, hf, hk]
    have eb : (movN n s).b = n.b := by simp [movN, hf, hk]
    refine .star (by rw [movN_fork]; exact hf) (by rw [movN_kind]; exact hk) (by omega) (by omega) (by omega) (by rw [movN_bare]; exact hn) ?_
    have e3 : (movN n s).a.toNat = n.a.toNat + s := by omega
    rw [e3, hs i (Nat.le_refl _), hs n.a.toNat (by omega), hg]
  | leaf hf hk hn hg =>
    rw [movN_leaf hf hk]
    exact .leaf hf hk hn (by rw [hs i (Nat.le_refl _), hg])
theorem cut_unshift {l l' : List Nat} {i s : Nat} {n : Nd} (hs : ∀ k, k ≤ i → l'.getD (k + s) 0 = l.getD k 0 + s) (hle : ∀ k, k ≤ i + s → l'.getD k 0 ≤ k) (h : Cut l' (i + s) n) : Cut l i (movN n (-(s : Int))) := by
  cases h with
  | fork hk c2 hb c1 ha hn hg =>
    have hp := hle (i + s - 1) (by omega)
    have e0 := hs i (Nat.le_refl _)
    have ea : (movN n (-(s : Int))).a = n.a - s := by simp [movN, hk]; omega
    have eb : (movN n (-(s : Int))).b = n.b - s := by simp [movN, hk]; omega
    have hq := hle n.a.toNat (by omega)
    have i1 : 1 ≤ i := by omega
    have e1 := hs (i - 1) (by omega)
    have e2 : i - 1 + s = i + s - 1 := by omega
    rw [e2] at e1
    refine .fork (by rw [movN_fork]; exact hk) (by omega) (by omega) (by omega) (by omega) (by rw [movN_bare]; exact hn) ?_
    have e3 := hs (n.a.toNat - s) (by omega)
    have e4 : n.a.toNat - s + s = n.a.toNat := by omega
    rw [e4] at e3
    have e5 : (movN n (-(s : Int))).a.toNat = n.a.toNat - s := by omega
    rw [e5]
    omega
  | star hf hk c1 ha hb hn hg =>
    have ea : (movN n (-(s : Int))).a = n.a - s := by simp [movN, hf, hk]; omega
    have eb : (movN n (-(s : Int))).b = n.b := by simp [movN, hf, hk]
    have e0 := hs i (Nat.le_refl _)
    have hq := hle n.a.toNat (by omega)
    have i1 : 1 ≤ i := by omega
    refine .star (by rw [movN_fork]; exact hf) (by rw [movN_kind]; exact hk) i1 (by omega) (by omega) (by rw [movN_bare]; exact hn) ?_
    have e3 := hs (n.a.toNat - s) (by omega)
    have e4 : n.a.toNat - s + s = n.a.toNat := by omega
    rw [e4] at e3
    have e5 : (movN n (-(s : Int))).a.toNat = n.a.toNat - s := by omega
    rw [e5]
    omega
  | leaf hf hk hn hg =>
    rw [movN_leaf hf hk]
    exact .leaf hf hk hn (by have := hs i (Nat.le_refl _); omega)
theorem cut_congr {l l' : List Nat} {i : Nat} {n : Nd} (hs : ∀ k, k ≤ i → l'.getD k 0 = l.getD k 0) (hle : ∀ k, k ≤ i → l.getD k 0 ≤ k) (h : Cut l i n) : Cut l' i n := by
  have := cut_shift (s := 0) (l' := l') (by simpa using hs) hle h
  simpa [movN_zero] using this

theorem goodT_iff {t : List Nd} : goodT t = true ↔ 1 ≤ t.length ∧ t.length ≤ 40000 ∧ ∃ l, begs t = some l ∧ l.getD (t.length - 1) 0 = 0 := by
  unfold goodT
  simp only [Bool.and_eq_true, decide_eq_true_eq, and_assoc]
  constructor
  · rintro ⟨h1, h2, h3⟩
    split at h3
    · rename_i l hl
      exact ⟨h1, h2, l, hl, by simpa using h3⟩
    · cases h3
  · rintro ⟨h1, h2, l, hl, h3⟩
    rw [hl]
    exact ⟨h1, h2, by simpa using h3⟩

def joinT (k : Int) (a b : List Nd) : List Nd := a ++ mov b a.length ++ [⟨k, (a.length : Int) - 1, (a.length : Int) + b.length - 1, [], ⟨#[]⟩⟩]
def starT (a : List Nd) : List Nd := a ++ [⟨5, (a.length : Int) - 1, 0, [], ⟨#[]⟩⟩]
theorem good_join {k : Int} (hk : k = 3 ∨ k = 4) {a b : List Nd} (ha : goodT a = true) (hb : goodT b = true) (hl : a.length + b.length + 1 ≤ 40000) : goodT (joinT k a b) = true := by
  rw [goodT_iff] at ha hb ⊢
  obtain ⟨a1, a2, la, a3, a4⟩ := ha
  obtain ⟨b1, b2, lb, b3, b4⟩ := hb
  have ea := begs_len a3
  have eb := begs_len b3
  have hlen : (joinT k a b).length = a.length + b.length + 1 := by simp [joinT, mov]; omega
  have g1 : ∀ i, i < a.length → (la ++ lb.map (· + a.length) ++ [0]).getD i 0 = la.getD i 0 := fun i hi => by
    simp only [List.getD_eq_getElem?_getD]
    rw [List.getElem?_append_left (by simp; omega), List.getElem?_append_left (by omega)]
  have g2 : ∀ i, i < b.length → (la ++ lb.map (· + a.length) ++ [0]).getD (i + a.length) 0 = lb.getD i 0 + a.length := fun i hi => by
    simp only [List.getD_eq_getElem?_getD]
    rw [List.getElem?_append_left (by simp; omega), List.getElem?_append_right (by omega), ea, Nat.add_sub_cancel, List.getElem?_map, List.getElem?_eq_getElem (by omega)]
    simp
  have g3 : (la ++ lb.map (· + a.length) ++ [0]).getD (a.length + b.length) 0 = 0 := by
    simp only [List.getD_eq_getElem?_getD]
    rw [List.getElem?_append_right (by simp; omega)]
    simp [ea, eb]
  refine ⟨by omega, by omega, la ++ lb.map (· + a.length) ++ [0], begs_of_cut (by simp [hlen, ea, eb]; omega) fun i hi => ?_, by rw [hlen]; simpa using g3⟩
  by_cases c1 : i < a.length
  · have e : (joinT k a b)[i] = a[i] := by
      simp only [joinT]
      rw [List.getElem_append_left (by simp; omega), List.getElem_append_left c1]
    obtain ⟨h1, h2⟩ := begs_cut a3 i c1
    rw [e, g1 i c1]
    exact ⟨h1, cut_congr (fun k hk => g1 k (by omega)) (fun k hk => (begs_cut a3 k (by omega)).1) h2⟩
  · by_cases c2 : i < a.length + b.length
    · obtain ⟨m, rfl⟩ : ∃ m, i = m + a.length := ⟨i - a.length, by omega⟩
      have hm : m < b.length := by omega
      have e : (joinT k a b)[m + a.length] = movN b[m] a.length := by
        simp only [joinT]
        rw [List.getElem_append_left (by simp [mov]; omega), List.getElem_append_right (by omega)]
        simp [mov]
      obtain ⟨h1, h2⟩ := begs_cut b3 m hm
      rw [e, g2 m hm]
      exact ⟨by omega, cut_shift (fun k hk => g2 k (by omega)) (fun k hk => (begs_cut b3 k (by omega)).1) h2⟩
    · have : i = a.length + b.length := by omega
      subst this
      have e : (joinT k a b)[a.length + b.length] = ⟨k, (a.length : Int) - 1, (a.length : Int) + b.length - 1, [], ⟨#[]⟩⟩ := by
        simp only [joinT]
        rw [List.getElem_append_right (by simp [mov])]
        simp [mov]
      rw [e, g3]
      have g4 := g2 (b.length - 1) (by omega)
      have e5 : b.length - 1 + a.length = a.length + b.length - 1 := by omega
      rw [e5, b4] at g4
      refine ⟨by omega, .fork ?_ (by omega) (by simp only; omega) (by omega) (by simp only; omega) ?_ ?_⟩
      · rcases hk with rfl | rfl <;> simp [isFork]
      · rfl
      · rw [g3]
        have e6 : ((a.length : Int) - 1).toNat = a.length - 1 := by omega
        simp only [e6]
        rw [g1 _ (by omega), a4]
theorem good_star {a : List Nd} (ha : goodT a = true) (hl : a.length + 1 ≤ 40000) : goodT (starT a) = true := by
  rw [goodT_iff] at ha ⊢
  obtain ⟨a1, a2, la, a3, a4⟩ := ha
  have ea := begs_len a3
  have hlen : (starT a).length = a.length + 1 := by simp [starT]
  have g1 : ∀ i, i < a.length → (la ++ [0]).getD i 0 = la.getD i 0 := fun i hi => by
    simp only [List.getD_eq_getElem?_getD]
    rw [List.getElem?_append_left (by omega)]
  have g3 : (la ++ [0]).getD a.length 0 = 0 := by
    simp only [List.getD_eq_getElem?_getD]
    rw [List.getElem?_append_right (by omega)]
    simp [ea]
  refine ⟨by omega, by omega, la ++ [0], begs_of_cut (by simp [hlen, ea]) fun i hi => ?_, by rw [hlen]; simpa using g3⟩
  by_cases c1 : i < a.length
  · have e : (starT a)[i] = a[i] := by
      simp only [starT]
      rw [List.getElem_append_left c1]
    obtain ⟨h1, h2⟩ := begs_cut a3 i c1
    rw [e, g1 i c1]
    exact ⟨h1, cut_congr (fun k hk => g1 k (by omega)) (fun k hk => (begs_cut a3 k (by omega)).1) h2⟩
  · have : i = a.length := by omega
    subst this
    have e : (starT a)[a.length] = ⟨5, (a.length : Int) - 1, 0, [], ⟨#[]⟩⟩ := by
      simp only [starT]
      rw [List.getElem_append_right (by omega)]
      simp
    rw [e, g3]
    refine ⟨by omega, .star rfl rfl (by omega) rfl rfl rfl ?_⟩
    rw [g3]
    have e6 : ((a.length : Int) - 1).toNat = a.length - 1 := by omega
    simp only [e6]
    rw [g1 _ (by omega), a4]

/-- What stands beneath a node is a tree. -/
theorem good_part {t : List Nd} {l : List Nat} (h : begs t = some l) (hlen : t.length ≤ 40000) {m : Nat} (hm : m < t.length) : goodT (mov ((t.take (m + 1)).drop (l.getD m 0)) (-(l.getD m 0 : Int))) = true := by
  have hl := begs_len h
  have hle := (begs_cut h m hm).1
  generalize hs : l.getD m 0 = s at hle
  have hn : (mov ((t.take (m + 1)).drop s) (-(s : Int))).length = m + 1 - s := by simp [mov]; omega
  have g : ∀ k, k < m + 1 - s → (((l.take (m + 1)).drop s).map (· - s)).getD k 0 = l.getD (k + s) 0 - s := fun k hk => by
    simp only [List.getD_eq_getElem?_getD, List.getElem?_map, List.getElem?_drop]
    rw [List.getElem?_take_of_lt (by omega), Nat.add_comm s k, List.getElem?_eq_getElem (by omega)]
    simp
  rw [goodT_iff, hn]
  refine ⟨by omega, by omega, ((l.take (m + 1)).drop s).map (· - s), begs_of_cut (by simp [hn]; try omega) fun i hi => ?_, ?_⟩
  · rw [hn] at hi
    have e : (mov ((t.take (m + 1)).drop s) (-(s : Int)))[i] = movN t[i + s] (-(s : Int)) := by
      simp [mov, Nat.add_comm]
    obtain ⟨h1, h2⟩ := begs_cut h (i + s) (by omega)
    have hge : ∀ k, k ≤ i → s ≤ l.getD (k + s) 0 := fun k hk => by
      have := nest h m hm (k + s) (by omega) (by omega)
      omega
    rw [e, g i hi]
    refine ⟨by omega, cut_unshift (l' := l) (fun k hk => ?_) (fun k hk => (begs_cut h k (by omega)).1) h2⟩
    rw [g k (by omega)]
    have := hge k hk
    omega
  · rw [g _ (by omega)]
    have : m + 1 - s - 1 + s = m := by omega
    rw [this, hs]
    omega
end Go.Proofs.Abs
