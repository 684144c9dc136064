/- A part of a proof: the text that states the row tells what is proved. No condition is laid on anything. -/
import Derived.Test.YtgcncpedpjjjeaaAbsS3
set_option linter.all false
set_option linter.constructorNameAsVariable false
set_option linter.defProp false
set_option linter.unusedVariables false
set_option linter.unusedSimpArgs false
namespace Go.Proofs.Abs
open Go
/-! ### Trees as terms -/
deriving instance DecidableEq for Nd
inductive Tr where
  | leaf (n : Nd)
  | cat (a b : Tr)
  | alt (a b : Tr)
  | star (a : Tr)
  deriving DecidableEq, Inhabited
def enc : Tr → List Nd
  | .leaf n => [n]
  | .cat a b => joinT 3 (enc a) (enc b)
  | .alt a b => joinT 4 (enc a) (enc b)
  | .star a => starT (enc a)
def sz : Tr → Nat
  | .leaf _ => 1
  | .cat a b => sz a + sz b + 1
  | .alt a b => sz a + sz b + 1
  | .star a => sz a + 1
def rk : Tr → Int
  | .leaf n => n.kind
  | .cat _ _ => 3
  | .alt _ _ => 4
  | .star _ => 5
def Ok : Tr → Prop
  | .leaf n => leafN n = true ∧ WfN n ∧ n.set.length ≤ 600
  | .cat a b => Ok a ∧ Ok b
  | .alt a b => Ok a ∧ Ok b
  | .star a => Ok a
theorem enc_len : ∀ x, (enc x).length = sz x
  | .leaf n => rfl
  | .cat a b => by simp only [enc, sz, joinT_len, enc_len a, enc_len b]
  | .alt a b => by simp only [enc, sz, joinT_len, enc_len a, enc_len b]
  | .star a => by simp only [enc, sz, starT_len, enc_len a]
theorem sz_pos : ∀ x, 1 ≤ sz x
  | .leaf n => Nat.le_refl _
  | .cat a b => by simp [sz]
  | .alt a b => by simp [sz]
  | .star a => by simp [sz]
theorem leaf_kind {n : Nd} (h : leafN n = true) : n.kind = 0 ∨ n.kind = 1 ∨ n.kind = 2 := by
  simp only [leafN, Bool.and_eq_true, decide_eq_true_eq] at h
  obtain ⟨_, h⟩ := h
  split at h
  · rename_i e; exact .inr (.inr e)
  · simp only [Bool.and_eq_true, Bool.or_eq_true, decide_eq_true_eq] at h
    rcases h.1 with e | e
    · exact .inl e
    · exact .inr (.inl e)
theorem leaf_fork {n : Nd} (h : leafN n = true) : isFork n = false ∧ n.kind ≠ 5 := by
  rcases leaf_kind h with e | e | e <;> simp [isFork, e]
theorem leaf_bare {n : Nd} (h : leafN n = true) (hk : n.kind ≠ 2) : n = ⟨n.kind, 0, 0, [], ⟨#[]⟩⟩ := by
  simp only [leafN, Bool.and_eq_true, decide_eq_true_eq, hk, if_false] at h
  have := bare_eq h.2.2
  rw [h.1.1, h.1.2] at this
  exact this
theorem good_leaf {n : Nd} (h : leafN n = true) : goodT [n] = true := by
  obtain ⟨h1, h2⟩ := leaf_fork h
  simp [goodT, begs, begsFrom, stepB, h, h1, h2]
theorem ok_good : ∀ x, Ok x → sz x ≤ 40000 → goodT (enc x) = true
  | .leaf n, h, _ => good_leaf h.1
  | .cat a b, h, hs => by
    simp only [sz] at hs
    exact good_join (.inl rfl) (ok_good a h.1 (by omega)) (ok_good b h.2 (by omega)) (by rw [enc_len, enc_len]; omega)
  | .alt a b, h, hs => by
    simp only [sz] at hs
    exact good_join (.inr rfl) (ok_good a h.1 (by omega)) (ok_good b h.2 (by omega)) (by rw [enc_len, enc_len]; omega)
  | .star a, h, hs => by
    simp only [sz] at hs
    exact good_star (ok_good a h (by omega)) (by rw [enc_len]; omega)
theorem ok_sm : ∀ x, Ok x → sz x ≤ 40000 → SmS (enc x)
  | .leaf n, h, _ => ⟨⟨by simp [enc], by simpa [enc] using h.2.1⟩, by simpa [enc] using h.2.2⟩
  | .cat a b, h, hs => by
    simp only [sz] at hs
    exact sm_join (.inl rfl) (ok_sm a h.1 (by omega)) (ok_sm b h.2 (by omega)) (ok_good a h.1 (by omega)) (ok_good b h.2 (by omega))
  | .alt a b, h, hs => by
    simp only [sz] at hs
    exact sm_join (.inr rfl) (ok_sm a h.1 (by omega)) (ok_sm b h.2 (by omega)) (ok_good a h.1 (by omega)) (ok_good b h.2 (by omega))
  | .star a, h, hs => by
    simp only [sz] at hs
    exact sm_star (ok_sm a h (by omega)) (ok_good a h (by omega))
theorem lastN_enc : ∀ x, (lastN (enc x)).kind = rk x
  | .leaf n => rfl
  | .cat a b => by simp only [enc, last_join, rk]
  | .alt a b => by simp only [enc, last_join, rk]
  | .star a => by simp only [enc, last_star, rk]
theorem sm_part {t : List Nd} (hs : SmS t) (g : goodT t = true) : SmS (partA t) ∧ SmS (partB t) := by
  have ht := good_sm hs g
  have key : ∀ (s : List Nd) (m : Int), (∀ n ∈ s, n ∈ t) → s.length ≤ t.length → -200000 ≤ m ∧ m ≤ 200000 → SmS (mov s m) := fun s m h1 h2 h3 =>
    sm_mov (sm_subS hs h1 h2) (sm_sub ht h1 h2) h3
  have h1 := ht.len
  constructor
  · unfold partA
    split
    · exact key _ _ (fun n hn => List.mem_of_mem_take hn) (by simp; omega) (by omega)
    · exact ⟨⟨by simp, by simp⟩, by simp⟩
  · unfold partB
    split
    · obtain ⟨l, hl, h4, h2, h3, hc⟩ := good_last g
      have ha : (lastN t).a.toNat + 1 ≤ 200000 := by
        rename_i hgf
        simp only [Bool.and_eq_true] at hgf
        cases hc with
        | star hf' => rw [hgf.2] at hf'; cases hf'
        | leaf hf' => rw [hgf.2] at hf'; cases hf'
        | fork hk c2 hb c1 ha hn hg =>
          have hle := (begs_cut hl (t.length - 1 - 1) (by omega)).1
          omega
      exact key _ _ (fun n hn => List.mem_of_mem_take (List.mem_of_mem_drop hn)) (by simp; omega) (by omega)
    · exact ⟨⟨by simp, by simp⟩, by simp⟩
theorem dec_ex : ∀ (d : Nat) (t : List Nd), t.length ≤ d → SmS t → goodT t = true → ∃ x, Ok x ∧ enc x = t
  | 0, t, hd, hs, g => by have := (goodT_iff.1 g).1; omega
  | d + 1, t, hd, hs, g => by
    obtain ⟨sA, sB⟩ := sm_part hs g
    by_cases hf : isFork (lastN t) = true
    · obtain ⟨gA, gB, hl, hj⟩ := fork_back g hf
      obtain ⟨x, ox, ex⟩ := dec_ex d (partA t) (by omega) sA gA
      obtain ⟨y, oy, ey⟩ := dec_ex d (partB t) (by omega) sB gB
      have hk : (lastN t).kind = 3 ∨ (lastN t).kind = 4 := by simpa [isFork] using hf
      rcases hk with e | e
      · exact ⟨.cat x y, ⟨ox, oy⟩, by simp only [enc, ex, ey]; rw [e] at hj; exact hj⟩
      · exact ⟨.alt x y, ⟨ox, oy⟩, by simp only [enc, ex, ey]; rw [e] at hj; exact hj⟩
    · have hf' : isFork (lastN t) = false := by simpa using hf
      by_cases hk : (lastN t).kind = 5
      · obtain ⟨gA, hl, hj⟩ := star_back g hf' hk
        obtain ⟨x, ox, ex⟩ := dec_ex d (partA t) (by omega) sA gA
        exact ⟨.star x, ox, by simp only [enc, ex]; exact hj⟩
      · have h1 := leaf_one g (by simp [partOK, hf', hk])
        obtain ⟨n, rfl⟩ := List.length_eq_one_iff.1 h1
        obtain ⟨l, hl, _, _, _, hc⟩ := good_last g
        refine ⟨.leaf n, ⟨?_, hs.wf.all n (by simp), hs.set n (by simp)⟩, rfl⟩
        cases hc with
        | fork h => rw [hf'] at h; cases h
        | star _ h => exact absurd h hk
        | leaf _ _ h _ => exact h
theorem enc_inj : ∀ x y, Ok x → Ok y → sz x ≤ 40000 → enc x = enc y → x = y := by
  have parts : ∀ x y, Ok x → Ok y → sz x + sz y + 1 ≤ 40000 → goodT (enc x) = true ∧ goodT (enc y) = true ∧ (enc x).length + (enc y).length + 1 ≤ 40000 := fun x y hx hy h =>
    ⟨ok_good x hx (by omega), ok_good y hy (by omega), by rw [enc_len, enc_len]; omega⟩
  have hkk : ∀ x y, Ok x → Ok y → enc x = enc y → rk x = rk y := fun x y _ _ h => by rw [← lastN_enc, ← lastN_enc, h]
  have hsz : ∀ x y, enc x = enc y → sz x = sz y := fun x y h => by rw [← enc_len, ← enc_len, h]
  intro x
  induction x with
  | leaf n =>
    intro y hx hy hs h
    have hk := hkk _ _ hx hy h
    rcases leaf_kind hx.1 with e | e | e <;>
    · cases y with
      | leaf m => simp only [enc, List.cons.injEq, and_true] at h; rw [h]
      | cat a b => simp only [rk] at hk; omega
      | alt a b => simp only [rk] at hk; omega
      | star a => simp only [rk] at hk; omega
  | cat a b iha ihb =>
    intro y hx hy hs h
    have hk := hkk _ _ hx hy h
    have hz := hsz _ _ h
    cases y with
    | leaf m => rcases leaf_kind hy.1 with e | e | e <;> (simp only [rk] at hk; omega)
    | cat c d =>
      simp only [sz] at hs hz
      obtain ⟨g1, g2, g3⟩ := parts a b hx.1 hx.2 hs
      obtain ⟨g4, g5, g6⟩ := parts c d hy.1 hy.2 (by omega)
      have p1 := parts_join (.inl rfl) g1 g2 g3 (k := 3)
      have p2 := parts_join (.inl rfl) g4 g5 g6 (k := 3)
      simp only [enc] at h
      rw [iha c hx.1 hy.1 (by omega) (by rw [← p1.2.1, ← p2.2.1, h]), ihb d hx.2 hy.2 (by omega) (by rw [← p1.2.2, ← p2.2.2, h])]
    | alt c d => simp only [rk] at hk; omega
    | star c => simp only [rk] at hk; omega
  | alt a b iha ihb =>
    intro y hx hy hs h
    have hk := hkk _ _ hx hy h
    have hz := hsz _ _ h
    cases y with
    | leaf m => rcases leaf_kind hy.1 with e | e | e <;> (simp only [rk] at hk; omega)
    | cat c d => simp only [rk] at hk; omega
    | alt c d =>
      simp only [sz] at hs hz
      obtain ⟨g1, g2, g3⟩ := parts a b hx.1 hx.2 hs
      obtain ⟨g4, g5, g6⟩ := parts c d hy.1 hy.2 (by omega)
      have p1 := parts_join (.inr rfl) g1 g2 g3 (k := 4)
      have p2 := parts_join (.inr rfl) g4 g5 g6 (k := 4)
      simp only [enc] at h
      rw [iha c hx.1 hy.1 (by omega) (by rw [← p1.2.1, ← p2.2.1, h]), ihb d hx.2 hy.2 (by omega) (by rw [← p1.2.2, ← p2.2.2, h])]
    | star c => simp only [rk] at hk; omega
  | star a iha =>
    intro y hx hy hs h
    have hk := hkk _ _ hx hy h
    have hz := hsz _ _ h
    cases y with
    | leaf m => rcases leaf_kind hy.1 with e | e | e <;> (simp only [rk] at hk; omega)
    | cat c d => simp only [rk] at hk; omega
    | alt c d => simp only [rk] at hk; omega
    | star c =>
      simp only [sz] at hs hz
      have p1 := parts_star (ok_good a hx (by omega)) (by rw [enc_len]; omega)
      have p2 := parts_star (ok_good c hy (by omega)) (by rw [enc_len]; omega)
      simp only [enc] at h
      rw [iha c hx hy (by omega) (by rw [← p1.2.1, ← p2.2.1, h])]
open Classical in
/-- The term of a tree. -/
noncomputable def dec (t : List Nd) : Tr := if h : ∃ x, Ok x ∧ enc x = t then Classical.choose h else default
theorem dec_spec {t : List Nd} (hs : SmS t) (g : goodT t = true) : Ok (dec t) ∧ enc (dec t) = t ∧ sz (dec t) = t.length ∧ sz (dec t) ≤ 40000 := by
  have h := dec_ex _ t (Nat.le_refl _) hs g
  unfold dec
  rw [dif_pos h]
  obtain ⟨h1, h2⟩ := Classical.choose_spec h
  have h3 : sz (Classical.choose h) = t.length := by rw [← enc_len, h2]
  exact ⟨h1, h2, h3, by rw [h3]; exact (goodT_iff.1 g).2.1⟩
theorem dec_enc {x : Tr} (hx : Ok x) (hs : sz x ≤ 40000) : dec (enc x) = x := by
  obtain ⟨h1, h2, h3, h4⟩ := dec_spec (ok_sm x hx hs) (ok_good x hx hs)
  exact enc_inj _ _ h1 hx h4 h2
/-! ### Plain trees -/
def nodeK (k : Int) : Nd := ⟨k, 0, 0, [], ⟨#[]⟩⟩
abbrev never : Tr := .leaf (nodeK 0)
abbrev empty : Tr := .leaf (nodeK 1)
theorem ok_nodeK {k : Int} (h : k = 0 ∨ k = 1) : Ok (.leaf (nodeK k)) := by
  refine ⟨?_, ⟨?_, ?_, ?_, ⟨?_, ?_⟩, ?_⟩, ?_⟩
  · rcases h with rfl | rfl <;> rfl
  · unfold I64; rcases h with rfl | rfl <;> simp [nodeK]
  · unfold I64; simp [nodeK]
  · unfold I64; simp [nodeK]
  · simp [nodeK]
  · simp [nodeK]
  · show (0 : Nat) ≤ 9223372036854775807; omega
  · simp [nodeK]
theorem ok_never : Ok never := ok_nodeK (.inl rfl)
theorem ok_empty : Ok empty := ok_nodeK (.inr rfl)
theorem rk_cases : ∀ x, Ok x → rk x = 0 ∨ rk x = 1 ∨ rk x = 2 ∨ rk x = 3 ∨ rk x = 4 ∨ rk x = 5
  | .leaf n, h => by rcases leaf_kind h.1 with e | e | e <;> simp [rk, e]
  | .cat _ _, _ => by simp [rk]
  | .alt _ _, _ => by simp [rk]
  | .star _, _ => by simp [rk]
theorem rk_never {x : Tr} (h : Ok x) (e : rk x = 0) : x = never := by
  cases x with
  | leaf n => simp only [rk] at e; have := leaf_bare h.1 (by omega); rw [e] at this; rw [this]; rfl
  | cat => simp [rk] at e
  | alt => simp [rk] at e
  | star => simp [rk] at e
theorem rk_empty {x : Tr} (h : Ok x) (e : rk x = 1) : x = empty := by
  cases x with
  | leaf n => simp only [rk] at e; have := leaf_bare h.1 (by omega); rw [e] at this; rw [this]; rfl
  | cat => simp [rk] at e
  | alt => simp [rk] at e
  | star => simp [rk] at e
theorem rk_cat {x : Tr} (h : Ok x) (e : rk x = 3) : ∃ a b, x = .cat a b := by
  cases x with
  | leaf n => rcases leaf_kind h.1 with e' | e' | e' <;> (simp only [rk] at e; omega)
  | cat a b => exact ⟨a, b, rfl⟩
  | alt => simp [rk] at e
  | star => simp [rk] at e
theorem rk_alt {x : Tr} (h : Ok x) (e : rk x = 4) : ∃ a b, x = .alt a b := by
  cases x with
  | leaf n => rcases leaf_kind h.1 with e' | e' | e' <;> (simp only [rk] at e; omega)
  | alt a b => exact ⟨a, b, rfl⟩
  | cat => simp [rk] at e
  | star => simp [rk] at e
theorem rk_star {x : Tr} (h : Ok x) (e : rk x = 5) : ∃ a, x = .star a := by
  cases x with
  | leaf n => rcases leaf_kind h.1 with e' | e' | e' <;> (simp only [rk] at e; omega)
  | star a => exact ⟨a, rfl⟩
  | cat => simp [rk] at e
  | alt => simp [rk] at e
def sCat (a : Tr) : Tr → Tr
  | .cat x y => if rk a = 0 then never else if rk a = 1 then .cat x y else sCat (sCat a x) y
  | .leaf n => if rk a = 0 ∨ n.kind = 0 then never else if rk a = 1 then .leaf n else if n.kind = 1 then a else .cat a (.leaf n)
  | .alt x y => if rk a = 0 then never else if rk a = 1 then .alt x y else .cat a (.alt x y)
  | .star x => if rk a = 0 then never else if rk a = 1 then .star x else .cat a (.star x)
def mems : Tr → List Tr
  | .alt a b => mems a ++ mems b
  | x => [x]
def dedup (l : List Tr) : List Tr := l.foldl (fun out t => if t ∈ out then out else out ++ [t]) []
def noK (k : Int) (l : List Tr) : List Tr := l.filter fun t => decide (rk t ≠ k)
def onceT (l : List Tr) : List Tr := if (dedup l).any (fun t => decide (rk t = 5)) then noK 1 (dedup l) else dedup l
def altL : List Tr → Tr
  | [] => default
  | x :: r => r.foldl .alt x
def sAlt (a b : Tr) : Tr := if rk a = 0 then b else if rk b = 0 then a else altL (onceT (mems a ++ mems b))
def fullT (a : Tr) : Tr := match noK 1 (mems a) with
  | [] => empty
  | x :: r => r.foldl sAlt x
def star1 (a : Tr) : Tr := if rk a = 0 ∨ rk a = 1 then empty else if rk a = 5 then a else .star a
def sStar (a : Tr) : Tr := if rk a = 4 then (if rk (fullT a) = 4 then .star (fullT a) else star1 (fullT a)) else star1 a
def sClean : Tr → Tr
  | .leaf n => .leaf n
  | .cat a b => sCat (sClean a) (sClean b)
  | .alt a b => sAlt (sClean a) (sClean b)
  | .star a => sStar (sClean a)
/-! Sizes; what is right stays right. -/
def sumS (l : List Tr) : Nat := (l.map fun x => sz x + 1).sum
theorem sumS_app (l m : List Tr) : sumS (l ++ m) = sumS l + sumS m := by simp [sumS]
theorem sumS_sub {l m : List Tr} (h : List.Sublist l m) : sumS l ≤ sumS m := by
  induction h with
  | slnil => exact Nat.le_refl _
  | cons a h ih => simp only [sumS, List.map_cons, List.sum_cons] at *; omega
  | cons_cons a h ih => simp only [sumS, List.map_cons, List.sum_cons] at *; omega
theorem sz_foldl_alt : ∀ (r : List Tr) (x : Tr), sz (r.foldl .alt x) = sz x + sumS r
  | [], x => by simp [sumS]
  | y :: r, x => by
    rw [List.foldl_cons, sz_foldl_alt r]
    simp only [sz, sumS, List.map_cons, List.sum_cons]
    omega
theorem sz_altL {l : List Tr} (h : l ≠ []) : sz (altL l) + 1 = sumS l := by
  cases l with
  | nil => exact absurd rfl h
  | cons x r => simp only [altL, sz_foldl_alt]; simp only [sumS, List.map_cons, List.sum_cons]; omega
theorem sumS_mems : ∀ x, sumS (mems x) = sz x + 1
  | .leaf n => by simp [mems, sumS, sz]
  | .cat a b => by simp [mems, sumS, sz]
  | .star a => by simp [mems, sumS, sz]
  | .alt a b => by rw [mems, sumS_app, sumS_mems a, sumS_mems b]; simp only [sz]; omega
theorem mems_ne : ∀ x, mems x ≠ []
  | .leaf n => by simp [mems]
  | .cat a b => by simp [mems]
  | .star a => by simp [mems]
  | .alt a b => by simp [mems, mems_ne a]
theorem dedup_from : ∀ (l out : List Tr), ∃ s, l.foldl (fun out t => if t ∈ out then out else out ++ [t]) out = out ++ s ∧ List.Sublist s l ∧ (∀ x, x ∈ out ++ s ↔ x ∈ out ∨ x ∈ l)
  | [], out => ⟨[], by simp, .slnil, by simp⟩
  | y :: l, out => by
    rw [List.foldl_cons]
    by_cases h : y ∈ out
    · rw [if_pos h]
      obtain ⟨s, h1, h2, h3⟩ := dedup_from l out
      refine ⟨s, h1, h2.cons _, fun x => ?_⟩
      rw [h3]
      simp only [List.mem_cons]
      constructor
      · intro h'
        rcases h' with h' | h'
        · exact .inl h'
        · exact .inr (.inr h')
      · intro h'
        rcases h' with h' | h' | h'
        · exact .inl h'
        · rw [h']; exact .inl h
        · exact .inr h'
    · rw [if_neg h]
      obtain ⟨s, h1, h2, h3⟩ := dedup_from l (out ++ [y])
      refine ⟨y :: s, by rw [h1]; simp, h2.cons_cons _, fun x => ?_⟩
      have := h3 x
      simp only [List.append_assoc, List.singleton_append, List.mem_append, List.mem_cons] at this ⊢
      rw [this]
      simp only [List.not_mem_nil, or_false, or_assoc]
theorem dedup_sub (l : List Tr) : List.Sublist (dedup l) l := by
  obtain ⟨s, h1, h2, _⟩ := dedup_from l []
  unfold dedup
  rw [h1]; exact h2
theorem dedup_mem (l : List Tr) (x : Tr) : x ∈ dedup l ↔ x ∈ l := by
  obtain ⟨s, h1, _, h3⟩ := dedup_from l []
  unfold dedup
  rw [h1, h3]; simp
theorem onceT_sub (l : List Tr) : List.Sublist (onceT l) l := by
  unfold onceT
  split
  · exact (List.filter_sublist).trans (dedup_sub l)
  · exact dedup_sub l
theorem onceT_ne {l : List Tr} (h : l ≠ []) : onceT l ≠ [] := by
  unfold onceT
  split
  · rename_i hs
    rw [List.any_eq_true] at hs
    obtain ⟨x, hx, hk⟩ := hs
    simp only [decide_eq_true_eq] at hk
    intro e
    have : x ∈ noK 1 (dedup l) := List.mem_filter.2 ⟨hx, by simp [hk]⟩
    rw [e] at this
    cases this
  · obtain ⟨x, hx⟩ := List.exists_mem_of_ne_nil l h
    intro e
    have := (dedup_mem l x).2 hx
    rw [e] at this
    cases this
theorem sz_sCat : ∀ (b a : Tr), sz (sCat a b) ≤ sz a + sz b + 1
  | .leaf n, a => by
    simp only [sCat]
    (repeat' split) <;> simp only [sz] <;> omega
  | .alt x y, a => by
    simp only [sCat]
    (repeat' split) <;> simp only [sz] <;> omega
  | .star x, a => by
    simp only [sCat]
    (repeat' split) <;> simp only [sz] <;> omega
  | .cat x y, a => by
    simp only [sCat]
    have h1 := sz_sCat x a
    have h2 := sz_sCat y (sCat a x)
    (repeat' split) <;> simp only [sz] <;> omega
theorem sz_sAlt (a b : Tr) : sz (sAlt a b) ≤ sz a + sz b + 1 := by
  unfold sAlt
  split
  · omega
  split
  · omega
  have h := sz_altL (onceT_ne (l := mems a ++ mems b) (by simp [mems_ne]))
  have h2 := sumS_sub (onceT_sub (mems a ++ mems b))
  rw [sumS_app, sumS_mems, sumS_mems] at h2
  omega
theorem sz_foldl_sAlt : ∀ (r : List Tr) (x : Tr), sz (r.foldl sAlt x) ≤ sz x + sumS r
  | [], x => by simp [sumS]
  | y :: r, x => by
    rw [List.foldl_cons]
    have := sz_foldl_sAlt r (sAlt x y)
    have := sz_sAlt x y
    simp only [sumS, List.map_cons, List.sum_cons] at *
    omega
theorem sz_fullT (a : Tr) : sz (fullT a) ≤ sz a := by
  unfold fullT
  have h1 := sumS_sub (List.filter_sublist (l := mems a) (p := fun t => decide (rk t ≠ 1)))
  rw [sumS_mems] at h1
  split
  · have := sz_pos a; simp only [sz]; omega
  · rename_i x r e
    rw [show (mems a).filter (fun t => decide (rk t ≠ 1)) = x :: r from e] at h1
    have := sz_foldl_sAlt r x
    simp only [sumS, List.map_cons, List.sum_cons] at *
    omega
theorem sz_star1 (a : Tr) : sz (star1 a) ≤ sz a + 1 := by
  unfold star1
  have := sz_pos a
  (repeat' split)
  · simp only [sz]; omega
  · omega
  · simp only [sz]; omega
theorem sz_sStar (a : Tr) : sz (sStar a) ≤ sz a + 1 := by
  unfold sStar
  have h1 := sz_fullT a
  have h2 := sz_star1 (fullT a)
  have h3 := sz_star1 a
  (repeat' split)
  · simp only [sz]; omega
  · omega
  · omega
theorem sz_sClean : ∀ a, sz (sClean a) ≤ sz a
  | .leaf n => Nat.le_refl _
  | .cat a b => by have := sz_sClean a; have := sz_sClean b; have := sz_sCat (sClean b) (sClean a); simp only [sClean, sz]; omega
  | .alt a b => by have := sz_sClean a; have := sz_sClean b; have := sz_sAlt (sClean a) (sClean b); simp only [sClean, sz]; omega
  | .star a => by have := sz_sClean a; have := sz_sStar (sClean a); simp only [sClean, sz]; omega
theorem ok_sCat : ∀ (b a : Tr), Ok a → Ok b → Ok (sCat a b)
  | .leaf n, a, ha, hb => by
    simp only [sCat]
    (repeat' split) <;> first | exact ok_never | exact hb | exact ha | exact ⟨ha, hb⟩
  | .alt x y, a, ha, hb => by
    simp only [sCat]
    (repeat' split) <;> first | exact ok_never | exact hb | exact ha | exact ⟨ha, hb⟩
  | .star x, a, ha, hb => by
    simp only [sCat]
    (repeat' split) <;> first | exact ok_never | exact hb | exact ha | exact ⟨ha, hb⟩
  | .cat x y, a, ha, hb => by
    simp only [sCat]
    (repeat' split)
    · exact ok_never
    · exact hb
    · exact ok_sCat y _ (ok_sCat x a ha hb.1) hb.2
theorem ok_mems : ∀ a, Ok a → ∀ x ∈ mems a, Ok x
  | .leaf n, h, x, hx => by simp only [mems, List.mem_singleton] at hx; subst hx; exact h
  | .cat a b, h, x, hx => by simp only [mems, List.mem_singleton] at hx; subst hx; exact h
  | .star a, h, x, hx => by simp only [mems, List.mem_singleton] at hx; subst hx; exact h
  | .alt a b, h, x, hx => by
    simp only [mems, List.mem_append] at hx
    rcases hx with hx | hx
    · exact ok_mems a h.1 x hx
    · exact ok_mems b h.2 x hx
theorem ok_foldl_alt : ∀ (r : List Tr) (x : Tr), Ok x → (∀ y ∈ r, Ok y) → Ok (r.foldl .alt x)
  | [], x, hx, _ => hx
  | y :: r, x, hx, h => ok_foldl_alt r _ ⟨hx, h y (by simp)⟩ fun z hz => h z (by simp [hz])
theorem ok_altL {l : List Tr} (hne : l ≠ []) (h : ∀ x ∈ l, Ok x) : Ok (altL l) := by
  cases l with
  | nil => exact absurd rfl hne
  | cons x r => exact ok_foldl_alt r x (h x (by simp)) fun y hy => h y (by simp [hy])
theorem ok_sAlt {a b : Tr} (ha : Ok a) (hb : Ok b) : Ok (sAlt a b) := by
  unfold sAlt
  split
  · exact hb
  split
  · exact ha
  refine ok_altL (onceT_ne (by simp [mems_ne])) fun x hx => ?_
  rcases List.mem_append.1 ((onceT_sub _).subset hx) with h | h
  · exact ok_mems a ha x h
  · exact ok_mems b hb x h
theorem ok_foldl_sAlt : ∀ (r : List Tr) (x : Tr), Ok x → (∀ y ∈ r, Ok y) → Ok (r.foldl sAlt x)
  | [], x, hx, _ => hx
  | y :: r, x, hx, h => ok_foldl_sAlt r _ (ok_sAlt hx (h y (by simp))) fun z hz => h z (by simp [hz])
theorem ok_fullT {a : Tr} (ha : Ok a) : Ok (fullT a) := by
  unfold fullT
  split
  · exact ok_empty
  · rename_i x r e
    have h : ∀ y ∈ x :: r, Ok y := fun y hy => by
      rw [← e] at hy
      exact ok_mems a ha y (List.mem_filter.1 hy).1
    exact ok_foldl_sAlt r x (h x (by simp)) fun y hy => h y (by simp [hy])
theorem ok_star1 {a : Tr} (ha : Ok a) : Ok (star1 a) := by
  unfold star1
  (repeat' split) <;> first | exact ok_empty | exact ha
theorem ok_sStar {a : Tr} (ha : Ok a) : Ok (sStar a) := by
  unfold sStar
  (repeat' split)
  · exact ok_fullT ha
  · exact ok_star1 (ok_fullT ha)
  · exact ok_star1 ha
theorem ok_sClean : ∀ a, Ok a → Ok (sClean a)
  | .leaf n, h => h
  | .cat a b, h => ok_sCat _ _ (ok_sClean a h.1) (ok_sClean b h.2)
  | .alt a b, h => ok_sAlt (ok_sClean a h.1) (ok_sClean b h.2)
  | .star a, h => ok_sStar (ok_sClean a h)
end Go.Proofs.Abs
