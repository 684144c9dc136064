/- A part of a proof: the text that states the row tells what is proved. No condition is laid on anything. -/
import Derived.Test.YtgcncpedpjjjeaaAbsM15
set_option linter.all false
set_option linter.constructorNameAsVariable false
set_option linter.defProp false
set_option linter.unusedVariables false
set_option linter.unusedSimpArgs false
set_option maxRecDepth 100000
namespace Go.Proofs.Abs
open Go
/-! ### Plain trees: what smart's functions make, and leave as it is -/
structure Plain (l : List Tr) : Prop where
  nd : l.Nodup
  no0 : ∀ m ∈ l, rk m ≠ 0
  no1 : hasStar l = true → ∀ m ∈ l, rk m ≠ 1
def Nf : Tr → Prop
  | .leaf n => leafN n = true
  | .cat a b => Nf a ∧ Nf b ∧ rk a ≠ 0 ∧ rk a ≠ 1 ∧ rk b ≠ 0 ∧ rk b ≠ 1 ∧ rk b ≠ 3
  | .alt a b => Nf a ∧ Nf b ∧ rk b ≠ 4 ∧ Plain (mems a ++ mems b)
  | .star a => Nf a ∧ rk a ≠ 0 ∧ rk a ≠ 1 ∧ rk a ≠ 5 ∧ ∀ m ∈ mems a, rk m ≠ 1
theorem hasStar_sub {l m : List Tr} (h : List.Sublist l m) (hs : hasStar l = true) : hasStar m = true := by
  unfold hasStar at *
  rw [List.any_eq_true] at *
  obtain ⟨t, h1, h2⟩ := hs
  exact ⟨t, h.subset h1, h2⟩
theorem Plain.sub {l m : List Tr} (h : Plain m) (hs : List.Sublist l m) : Plain l :=
  ⟨h.nd.sublist hs, fun x hx => h.no0 x (hs.subset hx), fun hh x hx => h.no1 (hasStar_sub hs hh) x (hs.subset hx)⟩
theorem plain_one {a : Tr} (h : rk a ≠ 0) : Plain [a] := by
  refine ⟨by simp, fun m hm => ?_, fun hs m hm => ?_⟩
  · simp only [List.mem_singleton] at hm; subst hm; exact h
  · simp only [List.mem_singleton] at hm
    subst hm
    simp only [hasStar, List.any_cons, List.any_nil, Bool.or_false, decide_eq_true_eq] at hs
    omega
theorem dedup_nd : ∀ l : List Tr, (dedup l).Nodup := by
  have key : ∀ (l m : List Tr), m.Nodup → (l.foldl (fun out t => if t ∈ out then out else out ++ [t]) m).Nodup := by
    intro l
    induction l with
    | nil => intro m h; exact h
    | cons t l ih =>
      intro m h
      rw [List.foldl_cons]
      refine ih _ ?_
      split
      · exact h
      · rename_i ht
        rw [List.nodup_append]
        refine ⟨h, by simp, fun a ha b hb => ?_⟩
        simp only [List.mem_singleton] at hb
        subst hb
        intro e
        exact ht (e ▸ ha)
  intro l
  exact key l [] (by simp)
theorem dedup_id : ∀ {l : List Tr}, l.Nodup → dedup l = l := by
  have key : ∀ (l m : List Tr), (m ++ l).Nodup → l.foldl (fun out t => if t ∈ out then out else out ++ [t]) m = m ++ l := by
    intro l
    induction l with
    | nil => intro m h; simp
    | cons t l ih =>
      intro m h
      have ht : ¬ t ∈ m := fun hm => by
        rw [List.nodup_append] at h
        exact h.2.2 t hm t (by simp) rfl
      rw [List.foldl_cons, if_neg ht, ih (m ++ [t]) (by simpa using h)]
      simp
  intro l h
  exact key l [] (by simpa using h)
theorem onceT_id {l : List Tr} (h : Plain l) : onceT l = l := by
  unfold onceT
  rw [dedup_id h.nd]
  split
  · rename_i hs
    exact List.filter_eq_self.2 fun m hm => by simpa using h.no1 hs m hm
  · rfl
theorem plain_once {l : List Tr} (h : ∀ m ∈ l, rk m ≠ 0) : Plain (onceT l) := by
  have hd : ∀ m ∈ dedup l, rk m ≠ 0 := fun m hm => h m ((dedup_sub l).subset hm)
  unfold onceT
  split
  · exact ⟨(dedup_nd l).sublist List.filter_sublist, fun m hm => hd m (mem_noK.1 hm).1, fun _ m hm => (mem_noK.1 hm).2⟩
  · rename_i hs
    exact ⟨dedup_nd l, hd, fun hh => absurd hh hs⟩
/-- Members by themselves. -/
def Mem1 (l : List Tr) : Prop := ∀ m ∈ l, Nf m ∧ rk m ≠ 4
theorem alts_nf : ∀ (r : List Tr) (a : Tr), Nf a → Plain (mems a ++ r) → Mem1 r → Nf (r.foldl .alt a) ∧ mems (r.foldl .alt a) = mems a ++ r
  | [], a, h, _, _ => ⟨h, by simp⟩
  | y :: r, a, h, hp, hm => by
    have hy := hm y (by simp)
    have hmy : mems y = [y] := mems_one hy.2
    have h1 : mems (.alt a y) = mems a ++ [y] := by simp [mems, hmy]
    have h2 : Nf (.alt a y) := ⟨h, hy.1, hy.2, by rw [hmy]; exact hp.sub (by simp)⟩
    have := alts_nf r (.alt a y) h2 (by rw [h1]; simpa using hp) (fun m hm' => hm m (by simp [hm']))
    rw [List.foldl_cons]
    refine ⟨this.1, ?_⟩
    rw [this.2, h1]
    simp
theorem altL_nf {l : List Tr} (hne : l ≠ []) (hp : Plain l) (hm : Mem1 l) : Nf (altL l) ∧ mems (altL l) = l := by
  cases l with
  | nil => exact absurd rfl hne
  | cons x r =>
    have hx := hm x (by simp)
    have hmx := mems_one hx.2
    have := alts_nf r x hx.1 (by rw [hmx]; exact hp) (fun m h => hm m (by simp [h]))
    exact ⟨this.1, by simp only [altL]; rw [this.2, hmx]; rfl⟩
theorem rk0_one {a : Tr} (h : rk a = 0) : mems a = [a] := mems_one (by omega)
theorem nf_mems : ∀ a, Nf a → Mem1 (mems a)
  | .leaf n, h, m, hm => by
    have e : mems (.leaf n) = [.leaf n] := rfl
    rw [e, List.mem_singleton] at hm
    subst hm
    refine ⟨h, ?_⟩
    rcases leaf_kind h with e | e | e <;> simp [rk, e]
  | .cat a b, h, m, hm => by
    have e : mems (.cat a b) = [.cat a b] := rfl
    rw [e, List.mem_singleton] at hm
    subst hm
    exact ⟨h, by simp [rk]⟩
  | .star a, h, m, hm => by
    have e : mems (.star a) = [.star a] := rfl
    rw [e, List.mem_singleton] at hm
    subst hm
    exact ⟨h, by simp [rk]⟩
  | .alt a b, h, m, hm => by
    simp only [mems, List.mem_append] at hm
    rcases hm with hm | hm
    · exact nf_mems a h.1 m hm
    · exact nf_mems b h.2.1 m hm
theorem nf_never : Nf never := rfl
theorem nf_empty : Nf empty := rfl
theorem nf_rk0 {a : Tr} (h : Nf a) (e : rk a = 0) : a = never := by
  cases a with
  | leaf n => simp only [rk] at e; have := leaf_bare h (by omega); rw [e] at this; rw [this]; rfl
  | cat => simp [rk] at e
  | alt => simp [rk] at e
  | star => simp [rk] at e
theorem nf_rk1 {a : Tr} (h : Nf a) (e : rk a = 1) : a = empty := by
  cases a with
  | leaf n => simp only [rk] at e; have := leaf_bare h (by omega); rw [e] at this; rw [this]; rfl
  | cat => simp [rk] at e
  | alt => simp [rk] at e
  | star => simp [rk] at e
theorem nf_plain {a : Tr} (h : Nf a) (h0 : rk a ≠ 0) : Plain (mems a) := by
  cases a with
  | leaf n => exact plain_one h0
  | cat => exact plain_one h0
  | star => exact plain_one h0
  | alt a b => exact h.2.2.2
theorem altL_snoc {l : List Tr} (h : l ≠ []) (x : Tr) : altL (l ++ [x]) = .alt (altL l) x := by
  cases l with
  | nil => exact absurd rfl h
  | cons y r => simp [altL, List.foldl_append]
theorem altL_mems : ∀ a, Nf a → altL (mems a) = a
  | .leaf n, h => rfl
  | .cat a b, h => rfl
  | .star a, h => rfl
  | .alt a b, h => by
    have e : mems (.alt a b) = mems a ++ [b] := by simp [mems, mems_one h.2.2.1]
    rw [e, altL_snoc (mems_ne a), altL_mems a h.1]
theorem mem1_app {l m : List Tr} (h1 : Mem1 l) (h2 : Mem1 m) : Mem1 (l ++ m) := fun x hx => by
  rcases List.mem_append.1 hx with h | h
  · exact h1 x h
  · exact h2 x h
theorem mem1_sub {l m : List Tr} (h : Mem1 m) (hs : List.Sublist l m) : Mem1 l := fun x hx => h x (hs.subset hx)
theorem alt_rk {a : Tr} (h : Nf a) (hp : Plain (mems a)) : rk a ≠ 0 := fun e => by
  have := hp.no0 a (by rw [rk0_one e]; simp)
  exact this e
theorem nf_sAlt {a b : Tr} (ha : Nf a) (hb : Nf b) : Nf (sAlt a b) := by
  unfold sAlt
  split
  · exact hb
  split
  · exact ha
  rename_i h1 h2
  have hp := plain_once (l := mems a ++ mems b) fun m hm => by
    rcases List.mem_append.1 hm with h | h
    · exact (nf_plain ha h1).no0 m h
    · exact (nf_plain hb h2).no0 m h
  exact (altL_nf (onceT_ne (by simp [mems_ne])) hp (mem1_sub (mem1_app (nf_mems a ha) (nf_mems b hb)) (onceT_sub _))).1
theorem sAlt_mems {a b : Tr} (ha : Nf a) (hb : Nf b) (h1 : rk a ≠ 0) (h2 : rk b ≠ 0) : mems (sAlt a b) = onceT (mems a ++ mems b) ∧ rk (sAlt a b) ≠ 0 := by
  have hp := plain_once (l := mems a ++ mems b) fun m hm => by
    rcases List.mem_append.1 hm with h | h
    · exact (nf_plain ha h1).no0 m h
    · exact (nf_plain hb h2).no0 m h
  have e : sAlt a b = altL (onceT (mems a ++ mems b)) := by simp [sAlt, h1, h2]
  obtain ⟨n1, n2⟩ := altL_nf (onceT_ne (l := mems a ++ mems b) (by simp [mems_ne])) hp (mem1_sub (mem1_app (nf_mems a ha) (nf_mems b hb)) (onceT_sub _))
  rw [e]
  exact ⟨n2, alt_rk n1 (by rw [n2]; exact hp)⟩
theorem nf_sCat : ∀ (b a : Tr), Nf a → Nf b → Nf (sCat a b)
  | .leaf n, a, ha, hb => by
    simp only [sCat]
    split
    · exact nf_never
    rename_i h0
    split
    · exact hb
    rename_i h1
    split
    · exact ha
    rename_i h2
    refine ⟨ha, hb, fun e => h0 (.inl e), h1, fun e => h0 (.inr e), h2, ?_⟩
    rcases leaf_kind hb with e | e | e <;> simp [rk, e]
  | .alt x y, a, ha, hb => by
    simp only [sCat]
    split
    · exact nf_never
    rename_i h0
    split
    · exact hb
    rename_i h1
    exact ⟨ha, hb, h0, h1, by simp [rk], by simp [rk], by simp [rk]⟩
  | .star x, a, ha, hb => by
    simp only [sCat]
    split
    · exact nf_never
    rename_i h0
    split
    · exact hb
    rename_i h1
    exact ⟨ha, hb, h0, h1, by simp [rk], by simp [rk], by simp [rk]⟩
  | .cat x y, a, ha, hb => by
    simp only [sCat]
    split
    · exact nf_never
    split
    · exact hb
    exact nf_sCat y _ (nf_sCat x a ha hb.1) hb.2.1
theorem nf_star1 {a : Tr} (h : Nf a) (h4 : rk a ≠ 4) : Nf (star1 a) := by
  unfold star1
  split
  · exact nf_empty
  split
  · exact h
  rename_i h1 h2
  refine ⟨h, fun e => h1 (.inl e), fun e => h1 (.inr e), h2, fun m hm => ?_⟩
  rw [mems_one h4, List.mem_singleton] at hm
  subst hm
  exact fun e => h1 (.inr e)
theorem fold_sAlt : ∀ (r : List Tr) (a : Tr), Nf a → Plain (mems a ++ r) → Mem1 r → r.foldl sAlt a = r.foldl .alt a
  | [], a, _, _, _ => rfl
  | y :: r, a, h, hp, hm => by
    have hy := hm y (by simp)
    have hmy : mems y = [y] := mems_one hy.2
    have pa : Plain (mems a) := hp.sub (by simp)
    have py : rk y ≠ 0 := hp.no0 y (by simp)
    have pay : Plain (mems a ++ [y]) := hp.sub (by simp)
    have e : sAlt a y = .alt a y := by
      unfold sAlt
      rw [if_neg (alt_rk h pa), if_neg py, hmy, onceT_id pay, altL_snoc (mems_ne a), altL_mems a h]
    have h1 : mems (.alt a y) = mems a ++ [y] := by simp [mems, hmy]
    have h2 : Nf (.alt a y) := ⟨h, hy.1, hy.2, by rw [hmy]; exact pay⟩
    rw [List.foldl_cons, List.foldl_cons, e]
    exact fold_sAlt r _ h2 (by rw [h1]; simpa using hp) (fun m hm' => hm m (by simp [hm']))
theorem plain_noK {l : List Tr} (h : Plain l) : Plain (noK 1 l) := h.sub List.filter_sublist
theorem full_eq {a : Tr} (h : Nf a) (h0 : rk a ≠ 0) : fullT a = if noK 1 (mems a) = [] then empty else altL (noK 1 (mems a)) := by
  have hp := plain_noK (nf_plain h h0)
  have hm : Mem1 (noK 1 (mems a)) := mem1_sub (nf_mems a h) List.filter_sublist
  unfold fullT
  cases e : noK 1 (mems a) with
  | nil => simp
  | cons x r =>
    rw [e] at hp hm
    have hx := hm x (by simp)
    simp only [reduceCtorEq, if_false, altL]
    exact fold_sAlt r x hx.1 (by rw [mems_one hx.2]; exact hp) fun m h => hm m (by simp [h])
theorem full_nf {a : Tr} (h : Nf a) (h0 : rk a ≠ 0) : Nf (fullT a) ∧ (rk (fullT a) = 4 → ∀ m ∈ mems (fullT a), rk m ≠ 1) := by
  rw [full_eq h h0]
  split
  · exact ⟨nf_empty, fun e => by simp [rk, nodeK] at e⟩
  · rename_i hne
    obtain ⟨n1, n2⟩ := altL_nf hne (plain_noK (nf_plain h h0)) (mem1_sub (nf_mems a h) List.filter_sublist)
    exact ⟨n1, fun _ m hm => by rw [n2] at hm; exact (mem_noK.1 hm).2⟩
theorem nf_sStar {a : Tr} (h : Nf a) : Nf (sStar a) := by
  unfold sStar
  by_cases h4 : rk a = 4
  · rw [if_pos h4]
    obtain ⟨f1, f2⟩ := full_nf h (by omega)
    by_cases hf : rk (fullT a) = 4
    · rw [if_pos hf]
      exact ⟨f1, by omega, by omega, by omega, f2 hf⟩
    · rw [if_neg hf]
      exact nf_star1 f1 hf
  · rw [if_neg h4]
    exact nf_star1 h h4
theorem nf_sClean : ∀ a, Ok a → Nf (sClean a)
  | .leaf n, h => h.1
  | .cat a b, h => nf_sCat _ _ (nf_sClean a h.1) (nf_sClean b h.2)
  | .alt a b, h => nf_sAlt (nf_sClean a h.1) (nf_sClean b h.2)
  | .star a, h => nf_sStar (nf_sClean a h)
theorem clean_id : ∀ a, Nf a → sClean a = a
  | .leaf n, h => rfl
  | .cat a b, h => by
    obtain ⟨h1, h2, a0, a1, b0, b1, b3⟩ := h
    simp only [sClean]
    rw [clean_id a h1, clean_id b h2]
    cases b with
    | leaf n => simp only [rk] at b0 b1; simp [sCat, a0, a1, b0, b1]
    | cat => exact absurd rfl b3
    | alt => simp [sCat, a0, a1]
    | star => simp [sCat, a0, a1]
  | .alt a b, h => by
    have hh := h
    obtain ⟨h1, h2, b4, hp⟩ := h
    simp only [sClean]
    rw [clean_id a h1, clean_id b h2]
    have pa : rk a ≠ 0 := alt_rk h1 (hp.sub (by simp))
    have pb : rk b ≠ 0 := alt_rk h2 (hp.sub (by simp))
    have := altL_mems _ hh
    simp only [mems] at this
    simp only [sAlt, pa, pb, if_false, onceT_id hp, this]
  | .star a, h => by
    obtain ⟨h1, a0, a1, a5, hm⟩ := h
    simp only [sClean]
    rw [clean_id a h1]
    unfold sStar
    by_cases h4 : rk a = 4
    · have e : noK 1 (mems a) = mems a := List.filter_eq_self.2 fun m hmm => by simpa using hm m hmm
      have hf : fullT a = a := by rw [full_eq h1 a0, e, if_neg (mems_ne a), altL_mems a h1]
      rw [if_pos h4, hf, if_pos h4]
    · rw [if_neg h4]
      simp [star1, a0, a1, a5]
/-! The laws. -/
theorem law_cat_e {p : Tr} (h : Nf p) : sCat p empty = p := by
  have h0 := nf_rk0 h
  have h1 := nf_rk1 h
  by_cases e0 : rk p = 0
  · rw [h0 e0]; rfl
  · by_cases e1 : rk p = 1
    · rw [h1 e1]; rfl
    · simp [sCat, e0, e1, nodeK]
theorem law_e_cat {p : Tr} (h : Nf p) : sCat empty p = p := by
  have h0 := nf_rk0 h
  have e0 : rk empty = 1 := rfl
  cases p with
  | leaf n =>
    by_cases hk : n.kind = 0
    · rw [h0 hk]; rfl
    · simp [sCat, e0, hk]
  | cat a b => simp [sCat, e0]
  | alt a b => simp [sCat, e0]
  | star a => simp [sCat, e0]
theorem law_n_cat (p : Tr) : sCat never p = never := by
  have e0 : rk never = 0 := rfl
  cases p <;> simp [sCat, e0]
theorem law_alt_n {p : Tr} (h : Nf p) : sAlt p never = p := by
  have h0 := nf_rk0 h
  have e0 : rk never = 0 := rfl
  unfold sAlt
  by_cases e : rk p = 0
  · rw [if_pos e, h0 e]
  · rw [if_neg e, if_pos e0]
theorem dedup_more {l m : List Tr} (h : ∀ x ∈ m, x ∈ dedup l) : dedup (l ++ m) = dedup l := by
  have : ∀ (m d : List Tr), (∀ x ∈ m, x ∈ d) → m.foldl (fun out t => if t ∈ out then out else out ++ [t]) d = d := by
    intro m
    induction m with
    | nil => intro d _; rfl
    | cons x m ih =>
      intro d hd
      rw [List.foldl_cons, if_pos (hd x (by simp))]
      exact ih d fun y hy => hd y (by simp [hy])
  have e : dedup (l ++ m) = m.foldl (fun out t => if t ∈ out then out else out ++ [t]) (dedup l) := by unfold dedup; rw [List.foldl_append]
  rw [e]
  exact this m _ h
theorem law_alt_self {p : Tr} (h : Nf p) : sAlt p p = p := by
  unfold sAlt
  by_cases e : rk p = 0
  · rw [if_pos e]
  · rw [if_neg e, if_neg e]
    have hp := nf_plain h e
    have e1 : dedup (mems p ++ mems p) = dedup (mems p) := dedup_more fun x hx => (dedup_mem _ _).2 hx
    have : onceT (mems p ++ mems p) = onceT (mems p) := by unfold onceT; rw [e1]
    rw [this, onceT_id hp, altL_mems p h]
theorem mem_onceT {l : List Tr} {x : Tr} : x ∈ onceT l ↔ x ∈ l ∧ (hasStar l = true → rk x ≠ 1) := by
  have hs := hasStar_dedup l
  unfold onceT
  have : ((dedup l).any fun t => decide (rk t = 5)) = hasStar l := hs
  rw [this]
  by_cases h : hasStar l = true
  · rw [if_pos h, mem_noK, dedup_mem]; simp [h]
  · rw [if_neg h, dedup_mem]; simp [h]
theorem law_alt_again {p q : Tr} (hp : Nf p) (hq : Nf q) : sAlt (sAlt p q) p = sAlt p q := by
  by_cases e0 : rk p = 0
  · have : sAlt p q = q := by simp [sAlt, e0]
    rw [this, nf_rk0 hp e0]
    exact law_alt_n hq
  by_cases e1 : rk q = 0
  · have : sAlt p q = p := by simp [sAlt, e0, e1]
    rw [this]
    exact law_alt_self hp
  obtain ⟨m1, m2⟩ := sAlt_mems hp hq e0 e1
  have hn := nf_sAlt hp hq
  generalize sAlt p q = c at m1 m2 hn
  unfold sAlt
  rw [if_neg m2, if_neg e0]
  have hpl := nf_plain hn m2
  rw [← altL_mems c hn]
  congr 1
  rw [altL_mems c hn]
  have hst : hasStar (mems c ++ mems p) = hasStar (mems c) := by
    rw [Bool.eq_iff_iff]
    constructor
    · intro h
      unfold hasStar at h ⊢
      rw [List.any_append, Bool.or_eq_true] at h
      rcases h with h | h
      · exact h
      · rw [List.any_eq_true] at h ⊢
        obtain ⟨t, h1, h2⟩ := h
        refine ⟨t, ?_, h2⟩
        rw [m1, mem_onceT]
        simp only [decide_eq_true_eq] at h2
        exact ⟨by simp [h1], fun _ => by omega⟩
    · exact fun h => hasStar_sub (by simp) h
  rw [onceT_eq, hst, keepF_eq]
  by_cases hs : hasStar (mems c) = true
  · rw [if_pos hs]
    have e : dedup (mems c ++ mems p) = dedup (mems c) ++ (noK 1 []) ∨ True := .inr trivial
    have key : ∀ (m d : List Tr), (∀ x ∈ m, x ∈ d ∨ rk x = 1) → noK 1 (m.foldl (fun out t => if t ∈ out then out else out ++ [t]) d) = noK 1 d := by
      intro m
      induction m with
      | nil => intro d _; rfl
      | cons x m ih =>
        intro d hd
        rw [List.foldl_cons]
        by_cases hx : x ∈ d
        · rw [if_pos hx]; exact ih d fun y hy => hd y (by simp [hy])
        · rw [if_neg hx, ih (d ++ [x]) fun y hy => (hd y (by simp [hy])).imp (fun h => by simp [h]) id, noK_app]
          have : rk x = 1 := (hd x (by simp)).resolve_left hx
          simp [noK, this]
    have e2 : dedup (mems c ++ mems p) = (mems p).foldl (fun out t => if t ∈ out then out else out ++ [t]) (dedup (mems c)) := by unfold dedup; rw [List.foldl_append]
    rw [e2, key, dedup_id hpl.nd]
    · exact List.filter_eq_self.2 fun m hm => by simpa using hpl.no1 hs m hm
    · intro x hx
      by_cases h1 : rk x = 1
      · exact .inr h1
      · refine .inl ((dedup_mem _ _).2 ?_)
        rw [m1, mem_onceT]
        exact ⟨by simp [hx], fun _ => h1⟩
  · rw [if_neg hs, dedup_more, dedup_id hpl.nd]
    intro x hx
    rw [dedup_mem, m1, mem_onceT]
    refine ⟨by simp [hx], fun h => ?_⟩
    exfalso
    apply hs
    rw [m1]
    unfold hasStar at h ⊢
    rw [List.any_eq_true] at h ⊢
    obtain ⟨t, h1, h2⟩ := h
    refine ⟨t, mem_onceT.2 ⟨h1, fun _ => ?_⟩, h2⟩
    simp only [decide_eq_true_eq] at h2
    omega
theorem law_star_star {p : Tr} (h : Nf p) : sStar (sStar p) = sStar p := by
  have hn := nf_sStar h
  have key : sStar p = empty ∨ rk (sStar p) = 5 := by
    unfold sStar
    split
    · split
      · exact .inr rfl
      · unfold star1; (repeat' split) <;> first | exact .inl rfl | exact .inr rfl | (right; assumption)
    · unfold star1; (repeat' split) <;> first | exact .inl rfl | exact .inr rfl | (right; assumption)
  generalize sStar p = s at key
  rcases key with e | e
  · rw [e]; rfl
  · unfold sStar
    rw [if_neg (by omega)]
    simp [star1, e]
theorem law_star_opt {p : Tr} (h : Nf p) : sStar (sAlt p empty) = sStar p := by
  have ee : rk empty = 1 := rfl
  by_cases e0 : rk p = 0
  · have : sAlt p empty = empty := by simp [sAlt, e0]
    rw [this, nf_rk0 h e0]
    rfl
  have ho := nf_sAlt h nf_empty
  obtain ⟨m1, m2⟩ := sAlt_mems h nf_empty e0 (by rw [ee]; omega)
  have hpl := nf_plain h e0
  have me : mems empty = [empty] := rfl
  rw [me] at m1
  by_cases hs : hasStar (mems p) = true
  · have : sAlt p empty = p := by
      rw [← altL_mems _ ho, m1]
      have hs2 : hasStar (mems p ++ [empty]) = true := hasStar_sub (by simp) hs
      have : onceT (mems p ++ [empty]) = mems p := by
        rw [onceT_eq, hs2, keepF_eq, if_pos rfl, dedup_snoc, dedup_id hpl.nd]
        have hne : ¬ empty ∈ mems p := fun hm => hpl.no1 hs _ hm rfl
        rw [if_neg hne, noK_app]
        have e1 : noK 1 (mems p) = mems p := List.filter_eq_self.2 fun m hm => by simpa using hpl.no1 hs m hm
        rw [e1]
        simp [noK, ee]
      rw [this, altL_mems p h]
    rw [this]
  · have hs' : hasStar (mems p) = false := by simpa using hs
    have hs2 : hasStar (mems p ++ [empty]) = false := by rw [hasStar_snoc, hs', ee]; rfl
    have hon : onceT (mems p ++ [empty]) = if empty ∈ mems p then mems p else mems p ++ [empty] := by
      rw [onceT_eq, hs2, keepF_eq]
      simp only [Bool.false_eq_true, if_false]
      rw [dedup_snoc, dedup_id hpl.nd]
    by_cases hm : empty ∈ mems p
    · rw [if_pos hm] at hon
      have : sAlt p empty = p := by rw [← altL_mems _ ho, m1, hon, altL_mems p h]
      rw [this]
    · rw [if_neg hm] at hon
      have e : sAlt p empty = .alt p empty := by rw [← altL_mems _ ho, m1, hon, altL_snoc (mems_ne p), altL_mems p h]
      have hno : noK 1 (mems p) = mems p := List.filter_eq_self.2 fun m hmm => by
        have hx := nf_mems p h m hmm
        have : rk m ≠ 1 := fun e1 => hm (by rw [← nf_rk1 hx.1 e1]; exact hmm)
        simpa using this
      rw [e] at ho m2 ⊢
      have hf : fullT (.alt p empty) = p := by
        rw [full_eq ho m2]
        have : noK 1 (mems (.alt p empty)) = mems p := by
          show noK 1 (mems p ++ [empty]) = _
          rw [noK_app, hno]
          simp [noK, ee]
        rw [this, if_neg (mems_ne p), altL_mems p h]
      have e4 : rk (.alt p empty) = 4 := rfl
      unfold sStar
      rw [if_pos e4, hf]
      by_cases h4 : rk p = 4
      · rw [if_pos h4, if_pos h4]
        have : fullT p = p := by rw [full_eq h e0, hno, if_neg (mems_ne p), altL_mems p h]
        rw [this, if_pos h4]
      · rw [if_neg h4, if_neg h4]
end Go.Proofs.Abs
