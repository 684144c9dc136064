/- A part of a proof: the text that states the row tells what is proved. No condition is laid on anything. -/
import Derived.Test.YtgcncpedpjjjeaaAbsT4
import Derived.Test.YtgcncpedpjjjeaaAbsF6
import Derived.Test.YtgcncpedpjjjeaaAbsS3
set_option linter.all false
set_option linter.constructorNameAsVariable false
set_option linter.defProp false
set_option linter.unusedVariables false
set_option linter.unusedSimpArgs false
set_option maxRecDepth 100000
set_option maxHeartbeats 1000000
namespace Go.Proofs.Abs
open Go
/-! ### What trees take that are put together -/
theorem tk_map {t t' : List Nd} {l l' : List Int} {lst : List Nat} {s r : Nat} (hb : begs t = some lst) (hN : ∀ n, n < t.length → t'.getD (n + s) default = movN (t.getD n default) s) (hL : ∀ i, i < l.length → l'.getD (i + r) 0 = l.getD i 0) :
    ∀ n, n < t.length → ∀ d i j, j - i ≤ d → i ≤ j → j ≤ l.length → tk t' l' (n + s) (i + r) (j + r) = tk t l n i j := by
  intro n
  induction n using Nat.strongRecOn with
  | ind n ihn =>
    intro hn d
    induction d using Nat.strongRecOn with
    | ind d ihd =>
      intro i j hd hij hj
      obtain ⟨hle, hcut⟩ := begs_cut hb n hn
      have hne : t[n] = t.getD n default := by
        rw [List.getD_eq_getElem?_getD, List.getElem?_eq_getElem hn]
        rfl
      rw [hne] at hcut
      have hx' := hN n hn
      generalize hx : t.getD n default = x at hcut hx'
      obtain ⟨k, a, b, c, z⟩ := x
      cases hcut with
      | fork hf c2 hb0 c1 ha hn2 hg0 =>
        simp only at ha hb0
        have := (begs_cut hb (n - 1) (by omega)).1
        obtain ⟨a', rfl⟩ : ∃ a' : Nat, a = a' := ⟨lst.getD (n - 1) 0 - 1, by omega⟩
        obtain ⟨b', rfl⟩ : ∃ b' : Nat, b = b' := ⟨n - 1, by omega⟩
        have hm : movN ⟨k, (a' : Int), (b' : Int), c, z⟩ (s : Int) = ⟨k, ((a' + s : Nat) : Int), ((b' + s : Nat) : Int), c, z⟩ := by
          unfold movN
          rw [if_pos hf]
          simp
        rw [hm] at hx'
        have h1 : a' < n := by omega
        have h2 : b' < n := by omega
        have hk : k = 3 ∨ k = 4 := by simpa [isFork] using hf
        rcases hk with rfl | rfl
        · rw [tk_cat (t := t') (by rw [hx']) (a := a' + s) (b := b' + s) (by rw [hx']) (by rw [hx']) (by omega) (by omega), tk_cat (t := t) (by rw [hx]) (a := a') (b := b') (by rw [hx]) (by rw [hx]) h1 h2]
          rw [show j + r + 1 - (i + r) = j + 1 - i by omega]
          refine any_congr fun d' hd' => ?_
          have e1 := ihn a' h1 (by omega) (i + d' - i) i (i + d') (Nat.le_refl _) (by omega) (by omega)
          have e2 := ihn b' h2 (by omega) (j - (i + d')) (i + d') j (Nat.le_refl _) (by omega) hj
          rw [show i + d' + r = i + r + d' by omega] at e1 e2
          rw [e1, e2]
        · rw [tk_alt (t := t') (by rw [hx']) (a := a' + s) (b := b' + s) (by rw [hx']) (by rw [hx']) (by omega) (by omega), tk_alt (t := t) (by rw [hx]) (a := a') (b := b') (by rw [hx]) (by rw [hx]) h1 h2]
          rw [ihn a' h1 (by omega) (j - i) i j (Nat.le_refl _) hij hj, ihn b' h2 (by omega) (j - i) i j (Nat.le_refl _) hij hj]
      | star hf hk c1 ha hb0 hn2 hg0 =>
        simp only at ha hb0 hk
        subst hk
        obtain ⟨a', rfl⟩ : ∃ a' : Nat, a = a' := ⟨n - 1, by omega⟩
        have hm : movN ⟨5, (a' : Int), b, c, z⟩ (s : Int) = ⟨5, ((a' + s : Nat) : Int), b, c, z⟩ := by
          unfold movN
          rw [if_neg (by simp [hf]), if_pos rfl]
          simp
        rw [hm] at hx'
        have h1 : a' < n := by omega
        rw [tk_star (t := t') (by rw [hx']) (a := a' + s) (by rw [hx']) (by omega), tk_star (t := t) (by rw [hx]) (a := a') (by rw [hx]) h1]
        rw [show j + r - (i + r) = j - i by omega]
        have e0 : decide (i + r = j + r) = decide (i = j) := by
          by_cases h : i = j
          · simp [h]
          · simp [h]
        rw [e0]
        congr 1
        refine any_congr fun d' hd' => ?_
        have e1 := ihn a' h1 (by omega) (i + 1 + d' - i) i (i + 1 + d') (Nat.le_refl _) (by omega) (by omega)
        have e2 := ihd (j - (i + 1 + d')) (by omega) (i + 1 + d') j (Nat.le_refl _) (by omega) hj
        rw [show i + 1 + d' + r = i + r + 1 + d' by omega] at e1 e2
        rw [e1, e2]
      | leaf hf hk hn2 hg0 =>
        simp only at hk
        rw [movN_leaf hf hk] at hx'
        have hk3 : k ≠ 3 := by simp [isFork] at hf; exact hf.1
        have hk4 : k ≠ 4 := by simp [isFork] at hf; exact hf.2
        by_cases k1 : k = 1
        · rw [tk_empty (t := t') (by rw [hx']; exact k1), tk_empty (t := t) (by rw [hx]; exact k1)]
          by_cases h : i = j
          · simp [h]
          · simp [h]
        · by_cases k2 : k = 2
          · rw [tk_one (t := t') (by rw [hx']; exact k2), tk_one (t := t) (by rw [hx]; exact k2), hx, hx']
            by_cases h : j = i + 1
            · subst h
              rw [hL i (by omega)]
              simp; omega
            · have h2 : ¬ (j + r = i + r + 1) := by omega
              simp [h, h2]
          · rw [tk_other (t := t') (by rw [hx']; exact k1) (by rw [hx']; exact k2) (by rw [hx']; exact hk3) (by rw [hx']; exact hk4) (by rw [hx']; exact hk), tk_other (t := t) (by rw [hx]; exact k1) (by rw [hx]; exact k2) (by rw [hx]; exact hk3) (by rw [hx]; exact hk4) (by rw [hx]; exact hk)]
theorem tk_sub {t : List Nd} {l : List Int} {lst : List Nat} (hb : begs t = some lst) {n : Nat} (hn : n < t.length) {p q : Nat} (hp : p ≤ q) (hq : q ≤ l.length) : tk t ((l.take q).drop p) n 0 (q - p) = tk t l n p q := by
  have h := tk_map (t := t) (t' := t) (l := (l.take q).drop p) (l' := l) (s := 0) (r := p) hb (fun n _ => by simp [movN_zero]) (fun i hi => by
    have hi' : i < q - p := by simp at hi; omega
    rw [List.getD_eq_getElem?_getD, List.getD_eq_getElem?_getD, List.getElem?_drop, List.getElem?_take_of_lt (by omega), Nat.add_comm]) n hn (q - p) 0 (q - p) (by omega) (by omega) (by simp; omega)
  simp only [Nat.add_zero, Nat.zero_add, Nat.sub_add_cancel hp] at h
  exact h.symm
theorem takes_take {t : List Nd} {l : List Int} (g : goodT t = true) {q : Nat} (hq : q ≤ l.length) : takesT t (l.take q) = tk t l (t.length - 1) 0 q := by
  obtain ⟨h1, h2, lst, hb, h3⟩ := goodT_iff.1 g
  have := tk_sub (l := l) hb (n := t.length - 1) (by omega) (Nat.zero_le q) hq
  simp only [List.drop_zero, Nat.sub_zero] at this
  simp only [takesT, g, Bool.true_and]
  rw [← this, List.length_take, Nat.min_eq_left hq]
theorem takes_drop {t : List Nd} {l : List Int} (g : goodT t = true) {p : Nat} (hp : p ≤ l.length) : takesT t (l.drop p) = tk t l (t.length - 1) p l.length := by
  obtain ⟨h1, h2, lst, hb, h3⟩ := goodT_iff.1 g
  have := tk_sub (l := l) hb (n := t.length - 1) (by omega) hp (Nat.le_refl _)
  simp only [List.take_length] at this
  simp only [takesT, g, Bool.true_and]
  rw [← this, List.length_drop]
theorem takes_all {t : List Nd} {l : List Int} (g : goodT t = true) : takesT t l = tk t l (t.length - 1) 0 l.length := by simp [takesT, g]
theorem join_left {k : Int} {a b : List Nd} {l : List Int} (ga : goodT a = true) {i j : Nat} (hij : i ≤ j) (hj : j ≤ l.length) : tk (joinT k a b) l (a.length - 1) i j = tk a l (a.length - 1) i j := by
  obtain ⟨h1, h2, lst, hb, h3⟩ := goodT_iff.1 ga
  have := tk_map (t := a) (t' := joinT k a b) (l := l) (l' := l) (s := 0) (r := 0) hb (fun n hn => by
    have e : (joinT k a b).getD (n + 0) default = a.getD n default := by
      rw [List.getD_eq_getElem?_getD, List.getD_eq_getElem?_getD]
      unfold joinT
      rw [Nat.add_zero, List.append_assoc, List.getElem?_append_left hn]
    rw [e]; simp [movN_zero]) (fun i hi => by simp) (a.length - 1) (by omega) (j - i) i j (Nat.le_refl _) hij hj
  simpa using this
theorem star_left {a : List Nd} {l : List Int} (ga : goodT a = true) {i j : Nat} (hij : i ≤ j) (hj : j ≤ l.length) : tk (starT a) l (a.length - 1) i j = tk a l (a.length - 1) i j := by
  obtain ⟨h1, h2, lst, hb, h3⟩ := goodT_iff.1 ga
  have := tk_map (t := a) (t' := starT a) (l := l) (l' := l) (s := 0) (r := 0) hb (fun n hn => by
    have e : (starT a).getD (n + 0) default = a.getD n default := by
      rw [List.getD_eq_getElem?_getD, List.getD_eq_getElem?_getD]
      unfold starT
      rw [Nat.add_zero, List.getElem?_append_left hn]
    rw [e]; simp [movN_zero]) (fun i hi => by simp) (a.length - 1) (by omega) (j - i) i j (Nat.le_refl _) hij hj
  simpa using this
theorem join_right {k : Int} {a b : List Nd} {l : List Int} (gb : goodT b = true) {i j : Nat} (hij : i ≤ j) (hj : j ≤ l.length) : tk (joinT k a b) l (b.length - 1 + a.length) i j = tk b l (b.length - 1) i j := by
  obtain ⟨h1, h2, lst, hb, h3⟩ := goodT_iff.1 gb
  have := tk_map (t := b) (t' := joinT k a b) (l := l) (l' := l) (s := a.length) (r := 0) hb (fun n hn => by
    rw [List.getD_eq_getElem?_getD, List.getD_eq_getElem?_getD]
    unfold joinT
    rw [List.append_assoc, List.getElem?_append_right (by omega), Nat.add_sub_cancel, List.getElem?_append_left (by rw [mov_len]; exact hn)]
    unfold mov
    rw [List.getElem?_map, List.getElem?_eq_getElem hn]
    rfl) (fun i hi => by simp) (b.length - 1) (by omega) (j - i) i j (Nat.le_refl _) hij hj
  simpa using this
/-- The two sums that the law makes. -/
def catF (a b : List Nd) (l : List Int) (k : Nat) : Bool := (List.range k).any fun d => tk a l (a.length - 1) 0 d && tk b l (b.length - 1) d l.length
def starF (a : List Nd) (l : List Int) (k : Nat) : Bool := decide (l.length = 0) || (List.range k).any fun d => decide (0 < d) && (tk a l (a.length - 1) 0 d && tk (starT a) l a.length d l.length)
theorem any_succ (f : Nat → Bool) (k : Nat) : (List.range (k + 1)).any f = ((List.range k).any f || f k) := by
  rw [List.range_succ, List.any_append]
  simp
theorem catF_succ (a b : List Nd) (l : List Int) (k : Nat) : catF a b l (k + 1) = (catF a b l k || (tk a l (a.length - 1) 0 k && tk b l (b.length - 1) k l.length)) := any_succ _ _
theorem starF_succ (a : List Nd) (l : List Int) (k : Nat) : starF a l (k + 1) = (starF a l k || (decide (0 < k) && (tk a l (a.length - 1) 0 k && tk (starT a) l a.length k l.length))) := by
  unfold starF
  rw [any_succ, Bool.or_assoc]
theorem takes_cat {a b : List Nd} {l : List Int} (ga : goodT a = true) (gb : goodT b = true) (hl : a.length + b.length + 1 ≤ 40000) : takesT (joinT 3 a b) l = catF a b l (l.length + 1) := by
  have g := good_join (k := 3) (.inl rfl) ga gb hl
  have h1 : 1 ≤ a.length := (goodT_iff.1 ga).1
  have h2 : 1 ≤ b.length := (goodT_iff.1 gb).1
  rw [takes_all g, joinT_len, Nat.add_sub_cancel]
  have e : (joinT 3 a b).getD (a.length + b.length) default = ⟨3, ((a.length - 1 : Nat) : Int), ((b.length - 1 + a.length : Nat) : Int), [], ⟨#[]⟩⟩ := by
    have := last_join 3 a b
    unfold lastN at this
    rw [joinT_len, Nat.add_sub_cancel] at this
    rw [this]
    simp only [Nd.mk.injEq, and_true, true_and]
    omega
  rw [tk_cat (by rw [e]) (a := a.length - 1) (b := b.length - 1 + a.length) (by rw [e]) (by rw [e]) (by omega) (by omega)]
  unfold catF
  refine any_congr fun d hd => ?_
  rw [Nat.zero_add, join_left ga (Nat.zero_le _) (by omega), join_right gb (by omega) (Nat.le_refl _)]
theorem takes_alt {a b : List Nd} {l : List Int} (ga : goodT a = true) (gb : goodT b = true) (hl : a.length + b.length + 1 ≤ 40000) : takesT (joinT 4 a b) l = (takesT a l || takesT b l) := by
  have g := good_join (k := 4) (.inr rfl) ga gb hl
  have h1 : 1 ≤ a.length := (goodT_iff.1 ga).1
  have h2 : 1 ≤ b.length := (goodT_iff.1 gb).1
  rw [takes_all g, takes_all ga, takes_all gb, joinT_len, Nat.add_sub_cancel]
  have e : (joinT 4 a b).getD (a.length + b.length) default = ⟨4, ((a.length - 1 : Nat) : Int), ((b.length - 1 + a.length : Nat) : Int), [], ⟨#[]⟩⟩ := by
    have := last_join 4 a b
    unfold lastN at this
    rw [joinT_len, Nat.add_sub_cancel] at this
    rw [this]
    simp only [Nd.mk.injEq, and_true, true_and]
    omega
  rw [tk_alt (by rw [e]) (a := a.length - 1) (b := b.length - 1 + a.length) (by rw [e]) (by rw [e]) (by omega) (by omega), join_left ga (Nat.zero_le _) (Nat.le_refl _), join_right gb (Nat.zero_le _) (Nat.le_refl _)]
theorem takes_star {a : List Nd} {l : List Int} (ga : goodT a = true) (hl : a.length + 1 ≤ 40000) : takesT (starT a) l = starF a l (l.length + 1) := by
  have g := good_star ga hl
  have h1 : 1 ≤ a.length := (goodT_iff.1 ga).1
  rw [takes_all g, starT_len, Nat.add_sub_cancel]
  have e : (starT a).getD a.length default = ⟨5, ((a.length - 1 : Nat) : Int), 0, [], ⟨#[]⟩⟩ := by
    have := last_star a
    unfold lastN at this
    rw [starT_len, Nat.add_sub_cancel] at this
    rw [this]
    simp only [Nd.mk.injEq, and_true, true_and]
    omega
  rw [tk_star (t := starT a) (n := a.length) (by rw [e]) (a := a.length - 1) (by rw [e]) (by omega)]
  unfold starF
  have e0 : decide (0 = l.length) = decide (l.length = 0) := by rw [Bool.eq_iff_iff]; simp only [decide_eq_true_eq]; omega
  rw [e0]
  congr 1
  rw [Bool.eq_iff_iff]
  simp only [List.any_eq_true, List.mem_range, Bool.and_eq_true, decide_eq_true_eq]
  constructor
  · rintro ⟨d, hd, e1, e2⟩
    rw [star_left ga (by omega) (by omega), Nat.zero_add, Nat.add_comm] at e1
    rw [Nat.zero_add, Nat.add_comm] at e2
    exact ⟨d + 1, by omega, by omega, e1, e2⟩
  · rintro ⟨d, hd, hd0, e1, e2⟩
    obtain ⟨d, rfl⟩ : ∃ d', d = d' + 1 := ⟨d - 1, by omega⟩
    refine ⟨d, by omega, ?_, ?_⟩
    · rw [star_left ga (by omega) (by omega), Nat.zero_add, Nat.add_comm]; exact e1
    · rw [Nat.zero_add, Nat.add_comm]; exact e2
theorem takes_leaf (k : Int) (l : List Int) : takesT (leafT k) l = (decide (k = 1) && decide (l.length = 0)) := by
  have g : goodT (leafT k) = true := by
    by_cases h : k = 1 <;> simp [goodT, leafT, h, begs, begsFrom, stepB, isFork, leafN, bareN, ByteArray.size]
  rw [takes_all g]
  have hn : (leafT k).length - 1 = 0 := rfl
  rw [hn]
  have e : (leafT k).getD 0 default = ⟨if k = 1 then 1 else 0, 0, 0, [], ⟨#[]⟩⟩ := rfl
  by_cases h : k = 1
  · rw [if_pos h] at e
    rw [tk_empty (by rw [e])]
    have e0 : decide (0 = l.length) = decide (l.length = 0) := by rw [Bool.eq_iff_iff]; simp only [decide_eq_true_eq]; omega
    rw [e0, decide_eq_true h, Bool.true_and]
  · rw [if_neg h] at e
    rw [tk_other (by rw [e]; decide) (by rw [e]; decide) (by rw [e]; decide) (by rw [e]; decide) (by rw [e]; decide)]
    simp [h]
end Go.Proofs.Abs
