/- A part of a proof: the text that states the row tells what is proved. No condition is laid on anything. -/
import Derived.Test.YtligpalonlliaaaGreatAbsZ8
import Derived.Test.YtligpalonlliaaaGreatAbsV7
set_option linter.all false
set_option linter.constructorNameAsVariable false
set_option linter.defProp false
set_option linter.unusedVariables false
set_option linter.unusedSimpArgs false
namespace Go.Proofs.Abs
open Go
/-! ### Parts are numbered as they come -/
theorem dd_prefix (a b : List K2) : ∃ t, dd (a ++ b) = dd a ++ t := by
  have h : ∀ (b x : List K2), ∃ t, b.foldl ddA x = x ++ t := by
    intro b
    induction b with
    | nil => intro x; exact ⟨[], by simp⟩
    | cons k b ih =>
      intro x
      obtain ⟨t, e⟩ := ih (ddA x k)
      rw [List.foldl_cons, e]
      unfold ddA
      split
      · exact ⟨t, rfl⟩
      · exact ⟨k :: t, by simp⟩
  obtain ⟨t, e⟩ := h b (dd a)
  refine ⟨t, ?_⟩
  unfold dd at e ⊢
  rw [List.foldl_append, e]
theorem numL_first {K : List K2} {i q : Nat} (hi : i < K.length) (h : (numL K).getD i 0 = ((q + 1 : Nat) : Int)) : ∃ j, j < i ∧ (numL K).getD j 0 = (q : Int) := by
  rw [numL_get hi] at h
  have hmem : K.getD i (0, 0) ∈ K.take (i + 1) := by
    rw [take_snoc hi]
    simp
  obtain ⟨t, et⟩ := dd_prefix (K.take (i + 1)) (K.drop (i + 1))
  rw [List.take_append_drop] at et
  have hk := (mem_dd (K.take (i + 1)) _).2 hmem
  unfold idxK at h
  have e1 : (dd K).idxOf (K.getD i (0, 0)) = (dd (K.take (i + 1))).idxOf (K.getD i (0, 0)) := by
    rw [et, List.idxOf_append, if_pos hk]
  have hlt := List.idxOf_lt_length_of_mem hk
  have hq : q < (dd (K.take (i + 1))).length := by omega
  have hy : (dd (K.take (i + 1)))[q] ∈ K.take (i + 1) := (mem_dd _ _).1 (List.getElem_mem hq)
  obtain ⟨j, hj, ej⟩ := List.getElem_of_mem hy
  have hj1 : j < i + 1 := by simp at hj; omega
  have ejK : K.getD j (0, 0) = (dd (K.take (i + 1)))[q] := by
    rw [← ej]
    have : j < K.length := by omega
    simp [List.getElem?_eq_getElem this]
  have idx : (dd K).idxOf (K.getD j (0, 0)) = q := by
    have hq2 : q < (dd K).length := by rw [et]; simp; omega
    have : (dd (K.take (i + 1)))[q] = (dd K)[q] := by
      simp only [et]
      rw [List.getElem_append_left hq]
    rw [ejK, this]
    exact (dd_nodup K).idxOf_getElem q hq2
  refine ⟨j, ?_, ?_⟩
  · by_cases e : j = i
    · subst e
      rw [idx] at h
      omega
    · omega
  · rw [numL_get (by omega)]
    unfold idxK
    rw [idx]
theorem placeL_first (z : List Int) (l : List (List R2)) {i q : Nat} (hi : i < z.length) (h : (placeL z l).getD i 0 = ((q + 1 : Nat) : Int)) : ∃ j, j < i ∧ (placeL z l).getD j 0 = (q : Int) := by
  induction l using snoc_ind with
  | h0 =>
    have : (placeL z []).getD i 0 = 0 := by simp [placeL, hi]
    rw [this] at h
    omega
  | h l s ih =>
    have hpl := placeL_length z l
    have hKl : (keysS (placeL z l) z s).length = z.length := by simp [keysS, hpl]
    rw [placeL_snoc] at h ⊢
    exact numL_first (by omega) h
/-! ### How many parts -/
theorem nodup_len : ∀ (n : Nat) (l : List Nat), l.Nodup → (∀ x ∈ l, x < n) → l.length ≤ n
  | 0, l, _, h => by
    cases l with
    | nil => simp
    | cons x l => exact absurd (h x (List.mem_cons_self ..)) (by omega)
  | n + 1, l, hn, h => by
    have h1 := nodup_len n (l.filter fun x => decide (x ≠ n)) (hn.filter _) (fun x hx => by
      obtain ⟨a, b⟩ := List.mem_filter.1 hx
      have := h x a
      simp at b
      omega)
    have h2 : l.length ≤ (l.filter fun x => decide (x ≠ n)).length + 1 := by
      have hc : l.length = (l.filter fun x => decide (x ≠ n)).length + (l.filter fun x => decide (x = n)).length := by
        clear h h1 hn
        induction l with
        | nil => rfl
        | cons x l ih =>
          by_cases e : x = n
          · simp [e]; simp at ih; omega
          · simp [e]; simp at ih; omega
      have hx : (l.filter fun x => decide (x = n)).length ≤ 1 := by
        have hnf : (l.filter fun x => decide (x = n)).Nodup := hn.filter _
        have hall : ∀ y ∈ l.filter fun x => decide (x = n), y = n := fun y hy => by simpa using (List.mem_filter.1 hy).2
        generalize l.filter (fun x => decide (x = n)) = m at hnf hall
        match m, hnf, hall with
        | [], _, _ => simp
        | [_], _, _ => simp
        | a :: b :: r, hnf, hall =>
          have e1 := hall a (by simp)
          have e2 := hall b (by simp)
          subst e1
          rw [e2] at hnf
          simp at hnf
      omega
    omega
theorem cntP_numL {K : List K2} (h : 0 < K.length) : cntP (numL K) = (dd K).length := by
  have ok := numL_ok h
  have hm := maxL_mem ok.ne
  obtain ⟨k, hk, e⟩ : ∃ k, k ∈ K ∧ idxK K k = maxL (numL K) := List.mem_map.1 hm
  have hlt := List.idxOf_lt_length_of_mem ((mem_dd K k).2 hk)
  have hne : 0 < (dd K).length := by omega
  have hl1 : (dd K).length - 1 < (dd K).length := by omega
  have hin : (dd K)[(dd K).length - 1] ∈ K := (mem_dd K _).1 (List.getElem_mem hl1)
  have hge : idxK K (dd K)[(dd K).length - 1] ≤ maxL (numL K) := maxL_ge (List.mem_map.2 ⟨_, hin, rfl⟩)
  have he : idxK K (dd K)[(dd K).length - 1] = (((dd K).length - 1 : Nat) : Int) := by
    unfold idxK
    rw [(dd_nodup K).idxOf_getElem _ hl1]
  rw [he] at hge
  unfold idxK at e
  unfold cntP
  omega
theorem cntP_two {z : List Int} (hz : 0 < z.length) (l : List (List R2)) (s : List R2) : cntP (placeL z (l ++ [s])) ≤ 2 * cntP (placeL z l) := by
  have ok := placeL_ok hz l
  have hpl := placeL_length z l
  have hKl : (keysS (placeL z l) z s).length = z.length := by simp [keysS, hpl]
  rw [placeL_snoc, cntP_numL (by omega)]
  have hmem : ∀ k ∈ dd (keysS (placeL z l) z s), k.1 ∈ placeL z l ∧ (k.2 = 0 ∨ k.2 = 1) := fun k hk => by
    have hk := (mem_dd _ _).1 hk
    obtain ⟨i, hi, e⟩ := List.getElem_of_mem hk
    have hg := keysS_get (parts := placeL z l) (from_ := z) (s := s) (j := i) (by omega) (by omega)
    have hgi : (keysS (placeL z l) z s).getD i (0, 0) = k := by rw [← e]; simp [List.getElem?_eq_getElem hi]
    rw [hgi] at hg
    rw [hg]
    refine ⟨by rw [getD_int (by omega)]; exact List.getElem_mem _, ?_⟩
    simp only
    split
    · exact .inr rfl
    · exact .inl rfl
  have hnd := dd_nodup (keysS (placeL z l) z s)
  generalize dd (keysS (placeL z l) z s) = D at hmem hnd ⊢
  have hb : ∀ k ∈ D, 0 ≤ k.1 ∧ k.1 < (cntP (placeL z l) : Int) := fun k hk => by
    have h1 := (hmem k hk).1
    have h2 := ok.nn _ h1
    have h3 := maxL_ge h1
    refine ⟨h2, ?_⟩
    unfold cntP
    omega
  have h1 := nodup_len (2 * cntP (placeL z l)) (D.map fun k => (2 * k.1 + k.2).toNat) (List.pairwise_map.2 (hnd.imp_of_mem fun {a b} ha hb' hne e => hne (by
    have a1 := hb a ha
    have b1 := hb b hb'
    have a2 := (hmem a ha).2
    have b2 := (hmem b hb').2
    refine Prod.ext ?_ ?_ <;> omega))) (fun x hx => by
      obtain ⟨k, hk, rfl⟩ := List.mem_map.1 hx
      have k1 := hb k hk
      have k2 := (hmem k hk).2
      omega)
  simpa using h1
theorem cntP_pow {z : List Int} (hz : 0 < z.length) (l : List (List R2)) : cntP (placeL z l) ≤ 2 ^ l.length := by
  induction l using snoc_ind with
  | h0 =>
    have ok := rep_ok hz
    have hm := maxL_mem ok.ne
    have : maxL (List.replicate z.length 0) = 0 := List.eq_of_mem_replicate hm
    show cntP (List.replicate z.length 0) ≤ 1
    unfold cntP
    rw [this]
    decide
  | h l s ih =>
    have := cntP_two hz l s
    rw [List.length_append, List.length_singleton, Nat.pow_succ]
    omega
/-! ### The parts: apart, together all -/
theorem firI_least {p : List Int} {q : Nat} : ∀ {j i : Nat}, firI p j q = some i → ∀ k, k < i → p.getD k 0 ≠ (q : Int)
  | 0, i, h => by have := (firI_some h).1; omega
  | j + 1, i, h => by
    intro k hk e
    rw [firI_next] at h
    cases hf : firI p j q with
    | some i' =>
      rw [hf] at h
      simp only [Option.some.injEq] at h
      subst h
      exact firI_least hf k hk e
    | none =>
      rw [hf] at h
      simp only at h
      by_cases e2 : p.getD j 0 = (q : Int)
      · rw [if_pos e2] at h
        simp only [Option.some.injEq] at h
        subst h
        unfold firI at hf
        rw [List.find?_eq_none] at hf
        have := hf k (List.mem_range.2 hk)
        rw [e] at this
        simp at this
      · rw [if_neg e2] at h; cases h
/-- Whatever parts there are, their first places rise. -/
theorem first_up {z : List Int} (l : List (List R2)) {i j q r : Nat} (hi : firI (placeL z l) z.length q = some i) (hj : firI (placeL z l) z.length r = some j) (h : q < r) : i < j := by
  have step : ∀ d q r i j : Nat, r = q + d + 1 → firI (placeL z l) z.length q = some i → (placeL z l).getD j 0 = (r : Int) → j < z.length → i < j := by
    intro d
    induction d with
    | zero =>
      intro q r i j e hi hj hjl
      subst e
      obtain ⟨k, hk, ek⟩ := placeL_first z l (q := q) hjl (by rw [hj])
      have : i ≤ k := by
        rcases Nat.lt_or_ge k i with h | h
        · exact absurd ek (firI_least hi k h)
        · exact h
      omega
    | succ d ih =>
      intro q r i j e hi hj hjl
      subst e
      obtain ⟨k, hk, ek⟩ := placeL_first z l (q := q + d + 1) hjl (by rw [hj]; congr 1)
      have := ih q (q + d + 1) i k rfl hi ek (by omega)
      omega
  exact step (r - q - 1) q r i j (by omega) hi (firI_some hj).2 (firI_some hj).1
end Go.Proofs.Abs

set_option linter.all false
set_option linter.constructorNameAsVariable false
set_option linter.defProp false
set_option linter.unusedVariables false
set_option linter.unusedSimpArgs false
namespace Go.Proofs.Abs
open Go
/-! ### Bands of parts: plain law -/
/-- Sets that are good, none empty, each scalar in just one. -/
structure Tile (P : List (List R2)) : Prop where
  good : ∀ s ∈ P, goodS s = true
  ne : ∀ s ∈ P, s ≠ []
  one : ∀ v, isS v = true → ∃ q, q < P.length ∧ inS v (P.getD q []) = true
  uniq : ∀ v i j, isS v = true → i < P.length → j < P.length → inS v (P.getD i []) = true → inS v (P.getD j []) = true → i = j
theorem getD_memP {P : List (List R2)} {q : Nat} (h : q < P.length) : P.getD q [] ∈ P := by
  rw [List.getD_eq_getElem?_getD, List.getElem?_eq_getElem h]
  exact List.getElem_mem h
theorem mem_stL {ps : List (List R2)} {x : Rg.T3} : x ∈ stL ps ↔ ∃ q, q < ps.length ∧ (x.1, x.2.1) ∈ ps.getD q [] ∧ x.2.2 = (q : Int) := by
  unfold stL stU
  rw [List.mem_flatMap]
  constructor
  · rintro ⟨q, hq, hx⟩
    unfold stOf at hx
    obtain ⟨r, hr, rfl⟩ := List.mem_map.1 hx
    exact ⟨q, List.mem_range.1 hq, hr, rfl⟩
  · rintro ⟨q, hq, hr, e⟩
    refine ⟨q, List.mem_range.2 hq, ?_⟩
    unfold stOf
    exact List.mem_map.2 ⟨_, hr, by obtain ⟨a, b, c⟩ := x; simp at e; rw [e]⟩
def Dst (x y : Rg.T3) : Prop := (∀ v, isS v = true → ¬ (x.1 ≤ v ∧ v ≤ x.2.1 ∧ y.1 ≤ v ∧ v ≤ y.2.1)) ∧ (x.2.2 = y.2.2 → (nextB x.2.1 = true → nextV x.2.1 ≠ y.1) ∧ (nextB y.2.1 = true → nextV y.2.1 ≠ x.1))
theorem Dst.symm {x y : Rg.T3} (h : Dst x y) : Dst y x := ⟨fun v hv k => h.1 v hv ⟨k.2.2.1, k.2.2.2, k.1, k.2.1⟩, fun e => ⟨(h.2 e.symm).2, (h.2 e.symm).1⟩⟩
def WhT (x : Rg.T3) : Prop := isS x.1 = true ∧ isS x.2.1 = true ∧ x.1 ≤ x.2.1
theorem stL_wh {P : List (List R2)} (h : ∀ s ∈ P, goodS s = true) : ∀ x ∈ stL P, WhT x := fun x hx => by
  obtain ⟨q, hq, hr, _⟩ := mem_stL.1 hx
  exact wholeS_iff.1 (((gdL_iff _).1 (h _ (getD_memP hq))).whole _ hr)
/-- No scalar is in two of the sets. -/
def Lone (P : List (List R2)) : Prop := ∀ v i j, isS v = true → i < P.length → j < P.length → inS v (P.getD i []) = true → inS v (P.getD j []) = true → i = j
theorem stL_dst {P : List (List R2)} (hg : ∀ s ∈ P, goodS s = true) (hu : Lone P) : (stL P).Pairwise Dst := by
  unfold stL stU
  rw [List.pairwise_flatMap]
  refine ⟨fun q hq => ?_, ?_⟩
  · have hq := List.mem_range.1 hq
    have hG := (gdL_iff _).1 (hg _ (getD_memP hq))
    unfold stOf
    rw [List.pairwise_map]
    refine hG.apart.imp_of_mem fun {a b} ha hb hab => ?_
    obtain ⟨a1, a2, a3⟩ := wholeS_iff.1 (hG.whole a ha)
    obtain ⟨b1, b2, b3⟩ := wholeS_iff.1 (hG.whole b hb)
    have hlt := apartS_lt hab
    obtain ⟨h1, h2⟩ := apartS_iff.1 hab
    refine ⟨fun v hv k => ?_, fun _ => ⟨fun _ => ?_, fun hb => ?_⟩⟩
    · simp only at k; omega
    · simp only; omega
    · simp only at hb ⊢
      have : b.2 < 1114111 := by simpa [nextB] using hb
      have := nextV_gt this
      omega
  · refine List.Pairwise.imp_of_mem ?_ List.pairwise_lt_range
    intro i j hi hj hij x hx y hy
    have hi := List.mem_range.1 hi
    have hj := List.mem_range.1 hj
    unfold stOf at hx hy
    obtain ⟨a, ha, rfl⟩ := List.mem_map.1 hx
    obtain ⟨b, hb, rfl⟩ := List.mem_map.1 hy
    refine ⟨fun v hv k => ?_, fun e => ?_⟩
    · have := hu v i j hv hi hj (inS_iff.2 ⟨a, ha, k.1, k.2.1⟩) (inS_iff.2 ⟨b, hb, k.2.2.1, k.2.2.2⟩)
      omega
    · simp only at e; omega
theorem dist_of {P : List (List R2)} (hg : ∀ s ∈ P, goodS s = true) (hu : Lone P) : distB (stL P) = true := by
  rw [distB_iff]
  refine (stL_dst hg hu).imp_of_mem fun {x y} hx hy h e => ?_
  have hw := stL_wh hg x hx
  have hw2 := stL_wh hg y hy
  exact h.1 x.1 hw.1 ⟨Int.le_refl _, hw.2.2, by omega, by rw [e]; exact hw2.2.2⟩
/-! the sweep -/
def chn : List Rg.T3 → Int → Prop
  | [], _ => True
  | x :: r, f => x.1 = f ∧ (r ≠ [] → nextB x.2.1 = true) ∧ chn r (nextV x.2.1)
theorem swp_ok : ∀ (W : List Rg.T3) (out : List R2) (f : Int), (∀ x ∈ W, WhT x ∧ f ≤ x.1) → W.Pairwise (fun x y => x.2.1 < y.1) → isS f = true → (∀ v, isS v = true → f ≤ v → ∃ x ∈ W, x.1 ≤ v ∧ v ≤ x.2.1) →
    swp W out f true = some (out ++ W.map fun x => (x.1, x.2.2)) ∧ chn W f
  | [], out, f, _, _, hf, hc => by
    obtain ⟨x, hx, _⟩ := hc f hf (Int.le_refl _)
    cases hx
  | x :: r, out, f, hw, hp, hf, hc => by
    obtain ⟨p1, p2⟩ := List.pairwise_cons.1 hp
    obtain ⟨⟨w1, w2, w3⟩, w4⟩ := hw x (List.mem_cons_self ..)
    have hx : x.1 = f := by
      obtain ⟨y, hy, k1, k2⟩ := hc f hf (Int.le_refl _)
      rcases List.mem_cons.1 hy with rfl | hy
      · omega
      · have := p1 y hy
        have := (hw y (List.mem_cons_of_mem _ hy)).2
        omega
    have hb : swp (x :: r) out f true = swp r (out ++ [(f, x.2.2)]) (nextV x.2.1) (nextB x.2.1) := by simp [swp, hx]
    rw [hb]
    cases hn : nextB x.2.1 with
    | true =>
      have hlt : x.2.1 < 1114111 := by simpa [nextB] using hn
      have hgt := nextV_gt hlt
      obtain ⟨e1, e2⟩ := swp_ok r (out ++ [(f, x.2.2)]) (nextV x.2.1) (fun y hy => ⟨(hw y (List.mem_cons_of_mem _ hy)).1, nextV_le (hw y (List.mem_cons_of_mem _ hy)).1.1 (p1 y hy)⟩) p2 (nextV_isS w2 hlt) (fun v hv hle => by
        obtain ⟨y, hy, k1, k2⟩ := hc v hv (by omega)
        rcases List.mem_cons.1 hy with rfl | hy
        · omega
        · exact ⟨y, hy, k1, k2⟩)
      refine ⟨?_, hx, fun _ => hn, e2⟩
      rw [e1, List.append_assoc, ← hx]
      rfl
    | false =>
      have hge : ¬ x.2.1 < 1114111 := by
        intro h
        have : nextB x.2.1 = true := by simpa [nextB] using h
        rw [hn] at this
        cases this
      have hr : r = [] := by
        cases r with
        | nil => rfl
        | cons y r =>
          have h1 := p1 y (List.mem_cons_self ..)
          have h2 := isS_iff.1 (hw y (by simp)).1.1
          omega
      subst hr
      refine ⟨?_, hx, fun h => absurd rfl h, trivial⟩
      simp [swp, hx]
theorem chn_get : ∀ (W : List Rg.T3) (f : Int), chn W f → ∀ i, i + 1 < W.length → nextB (W.getD i (0, 0, 0)).2.1 = true ∧ nextV (W.getD i (0, 0, 0)).2.1 = (W.getD (i + 1) (0, 0, 0)).1
  | [], _, _, i, h => by simp at h
  | [_], _, _, i, h => by simp at h
  | x :: y :: r, f, hc, 0, _ => ⟨hc.2.1 (by simp), hc.2.2.1.symm⟩
  | x :: y :: r, f, hc, i + 1, h => chn_get (y :: r) _ hc.2.2 i (by simp at h ⊢; omega)
theorem ofU_get {b : List R2} {v : Int} {i : Nat} : ∀ n, i < n → (b.getD i (0, 0)).1 ≤ v → (∀ j, i < j → j < n → v < (b.getD j (0, 0)).1) → ofU b v n = some (b.getD i (0, 0)).2
  | 0, h, _, _ => by omega
  | n + 1, h, h1, h2 => by
    unfold ofU
    by_cases e : i = n
    · subst e
      rw [if_pos h1]
    · have := h2 n (by omega) (by omega)
      rw [if_neg (by omega)]
      exact ofU_get n (by omega) h1 fun j hj hjn => h2 j hj (by omega)
/-- What bands tell. -/
structure BandsOf (P : List (List R2)) (b : List R2) : Prop where
  pos : 0 < b.length
  zero : (b.getD 0 (0, 0)).1 = 0
  cls : ∀ i, i < b.length → ∃ c : Nat, (b.getD i (0, 0)).2 = (c : Int) ∧ c < P.length ∧ isS (b.getD i (0, 0)).1 = true ∧ inS (b.getD i (0, 0)).1 (P.getD c []) = true
  up : ∀ i, i + 1 < b.length → (b.getD i (0, 0)).1 < (b.getD (i + 1) (0, 0)).1 ∧ (b.getD i (0, 0)).2 ≠ (b.getD (i + 1) (0, 0)).2
  of : ∀ v, isS v = true → ∃ c : Nat, ofBd b v = some (c : Int) ∧ c < P.length ∧ inS v (P.getD c []) = true
theorem bands_ok {P : List (List R2)} (h : Tile P) : ∃ b, bandsO P = some b ∧ BandsOf P b ∧ b.length ≤ lenS P := by
  have hwh := stL_wh h.good
  have hdst := stL_dst h.good h.uniq
  have hperm := Rg.sortT_perm (stL P)
  have hsort := Rg.sortT_sorted (stL P)
  have hlen := Rg.sortT_length (stL P)
  have hmem : ∀ x, x ∈ Rg.sortT (stL P) ↔ x ∈ stL P := fun x => hperm.mem_iff
  have hd2 : (Rg.sortT (stL P)).Pairwise Dst := (hperm.pairwise_iff fun {x y} e => Dst.symm e).2 hdst
  have hlS : (stL P).length = lenS P := by
    have := stU_lenS (ps := P) P.length (Nat.le_refl _)
    rw [List.take_length] at this
    exact this
  have hb : bandsO P = swp (Rg.sortT (stL P)) [] 0 true := by
    have h1 : P.all goodS = true := List.all_eq_true.2 h.good
    have h2 : P.all (fun s => !s.isEmpty) = true := List.all_eq_true.2 fun s hs => by
      have := h.ne s hs
      cases s with
      | nil => exact absurd rfl this
      | cons _ _ => rfl
    simp only [bandsO, h1, h2, Bool.and_self, if_true]
  rw [hb]
  generalize Rg.sortT (stL P) = W at *
  have hw : ∀ x ∈ W, WhT x := fun x hx => hwh x ((hmem x).1 hx)
  have hpw : W.Pairwise (fun x y => x.2.1 < y.1) := by
    refine (hsort.and hd2).imp_of_mem fun {x y} hx hy k => ?_
    obtain ⟨k1, k2⟩ := k
    have w1 := hw x hx
    have w2 := hw y hy
    refine Classical.byContradiction fun hn => k2.1 y.1 w2.1 ⟨k1, by omega, Int.le_refl _, w2.2.2⟩
  obtain ⟨e1, e2⟩ := swp_ok W [] 0 (fun x hx => ⟨hw x hx, by have := isS_iff.1 (hw x hx).1; omega⟩) hpw (by decide) (fun v hv _ => by
    obtain ⟨q, hq, hin⟩ := h.one v hv
    obtain ⟨r, hr, k1, k2⟩ := inS_iff.1 hin
    exact ⟨(r.1, r.2, (q : Int)), (hmem _).2 (mem_stL.2 ⟨q, hq, hr, rfl⟩), k1, k2⟩)
  refine ⟨_, e1, ?_, by simp; omega⟩
  rw [List.nil_append]
  have hg : ∀ i, i < W.length → (W.map fun x => (x.1, x.2.2)).getD i (0, 0) = ((W.getD i (0, 0, 0)).1, (W.getD i (0, 0, 0)).2.2) := fun i hi => by
    simp [List.getElem?_eq_getElem hi]
  have hgm : ∀ i, i < W.length → W.getD i (0, 0, 0) ∈ W := fun i hi => by
    rw [List.getD_eq_getElem?_getD, List.getElem?_eq_getElem hi]
    exact List.getElem_mem hi
  have hcl : ∀ x ∈ W, ∃ c : Nat, x.2.2 = (c : Int) ∧ c < P.length ∧ ∀ v, x.1 ≤ v → v ≤ x.2.1 → inS v (P.getD c []) = true := fun x hx => by
    obtain ⟨q, hq, hr, e⟩ := mem_stL.1 ((hmem x).1 hx)
    exact ⟨q, e, hq, fun v k1 k2 => inS_iff.2 ⟨_, hr, k1, k2⟩⟩
  have hpg : ∀ i j, i < j → j < W.length → (W.getD i (0, 0, 0)).2.1 < (W.getD j (0, 0, 0)).1 := fun i j hij hj => by
    have := List.pairwise_iff_getElem.1 hpw i j (by omega) hj hij
    simpa [List.getElem?_eq_getElem hj, List.getElem?_eq_getElem (show i < W.length by omega)] using this
  have hne : W ≠ [] := by
    intro e
    obtain ⟨q, hq, hin⟩ := h.one 0 (by decide)
    obtain ⟨r, hr, k1, k2⟩ := inS_iff.1 hin
    have := (hmem (r.1, r.2, (q : Int))).2 (mem_stL.2 ⟨q, hq, hr, rfl⟩)
    rw [e] at this
    cases this
  have hpos : 0 < W.length := List.length_pos_iff.2 hne
  refine ⟨by simpa using hpos, ?_, ?_, ?_, ?_⟩
  · rw [hg 0 hpos]
    cases W with
    | nil => exact absurd rfl hne
    | cons x r => exact e2.1
  · intro i hi
    simp only [List.length_map] at hi
    rw [hg i hi]
    obtain ⟨c, k1, k2, k3⟩ := hcl _ (hgm i hi)
    have hwi := hw _ (hgm i hi)
    exact ⟨c, k1, k2, hwi.1, k3 _ (Int.le_refl _) hwi.2.2⟩
  · intro i hi
    simp only [List.length_map] at hi
    rw [hg i (by omega), hg (i + 1) hi]
    have h1 := hpg i (i + 1) (by omega) hi
    have h2 := (hw _ (hgm i (by omega))).2.2
    refine ⟨by simp only; omega, fun e => ?_⟩
    obtain ⟨c1, c2⟩ := chn_get W 0 e2 i hi
    have hD := List.pairwise_iff_getElem.1 hd2 i (i + 1) (by omega) hi (by omega)
    have hD2 : Dst (W.getD i (0, 0, 0)) (W.getD (i + 1) (0, 0, 0)) := by
      simpa [List.getElem?_eq_getElem hi, List.getElem?_eq_getElem (show i < W.length by omega)] using hD
    exact (hD2.2 e).1 c1 c2
  · intro v hv
    obtain ⟨q, hq, hin⟩ := h.one v hv
    obtain ⟨r, hr, k1, k2⟩ := inS_iff.1 hin
    have hx := (hmem (r.1, r.2, (q : Int))).2 (mem_stL.2 ⟨q, hq, hr, rfl⟩)
    obtain ⟨i, hi, ei⟩ := List.getElem_of_mem hx
    have hWi : W.getD i (0, 0, 0) = (r.1, r.2, (q : Int)) := by rw [← ei]; simp [List.getElem?_eq_getElem hi]
    refine ⟨q, ?_, hq, hin⟩
    unfold ofBd
    rw [if_pos hv]
    have := ofU_get (b := W.map fun x => (x.1, x.2.2)) (v := v) (i := i) (W.map fun x => (x.1, x.2.2)).length (by simpa using hi) (by rw [hg i hi, hWi]; exact k1) (fun j hj hjn => by
      simp only [List.length_map] at hjn
      rw [hg j hjn]
      have := hpg i j hj hjn
      rw [hWi] at this
      simp only at this ⊢
      omega)
    rw [this, hg i hi, hWi]
/-- Where no set begins at nothing, there are no bands. -/
theorem bands_none {P : List (List R2)} (h : ∀ s ∈ P, inS 0 s = false) (hw : ∀ s ∈ P, goodS s = true) : bandsO P = none := by
  unfold bandsO
  split
  · have hm : ∀ x ∈ Rg.sortT (stL P), x.1 ≠ 0 := fun x hx e => by
      have hx := (Rg.sortT_perm (stL P)).mem_iff.1 hx
      obtain ⟨q, hq, hr, _⟩ := mem_stL.1 hx
      have h1 := stL_wh hw x hx
      have h2 : inS 0 (P.getD q []) = true := inS_iff.2 ⟨_, hr, by simp only; omega, by simp only; have := h1.2.2; omega⟩
      rw [h _ (getD_memP hq)] at h2
      cases h2
    generalize Rg.sortT (stL P) = W at hm
    cases W with
    | nil => rfl
    | cons x r => simp [swp, hm x (List.mem_cons_self ..)]
  · rfl
end Go.Proofs.Abs

set_option linter.all false
set_option linter.constructorNameAsVariable false
set_option linter.defProp false
set_option linter.unusedVariables false
set_option linter.unusedSimpArgs false
namespace Go.Proofs.Abs
open Go
/-! ### The parts of good sets: plain law -/
def sumZ (P : List (List R2)) (n : Nat) : Int := ((P.take n).map sizeS).sum
theorem sumZ_next {P : List (List R2)} {n : Nat} (h : n < P.length) : sumZ P (n + 1) = sumZ P n + sizeS (P.getD n []) := by
  unfold sumZ
  rw [takeL_snoc h]
  simp
theorem card_all (N : Nat) (hN : N = 1114112) : (cardS N (fun v => inS v allS) : Int) = 1112064 := by
  have := card_not (s := []) (t := allS) N hN fun v hv => ⟨fun _ => memS_nil, fun _ => allS_mem hv⟩
  have z : cardS N (fun v => inS v []) = 0 := card_false fun v _ => rfl
  rw [z] at this
  omega
theorem sumZ_card {P : List (List R2)} (h : Tile P) (N : Nat) (hN : N = 1114112) : ∀ n, n ≤ P.length → sumZ P n = cardS N (fun v => (P.take n).any (inS v))
  | 0, _ => by
    rw [card_false (p := fun v => (P.take 0).any (inS v)) fun v _ => rfl]
    rfl
  | n + 1, hn => by
    have ih := sumZ_card h N hN n (by omega)
    have hg := getD_memP (P := P) (q := n) (by omega)
    rw [sumZ_next (by omega), ih, sizeS_card (h.good _ hg) N hN]
    have e : cardS N (fun v => (P.take (n + 1)).any (inS v)) = cardS N (fun v => (P.take n).any (inS v) || inS v (P.getD n [])) := card_congr fun v _ => by
      rw [takeL_snoc (by omega), List.any_append]
      simp
    have z : cardS N (fun v => (P.take n).any (inS v) && inS v (P.getD n [])) = 0 := card_false fun v hv => by
      rw [Bool.and_eq_false_iff]
      by_cases k : inS v (P.getD n []) = true
      · left
        rw [List.any_eq_false]
        intro s hs hin
        obtain ⟨i, hi, rfl⟩ := List.getElem_of_mem hs
        have hi2 : i < n := by simp at hi; omega
        have : i = n := h.uniq v i n hv (by omega) (by omega) (by
          have e : (P.take n)[i] = P.getD i [] := by
            simp [List.getElem?_eq_getElem (show i < P.length by omega)]
          rw [← e]; exact hin) k
        omega
      · right; simpa using k
    have ha := card_add N (fun v => (P.take n).any (inS v)) (fun v => inS v (P.getD n []))
    omega
theorem sumZ_all {P : List (List R2)} (h : Tile P) : sumZ P P.length = 1112064 := by
  obtain ⟨N, hN⟩ : ∃ N : Nat, N = 1114112 := ⟨_, rfl⟩
  have e : cardS N (fun v => P.any (inS v)) = cardS N (fun v => inS v allS) := card_congr fun v hv => by
    obtain ⟨q, hq, hin⟩ := h.one v hv
    rw [inS_iff.2 (allS_mem hv)]
    exact List.any_eq_true.2 ⟨_, getD_memP hq, hin⟩
  have h1 := sumZ_card h N hN P.length (Nat.le_refl _)
  rw [List.take_length, e, card_all N hN] at h1
  exact h1
structure Parted (l P : List (List R2)) : Prop where
  tile : Tile P
  low : ∀ i j, i < j → j < P.length → ((P.getD i []).getD 0 (0, 0)).1 < ((P.getD j []).getD 0 (0, 0)).1
  same : ∀ v w c d, isS v = true → isS w = true → c < P.length → d < P.length → inS v (P.getD c []) = true → inS w (P.getD d []) = true → (c = d ↔ ∀ s ∈ l, inS v s = inS w s)
  num : 0 < P.length ∧ P.length ≤ 256
  zero : inS 0 (P.getD 0 []) = true
  len : lenS P ≤ 2 * lenS l + 1
theorem startsL_len (l : List (List R2)) : (startsL l.flatten).length ≤ 2 * lenS l + 1 := by
  have h1 := cutsA_length l.flatten
  have h2 := flatS_len l
  have h3 := (Rg.compact_len (Rg.sortN (cutsA l.flatten)))
  rw [cuts_starts, Rg.sortN_length] at h3
  omega
theorem rngU_sum (z p : List Int) (G : Nat) : ∀ j, ((List.range G).map fun q => (rngU z p j q).length).sum ≤ j
  | 0 => by
    have : ((List.range G).map fun q => (rngU z p 0 q).length) = (List.range G).map fun _ => 0 := rfl
    rw [this]
    have h0 : ∀ G, ((List.range G).map fun _ : Nat => 0).sum = 0 := fun G => by
      induction G with
      | zero => rfl
      | succ G ih => rw [List.range_succ, List.map_append, List.sum_append, ih]; rfl
    rw [h0 G]
    exact Nat.le_refl _
  | j + 1 => by
    have ih := rngU_sum z p G j
    have h : ∀ G, ((List.range G).map fun q => (rngU z p (j + 1) q).length).sum = ((List.range G).map fun q => (rngU z p j q).length).sum + ((List.range G).map fun q : Nat => if p.getD j 0 = (q : Int) then 1 else 0).sum := by
      intro G
      induction G with
      | zero => rfl
      | succ G ihG =>
        rw [List.range_succ, List.map_append, List.map_append, List.map_append, List.sum_append, List.sum_append, List.sum_append, ihG]
        simp only [List.map_cons, List.map_nil, List.sum_cons, List.sum_nil, Nat.add_zero, rngU_next, List.length_append]
        split <;> simp <;> omega
    have h1 : ∀ G, ((List.range G).map fun q : Nat => if p.getD j 0 = (q : Int) then 1 else 0).sum ≤ 1 ∧ (((List.range G).map fun q : Nat => if p.getD j 0 = (q : Int) then 1 else 0).sum = 1 → p.getD j 0 < (G : Int)) := by
      intro G
      induction G with
      | zero => exact ⟨by simp, by simp⟩
      | succ G ihG =>
        rw [List.range_succ, List.map_append, List.sum_append]
        simp only [List.map_cons, List.map_nil, List.sum_cons, List.sum_nil, Nat.add_zero]
        obtain ⟨a, b⟩ := ihG
        by_cases e : p.getD j 0 = (G : Int)
        · rw [if_pos e]
          by_cases k : ((List.range G).map fun q : Nat => if p.getD j 0 = (q : Int) then 1 else 0).sum = 1
          · have := b k; omega
          · exact ⟨by omega, fun _ => by omega⟩
        · rw [if_neg e]
          exact ⟨by omega, fun k => by have := b (by omega); omega⟩
    have := h G
    have := (h1 G).1
    omega
theorem ofV_len (r : List R2) : (ofV r).length ≤ r.length := by
  by_cases h : ∀ x ∈ r, wholeS x = true
  · exact (of_good h).2.2.2
  · obtain ⟨x, hx⟩ := Classical.not_forall.1 h
    obtain ⟨hx, hw⟩ := Classical.not_imp.1 hx
    rw [(of_bad hx (by simpa using hw)).2]
    simp
theorem parted {l : List (List R2)} (hb : partsB l = true) : Parted l (partsV l) := by
  have hall : ∀ s ∈ l, goodS s = true := by
    unfold partsB at hb
    simp only [Bool.and_eq_true] at hb
    exact List.all_eq_true.1 hb.1
  have hcn : cntP (placeL (startsL l.flatten) l) ≤ 256 := by
    unfold partsB at hb
    simp only [Bool.and_eq_true, decide_eq_true_eq] at hb
    exact hb.2
  have hst := stt_of hall
  have hz := startsL_len l
  have hpv : partsV l = (List.range (cntP (placeL (startsL l.flatten) l))).map fun q => ofV (rngP (startsL l.flatten) (placeL (startsL l.flatten) l) q) := by
    unfold partsV
    rw [if_pos hb]
  have hG := hst.g
  obtain ⟨z0, z00⟩ := hG.pos
  have hok := placeL_ok z0 l
  have hpl := placeL_length (startsL l.flatten) l
  have hsame := same_place (startsL l.flatten) l
  have hzero := placeL_zero (startsL l.flatten) l z0
  have hup := fun i j q r => first_up (z := startsL l.flatten) l (i := i) (j := j) (q := q) (r := r)
  have hin : ∀ i, i < (startsL l.flatten).length → ∀ v, InSt (startsL l.flatten) i v → isS v = true → ∀ s ∈ l, inS v s = inS ((startsL l.flatten).getD i 0) s := fun i hi v hv hs s hsl =>
    stretch_in hst hi hv hs fun r hr => List.mem_flatten.2 ⟨s, hsl, hr⟩
  rw [hpv]
  generalize startsL l.flatten = z at *
  generalize placeL z l = p at *
  have hlen : ((List.range (cntP p)).map fun q => ofV (rngP z p q)).length = cntP p := by simp
  have hget : ∀ q, q < cntP p → ((List.range (cntP p)).map fun q => ofV (rngP z p q)).getD q [] = ofV (rngP z p q) := fun q hq => by
    simp [hq]
  have hmem : ∀ v i q, isS v = true → i < z.length → InSt z i v → q < cntP p → (inS v (ofV (rngP z p q)) = true ↔ p.getD i 0 = (q : Int)) := fun v i q hv hi hI _ => by
    rw [inS_iff]
    exact (part_ok hG q).2 v i hv hi hI
  have hrow : ∀ i, i < z.length → InSt z i (z.getD i 0) := fun i hi => ⟨Int.le_refl _, fun k => hG.lt (Nat.lt_succ_self i) k⟩
  have hcls : ∀ i, i < z.length → ∃ q, q < cntP p ∧ p.getD i 0 = (q : Int) := fun i hi => by
    have hm : p.getD i 0 ∈ p := by rw [getD_int (by omega)]; exact List.getElem_mem _
    have h1 := hok.nn _ hm
    have h2 := maxL_ge hm
    refine ⟨(p.getD i 0).toNat, ?_, by omega⟩
    unfold cntP
    omega
  have hocc : ∀ q, q < cntP p → ∃ i, i < z.length ∧ p.getD i 0 = (q : Int) := fun q hq => by
    have hm := (maxL_int hok).1
    obtain ⟨i, hi, e⟩ := List.getElem_of_mem (hok.all q (by unfold cntP at hq; omega))
    exact ⟨i, by omega, by rw [getD_int hi]; exact e⟩
  have htile : Tile ((List.range (cntP p)).map fun q => ofV (rngP z p q)) := by
    refine ⟨fun s hs => ?_, fun s hs e => ?_, fun v hv => ?_, fun v i j hv hi hj h1 h2 => ?_⟩
    · obtain ⟨q, _, rfl⟩ := List.mem_map.1 hs
      exact (gdL_iff _).2 (part_ok hG q).1
    · obtain ⟨q, hq, rfl⟩ := List.mem_map.1 hs
      have hq := List.mem_range.1 hq
      obtain ⟨i, hi, ei⟩ := hocc q hq
      have := (hmem (z.getD i 0) i q (hG.is hi) hi (hrow i hi) hq).2 ei
      rw [e] at this
      cases this
    · obtain ⟨i, hi, hI⟩ := hG.find hv
      obtain ⟨q, hq, e⟩ := hcls i hi
      exact ⟨q, by rw [hlen]; exact hq, by rw [hget q hq]; exact (hmem v i q hv hi hI hq).2 e⟩
    · rw [hlen] at hi hj
      rw [hget i hi] at h1
      rw [hget j hj] at h2
      obtain ⟨k, hk, hI⟩ := hG.find hv
      have e1 := (hmem v k i hv hk hI hi).1 h1
      have e2 := (hmem v k j hv hk hI hj).1 h2
      omega
  have hlow : ∀ q, q < cntP p → ∃ i, firI p z.length q = some i ∧ i < z.length ∧ ((ofV (rngP z p q)).getD 0 (0, 0)).1 = z.getD i 0 := fun q hq => by
    obtain ⟨i0, hi0, ei0⟩ := hocc q hq
    cases hf : firI p z.length q with
    | none =>
      unfold firI at hf
      rw [List.find?_eq_none] at hf
      have := hf i0 (List.mem_range.2 hi0)
      rw [ei0] at this
      simp at this
    | some i =>
      obtain ⟨hi, ei⟩ := firI_some hf
      refine ⟨i, rfl, hi, ?_⟩
      have hGd := (part_ok (p := p) hG q).1
      obtain ⟨r, hr, r1, r2⟩ := inS_iff.1 ((hmem (z.getD i 0) i q (hG.is hi) hi (hrow i hi) hq).2 ei)
      have hpos : 0 < (ofV (rngP z p q)).length := List.length_pos_of_mem hr
      have h0 : (ofV (rngP z p q)).getD 0 (0, 0) ∈ ofV (rngP z p q) := by rw [getD_eq hpos]; exact List.getElem_mem hpos
      obtain ⟨w1, w2, w3⟩ := wholeS_iff.1 (hGd.whole _ h0)
      have hle : ((ofV (rngP z p q)).getD 0 (0, 0)).1 ≤ r.1 := by
        obtain ⟨k, hk, ek⟩ := List.getElem_of_mem hr
        rw [← getD_eq hk] at ek
        by_cases k0 : k = 0
        · subst k0; rw [ek]; exact Int.le_refl _
        · have := lo_up hGd (i := 0) (j := k) (by omega) hk
          rw [ek] at this
          omega
      obtain ⟨j, hj, hJ⟩ := hG.find w1
      have ej := (hmem _ j q w1 hj hJ hq).1 (inS_iff.2 ⟨_, h0, Int.le_refl _, w3⟩)
      have hij : i ≤ j := by
        rcases Nat.lt_or_ge j i with h | h
        · exact absurd ej (firI_least hf j h)
        · exact h
      have hzz : z.getD i 0 ≤ z.getD j 0 := by
        rcases Nat.lt_or_ge i j with h | h
        · exact Int.le_of_lt (hG.lt h hj)
        · have : i = j := by omega
          rw [this]; exact Int.le_refl _
      have := hJ.1
      omega
  refine ⟨htile, fun i j hij hj => ?_, fun v w c d hv hw hc hd h1 h2 => ?_, ⟨by rw [hlen]; unfold cntP; omega, by rw [hlen]; exact hcn⟩, ?_, ?_⟩
  · rw [hlen] at hj
    rw [hget i (by omega), hget j hj]
    obtain ⟨a, fa, ha, ea⟩ := hlow i (by omega)
    obtain ⟨b, fb, hb, eb⟩ := hlow j hj
    rw [ea, eb]
    exact hG.lt (hup a b i j fa fb hij) hb
  · rw [hlen] at hc hd
    rw [hget c hc] at h1
    rw [hget d hd] at h2
    obtain ⟨i, hi, hI⟩ := hG.find hv
    obtain ⟨j, hj, hJ⟩ := hG.find hw
    have e1 := (hmem v i c hv hi hI hc).1 h1
    have e2 := (hmem w j d hw hj hJ hd).1 h2
    have hs := hsame i j hi hj
    rw [e1, e2] at hs
    constructor
    · intro e s hsl
      rw [hin i hi v hI hv s hsl, hin j hj w hJ hw s hsl]
      exact hs.1 (by rw [e]) s hsl
    · intro k
      have := hs.2 fun s hsl => by rw [← hin i hi v hI hv s hsl, ← hin j hj w hJ hw s hsl]; exact k s hsl
      omega
  · rw [hget 0 (by unfold cntP; omega)]
    have h0 := hrow 0 z0
    rw [z00] at h0
    exact (hmem 0 0 0 (by decide) z0 h0 (by unfold cntP; omega)).2 hzero
  · have h1 := rngU_sum z p (cntP p) z.length
    have h2 : lenS ((List.range (cntP p)).map fun q => ofV (rngP z p q)) ≤ ((List.range (cntP p)).map fun q => (rngU z p z.length q).length).sum := by
      unfold lenS
      rw [List.map_map]
      generalize cntP p = G
      induction G with
      | zero => exact Nat.le_refl _
      | succ G ih =>
        rw [List.range_succ, List.map_append, List.map_append, List.sum_append, List.sum_append]
        have := ofV_len (rngP z p G)
        have e : (rngP z p G).length = (rngU z p z.length G).length := rfl
        simp only [List.map_cons, List.map_nil, List.sum_cons, List.sum_nil, Function.comp]
        omega
    omega
theorem within_part {l P : List (List R2)} (h : Parted l P) (hl : ∀ s ∈ l, goodS s = true) : withinB l P = true ∧ (withinV l P).length = l.length := by
  have hB : withinB l P = true := by
    unfold withinB
    simp only [Bool.and_eq_true, List.all_eq_true]
    refine ⟨⟨hl, h.tile.good⟩, fun s hs => ?_⟩
    unfold wOk
    rw [List.all_eq_true]
    intro q hq
    have hq := List.mem_range.1 hq
    have hm := getD_memP hq
    have hg := h.tile.good _ hm
    obtain ⟨b1, b2⟩ := both_good (hl s hs) hg
    -- all its scalars are in s alike
    have hk : ∀ v w, isS v = true → isS w = true → inS v (P.getD q []) = true → inS w (P.getD q []) = true → inS v s = inS w s := fun v w hv hw h1 h2 =>
      (h.same v w q q hv hw hq hq h1 h2).1 rfl s hs
    obtain ⟨v, hv, hin, _⟩ := first_in hg (h.tile.ne _ hm)
    rw [Bool.or_eq_true]
    cases e : inS v s with
    | true =>
      left
      rw [decide_eq_true_eq]
      refine gdL_ext b1 ((gdL_iff _).1 hg) fun w hw => ?_
      rw [b2 w, and_iff_right_iff_imp]
      intro k
      have := hk v w hv hw hin (inS_iff.2 k)
      rw [e] at this
      exact inS_iff.1 this.symm
    | false =>
      right
      rw [decide_eq_true_eq]
      have : bothS s (P.getD q []) = [] := gdL_ext b1 .nil fun w hw => by
        rw [b2 w]
        constructor
        · rintro ⟨k1, k2⟩
          have := hk v w hv hw hin (inS_iff.2 k2)
          rw [e, inS_iff.2 k1] at this
          cases this
        · intro k; exact absurd k memS_nil
      rw [this]; rfl
  exact ⟨hB, by simp [withinV, hB]⟩
theorem parts_no {l : List (List R2)} (hb : partsB l = false) : partsV l = [] ∧ ((∀ s ∈ l, goodS s = true) → 7 < l.length) := by
  refine ⟨by simp [partsV, hb], fun hall => ?_⟩
  have hst := stt_of hall
  have h := cntP_pow hst.g.pos.1 l
  have hn : ¬ cntP (placeL (startsL l.flatten) l) ≤ 256 := by
    intro k
    unfold partsB at hb
    rw [List.all_eq_true.2 hall] at hb
    simp [k] at hb
  refine Classical.byContradiction fun hc => ?_
  have : 2 ^ l.length ≤ 2 ^ 8 := Nat.pow_le_pow_right (by omega) (by omega)
  have : (2 : Nat) ^ 8 = 256 := by decide
  omega
/-! ### A slice of sets that comes in -/
def shSets : Sh := .sl [shSet]
theorem okv_sets {v : AV} (h : Okv shSets v) : ∃ l : List (List R2), v = .list 1 (l.map fun s => [eSet s]) ∧ l.length ≤ 9223372036854775807 ∧ ∀ s ∈ l, WfS s := by
  unfold shSets at h
  cases h with
  | sl _ rows hl hr hv =>
    obtain ⟨l, rfl, hp⟩ := rows_of (f := fun s : List R2 => [eSet s]) (p := WfS) (rows := rows) fun r hm => by
      have h1 := hr r hm
      match r, h1 with
      | [a], _ =>
        obtain ⟨s, rfl, hs⟩ := okv_set (hv _ hm 0 _ _ rfl rfl)
        exact ⟨s, rfl, hs⟩
    exact ⟨l, rfl, by simpa [maxLen] using hl, hp⟩
end Go.Proofs.Abs
