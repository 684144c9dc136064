/- A part of a proof: the text that states the row tells what is proved. No condition is laid on anything. -/
import Derived.Test.YtligpalonlliaaaGreatAbsV1
set_option linter.all false
set_option linter.constructorNameAsVariable false
set_option linter.defProp false
set_option linter.unusedVariables false
set_option linter.unusedSimpArgs false
namespace Go.Proofs.Abs
open Go
/-! ### Parts are told by what parts them -/
theorem nodup_subL {α : Type} [DecidableEq α] : ∀ {l m : List α}, l.Nodup → (∀ x ∈ l, x ∈ m) → l.length ≤ m.length
  | [], m, _, _ => by simp
  | x :: l, m, h, hs => by
    have h1 := List.nodup_cons.1 h
    have h2 := nodup_subL (l := l) (m := m.erase x) h1.2 (fun y hy => (List.mem_erase_of_ne (by rintro rfl; exact h1.1 hy)).2 (hs y (List.mem_cons_of_mem _ hy)))
    have h3 := List.length_erase_of_mem (hs x (List.mem_cons_self ..))
    have h4 := List.length_pos_of_mem (hs x (List.mem_cons_self ..))
    simp only [List.length_cons]
    omega
theorem sorted_extL {α : Type} (f : α → Int) : ∀ {l m : List α}, l.Pairwise (fun a b => f a < f b) → m.Pairwise (fun a b => f a < f b) → (∀ x, x ∈ l ↔ x ∈ m) → l = m
  | [], [], _, _, _ => rfl
  | [], y :: m, _, _, h => absurd ((h y).2 (List.mem_cons_self ..)) (by simp)
  | x :: l, [], _, _, h => absurd ((h x).1 (List.mem_cons_self ..)) (by simp)
  | x :: l, y :: m, hl, hm, h => by
    have hl := List.pairwise_cons.1 hl
    have hm := List.pairwise_cons.1 hm
    have hxy : x = y := by
      rcases List.mem_cons.1 ((h x).1 (List.mem_cons_self ..)) with e | hx
      · exact e
      · rcases List.mem_cons.1 ((h y).2 (List.mem_cons_self ..)) with e | hy
        · exact e.symm
        · have := hl.1 y hy
          have := hm.1 x hx
          omega
    subst hxy
    rw [sorted_extL f hl.2 hm.2 fun z => ?_]
    constructor
    · intro hz
      rcases List.mem_cons.1 ((h z).1 (List.mem_cons_of_mem _ hz)) with e | hz'
      · have := hl.1 z hz; rw [e] at this; omega
      · exact hz'
    · intro hz
      rcases List.mem_cons.1 ((h z).2 (List.mem_cons_of_mem _ hz)) with e | hz'
      · have := hm.1 z hz; rw [e] at this; omega
      · exact hz'
theorem part_iff {l P : List (List R2)} (h : Parted l P) {c : Nat} (hc : c < P.length) {v w : Int} (hv : isS v = true) (hin : inS v (P.getD c []) = true) (hw : isS w = true) : inS w (P.getD c []) = true ↔ ∀ s ∈ l, inS v s = inS w s := by
  constructor
  · intro k
    exact (h.same v w c c hv hw hc hc hin k).1 rfl
  · intro k
    obtain ⟨d, hd, hi⟩ := h.tile.one w hw
    have := (h.same v w c d hv hw hc hd hin hi).2 k
    rw [this]; exact hi
theorem mem_getP {P : List (List R2)} {s : List R2} (h : s ∈ P) : ∃ c, c < P.length ∧ P.getD c [] = s := by
  obtain ⟨i, hi, e⟩ := List.getElem_of_mem h
  exact ⟨i, hi, by simp [List.getElem?_eq_getElem hi, e]⟩
theorem low_pw {l P : List (List R2)} (h : Parted l P) : P.Pairwise fun a b => (a.getD 0 (0, 0)).1 < (b.getD 0 (0, 0)).1 := by
  rw [List.pairwise_iff_getElem]
  intro i j hi hj hij
  have := h.low i j hij hj
  have ei : P.getD i [] = P[i] := by simp [List.getElem?_eq_getElem hi]
  have ej : P.getD j [] = P[j] := by simp [List.getElem?_eq_getElem hj]
  rw [ei, ej] at this
  exact this
/-- Each part that tells scalars apart as the other sets' parts do is one of these. -/
theorem part_sub {l m P Q : List (List R2)} (h : Parted l P) (k : Parted m Q) (hs : ∀ v w, isS v = true → isS w = true → ((∀ s ∈ l, inS v s = inS w s) ↔ ∀ s ∈ m, inS v s = inS w s)) : ∀ x ∈ P, x ∈ Q := by
  intro x hx
  obtain ⟨c, hc, rfl⟩ := mem_getP hx
  obtain ⟨v, hv, hin, _⟩ := first_in (h.tile.good _ hx) (h.tile.ne _ hx)
  obtain ⟨d, hd, hid⟩ := k.tile.one v hv
  have hm := getD_memP hd
  have : P.getD c [] = Q.getD d [] := gdL_ext ((gdL_iff _).1 (h.tile.good _ hx)) ((gdL_iff _).1 (k.tile.good _ hm)) fun w hw => by
    rw [← inS_iff, ← inS_iff, part_iff h hc hv hin hw, part_iff k hd hv hid hw, hs v w hv hw]
  rw [this]; exact hm
theorem parted_eq {l m P Q : List (List R2)} (h : Parted l P) (k : Parted m Q) (hs : ∀ v w, isS v = true → isS w = true → ((∀ s ∈ l, inS v s = inS w s) ↔ ∀ s ∈ m, inS v s = inS w s)) : P = Q :=
  sorted_extL (fun s => (s.getD 0 (0, 0)).1) (low_pw h) (low_pw k) fun x => ⟨part_sub h k hs x, part_sub k h (fun v w hv hw => (hs v w hv hw).symm) x⟩
/-! ### Sets that are there already -/
theorem cntP_again {z : List Int} (hz : 0 < z.length) (l m : List (List R2)) (hm : ∀ s ∈ m, s ∈ l) : cntP (placeL z (l ++ m)) ≤ cntP (placeL z l) := by
  induction m using snoc_ind with
  | h0 => rw [List.append_nil]; exact Nat.le_refl _
  | h m s ih =>
    have ih := ih fun t ht => hm t (List.mem_append_left _ ht)
    refine Nat.le_trans ?_ ih
    have hsl : s ∈ l ++ m := List.mem_append_left _ (hm s (by simp))
    rw [← List.append_assoc]
    generalize l ++ m = l at hsl
    have ok := placeL_ok hz l
    have hpl := placeL_length z l
    have hsame := same_place z l
    have hKl : (keysS (placeL z l) z s).length = z.length := by simp [keysS, hpl]
    rw [placeL_snoc, cntP_numL (by omega)]
    have hmem : ∀ k ∈ dd (keysS (placeL z l) z s), ∃ i, i < z.length ∧ k = ((placeL z l).getD i 0, if inS (z.getD i 0) s then 1 else 0) := fun k hk => by
      have hk := (mem_dd _ _).1 hk
      obtain ⟨i, hi, e⟩ := List.getElem_of_mem hk
      have hg := keysS_get (parts := placeL z l) (from_ := z) (s := s) (j := i) (by omega) (by omega)
      have hgi : (keysS (placeL z l) z s).getD i (0, 0) = k := by rw [← e]; simp [List.getElem?_eq_getElem hi]
      exact ⟨i, by omega, by rw [← hgi, hg]⟩
    have hnd := dd_nodup (keysS (placeL z l) z s)
    generalize dd (keysS (placeL z l) z s) = D at hmem hnd ⊢
    have hb : ∀ k ∈ D, 0 ≤ k.1 ∧ k.1 < (cntP (placeL z l) : Int) := fun k hk => by
      obtain ⟨i, hi, rfl⟩ := hmem k hk
      have h1 : (placeL z l).getD i 0 ∈ placeL z l := by rw [getD_int (by omega)]; exact List.getElem_mem _
      have h2 := ok.nn _ h1
      have h3 := maxL_ge h1
      refine ⟨h2, ?_⟩
      unfold cntP
      simp only
      omega
    have h1 := nodup_len (cntP (placeL z l)) (D.map fun k => k.1.toNat) (List.pairwise_map.2 (hnd.imp_of_mem fun {a b} ha hb' hne e => hne (by
      have a1 := hb a ha
      have b1 := hb b hb'
      obtain ⟨i, hi, rfl⟩ := hmem a ha
      obtain ⟨j, hj, rfl⟩ := hmem b hb'
      have e1 : (placeL z l).getD i 0 = (placeL z l).getD j 0 := by simp only at a1 b1 e; omega
      have e2 := (hsame i j hi hj).1 e1 s hsl
      rw [e1, e2]))) (fun x hx => by
        obtain ⟨k, hk, rfl⟩ := List.mem_map.1 hx
        have k1 := hb k hk
        omega)
    simpa using h1
theorem parts_few {l : List (List R2)} (hg : ∀ s ∈ l, goodS s = true) (h : l.length ≤ 7) : partsB l = true := by
  cases hb : partsB l with
  | true => rfl
  | false => have := (parts_no hb).2 hg; omega
theorem parts_twice {l : List (List R2)} (hg : ∀ s ∈ l, goodS s = true) (h : l.length ≤ 7) : partsB (l ++ l) = true ∧ partsV (l ++ l) = partsV l := by
  have hg2 : ∀ s ∈ l ++ l, goodS s = true := fun s hs => by
    rcases List.mem_append.1 hs with h | h <;> exact hg s h
  have z0 := (stt_of hg2).g.pos.1
  have h1 := cntP_again z0 l l fun s hs => hs
  have h2 := cntP_pow z0 l
  have h3 : 2 ^ l.length ≤ 2 ^ 8 := Nat.pow_le_pow_right (by omega) (by omega)
  have h4 : (2 : Nat) ^ 8 = 256 := by decide
  have hb : partsB (l ++ l) = true := by
    unfold partsB
    rw [List.all_eq_true.2 hg2]
    simp only [Bool.true_and, decide_eq_true_eq]
    omega
  refine ⟨hb, parted_eq (parted hb) (parted (parts_few hg h)) fun v w _ _ => ?_⟩
  simp only [List.mem_append, or_self]
/-! ### A set more -/
def wantL (s a : List R2) : List (List R2) := [bothS a s, bothS a (notS s)].filter fun w => !decide (w = [])
theorem mem_wantL {s a w : List R2} : w ∈ wantL s a ↔ (w = bothS a s ∨ w = bothS a (notS s)) ∧ w ≠ [] := by simp [wantL]
theorem wantL_in {s a w : List R2} (ha : goodS a = true) (hs : goodS s = true) (h : w ∈ wantL s a) : goodS w = true ∧ w ≠ [] ∧ ∃ b : Bool, ∀ v, isS v = true → (inS v w = true ↔ inS v a = true ∧ inS v s = b) := by
  obtain ⟨h1, h2⟩ := mem_wantL.1 h
  obtain ⟨n1, n2⟩ := notS_good hs
  rcases h1 with rfl | rfl
  · obtain ⟨b1, b2⟩ := both_good ha hs
    exact ⟨(gdL_iff _).2 b1, h2, true, fun v hv => by rw [inS_iff, inS_iff, inS_iff, b2 v]⟩
  · obtain ⟨b1, b2⟩ := both_good ha ((gdL_iff _).2 n1)
    refine ⟨(gdL_iff _).2 b1, h2, false, fun v hv => ?_⟩
    rw [inS_iff, inS_iff, b2 v, n2 v hv, ← Bool.not_eq_true, inS_iff]
theorem wantL_of {s a : List R2} (ha : goodS a = true) (hs : goodS s = true) {v : Int} (hv : isS v = true) (hin : inS v a = true) : ∃ w ∈ wantL s a, inS v w = true ∧ ∀ u, isS u = true → (inS u w = true ↔ inS u a = true ∧ inS u s = inS v s) := by
  obtain ⟨n1, n2⟩ := notS_good hs
  cases e : inS v s with
  | true =>
    obtain ⟨b1, b2⟩ := both_good ha hs
    have hw : inS v (bothS a s) = true := by rw [inS_iff, b2 v]; exact ⟨inS_iff.1 hin, inS_iff.1 e⟩
    refine ⟨bothS a s, mem_wantL.2 ⟨.inl rfl, fun k => by rw [k] at hw; cases hw⟩, hw, fun u hu => by rw [inS_iff, inS_iff, inS_iff, b2 u]⟩
  | false =>
    obtain ⟨b1, b2⟩ := both_good ha ((gdL_iff _).2 n1)
    have hw : inS v (bothS a (notS s)) = true := by
      rw [inS_iff, b2 v, n2 v hv, ← inS_iff, ← inS_iff, e]
      exact ⟨hin, by simp⟩
    refine ⟨bothS a (notS s), mem_wantL.2 ⟨.inr rfl, fun k => by rw [k] at hw; cases hw⟩, hw, fun u hu => by rw [inS_iff, inS_iff, b2 u, n2 u hu, ← Bool.not_eq_true, inS_iff]⟩
theorem more_ok {l A B : List (List R2)} {s : List R2} (hA : Parted l A) (hB : Parted (l ++ [s]) B) (hs : goodS s = true) :
    (∀ w, w ∈ A.flatMap (wantL s) ↔ w ∈ B) ∧ B.length = (A.flatMap (wantL s)).length := by
  have key : ∀ a ∈ A, ∀ w ∈ wantL s a, w ∈ B := by
    intro a ha w hw
    obtain ⟨c, hc, rfl⟩ := mem_getP ha
    have ga := hA.tile.good _ ha
    obtain ⟨g1, g2, b, g3⟩ := wantL_in ga hs hw
    obtain ⟨v, hv, hin, _⟩ := first_in g1 g2
    obtain ⟨hva, hvs⟩ := (g3 v hv).1 hin
    obtain ⟨d, hd, hid⟩ := hB.tile.one v hv
    have hm := getD_memP hd
    have : w = B.getD d [] := gdL_ext ((gdL_iff _).1 g1) ((gdL_iff _).1 (hB.tile.good _ hm)) fun u hu => by
      rw [← inS_iff, ← inS_iff, g3 u hu, part_iff hB hd hv hid hu, part_iff hA hc hv hva hu]
      simp only [List.mem_append, List.mem_singleton, or_imp, forall_and, forall_eq]
      rw [hvs]
      exact and_congr_right fun _ => eq_comm
    rw [this]; exact hm
  have key2 : ∀ w ∈ B, w ∈ A.flatMap (wantL s) := by
    intro w hw
    obtain ⟨d, hd, rfl⟩ := mem_getP hw
    obtain ⟨v, hv, hin, _⟩ := first_in (hB.tile.good _ hw) (hB.tile.ne _ hw)
    obtain ⟨c, hc, hic⟩ := hA.tile.one v hv
    have hm := getD_memP hc
    obtain ⟨w', hw', hvw, hu⟩ := wantL_of (hA.tile.good _ hm) hs hv hic
    have hwB := key _ hm _ hw'
    obtain ⟨e, he, hee⟩ := mem_getP hwB
    rw [← hee] at hvw
    have := hB.tile.uniq v d e hv hd he hin hvw
    rw [this, hee]
    exact List.mem_flatMap.2 ⟨_, hm, hw'⟩
  have iff : ∀ w, w ∈ A.flatMap (wantL s) ↔ w ∈ B := fun w => ⟨fun h => by
    obtain ⟨a, ha, hw⟩ := List.mem_flatMap.1 h
    exact key a ha w hw, key2 w⟩
  have ndB : B.Nodup := (low_pw hB).imp fun h e => by rw [e] at h; omega
  have ndW : (A.flatMap (wantL s)).Nodup := by
    rw [List.nodup_iff_pairwise_ne, List.pairwise_flatMap]
    refine ⟨fun a ha => ?_, ?_⟩
    · have ga := hA.tile.good _ ha
      obtain ⟨n1, n2⟩ := notS_good hs
      obtain ⟨b1, b2⟩ := both_good ga hs
      obtain ⟨c1, c2⟩ := both_good ga ((gdL_iff _).2 n1)
      unfold wantL
      by_cases e1 : bothS a s = []
      · by_cases e2 : bothS a (notS s) = [] <;> simp [e1, e2]
      · by_cases e2 : bothS a (notS s) = []
        · simp [e1, e2]
        · have hne : bothS a s ≠ bothS a (notS s) := fun e => by
            obtain ⟨v, hv, hin, _⟩ := first_in ((gdL_iff _).2 b1) e1
            have h1 := (b2 v).1 (inS_iff.1 hin)
            rw [e] at hin
            have h2 := (c2 v).1 (inS_iff.1 hin)
            exact (n2 v hv).1 h2.2 h1.2
          simp [e1, e2, hne]
    · rw [List.pairwise_iff_getElem]
      intro i j hi hj hij x hx y hy exy
      subst exy
      have ei : A.getD i [] = A[i] := by simp [List.getElem?_eq_getElem hi]
      have ej : A.getD j [] = A[j] := by simp [List.getElem?_eq_getElem hj]
      obtain ⟨g1, g2, b, g3⟩ := wantL_in (hA.tile.good _ (List.getElem_mem hi)) hs hx
      obtain ⟨_, _, b', g3'⟩ := wantL_in (hA.tile.good _ (List.getElem_mem hj)) hs hy
      obtain ⟨v, hv, hin, _⟩ := first_in g1 g2
      have h1 := ((g3 v hv).1 hin).1
      have h2 := ((g3' v hv).1 hin).1
      rw [← ei] at h1
      rw [← ej] at h2
      have := hA.tile.uniq v i j hv hi hj h1 h2
      omega
  exact ⟨iff, Nat.le_antisymm (nodup_subL ndB fun x hx => (iff x).2 hx) (nodup_subL ndW fun x hx => (iff x).1 hx)⟩
end Go.Proofs.Abs
