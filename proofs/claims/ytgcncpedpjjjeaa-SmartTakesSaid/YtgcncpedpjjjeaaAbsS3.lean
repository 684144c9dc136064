/- A part of a proof: the text that states the row tells what is proved. No condition is laid on anything. -/
import Derived.Test.YtgcncpedpjjjeaaAbsF4
set_option linter.all false
set_option linter.constructorNameAsVariable false
set_option linter.defProp false
set_option linter.unusedVariables false
set_option linter.unusedSimpArgs false
set_option maxRecDepth 100000
namespace Go.Proofs.Abs
open Go
/-! ### What is put together is taken apart again -/
theorem wf_of {t : List Nd} (hl : t.length ≤ 9223372036854775807) (h : ∀ n ∈ t, WfN n ∧ n.set.length ≤ 600) : SmS t := ⟨⟨hl, fun n hn => (h n hn).1⟩, fun n hn => (h n hn).2⟩
theorem wf_mov {n : Nd} {m : Int} (hw : WfN n) (hs : SmN n) (hm : -200000 ≤ m ∧ m ≤ 200000) : WfN (movN n m) ∧ (movN n m).set.length ≤ 600 := by
  refine ⟨?_, by rw [movN_set]; exact hs.set⟩
  have h1 := hs.a
  have h2 := hs.b
  obtain ⟨k, a, b, c, z⟩ := n
  unfold movN
  split
  · exact ⟨hw.kind, by unfold I64; simp only at *; omega, by unfold I64; simp only at *; omega, hw.set, hw.name⟩
  · split
    · exact ⟨hw.kind, by unfold I64; simp only at *; omega, hw.b, hw.set, hw.name⟩
    · exact hw
theorem sm_mov {t : List Nd} {m : Int} (h : SmS t) (hs : SmT t) (hm : -200000 ≤ m ∧ m ≤ 200000) : SmS (mov t m) := by
  refine wf_of (by rw [mov_len]; exact h.wf.len) fun n hn => ?_
  obtain ⟨x, hx, rfl⟩ := List.mem_map.1 hn
  exact wf_mov (h.wf.all x hx) (hs.all x hx) hm
theorem sm_subS {t s : List Nd} (ht : SmS t) (hs : ∀ n ∈ s, n ∈ t) (hl : s.length ≤ t.length) : SmS s := wf_of (by have := ht.wf.len; omega) fun n hn => ⟨ht.wf.all n (hs n hn), ht.set n (hs n hn)⟩
theorem sm_join {k : Int} (hk : k = 3 ∨ k = 4) {a b : List Nd} (ha : SmS a) (hb : SmS b) (ga : goodT a = true) (gb : goodT b = true) : SmS (joinT k a b) := by
  have sa := good_sm ha ga
  have sb := good_sm hb gb
  have la := sa.len
  have lb := sb.len
  refine wf_of (by rw [joinT_len]; omega) fun n hn => ?_
  simp only [joinT, List.mem_append, List.mem_singleton] at hn
  rcases hn with (hn | hn) | rfl
  · exact ⟨ha.wf.all n hn, ha.set n hn⟩
  · have := sm_mov hb sb (m := a.length) (by omega)
    exact ⟨this.wf.all n hn, this.set n hn⟩
  · exact ⟨⟨by unfold I64; simp only; omega, by unfold I64; simp only; omega, by unfold I64; simp only; omega, ⟨by simp, by simp⟩, by show (0 : Nat) ≤ 9223372036854775807; omega⟩, by simp⟩
theorem sm_star {a : List Nd} (ha : SmS a) (ga : goodT a = true) : SmS (starT a) := by
  have sa := good_sm ha ga
  have la := sa.len
  refine wf_of (by rw [starT_len]; omega) fun n hn => ?_
  simp only [starT, List.mem_append, List.mem_singleton] at hn
  rcases hn with hn | rfl
  · exact ⟨ha.wf.all n hn, ha.set n hn⟩
  · exact ⟨⟨by unfold I64; simp only; omega, by unfold I64; simp only; omega, by unfold I64; simp only; omega, ⟨by simp, by simp⟩, by show (0 : Nat) ≤ 9223372036854775807; omega⟩, by simp⟩
theorem last_join (k : Int) (a b : List Nd) : lastN (joinT k a b) = ⟨k, (a.length : Int) - 1, (a.length : Int) + b.length - 1, [], ⟨#[]⟩⟩ := by
  unfold lastN
  rw [joinT_len, Nat.add_sub_cancel, List.getD_eq_getElem?_getD]
  unfold joinT
  rw [List.getElem?_append_right (by simp [mov])]
  simp [mov]
theorem last_star (a : List Nd) : lastN (starT a) = ⟨5, (a.length : Int) - 1, 0, [], ⟨#[]⟩⟩ := by
  unfold lastN
  rw [starT_len, Nat.add_sub_cancel, List.getD_eq_getElem?_getD]
  unfold starT
  rw [List.getElem?_append_right (by omega)]
  simp
theorem mov_back (t : List Nd) (m : Int) : mov (mov t m) (-m) = t := by
  unfold mov
  rw [List.map_map]
  conv => rhs; rw [← List.map_id t]
  exact List.map_congr_left fun n _ => movN_back n m
theorem mov_forth (t : List Nd) (m : Int) : mov (mov t (-m)) m = t := by
  have := mov_back t (-m)
  rwa [Int.neg_neg] at this
theorem parts_join {k : Int} (hk : k = 3 ∨ k = 4) {a b : List Nd} (ga : goodT a = true) (gb : goodT b = true) (hl : a.length + b.length + 1 ≤ 40000) :
    partOK (joinT k a b) = true ∧ partA (joinT k a b) = a ∧ partB (joinT k a b) = b := by
  have g := good_join hk ga gb hl
  have h1 : 1 ≤ a.length := (goodT_iff.1 ga).1
  have h2 : 1 ≤ b.length := (goodT_iff.1 gb).1
  have hf : isFork (lastN (joinT k a b)) = true := by
    rw [last_join]
    rcases hk with rfl | rfl <;> rfl
  have hO : partOK (joinT k a b) = true := by simp [partOK, g, hf]
  have e1 : (lastN (joinT k a b)).a.toNat + 1 = a.length := by rw [last_join]; simp only; omega
  have e2 : (lastN (joinT k a b)).b.toNat + 1 = a.length + b.length := by rw [last_join]; simp only; omega
  have e3 : (joinT k a b).take (a.length + b.length) = a ++ mov b a.length := by
    unfold joinT
    rw [List.take_append_of_le_length (by simp [mov]), List.take_of_length_le (by simp [mov])]
  refine ⟨hO, ?_, ?_⟩
  · unfold partA
    rw [if_pos hO, e1, mov_zero]
    unfold joinT
    rw [List.append_assoc, List.take_append_of_le_length (by omega), List.take_of_length_le (by omega)]
  · unfold partB
    rw [g, hf, Bool.and_self, if_pos rfl, e1, e2, e3, List.drop_append_of_le_length (by omega), List.drop_eq_nil_of_le (by omega), List.nil_append, mov_back]
theorem parts_star {a : List Nd} (ga : goodT a = true) (hl : a.length + 1 ≤ 40000) : partOK (starT a) = true ∧ partA (starT a) = a ∧ partB (starT a) = [] := by
  have g := good_star ga hl
  have h1 : 1 ≤ a.length := (goodT_iff.1 ga).1
  have hf : isFork (lastN (starT a)) = false := by rw [last_star]; rfl
  have hO : partOK (starT a) = true := by simp [partOK, g, last_star]
  have e1 : (lastN (starT a)).a.toNat + 1 = a.length := by rw [last_star]; simp only; omega
  refine ⟨hO, ?_, ?_⟩
  · unfold partA
    rw [if_pos hO, e1, mov_zero]
    unfold starT
    rw [List.take_append_of_le_length (by omega), List.take_of_length_le (by omega)]
  · unfold partB
    rw [hf, Bool.and_false]
    rfl
/-- A tree with children is put together of them. -/
theorem split_last {t : List Nd} (h : 1 ≤ t.length) : t = t.take (t.length - 1) ++ [lastN t] := by
  have e : lastN t = t[t.length - 1] := by
    unfold lastN
    rw [List.getD_eq_getElem?_getD, List.getElem?_eq_getElem (by omega)]
    rfl
  rw [e]
  have := List.take_append_drop (t.length - 1) t
  rw [List.drop_eq_getElem_cons (by omega), List.drop_eq_nil_of_le (by omega)] at this
  exact this.symm
theorem bare_eq {n : Nd} (h : bareN n = true) : n = ⟨n.kind, n.a, n.b, [], ⟨#[]⟩⟩ := by
  cases n
  simp only [bareN, Bool.and_eq_true, decide_eq_true_eq] at h
  obtain ⟨h1, h2⟩ := h
  rw [List.length_eq_zero_iff.1 h1, (bytes_empty _).2 h2]
theorem fork_back {t : List Nd} (g : goodT t = true) (hf : isFork (lastN t) = true) : goodT (partA t) = true ∧ goodT (partB t) = true ∧ (partA t).length + (partB t).length + 1 = t.length ∧ joinT (lastN t).kind (partA t) (partB t) = t := by
  obtain ⟨l, hl, h1, h2, h3, hc⟩ := good_last g
  have hO : partOK t = true := by simp [partOK, g, hf]
  cases hc with
  | star hf' => rw [hf] at hf'; cases hf'
  | leaf hf' => rw [hf] at hf'; cases hf'
  | fork hk c2 hb c1 ha hn hg =>
    have hle := (begs_cut hl (t.length - 1 - 1) (by omega)).1
    have ea : (lastN t).a.toNat = l.getD (t.length - 1 - 1) 0 - 1 := by omega
    have eb : (lastN t).b.toNat = t.length - 1 - 1 := by omega
    rw [ea] at hg
    generalize hx : l.getD (t.length - 1 - 1) 0 = x at *
    have hA : partA t = t.take x := by
      unfold partA
      rw [if_pos hO, ea, mov_zero, Nat.sub_add_cancel c1]
    have hB : partB t = mov ((t.take (t.length - 1)).drop x) (-(x : Int)) := by
      unfold partB
      rw [g, hf, Bool.and_self, if_pos rfl, ea, eb, Nat.sub_add_cancel c1, Nat.sub_add_cancel (by omega)]
    have gA := good_part hl h2 (m := x - 1) (by omega)
    have hz : l.getD (x - 1) 0 = 0 := by omega
    rw [hz, Nat.sub_add_cancel c1, List.drop_zero] at gA
    have gB := good_part hl h2 (m := t.length - 1 - 1) (by omega)
    rw [hx, Nat.sub_add_cancel (by omega)] at gB
    have lA : (partA t).length = x := by rw [hA]; simp; omega
    have lB : (partB t).length = t.length - 1 - x := by rw [hB, mov_len]; simp
    refine ⟨by rw [hA]; simpa [mov_zero] using gA, by rw [hB]; exact gB, by omega, ?_⟩
    unfold joinT
    rw [lA, lB, hA, hB, mov_forth]
    have e2 : t.take x ++ (t.take (t.length - 1)).drop x = t.take (t.length - 1) := by
      have := List.take_append_drop x (t.take (t.length - 1))
      rwa [List.take_take, Nat.min_eq_left (by omega)] at this
    rw [e2]
    conv => rhs; rw [split_last h1, bare_eq hn]
    have e3 : (lastN t).a = (x : Int) - 1 := by omega
    have e4 : (lastN t).b = (x : Int) + ((t.length - 1 - x : Nat) : Int) - 1 := by omega
    rw [e3, e4]
theorem star_back {t : List Nd} (g : goodT t = true) (hf : isFork (lastN t) = false) (hk : (lastN t).kind = 5) : goodT (partA t) = true ∧ (partA t).length + 1 = t.length ∧ starT (partA t) = t := by
  obtain ⟨l, hl, h1, h2, h3, hc⟩ := good_last g
  have hO : partOK t = true := by simp [partOK, g, hk]
  cases hc with
  | fork hf' => rw [hf] at hf'; cases hf'
  | leaf _ hk' => exact absurd hk hk'
  | star _ _ c1 ha hb hn hg =>
    have ea : (lastN t).a.toNat = t.length - 1 - 1 := by omega
    rw [ea] at hg
    have hA : partA t = t.take (t.length - 1) := by
      unfold partA
      rw [if_pos hO, ea, mov_zero, Nat.sub_add_cancel (by omega)]
    have gA := good_part hl h2 (m := t.length - 1 - 1) (by omega)
    have hz : l.getD (t.length - 1 - 1) 0 = 0 := by omega
    rw [hz, Nat.sub_add_cancel (by omega), List.drop_zero] at gA
    have lA : (partA t).length = t.length - 1 := by rw [hA]; simp
    refine ⟨by rw [hA]; simpa [mov_zero] using gA, by omega, ?_⟩
    unfold starT
    rw [lA, hA]
    conv => rhs; rw [split_last h1, bare_eq hn]
    have e3 : (lastN t).a = ((t.length - 1 : Nat) : Int) - 1 := by omega
    rw [e3, hb, hk]
theorem leaf_one {t : List Nd} (g : goodT t = true) (h : partOK t = false) : t.length = 1 := by
  obtain ⟨l, hl, h1, h2, h3, hc⟩ := good_last g
  simp only [partOK, g, Bool.true_and, Bool.or_eq_false_iff, decide_eq_false_iff_not] at h
  cases hc with
  | fork hf' => rw [h.1] at hf'; cases hf'
  | star _ hk => exact absurd hk h.2
  | leaf _ _ _ hg => omega
theorem runL_mono : ∀ (t : List Nd) (n : Nat), n ≤ runL n t
  | [], n => Nat.le_refl _
  | x :: r, n => by
    unfold runL
    split
    · exact Nat.le_trans (Nat.le_add_right _ _) (runL_mono r _)
    · exact Nat.le_refl _
theorem runL_set : ∀ (t : List Nd) (n : Nat) (x : Nd), x ∈ t → 600 < x.set.length → 601 ≤ runL n t
  | y :: r, n, x, hx, h => by
    unfold runL
    split
    · rcases List.mem_cons.1 hx with rfl | hx
      · refine Nat.le_trans ?_ (runL_mono r _)
        unfold wNd
        omega
      · exact runL_set r _ x hx h
    · omega
theorem large_set {t : List Nd} (hw : WfT t) (h : large t = false) : SmS t := by
  refine ⟨hw, fun n hn => ?_⟩
  simp only [large, decide_eq_false_iff_not] at h
  by_cases h2 : n.set.length ≤ 600
  · exact h2
  · have := runL_set t 0 n hn (by omega)
    omega
end Go.Proofs.Abs
