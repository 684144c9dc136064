/- A part of a proof: the text that states the row tells what is proved. No condition is laid on anything. -/
import Derived.Test.YthknebhggdhhfaaGreatDoorAbsGd
import Derived.Test.YthknebhggdhhfaaGreatDoorAbsC
set_option linter.all false
set_option linter.constructorNameAsVariable false
set_option linter.defProp false
set_option linter.unusedVariables false
set_option linter.unusedSimpArgs false
namespace Go.Proofs.Abs
open Go

theorem cut_step {l : List Nat} {i : Nat} {n : Nd} (hi : i < l.length) (hle : ∀ k, k < i → l.getD k 0 ≤ k) (h : Cut l i n) : stepB (l.take i) n = some (l.getD i 0) := by
  have e : (l.take i).length = i := by simp; omega
  unfold stepB
  rw [e]
  cases h with
  | fork hk c2 hb c1 ha hn hg =>
    have := hle (i - 1) (by omega)
    rw [if_pos hk, getD_take (by omega), if_pos ⟨c2, by omega, c1, by omega, hn⟩, getD_take (by omega), hg]
  | star hf hk c1 ha hb hn hg =>
    rw [if_neg (by simp [hf]), if_pos hk, if_pos ⟨c1, by omega, hb, hn⟩, getD_take (by omega), hg]
  | leaf hf hk hn hg =>
    rw [if_neg (by simp [hf]), if_neg hk, if_pos hn, hg]
theorem begsFrom_of : ∀ (r : List Nd) (out l : List Nat), l.length = out.length + r.length → l.take out.length = out → (∀ i, (h : i < r.length) → stepB (l.take (out.length + i)) r[i] = some (l.getD (out.length + i) 0)) → begsFrom out r = some l
  | [], out, l, h1, h2, _ => by
    unfold begsFrom
    rw [← h2, List.take_of_length_le (by simp at h1; omega)]
  | n :: r, out, l, h1, h2, h3 => by
    have h0 := h3 0 (by simp)
    simp only [Nat.add_zero, h2, List.getElem_cons_zero] at h0
    unfold begsFrom
    rw [h0]
    simp only
    have hlt : out.length < l.length := by simp at h1; omega
    have et : l.take (out.length + 1) = out ++ [l.getD out.length 0] := by
      rw [show l.take (out.length + 1) = l.take out.length ++ [l[out.length]] by simp, h2, List.getD_eq_getElem?_getD, List.getElem?_eq_getElem hlt]
      rfl
    refine begsFrom_of r _ l (by simp at h1 ⊢; omega) (by simpa using et) fun i hi => ?_
    have := h3 (i + 1) (by simp; omega)
    simp only [List.length_append, List.length_cons, List.length_nil]
    simpa [Nat.add_assoc, Nat.add_comm 1 i] using this
theorem begs_of_cut {t : List Nd} {l : List Nat} (hl : l.length = t.length) (h : ∀ i, (hi : i < t.length) → l.getD i 0 ≤ i ∧ Cut l i t[i]) : begs t = some l := by
  refine begsFrom_of t [] l (by simpa using hl) (by simp) fun i hi => ?_
  have := cut_step (by omega) (fun k hk => (h k (by omega)).1) (h i hi).2
  simpa using this

def movN (n : Nd) (m : Int) : Nd := if isFork n then { n with a := n.a + m, b := n.b + m } else if n.kind = 5 then { n with a := n.a + m } else n
def mov (t : List Nd) (m : Int) : List Nd := t.map (movN · m)
theorem movN_zero (n : Nd) : movN n 0 = n := by
  unfold movN
  cases n
  split
  · simp
  · split <;> simp
theorem mov_zero (t : List Nd) : mov t 0 = t := by
  unfold mov
  conv => rhs; rw [← List.map_id t]
  exact List.map_congr_left fun n _ => movN_zero n
theorem movN_kind (n : Nd) (m : Int) : (movN n m).kind = n.kind := by
  unfold movN; split
  · rfl
  · split <;> rfl
theorem movN_set (n : Nd) (m : Int) : (movN n m).set = n.set := by
  unfold movN; split
  · rfl
  · split <;> rfl
theorem movN_name (n : Nd) (m : Int) : (movN n m).name = n.name := by
  unfold movN; split
  · rfl
  · split <;> rfl
theorem movN_fork (n : Nd) (m : Int) : isFork (movN n m) = isFork n := by simp only [isFork, movN_kind]
theorem movN_bare (n : Nd) (m : Int) : bareN (movN n m) = bareN n := by simp only [bareN, movN_set, movN_name]
theorem movN_leaf {n : Nd} (hf : isFork n = false) (hk : n.kind ≠ 5) (m : Int) : movN n m = n := by simp [movN, hf, hk]
theorem movN_back (n : Nd) (m : Int) : movN (movN n m) (-m) = n := by
  unfold movN
  by_cases h : isFork n = true
  · have : isFork { n with a := n.a + m, b := n.b + m } = true := h
    rw [if_pos h, if_pos this]
    cases n; simp; omega
  · rw [if_neg h]
    by_cases hk : n.kind = 5
    · have h2 : ¬ isFork { n with a := n.a + m } = true := h
      rw [if_pos hk, if_neg h2, if_pos (by exact hk)]
      cases n; simp; omega
    · rw [if_neg hk, if_neg h, if_neg hk]

theorem nest {t : List Nd} {l : List Nat} (h : begs t = some l) : ∀ m, m < t.length → ∀ i, i ≤ m → l.getD m 0 ≤ i → l.getD m 0 ≤ l.getD i 0 := by
  intro m
  induction m using Nat.strongRecOn with
  | ind m ih =>
    intro hm i him hi
    obtain ⟨hle, hc⟩ := begs_cut h m hm
    by_cases e : i = m
    · subst e; exact Nat.le_refl _
    have hlt : i ≤ m - 1 := by omega
    cases hc with
    | leaf _ _ _ hg => omega
    | star hf hk c1 ha hb hn hg =>
      have ea : t[m].a.toNat = m - 1 := by omega
      rw [hg, ea] at hi ⊢
      exact ih (m - 1) (by omega) (by omega) i hlt hi
    | fork hk c2 hb c1 ha hn hg =>
      have hp := (begs_cut h (m - 1) (by omega)).1
      have ea : t[m].a.toNat = l.getD (m - 1) 0 - 1 := by omega
      rw [ea] at hg
      by_cases c : l.getD (m - 1) 0 ≤ i
      · have := ih (m - 1) (by omega) (by omega) i hlt c
        have hq := (begs_cut h (l.getD (m - 1) 0 - 1) (by omega)).1
        omega
      · rw [hg] at hi ⊢
        exact ih (l.getD (m - 1) 0 - 1) (by omega) (by omega) i (by omega) hi

theorem cut_shift {l l' : List Nat} {i s : Nat} {n : Nd} (hs : ∀ k, k ≤ i → l'.getD (k + s) 0 = l.getD k 0 + s) (hle : ∀ k, k ≤ i → l.getD k 0 ≤ k) (h : Cut l i n) : Cut l' (i + s) (movN n s) := by
  cases h with
  | fork hk c2 hb c1 ha hn hg =>
    have hp := hle (i - 1) (by omega)
    have e1 := hs (i - 1) (by omega)
    have e2 : i - 1 + s = i + s - 1 := by omega
    rw [e2] at e1
    have ea : (movN n s).a = n.a + s := by simp [movN, hk]
    have eb : (movN n s).b = n.b + s := by simp [movN, hk]
    refine .fork (by rw [movN_fork]; exact hk) (by omega) (by omega) (by omega) (by omega) (by rw [movN_bare]; exact hn) ?_
    have e3 : (movN n s).a.toNat = n.a.toNat + s := by omega
    rw [e3, hs i (Nat.le_refl _), hs n.a.toNat (by omega), hg]
  | star hf hk c1 ha hb hn hg =>
    have ea : (movN n s).a = n.a + s := by simp [movN, hf, hk]
    have eb : (movN n s).b = n.b := by simp [movN, hf, hk]
    refine .star (by rw [movN_fork]; exact hf) (by rw [movN_kind]; exact hk) (by omega) (by omega) (by omega) (by rw [movN_bare]; exact hn) ?_
    have e3 : (movN n s).a.toNat = n.a.toNat + s := by omega
    rw [e3, hs i (Nat.le_refl _), hs n.a.toNat (by omega), hg]
  | leaf hf hk hn hg =>
    rw [movN_leaf hf hk]
    exact .leaf hf hk hn (by rw [hs i (Nat.le_refl _), hg])
theorem cut_unshift {l l' : List Nat} {i s : Nat} {n : Nd} (hs : ∀ k, k ≤ i → l'.getD (k + s) 0 = l.getD k 0 + s) (hle : ∀ k, k ≤ i + s → l'.getD k 0 ≤ k) (h : Cut l' (i + s) n) : Cut l i (movN n (-(s : Int))) := by
  cases h with
  | fork hk c2 hb c1 ha hn hg =>
    have hp := hle (i + s - 1) (by omega)
    have e0 := hs i (Nat.le_refl _)
    have ea : (movN n (-(s : Int))).a = n.a - s := by simp [movN, hk]; omega
    have eb : (movN n (-(s : Int))).b = n.b - s := by simp [movN, hk]; omega
    have hq := hle n.a.toNat (by omega)
    have i1 : 1 ≤ i := by omega
    have e1 := hs (i - 1) (by omega)
    have e2 : i - 1 + s = i + s - 1 := by omega
    rw [e2] at e1
    refine .fork (by rw [movN_fork]; exact hk) (by omega) (by omega) (by omega) (by omega) (by rw [movN_bare]; exact hn) ?_
    have e3 := hs (n.a.toNat - s) (by omega)
    have e4 : n.a.toNat - s + s = n.a.toNat := by omega
    rw [e4] at e3
    have e5 : (movN n (-(s : Int))).a.toNat = n.a.toNat - s := by omega
    rw [e5]
    omega
  | star hf hk c1 ha hb hn hg =>
    have ea : (movN n (-(s : Int))).a = n.a - s := by simp [movN, hf, hk]; omega
    have eb : (movN n (-(s : Int))).b = n.b := by simp [movN, hf, hk]
    have e0 := hs i (Nat.le_refl _)
    have hq := hle n.a.toNat (by omega)
    have i1 : 1 ≤ i := by omega
    refine .star (by rw [movN_fork]; exact hf) (by rw [movN_kind]; exact hk) i1 (by omega) (by omega) (by rw [movN_bare]; exact hn) ?_
    have e3 := hs (n.a.toNat - s) (by omega)
    have e4 : n.a.toNat - s + s = n.a.toNat := by omega
    rw [e4] at e3
    have e5 : (movN n (-(s : Int))).a.toNat = n.a.toNat - s := by omega
    rw [e5]
    omega
  | leaf hf hk hn hg =>
    rw [movN_leaf hf hk]
    exact .leaf hf hk hn (by have := hs i (Nat.le_refl _); omega)
theorem cut_congr {l l' : List Nat} {i : Nat} {n : Nd} (hs : ∀ k, k ≤ i → l'.getD k 0 = l.getD k 0) (hle : ∀ k, k ≤ i → l.getD k 0 ≤ k) (h : Cut l i n) : Cut l' i n := by
  have := cut_shift (s := 0) (l' := l') (by simpa using hs) hle h
  simpa [movN_zero] using this

theorem goodT_iff {t : List Nd} : goodT t = true ↔ 1 ≤ t.length ∧ t.length ≤ 40000 ∧ ∃ l, begs t = some l ∧ l.getD (t.length - 1) 0 = 0 := by
  unfold goodT
  simp only [Bool.and_eq_true, decide_eq_true_eq, and_assoc]
  constructor
  · rintro ⟨h1, h2, h3⟩
    split at h3
    · rename_i l hl
      exact ⟨h1, h2, l, hl, by simpa using h3⟩
    · cases h3
  · rintro ⟨h1, h2, l, hl, h3⟩
    rw [hl]
    exact ⟨h1, h2, by simpa using h3⟩

def joinT (k : Int) (a b : List Nd) : List Nd := a ++ mov b a.length ++ [⟨k, (a.length : Int) - 1, (a.length : Int) + b.length - 1, [], ⟨#[]⟩⟩]
def starT (a : List Nd) : List Nd := a ++ [⟨5, (a.length : Int) - 1, 0, [], ⟨#[]⟩⟩]
theorem good_join {k : Int} (hk : k = 3 ∨ k = 4) {a b : List Nd} (ha : goodT a = true) (hb : goodT b = true) (hl : a.length + b.length + 1 ≤ 40000) : goodT (joinT k a b) = true := by
  rw [goodT_iff] at ha hb ⊢
  obtain ⟨a1, a2, la, a3, a4⟩ := ha
  obtain ⟨b1, b2, lb, b3, b4⟩ := hb
  have ea := begs_len a3
  have eb := begs_len b3
  have hlen : (joinT k a b).length = a.length + b.length + 1 := by simp [joinT, mov]; omega
  have g1 : ∀ i, i < a.length → (la ++ lb.map (· + a.length) ++ [0]).getD i 0 = la.getD i 0 := fun i hi => by
    simp only [List.getD_eq_getElem?_getD]
    rw [List.getElem?_append_left (by simp; omega), List.getElem?_append_left (by omega)]
  have g2 : ∀ i, i < b.length → (la ++ lb.map (· + a.length) ++ [0]).getD (i + a.length) 0 = lb.getD i 0 + a.length := fun i hi => by
    simp only [List.getD_eq_getElem?_getD]
    rw [List.getElem?_append_left (by simp; omega), List.getElem?_append_right (by omega), ea, Nat.add_sub_cancel, List.getElem?_map, List.getElem?_eq_getElem (by omega)]
    simp
  have g3 : (la ++ lb.map (· + a.length) ++ [0]).getD (a.length + b.length) 0 = 0 := by
    simp only [List.getD_eq_getElem?_getD]
    rw [List.getElem?_append_right (by simp; omega)]
    simp [ea, eb]
  refine ⟨by omega, by omega, la ++ lb.map (· + a.length) ++ [0], begs_of_cut (by simp [hlen, ea, eb]; omega) fun i hi => ?_, by rw [hlen]; simpa using g3⟩
  by_cases c1 : i < a.length
  · have e : (joinT k a b)[i] = a[i] := by
      simp only [joinT]
      rw [List.getElem_append_left (by simp; omega), List.getElem_append_left c1]
    obtain ⟨h1, h2⟩ := begs_cut a3 i c1
    rw [e, g1 i c1]
    exact ⟨h1, cut_congr (fun k hk => g1 k (by omega)) (fun k hk => (begs_cut a3 k (by omega)).1) h2⟩
  · by_cases c2 : i < a.length + b.length
    · obtain ⟨m, rfl⟩ : ∃ m, i = m + a.length := ⟨i - a.length, by omega⟩
      have hm : m < b.length := by omega
      have e : (joinT k a b)[m + a.length] = movN b[m] a.length := by
        simp only [joinT]
        rw [List.getElem_append_left (by simp [mov]; omega), List.getElem_append_right (by omega)]
        simp [mov]
      obtain ⟨h1, h2⟩ := begs_cut b3 m hm
      rw [e, g2 m hm]
      exact ⟨by omega, cut_shift (fun k hk => g2 k (by omega)) (fun k hk => (begs_cut b3 k (by omega)).1) h2⟩
    · have : i = a.length + b.length := by omega
      subst this
      have e : (joinT k a b)[a.length + b.length] = ⟨k, (a.length : Int) - 1, (a.length : Int) + b.length - 1, [], ⟨#[]⟩⟩ := by
        simp only [joinT]
        rw [List.getElem_append_right (by simp [mov])]
        simp [mov]
      rw [e, g3]
      have g4 := g2 (b.length - 1) (by omega)
      have e5 : b.length - 1 + a.length = a.length + b.length - 1 := by omega
      rw [e5, b4] at g4
      refine ⟨by omega, .fork ?_ (by omega) (by simp only; omega) (by omega) (by simp only; omega) ?_ ?_⟩
      · rcases hk with rfl | rfl <;> simp [isFork]
      · rfl
      · rw [g3]
        have e6 : ((a.length : Int) - 1).toNat = a.length - 1 := by omega
        simp only [e6]
        rw [g1 _ (by omega), a4]
theorem good_star {a : List Nd} (ha : goodT a = true) (hl : a.length + 1 ≤ 40000) : goodT (starT a) = true := by
  rw [goodT_iff] at ha ⊢
  obtain ⟨a1, a2, la, a3, a4⟩ := ha
  have ea := begs_len a3
  have hlen : (starT a).length = a.length + 1 := by simp [starT]
  have g1 : ∀ i, i < a.length → (la ++ [0]).getD i 0 = la.getD i 0 := fun i hi => by
    simp only [List.getD_eq_getElem?_getD]
    rw [List.getElem?_append_left (by omega)]
  have g3 : (la ++ [0]).getD a.length 0 = 0 := by
    simp only [List.getD_eq_getElem?_getD]
    rw [List.getElem?_append_right (by omega)]
    simp [ea]
  refine ⟨by omega, by omega, la ++ [0], begs_of_cut (by simp [hlen, ea]) fun i hi => ?_, by rw [hlen]; simpa using g3⟩
  by_cases c1 : i < a.length
  · have e : (starT a)[i] = a[i] := by
      simp only [starT]
      rw [List.getElem_append_left c1]
    obtain ⟨h1, h2⟩ := begs_cut a3 i c1
    rw [e, g1 i c1]
    exact ⟨h1, cut_congr (fun k hk => g1 k (by omega)) (fun k hk => (begs_cut a3 k (by omega)).1) h2⟩
  · have : i = a.length := by omega
    subst this
    have e : (starT a)[a.length] = ⟨5, (a.length : Int) - 1, 0, [], ⟨#[]⟩⟩ := by
      simp only [starT]
      rw [List.getElem_append_right (by omega)]
      simp
    rw [e, g3]
    refine ⟨by omega, .star rfl rfl (by omega) rfl rfl rfl ?_⟩
    rw [g3]
    have e6 : ((a.length : Int) - 1).toNat = a.length - 1 := by omega
    simp only [e6]
    rw [g1 _ (by omega), a4]

theorem good_part {t : List Nd} {l : List Nat} (h : begs t = some l) (hlen : t.length ≤ 40000) {m : Nat} (hm : m < t.length) : goodT (mov ((t.take (m + 1)).drop (l.getD m 0)) (-(l.getD m 0 : Int))) = true := by
  have hl := begs_len h
  have hle := (begs_cut h m hm).1
  generalize hs : l.getD m 0 = s at hle
  have hn : (mov ((t.take (m + 1)).drop s) (-(s : Int))).length = m + 1 - s := by simp [mov]; omega
  have g : ∀ k, k < m + 1 - s → (((l.take (m + 1)).drop s).map (· - s)).getD k 0 = l.getD (k + s) 0 - s := fun k hk => by
    simp only [List.getD_eq_getElem?_getD, List.getElem?_map, List.getElem?_drop]
    rw [List.getElem?_take_of_lt (by omega), Nat.add_comm s k, List.getElem?_eq_getElem (by omega)]
    simp
  rw [goodT_iff, hn]
  refine ⟨by omega, by omega, ((l.take (m + 1)).drop s).map (· - s), begs_of_cut (by simp [hn]; try omega) fun i hi => ?_, ?_⟩
  · rw [hn] at hi
    have e : (mov ((t.take (m + 1)).drop s) (-(s : Int)))[i] = movN t[i + s] (-(s : Int)) := by
      simp [mov, Nat.add_comm]
    obtain ⟨h1, h2⟩ := begs_cut h (i + s) (by omega)
    have hge : ∀ k, k ≤ i → s ≤ l.getD (k + s) 0 := fun k hk => by
      have := nest h m hm (k + s) (by omega) (by omega)
      omega
    rw [e, g i hi]
    refine ⟨by omega, cut_unshift (l' := l) (fun k hk => ?_) (fun k hk => (begs_cut h k (by omega)).1) h2⟩
    rw [g k (by omega)]
    have := hge k hk
    omega
  · rw [g _ (by omega)]
    have : m + 1 - s - 1 + s = m := by omega
    rw [this, hs]
    omega
end Go.Proofs.Abs

set_option maxRecDepth 100000
namespace Go.Proofs.Abs
open Go

theorem intInj : ∀ a b : Int, [AV.int .i64 a] = [AV.int .i64 b] → a = b := by
  intro a b h
  simpa using h
theorem ndInj : ∀ a b : Nd, [AV.agg (eNd a)] = [AV.agg (eNd b)] → a = b := by
  intro a b h
  simp only [List.cons.injEq, AV.agg.injEq, and_true] at h
  exact eNd_inj h
theorem rgInj : ∀ a b : Int × Int, [AV.agg [.int .i64 a.1, .int .i64 a.2]] = [AV.agg [.int .i64 b.1, .int .i64 b.2]] → a = b := by
  rintro ⟨a, b⟩ ⟨c, d⟩ h
  simpa using h

def sgV (v : Int) : Int := if 0 ≤ v ∧ v ≤ 1114111 then v else 0
theorem run122 (v : Int) : cwp ft 123 [] [.int .i64 v] [] (fun r H => r = .tuple [.int .i32 (sgV v), .bool (isS v)] ∧ H = []) := by
  refine run_fn (fn := fn122) rfl rfl ?_
  simp only [fn122_body, c122, D0, SP0, seval, -Int.reduceNatCast']
  repeat' ((first | refine rw1_nsplit (fun h => ?_) (fun h => ?_) | refine rw1_split (fun h => ?_) (fun h => ?_) | refine dw1_nsplit (fun h => ?_) (fun h => ?_) | refine dw1_split (fun h => ?_) (fun h => ?_) | refine cg2_nsplit (fun h => ?_) (fun h => ?_) | refine cg2_split (fun h => ?_) (fun h => ?_)) <;> simp only [D0, SP0, seval, -Int.reduceNatCast', h, if_true])
  all_goals simp only [F1, SF0, SP0, seval, -Int.reduceNatCast', fn122_res, fn122_keep]
  all_goals try simp only [decide_eq_true_eq, decide_eq_false_iff_not] at *
  all_goals try simp (disch := omega) only [wrap32, wrap64] at *
  all_goals try simp only [AV.tuple.injEq, AV.agg.injEq, List.cons.injEq, AV.int.injEq, AV.bool.injEq, and_true, true_and]
  all_goals refine ⟨by unfold sgV; split <;> omega, ?_⟩
  all_goals (rw [Bool.eq_iff_iff]; simp [isS]; omega)
theorem run92 (v : Int) : cwp ft 127 [] [.int .i64 v] [] (fun r H => r = .tuple [.int .i64 (nextV v), .bool (nextB v)] ∧ H = []) := by
  refine run_fn (fn := fn92) rfl rfl ?_
  simp only [fn92_body, c92, D0, SP0, seval, -Int.reduceNatCast']
  repeat' ((first | refine rw1_nsplit (fun h => ?_) (fun h => ?_) | refine rw1_split (fun h => ?_) (fun h => ?_) | refine dw1_nsplit (fun h => ?_) (fun h => ?_) | refine dw1_split (fun h => ?_) (fun h => ?_) | refine cg2_nsplit (fun h => ?_) (fun h => ?_) | refine cg2_split (fun h => ?_) (fun h => ?_)) <;> simp only [D0, SP0, seval, -Int.reduceNatCast', h, if_true])
  all_goals simp only [F1, SF0, SP0, seval, -Int.reduceNatCast', fn92_res, fn92_keep]
  all_goals try simp only [decide_eq_true_eq, decide_eq_false_iff_not] at *
  all_goals try simp (disch := omega) only [wrap32, wrap64] at *
  all_goals try simp only [AV.tuple.injEq, AV.agg.injEq, List.cons.injEq, AV.int.injEq, AV.bool.injEq, and_true, true_and]
  all_goals refine ⟨by unfold nextV; (repeat' split) <;> omega, ?_⟩
  all_goals (rw [Bool.eq_iff_iff]; simp [nextB]; try omega)
theorem run66 (v : Int) : cwp ft 23 [] [.int .i64 v] [] (fun r H => r = .bool (isS v) ∧ H = []) := by
  refine run_fn (fn := fn66) rfl rfl ?_
  simp only [fn66_body, c66, D0, SP0, seval, -Int.reduceNatCast']
  repeat' ((first | refine rw1_nsplit (fun h => ?_) (fun h => ?_) | refine rw1_split (fun h => ?_) (fun h => ?_) | refine dw1_nsplit (fun h => ?_) (fun h => ?_) | refine dw1_split (fun h => ?_) (fun h => ?_) | refine cg2_nsplit (fun h => ?_) (fun h => ?_) | refine cg2_split (fun h => ?_) (fun h => ?_)) <;> simp only [D0, SP0, seval, -Int.reduceNatCast', h, if_true])
  all_goals simp only [F1, SF0, SP0, seval, -Int.reduceNatCast', fn66_res, fn66_keep]
  all_goals try simp only [decide_eq_true_eq, decide_eq_false_iff_not] at *
  all_goals try simp (disch := omega) only [wrap32, wrap64] at *
  all_goals try simp only [AV.tuple.injEq, AV.agg.injEq, List.cons.injEq, AV.int.injEq, AV.bool.injEq, and_true, true_and]
  all_goals (rw [Bool.eq_iff_iff]; simp [isS]; omega)
theorem run96 (v : Int) : cwp ft 85 [] [.int .i64 v] [] (fun r H => r = .agg [.int .i64 (nextV v), .bool (nextB v)] ∧ H = []) := by
  refine run_fn (fn := fn96) rfl rfl ?_
  simp only [fn96_body, c96, D0, SP0, seval, -Int.reduceNatCast']
  repeat' ((first | refine rw1_nsplit (fun h => ?_) (fun h => ?_) | refine rw1_split (fun h => ?_) (fun h => ?_) | refine dw1_nsplit (fun h => ?_) (fun h => ?_) | refine dw1_split (fun h => ?_) (fun h => ?_) | refine cg2_nsplit (fun h => ?_) (fun h => ?_) | refine cg2_split (fun h => ?_) (fun h => ?_)) <;> simp only [D0, SP0, seval, -Int.reduceNatCast', h, if_true])
  all_goals simp only [F1, SF0, SP0, seval, -Int.reduceNatCast', fn96_res, fn96_keep]
  all_goals try simp only [decide_eq_true_eq, decide_eq_false_iff_not] at *
  all_goals try simp (disch := omega) only [wrap32, wrap64] at *
  all_goals try simp only [AV.tuple.injEq, AV.agg.injEq, List.cons.injEq, AV.int.injEq, AV.bool.injEq, and_true, true_and]
  all_goals refine ⟨by unfold nextV; (repeat' split) <;> omega, ?_⟩
  all_goals (rw [Bool.eq_iff_iff]; simp [nextB]; try omega)
noncomputable def k122 : Kon (Int) := ⟨fun _ => True, fun x => [.int .i64 x], fun x => .tuple [.int .i32 (sgV x), .bool (isS x)]⟩
theorem e122 (v : Int) (q0 : Id) (H0 : Heap) : k122.ora q0 ([.int .i64 v]) H0 = some (.tuple [.int .i32 (sgV v), .bool (isS v)], H0) := k122.eq (intInj) (v) trivial q0 H0
theorem ook122 : OraOK Tryz.prog (123 % 100000) k122.ora := k122.ok orders ft_ok (fun x hd => by simp [k122, PU]) (fun x hd => by simp [k122, PU]) (fun x hd => run122 x)

noncomputable def k92 : Kon (Int) := ⟨fun _ => True, fun x => [.int .i64 x], fun x => .tuple [.int .i64 (nextV x), .bool (nextB x)]⟩
theorem e92 (v : Int) (q0 : Id) (H0 : Heap) : k92.ora q0 ([.int .i64 v]) H0 = some (.tuple [.int .i64 (nextV v), .bool (nextB v)], H0) := k92.eq (intInj) (v) trivial q0 H0
theorem ook92 : OraOK Tryz.prog (127 % 100000) k92.ora := k92.ok orders ft_ok (fun x hd => by simp [k92, PU]) (fun x hd => by simp [k92, PU]) (fun x hd => run92 x)

noncomputable def k66 : Kon (Int) := ⟨fun _ => True, fun x => [.int .i64 x], fun x => .bool (isS x)⟩
theorem e66 (v : Int) (q0 : Id) (H0 : Heap) : k66.ora q0 ([.int .i64 v]) H0 = some (.bool (isS v), H0) := k66.eq (intInj) (v) trivial q0 H0
theorem ook66 : OraOK Tryz.prog (23 % 100000) k66.ora := k66.ok orders ft_ok (fun x hd => by simp [k66, PU]) (fun x hd => by simp [k66, PU]) (fun x hd => run66 x)

noncomputable def k96 : Kon (Int) := ⟨fun _ => True, fun x => [.int .i64 x], fun x => .agg [.int .i64 (nextV x), .bool (nextB x)]⟩
theorem e96 (v : Int) (q0 : Id) (H0 : Heap) : k96.ora q0 ([.int .i64 v]) H0 = some (.agg [.int .i64 (nextV v), .bool (nextB v)], H0) := k96.eq (intInj) (v) trivial q0 H0
theorem ook96 : OraOK Tryz.prog (85 % 100000) k96.ora := k96.ok orders ft_ok (fun x hd => by simp [k96, PU]) (fun x hd => by simp [k96, PU]) (fun x hd => run96 x)

noncomputable def t1 : FT := upd (upd (upd (upd (ft) 123 k122.ora) 127 k92.ora) 23 k66.ora) 85 k96.ora
theorem t1_ok : FTOK Tryz.prog t1 := upd_ok2 (f := 85) (upd_ok2 (f := 23) (upd_ok2 (f := 127) (upd_ok2 (f := 123) (ft_ok) ook122) ook92) ook66) ook96

theorem run97 (v : Int) : cwp t1 80 [] [.int .i64 v] [] (fun r H => r = .bool (isS v) ∧ H = []) := by
  refine run_fn (fn := fn97) rfl rfl ?_
  simp only [fn97_body, c97, @use_all t1 123 k122.ora rfl, e122, D0, SP0, seval, -Int.reduceNatCast']
  simp only [F1, SF0, SP0, seval, -Int.reduceNatCast', fn97_res, fn97_keep]
noncomputable def k97 : Kon (Int) := ⟨fun _ => True, fun x => [.int .i64 x], fun x => .bool (isS x)⟩
theorem e97 (v : Int) (q0 : Id) (H0 : Heap) : k97.ora q0 ([.int .i64 v]) H0 = some (.bool (isS v), H0) := k97.eq (intInj) (v) trivial q0 H0
theorem ook97 : OraOK Tryz.prog (80 % 100000) k97.ora := k97.ok orders t1_ok (fun x hd => by simp [k97, PU]) (fun x hd => by simp [k97, PU]) (fun x hd => run97 x)

noncomputable def t2 : FT := upd (t1) 80 k97.ora
theorem t2_ok : FTOK Tryz.prog t2 := upd_ok2 (f := 80) (t1_ok) ook97

theorem run88 (a b : Int) : cwp t2 89 [] [.agg [.int .i64 a, .int .i64 b]] [] (fun r H => r = .bool (wholeS (a, b)) ∧ H = []) := by
  refine run_fn (fn := fn88) rfl rfl ?_
  simp only [fn88_body, c88, @use_all t2 80 k97.ora rfl, e97, D0, SP0, seval, -Int.reduceNatCast']
  repeat' ((first | refine rw1_nsplit (fun h => ?_) (fun h => ?_) | refine rw1_split (fun h => ?_) (fun h => ?_) | refine dw1_nsplit (fun h => ?_) (fun h => ?_) | refine dw1_split (fun h => ?_) (fun h => ?_) | refine cg2_nsplit (fun h => ?_) (fun h => ?_) | refine cg2_split (fun h => ?_) (fun h => ?_)) <;> simp only [D0, SP0, seval, -Int.reduceNatCast', h, @use_all t2 80 k97.ora rfl, e97])
  all_goals simp only [F1, SF0, SP0, seval, -Int.reduceNatCast', fn88_res, fn88_keep]
  all_goals simp [wholeS, *]
theorem run89 (a b c e : Int) : cwp t2 90 [] [.agg [.int .i64 a, .int .i64 b], .agg [.int .i64 c, .int .i64 e]] [] (fun r H => r = .bool (apartS (a, b) (c, e)) ∧ H = []) := by
  refine run_fn (fn := fn89) rfl rfl ?_
  simp only [fn89_body, c89, @use_all t2 127 k92.ora rfl, e92, D0, SP0, seval, -Int.reduceNatCast']
  repeat' ((first | refine rw1_nsplit (fun h => ?_) (fun h => ?_) | refine rw1_split (fun h => ?_) (fun h => ?_) | refine dw1_nsplit (fun h => ?_) (fun h => ?_) | refine dw1_split (fun h => ?_) (fun h => ?_) | refine cg2_nsplit (fun h => ?_) (fun h => ?_) | refine cg2_split (fun h => ?_) (fun h => ?_)) <;> simp only [D0, SP0, seval, -Int.reduceNatCast', h, @use_all t2 127 k92.ora rfl, e92])
  all_goals simp only [F1, SF0, SP0, seval, -Int.reduceNatCast', fn89_res, fn89_keep]
  all_goals simp [apartS, *]
noncomputable def k88 : Kon (Int × Int) := ⟨fun _ => True, fun x => [.agg [.int .i64 x.1, .int .i64 x.2]], fun x => .bool (wholeS (x.1, x.2))⟩
theorem e88 (a : Int) (b : Int) (q0 : Id) (H0 : Heap) : k88.ora q0 ([.agg [.int .i64 a, .int .i64 b]]) H0 = some (.bool (wholeS (a, b)), H0) := k88.eq (by dsimp only [k88]; rintro ⟨a, b⟩ ⟨c, d⟩ h; simpa using h) (a, b) trivial q0 H0
theorem ook88 : OraOK Tryz.prog (89 % 100000) k88.ora := k88.ok orders t2_ok (fun x hd => by simp [k88, PU]) (fun x hd => by simp [k88, PU]) (fun x hd => run88 x.1 x.2)

noncomputable def k89 : Kon (Int × Int × Int × Int) := ⟨fun _ => True, fun x => [.agg [.int .i64 x.1, .int .i64 x.2.1], .agg [.int .i64 x.2.2.1, .int .i64 x.2.2.2]], fun x => .bool (apartS (x.1, x.2.1) (x.2.2.1, x.2.2.2))⟩
theorem e89 (a : Int) (b : Int) (c : Int) (e : Int) (q0 : Id) (H0 : Heap) : k89.ora q0 ([.agg [.int .i64 a, .int .i64 b], .agg [.int .i64 c, .int .i64 e]]) H0 = some (.bool (apartS (a, b) (c, e)), H0) := k89.eq (by dsimp only [k89]; rintro ⟨a, b, c, d⟩ ⟨a', b', c', d'⟩ h; simp at h; simp [h]) (a, b, c, e) trivial q0 H0
theorem ook89 : OraOK Tryz.prog (90 % 100000) k89.ora := k89.ok orders t2_ok (fun x hd => by simp [k89, PU]) (fun x hd => by simp [k89, PU]) (fun x hd => run89 x.1 x.2.1 x.2.2.1 x.2.2.2)

noncomputable def t3 : FT := upd (upd (t2) 89 k88.ora) 90 k89.ora
theorem t3_ok : FTOK Tryz.prog t3 := upd_ok2 (f := 90) (upd_ok2 (f := 89) (t2_ok) ook88) ook89

end Go.Proofs.Abs

set_option maxRecDepth 100000
set_option maxHeartbeats 4000000
namespace Go.Proofs.Abs
open Go
theorem run56 (s : List (Int × Int)) (hs : s.length ≤ 9223372036854775807) : cwp t3 57 [] [eSet s] [] (fun r H => r = .bool (goodS s) ∧ H = []) := by
  refine run_fn (fn := fn56) rfl rfl ?_
  simp only [fn56_body, c56, eSet, D0, SP0, seval, -Int.reduceNatCast']
  refine lg_rule (fun j e H => e = [(0, eSet s), (2, .bool false), (5, eSet s), (6, .int .i64 s.length), (7, .int .i64 j)] ∧ H = [[]] ∧ j ≤ s.length ∧ ∀ i, i < j → okAt s i = true) s.length ?_ ?_
  · exact ⟨rfl, rfl, by simp, by simp⟩
  rintro j e H ⟨rfl, rfl, hj, hi⟩
  simp only [eSet, D0, SP0, seval, -Int.reduceNatCast']
  by_cases h : j < s.length
  · have h' : (j : Int) < (s.length : Int) := by omega
    have hg := map_get (f := fun x : Int × Int => [AV.int .i64 x.1, AV.int .i64 x.2]) h (0, 0)
    have hp := wrapp (j := j) (by omega)
    have step : okAt s j = true → ∀ i, i < j + 1 → okAt s i = true := fun h1 i h2 => by
      by_cases e : i = j
      · rw [e]; exact h1
      · exact hi i (by omega)
    have bad : okAt s j = false → goodS s = false := fun h1 => all_false h h1
    by_cases h0 : j = 0
    · have h0' : ¬ (j : Int) > 0 := by omega
      simp only [D0, SP0, seval, -Int.reduceNatCast', @use_all t3 89 k88.ora rfl, e88, @use_all t3 90 k89.ora rfl, e89, h', hg, decide_true, Int.natCast_nonneg, Int.toNat_natCast]
      repeat' ((first | refine rw1_nsplit (fun h => ?_) (fun h => ?_) | refine rw1_split (fun h => ?_) (fun h => ?_) | refine dw1_nsplit (fun h => ?_) (fun h => ?_) | refine dw1_split (fun h => ?_) (fun h => ?_) | refine cg2_nsplit (fun h => ?_) (fun h => ?_) | refine cg2_split (fun h => ?_) (fun h => ?_)) <;> simp only [D0, SP0, seval, -Int.reduceNatCast', h, @use_all t3 89 k88.ora rfl, e88, @use_all t3 90 k89.ora rfl, e89, hp, h0', decide_true, decide_false])
      all_goals simp only [F1, SF0, SP0, seval, -Int.reduceNatCast', fn56_res, fn56_keep]
      all_goals clear hg hp hi
      all_goals try clear hm hg1
      all_goals first | (rw [bad (by clear bad step; simp_all [okAt])]; done) | exact ⟨by omega, by omega, step (by clear bad step; simp_all [okAt])⟩
    · have h0' : (j : Int) > 0 := by omega
      have hm := wrapm (j := j) (by omega) (by omega)
      have hg1 := map_get (f := fun x : Int × Int => [AV.int .i64 x.1, AV.int .i64 x.2]) (show j - 1 < s.length by omega) (0, 0)
      simp only [D0, SP0, seval, -Int.reduceNatCast', @use_all t3 89 k88.ora rfl, e88, @use_all t3 90 k89.ora rfl, e89, h', hg, decide_true, Int.natCast_nonneg, Int.toNat_natCast]
      repeat' ((first | refine rw1_nsplit (fun h => ?_) (fun h => ?_) | refine rw1_split (fun h => ?_) (fun h => ?_) | refine dw1_nsplit (fun h => ?_) (fun h => ?_) | refine dw1_split (fun h => ?_) (fun h => ?_) | refine cg2_nsplit (fun h => ?_) (fun h => ?_) | refine cg2_split (fun h => ?_) (fun h => ?_)) <;> simp only [D0, SP0, seval, -Int.reduceNatCast', h, @use_all t3 89 k88.ora rfl, e88, @use_all t3 90 k89.ora rfl, e89, hp, hm, hg1, h0', decide_true, Int.natCast_nonneg, Int.toNat_natCast])
      all_goals simp only [F1, SF0, SP0, seval, -Int.reduceNatCast', fn56_res, fn56_keep]
      all_goals clear hg hp hi
      all_goals try clear hm hg1
      all_goals first | (rw [bad (by clear bad step; simp_all [okAt])]; done) | exact ⟨by omega, by omega, step (by clear bad step; simp_all [okAt])⟩
  · have h' : ¬ (j : Int) < (s.length : Int) := by omega
    simp only [D0, SP0, seval, -Int.reduceNatCast', h', decide_false]
    refine .inr ⟨by simp, ?_⟩
    simp only [F1, SF0, SP0, seval, -Int.reduceNatCast', fn56_res, fn56_keep]
    rw [show goodS s = true from all_true fun i hi' => hi i (by omega)]
theorem run57 (s : List (Int × Int)) (hs : s.length ≤ 9223372036854775807) : cwp t3 53 [] [eSet s] [] (fun r H => r = .bool (goodS s) ∧ H = []) := by
  refine run_fn (fn := fn57) rfl rfl ?_
  simp only [fn57_body, c57, eSet, D0, SP0, seval, -Int.reduceNatCast']
  refine lg_rule (fun j e H => e = [(0, eSet s), (2, .bool false), (3, .int .i64 j)] ∧ H = [[]] ∧ j ≤ s.length ∧ ∀ i, i < j → okAt s i = true) s.length ?_ ?_
  · exact ⟨rfl, rfl, by simp, by simp⟩
  rintro j e H ⟨rfl, rfl, hj, hi⟩
  simp only [eSet, D0, SP0, seval, -Int.reduceNatCast']
  by_cases h : j < s.length
  · have h' : (j : Int) < (s.length : Int) := by omega
    have hg := map_get (f := fun x : Int × Int => [AV.int .i64 x.1, AV.int .i64 x.2]) h (0, 0)
    have hp := wrapp (j := j) (by omega)
    have step : okAt s j = true → ∀ i, i < j + 1 → okAt s i = true := fun h1 i h2 => by
      by_cases e : i = j
      · rw [e]; exact h1
      · exact hi i (by omega)
    have bad : okAt s j = false → goodS s = false := fun h1 => all_false h h1
    by_cases h0 : j = 0
    · have h0' : ¬ (j : Int) > 0 := by omega
      simp only [D0, SP0, seval, -Int.reduceNatCast', @use_all t3 23 k66.ora rfl, e66, @use_all t3 85 k96.ora rfl, e96, h', hg, decide_true, Int.natCast_nonneg, Int.toNat_natCast]
      repeat' ((first | refine rw1_nsplit (fun h => ?_) (fun h => ?_) | refine rw1_split (fun h => ?_) (fun h => ?_) | refine dw1_nsplit (fun h => ?_) (fun h => ?_) | refine dw1_split (fun h => ?_) (fun h => ?_) | refine cg2_nsplit (fun h => ?_) (fun h => ?_) | refine cg2_split (fun h => ?_) (fun h => ?_)) <;> simp only [D0, SP0, seval, -Int.reduceNatCast', h, @use_all t3 23 k66.ora rfl, e66, @use_all t3 85 k96.ora rfl, e96, hg, hp, h0', decide_true, decide_false, Int.natCast_nonneg, Int.toNat_natCast])
      all_goals simp only [F1, SF0, SP0, seval, -Int.reduceNatCast', fn57_res, fn57_keep]
      all_goals clear hg hp hi
      all_goals try clear hm hg1
      all_goals first | (rw [bad (by clear bad step; simp_all [okAt, wholeS])]; done) | exact ⟨by omega, by omega, step (by clear bad step; simp_all [okAt, wholeS])⟩
    · have h0' : (j : Int) > 0 := by omega
      have hm := wrapm (j := j) (by omega) (by omega)
      have hg1 := map_get (f := fun x : Int × Int => [AV.int .i64 x.1, AV.int .i64 x.2]) (show j - 1 < s.length by omega) (0, 0)
      simp only [D0, SP0, seval, -Int.reduceNatCast', @use_all t3 23 k66.ora rfl, e66, @use_all t3 85 k96.ora rfl, e96, h', hg, decide_true, Int.natCast_nonneg, Int.toNat_natCast]
      repeat' ((first | refine rw1_nsplit (fun h => ?_) (fun h => ?_) | refine rw1_split (fun h => ?_) (fun h => ?_) | refine dw1_nsplit (fun h => ?_) (fun h => ?_) | refine dw1_split (fun h => ?_) (fun h => ?_) | refine cg2_nsplit (fun h => ?_) (fun h => ?_) | refine cg2_split (fun h => ?_) (fun h => ?_)) <;> simp only [D0, SP0, seval, -Int.reduceNatCast', h, @use_all t3 23 k66.ora rfl, e66, @use_all t3 85 k96.ora rfl, e96, hg, hp, hm, hg1, h0', decide_true, Int.natCast_nonneg, Int.toNat_natCast])
      all_goals simp only [F1, SF0, SP0, seval, -Int.reduceNatCast', fn57_res, fn57_keep]
      all_goals clear hg hp hi
      all_goals try clear hm hg1
      all_goals first | (rw [bad (by clear bad step; simp_all [okAt, wholeS, apartS]; try (intros; omega))]; done) | exact ⟨by omega, by omega, step (by clear bad step; simp_all [okAt, wholeS, apartS]; try (intros; omega))⟩
  · have h' : ¬ (j : Int) < (s.length : Int) := by omega
    simp only [D0, SP0, seval, -Int.reduceNatCast', h', decide_false]
    refine .inr ⟨by simp, ?_⟩
    simp only [F1, SF0, SP0, seval, -Int.reduceNatCast', fn57_res, fn57_keep]
    rw [show goodS s = true from all_true fun i hi' => hi i (by omega)]
theorem setInj : ∀ a b : List (Int × Int), [eSet a] = [eSet b] → a = b := by
  intro a b h
  simp only [List.cons.injEq, and_true] at h
  exact eSet_inj h
noncomputable def k56 : Kon ((List (Int × Int))) := ⟨fun x => x.length ≤ 9223372036854775807, fun x => [(AV.list 2 (List.map (fun x => [AV.int .i64 x.1, AV.int .i64 x.2]) (x)))], fun x => .bool (goodS x)⟩
theorem e56 (s : List (Int × Int)) (hd : s.length ≤ 9223372036854775807) (q0 : Id) (H0 : Heap) : k56.ora q0 ([(AV.list 2 (List.map (fun x => [AV.int .i64 x.1, AV.int .i64 x.2]) (s)))]) H0 = some (.bool (goodS s), H0) := k56.eq (setInj) (s) hd q0 H0
theorem ook56 : OraOK Tryz.prog (57 % 100000) k56.ora := k56.ok orders t3_ok (fun x hd => by simp [k56, PU]) (fun x hd => by simp [k56, PU]) (fun x hd => run56 x hd)

noncomputable def k57 : Kon ((List (Int × Int))) := ⟨fun x => x.length ≤ 9223372036854775807, fun x => [(AV.list 2 (List.map (fun x => [AV.int .i64 x.1, AV.int .i64 x.2]) (x)))], fun x => .bool (goodS x)⟩
theorem e57 (s : List (Int × Int)) (hd : s.length ≤ 9223372036854775807) (q0 : Id) (H0 : Heap) : k57.ora q0 ([(AV.list 2 (List.map (fun x => [AV.int .i64 x.1, AV.int .i64 x.2]) (s)))]) H0 = some (.bool (goodS s), H0) := k57.eq (setInj) (s) hd q0 H0
theorem ook57 : OraOK Tryz.prog (53 % 100000) k57.ora := k57.ok orders t3_ok (fun x hd => by simp [k57, PU]) (fun x hd => by simp [k57, PU]) (fun x hd => run57 x hd)

noncomputable def t4 : FT := upd (upd (t3) 57 k56.ora) 53 k57.ora
theorem t4_ok : FTOK Tryz.prog t4 := upd_ok2 (f := 53) (upd_ok2 (f := 57) (t3_ok) ook56) ook57

end Go.Proofs.Abs

set_option maxRecDepth 100000
set_option maxHeartbeats 4000000
namespace Go.Proofs.Abs
open Go
theorem run103 (k a b : Int) (c : List (Int × Int)) (z : ByteArray) : cwp t4 124 [] [AV.agg [AV.int .i64 k, AV.int .i64 a, AV.int .i64 b, (AV.list 2 (List.map (fun x => [AV.int .i64 x.1, AV.int .i64 x.2]) (c))), AV.str z]] [] (fun r H => r = .bool (bareN ⟨k, a, b, c, z⟩) ∧ H = []) := by
  refine run_fn (fn := fn103) rfl rfl ?_
  simp only [fn103_body, c103, eNd, eSet, D0, SP0, seval, -Int.reduceNatCast']
  repeat' ((first | refine rw1_nsplit (fun h => ?_) (fun h => ?_) | refine rw1_split (fun h => ?_) (fun h => ?_) | refine dw1_nsplit (fun h => ?_) (fun h => ?_) | refine dw1_split (fun h => ?_) (fun h => ?_) | refine cg2_nsplit (fun h => ?_) (fun h => ?_) | refine cg2_split (fun h => ?_) (fun h => ?_)) <;> simp only [D0, SP0, seval, -Int.reduceNatCast', h, List.length_map])
  all_goals simp only [F1, SF0, SP0, seval, -Int.reduceNatCast', fn103_res, fn103_keep]
  all_goals try simp only [decide_eq_true_eq, decide_eq_false_iff_not] at *
  all_goals try simp (disch := omega) only [wrap32, wrap64] at *
  all_goals try simp only [AV.tuple.injEq, AV.agg.injEq, List.cons.injEq, AV.int.injEq, AV.bool.injEq, and_true, true_and]
  all_goals (rw [Bool.eq_iff_iff]; simp at h; simp [bareN, h])

noncomputable def k103 : Kon (Int × Int × Int × (List (Int × Int)) × ByteArray) := ⟨fun _ => True, fun x => [AV.agg [AV.int .i64 x.1, AV.int .i64 x.2.1, AV.int .i64 x.2.2.1, (AV.list 2 (List.map (fun x => [AV.int .i64 x.1, AV.int .i64 x.2]) (x.2.2.2.1))), AV.str x.2.2.2.2]], fun x => .bool (bareN ⟨x.1, x.2.1, x.2.2.1, x.2.2.2.1, x.2.2.2.2⟩)⟩
theorem e103 (k : Int) (a : Int) (b : Int) (c : List (Int × Int)) (z : ByteArray) (q0 : Id) (H0 : Heap) : k103.ora q0 ([AV.agg [AV.int .i64 k, AV.int .i64 a, AV.int .i64 b, (AV.list 2 (List.map (fun x => [AV.int .i64 x.1, AV.int .i64 x.2]) (c))), AV.str z]]) H0 = some (.bool (bareN ⟨k, a, b, c, z⟩), H0) := k103.eq (ndInj5) (k, a, b, c, z) trivial q0 H0
theorem ook103 : OraOK Tryz.prog (124 % 100000) k103.ora := k103.ok orders t4_ok (fun x hd => by simp [k103, PU]) (fun x hd => by simp [k103, PU]) (fun x hd => run103 x.1 x.2.1 x.2.2.1 x.2.2.2.1 x.2.2.2.2)

noncomputable def t4b : FT := upd (t4) 124 k103.ora
theorem t4b_ok : FTOK Tryz.prog t4b := upd_ok2 (f := 124) (t4_ok) ook103

theorem run104 (k a b : Int) (c : List (Int × Int)) (z : ByteArray) (hs : c.length ≤ 9223372036854775807) : cwp t4b 125 [] [AV.agg [AV.int .i64 k, AV.int .i64 a, AV.int .i64 b, (AV.list 2 (List.map (fun x => [AV.int .i64 x.1, AV.int .i64 x.2]) (c))), AV.str z]] [] (fun r H => r = .bool (leafN ⟨k, a, b, c, z⟩) ∧ H = []) := by
  refine run_fn (fn := fn104) rfl rfl ?_
  simp only [fn104_body, c104, eNd, eSet, @use_all t4b 57 k56.ora rfl, e56, @use_all t4b 124 k103.ora rfl, e103, hs, D0, SP0, seval, -Int.reduceNatCast']
  repeat' ((first | refine rw1_nsplit (fun h => ?_) (fun h => ?_) | refine rw1_split (fun h => ?_) (fun h => ?_) | refine dw1_nsplit (fun h => ?_) (fun h => ?_) | refine dw1_split (fun h => ?_) (fun h => ?_) | refine cg2_nsplit (fun h => ?_) (fun h => ?_) | refine cg2_split (fun h => ?_) (fun h => ?_)) <;> simp only [D0, SP0, seval, -Int.reduceNatCast', h, @use_all t4b 57 k56.ora rfl, e56, @use_all t4b 124 k103.ora rfl, e103, hs])
  all_goals simp only [F1, SF0, SP0, seval, -Int.reduceNatCast', fn104_res, fn104_keep]
  all_goals simp_all [leafN]
noncomputable def k104 : Kon (Int × Int × Int × (List (Int × Int)) × ByteArray) := ⟨fun x => x.2.2.2.1.length ≤ 9223372036854775807, fun x => [AV.agg [AV.int .i64 x.1, AV.int .i64 x.2.1, AV.int .i64 x.2.2.1, (AV.list 2 (List.map (fun x => [AV.int .i64 x.1, AV.int .i64 x.2]) (x.2.2.2.1))), AV.str x.2.2.2.2]], fun x => .bool (leafN ⟨x.1, x.2.1, x.2.2.1, x.2.2.2.1, x.2.2.2.2⟩)⟩
theorem e104 (k : Int) (a : Int) (b : Int) (c : List (Int × Int)) (z : ByteArray) (hd : c.length ≤ 9223372036854775807) (q0 : Id) (H0 : Heap) : k104.ora q0 ([AV.agg [AV.int .i64 k, AV.int .i64 a, AV.int .i64 b, (AV.list 2 (List.map (fun x => [AV.int .i64 x.1, AV.int .i64 x.2]) (c))), AV.str z]]) H0 = some (.bool (leafN ⟨k, a, b, c, z⟩), H0) := k104.eq (ndInj5) (k, a, b, c, z) hd q0 H0
theorem ook104 : OraOK Tryz.prog (125 % 100000) k104.ora := k104.ok orders t4b_ok (fun x hd => by simp [k104, PU]) (fun x hd => by simp [k104, PU]) (fun x hd => run104 x.1 x.2.1 x.2.2.1 x.2.2.2.1 x.2.2.2.2 hd)

noncomputable def t5 : FT := upd (t4b) 125 k104.ora
theorem t5_ok : FTOK Tryz.prog t5 := upd_ok2 (f := 125) (t4b_ok) ook104

end Go.Proofs.Abs

set_option maxRecDepth 100000
set_option maxHeartbeats 4000000
namespace Go.Proofs.Abs
open Go
def begL (t : List Nd) : List Nat := (begs t).getD []
def begB (t : List Nd) : Bool := (begs t).isSome
theorem begL_some {t : List Nd} {l : List Nat} (h : begs t = some l) : begL t = l := by simp [begL, h]
theorem begB_some {t : List Nd} {l : List Nat} (h : begs t = some l) : begB t = true := by simp [begB, h]
theorem begL_none {t : List Nd} (h : begs t = none) : begL t = [] := by simp [begL, h]
theorem begB_none {t : List Nd} (h : begs t = none) : begB t = false := by simp [begB, h]
theorem drop_cons {t : List Nd} {j : Nat} (h : j < t.length) : t.drop j = t.getD j default :: t.drop (j + 1) := by
  rw [List.drop_eq_getElem_cons h, List.getD_eq_getElem?_getD, List.getElem?_eq_getElem h]
  rfl
theorem pad_set {out : List Nat} {n j : Nat} (v : Nat) (ho : out.length = j) (h : j < n) : (out ++ List.replicate (n - j) 0).set j v = (out ++ [v]) ++ List.replicate (n - (j + 1)) 0 := by
  subst ho
  rw [List.set_append, if_neg (by omega), Nat.sub_self, List.append_assoc]
  have : n - out.length = (n - (out.length + 1)) + 1 := by omega
  rw [this, List.replicate_succ, List.set_cons_zero]
  rfl
theorem pad_get {out m : List Nat} {i : Nat} (h : i < out.length) : (out ++ m).getD i 0 = out.getD i 0 := by
  rw [List.getD_eq_getElem?_getD, List.getD_eq_getElem?_getD, List.getElem?_append_left h]
theorem app_le {out : List Nat} {j v : Nat} (ho : out.length = j) (hle : ∀ i, i < j → out.getD i 0 ≤ i) (hv : v ≤ j) : ∀ i, i < j + 1 → (out ++ [v]).getD i 0 ≤ i := by
  intro i hi
  by_cases e : i = j
  · subst e
    subst ho
    rw [List.getD_eq_getElem?_getD, List.getElem?_append_right (Nat.le_refl _)]
    simpa using hv
  · rw [pad_get (by omega)]
    exact hle i (by omega)
theorem run71 (t : List Nd) (hw : WfT t) (hl : t.length ≤ 40000) : cwp t5 87 [] [eTree t] [] (fun r H => r = .tuple [.list 1 (eNats (begL t)), .bool (begB t)] ∧ H = []) := by
  refine run_fn (fn := fn71) rfl rfl ?_
  have hb : 0 ≤ (t.length : Int) ∧ (t.length : Int) * ((8 : Nat) : Int) ≤ 140737488355328 := by omega
  simp only [fn71_body, c71, eTree, eSet, D0, SP0, seval, -Int.reduceNatCast', hb, Int.toNat_natCast, eNats_rep]
  refine lg_rule (fun j e H => ∃ out : List Nat, out.length = j ∧ begsFrom out (t.drop j) = begs t ∧ (∀ i, i < j → out.getD i 0 ≤ i) ∧
    e = [(0, eTree t), (2, .own [0] 0), (3, .bool false), (4, .own [4] t.length), (10, eTree t), (11, .int .i64 t.length), (12, .int .i64 j)] ∧
    H = [[([4], .row true true 3 1 (eNats (out ++ List.replicate (t.length - j) 0))), ([0], .row true true 3 1 [])]] ∧ j ≤ t.length) t.length ?_ ?_
  · exact ⟨[], rfl, rfl, by simp, rfl, rfl, by simp⟩
  rintro j e H ⟨out, ho, hbf, hle, rfl, rfl, hj⟩
  simp only [eTree, D0, SP0, seval, -Int.reduceNatCast']
  by_cases h : j < t.length
  · have h' : (j : Int) < (t.length : Int) := by omega
    have hg := map_get (f := eNd) h default
    have hp := wrapp (j := j) (by omega)
    have hwn : WfN (t.getD j default) := hw.all _ (by
      rw [List.getD_eq_getElem?_getD, List.getElem?_eq_getElem h]
      exact List.getElem_mem h)
    rw [drop_cons h] at hbf
    generalize t.getD j default = n at hg hwn hbf
    have hlen : (out ++ List.replicate (t.length - j) 0).length = t.length := by simp; omega
    have hsl := hwn.set.len
    have bad : stepB out n = none → begs t = none := fun h1 => by rw [← hbf, begsFrom, h1]
    have good : ∀ v, stepB out n = some v → begsFrom (out ++ [v]) (t.drop (j + 1)) = begs t := fun v h1 => by rw [← hbf, begsFrom, h1]
    have hjl : ((j : Int) < (t.length : Int)) := by omega
    have hgj := eNats_get (l := out ++ List.replicate (t.length - j) 0) (i := j) (by omega)
    have hsv := fun v => pad_set (n := t.length) v ho h
    obtain ⟨k, a, b, c, z⟩ := n
    simp only at hsl hwn
    have hbr : bareN ⟨k, a, b, c, z⟩ = bareN ⟨0, 0, 0, c, z⟩ := rfl
    by_cases hf : isFork ⟨k, a, b, c, z⟩ = true
    · have hk : k = 3 ∨ k = 4 := by simpa [isFork] using hf
      by_cases h2 : j < 2
      · have h2' : (j : Int) < 2 := by omega
        have hs : stepB out ⟨k, a, b, c, z⟩ = none := by
          unfold stepB
          rw [if_pos hf, if_neg (by omega)]
        have hb0 := bad hs
        clear hbf good bad hs
        rcases hk with hk | hk <;> simp only [D0, SP0, seval, -Int.reduceNatCast', h', hg, eNd, eSet, decide_true, Int.natCast_nonneg, Int.toNat_natCast, hk, h2']
        all_goals simp only [F1, SF0, SP0, seval, -Int.reduceNatCast', fn71_res, fn71_keep, fz, fzd, fzd.fzcells, begL_none hb0, begB_none hb0, eNats_nil]
      · have h2' : ¬ (j : Int) < 2 := by omega
        have hm := wrapm (j := j) (by omega) (by omega)
        by_cases h3 : b = ((j - 1 : Nat) : Int)
        · have hgb := eNats_get (l := out ++ List.replicate (t.length - j) 0) (i := j - 1) (by omega)
          rw [pad_get (by omega)] at hgb
          have hbl : ((j - 1 : Nat) : Int) < (t.length : Int) := by omega
          have hle1 := hle (j - 1) (by omega)
          have hw1 : IntKind.i64.wrap (((out.getD (j - 1) 0 : Nat) : Int) - 1) = ((out.getD (j - 1) 0 : Nat) : Int) - 1 := wrap64 (by omega) (by omega)
          by_cases h4 : a = ((out.getD (j - 1) 0 : Nat) : Int) - 1
          · by_cases h5 : 1 ≤ out.getD (j - 1) 0
            · obtain ⟨o, ho2⟩ : ∃ o : Nat, out.getD (j - 1) 0 = o + 1 := ⟨out.getD (j - 1) 0 - 1, by omega⟩
              rw [ho2] at hgb hw1 h4 hle1
              have ha : a = (o : Int) := by omega
              have hw2 : IntKind.i64.wrap (((o + 1 : Nat) : Int) - 1) = (o : Int) := by rw [hw1]; omega
              have hnn : ¬ (o : Int) < 0 := by omega
              have hol : (o : Int) < (t.length : Int) := by omega
              have hga := eNats_get (l := out ++ List.replicate (t.length - j) 0) (i := o) (by omega)
              rw [pad_get (by omega)] at hga
              have hoo := hle o (by omega)
              by_cases h6 : bareN ⟨0, 0, 0, c, z⟩ = true
              · have h6s : ∀ k a b, bareN ⟨k, a, b, c, z⟩ = true := fun _ _ _ => h6
                have hs : stepB out ⟨k, a, b, c, z⟩ = some (out.getD o 0) := by
                  unfold stepB
                  rw [if_pos hf, if_pos ⟨by omega, by simp only; omega, by rw [ho, ho2]; omega, by simp only; rw [ho, ho2]; omega, hbr ▸ h6⟩]
                  simp only [ha, Int.toNat_natCast]
                have hgood := good _ hs
                clear hbf good bad hs
                rcases hk with hk | hk <;> simp only [D0, SP0, seval, -Int.reduceNatCast', @use_all t5 124 k103.ora rfl, e103, h', hg, eNd, eSet, decide_true, Int.natCast_nonneg, Int.toNat_natCast, hk, h2', h3, hm, hgb, hlen, hbl, hw2, hnn, ha, hga, hol, hgj, h6s, decide_false, eNats_set, hsv, hp]
                all_goals simp only [F1, SF0, SP0, seval, -Int.reduceNatCast', eNats_set, hsv]
                all_goals exact ⟨h, out ++ [out.getD o 0], by simp [ho], hgood, app_le ho hle (by omega), rfl, h⟩
              · have h6' : bareN ⟨0, 0, 0, c, z⟩ = false := by simpa using h6
                have h6s : ∀ k a b, bareN ⟨k, a, b, c, z⟩ = false := fun _ _ _ => h6'
                have hs : stepB out ⟨k, a, b, c, z⟩ = none := by
                  unfold stepB
                  rw [if_pos hf, if_neg (by rintro ⟨_, _, _, _, h7⟩; exact h6 (hbr ▸ h7))]
                have hb0 := bad hs
                clear hbf good bad hs
                rcases hk with hk | hk <;> simp only [D0, SP0, seval, -Int.reduceNatCast', @use_all t5 124 k103.ora rfl, e103, h', hg, eNd, eSet, decide_true, Int.natCast_nonneg, Int.toNat_natCast, hk, h2', h3, hm, hgb, hlen, hbl, hw2, hnn, ha, hga, hol, hgj, h6s, decide_false]
                all_goals simp only [F1, SF0, SP0, seval, -Int.reduceNatCast', fn71_res, fn71_keep, fz, fzd, fzd.fzcells, begL_none hb0, begB_none hb0, eNats_nil]
            · have ho2 : out.getD (j - 1) 0 = 0 := by omega
              have ha : a = -1 := by omega
              have hw2 : IntKind.i64.wrap (((out.getD (j - 1) 0 : Nat) : Int) - 1) = -1 := by rw [hw1]; omega
              have hs : stepB out ⟨k, a, b, c, z⟩ = none := by
                unfold stepB
                rw [if_pos hf, if_neg (by rintro ⟨_, _, h7, _, _⟩; rw [ho] at h7; omega)]
              have hb0 := bad hs
              clear hbf good bad hs
              rcases hk with hk | hk <;> simp only [D0, SP0, seval, -Int.reduceNatCast', @use_all t5 124 k103.ora rfl, e103, h', hg, eNd, eSet, decide_true, Int.natCast_nonneg, Int.toNat_natCast, hk, h2', h3, hm, hgb, hlen, hbl, hw2, ha, decide_false]
              all_goals simp only [F1, SF0, SP0, seval, -Int.reduceNatCast', fn71_res, fn71_keep, fz, fzd, fzd.fzcells, begL_none hb0, begB_none hb0, eNats_nil]
          · have h4' : (a != ((out.getD (j - 1) 0 : Nat) : Int) - 1) = true := by simpa using h4
            have hs : stepB out ⟨k, a, b, c, z⟩ = none := by
              unfold stepB
              rw [if_pos hf, if_neg (by rintro ⟨_, _, _, h7, _⟩; rw [ho] at h7; simp only at h7; omega)]
            have hb0 := bad hs
            clear hbf good bad hs
            rcases hk with hk | hk <;> simp only [D0, SP0, seval, -Int.reduceNatCast', @use_all t5 124 k103.ora rfl, e103, h', hg, eNd, eSet, decide_true, Int.natCast_nonneg, Int.toNat_natCast, hk, h2', h3, hm, hgb, hlen, hbl, hw1, h4', decide_false]
            all_goals simp only [F1, SF0, SP0, seval, -Int.reduceNatCast', fn71_res, fn71_keep, fz, fzd, fzd.fzcells, begL_none hb0, begB_none hb0, eNats_nil]
        · have h3' : (b != ((j - 1 : Nat) : Int)) = true := by simpa using h3
          have hs : stepB out ⟨k, a, b, c, z⟩ = none := by
            unfold stepB
            rw [if_pos hf, if_neg (by rintro ⟨_, h7, _⟩; simp only at h7; omega)]
          have hb0 := bad hs
          clear hbf good bad hs
          rcases hk with hk | hk <;> simp only [D0, SP0, seval, -Int.reduceNatCast', @use_all t5 124 k103.ora rfl, e103, h', hg, eNd, eSet, decide_true, Int.natCast_nonneg, Int.toNat_natCast, hk, h2', h3', hm, decide_false]
          all_goals simp only [F1, SF0, SP0, seval, -Int.reduceNatCast', fn71_res, fn71_keep, fz, fzd, fzd.fzcells, begL_none hb0, begB_none hb0, eNats_nil]
    · have hf' : isFork ⟨k, a, b, c, z⟩ = false := by simpa using hf
      have hk3 : (k == 3) = false := by simp [isFork] at hf; simp [hf]
      have hk4 : (k == 4) = false := by simp [isFork] at hf; simp [hf]
      by_cases hk : k = 5
      · have r34 : ((5 : Int) == 3) = false ∧ ((5 : Int) == 4) = false := by decide
        by_cases h1 : j < 1
        · have h1' : (j : Int) < 1 := by omega
          have hs : stepB out ⟨k, a, b, c, z⟩ = none := by
            unfold stepB
            rw [if_neg hf, if_pos hk, if_neg (by omega)]
          have hb0 := bad hs
          clear hbf good bad hs
          simp only [D0, SP0, seval, -Int.reduceNatCast', @use_all t5 124 k103.ora rfl, e103, h', hg, eNd, eSet, decide_true, Int.natCast_nonneg, Int.toNat_natCast, hk, h1', decide_false]
          simp only [F1, SF0, SP0, seval, -Int.reduceNatCast', fn71_res, fn71_keep, fz, fzd, fzd.fzcells, begL_none hb0, begB_none hb0, eNats_nil]
        · have h1' : ¬ (j : Int) < 1 := by omega
          have hm := wrapm (j := j) (by omega) (by omega)
          by_cases h3 : a = ((j - 1 : Nat) : Int)
          · by_cases h4 : b = 0
            · have hgb := eNats_get (l := out ++ List.replicate (t.length - j) 0) (i := j - 1) (by omega)
              rw [pad_get (by omega)] at hgb
              have hbl : ((j - 1 : Nat) : Int) < (t.length : Int) := by omega
              have hle1 := hle (j - 1) (by omega)
              by_cases h6 : bareN ⟨0, 0, 0, c, z⟩ = true
              · have h6s : ∀ k a b, bareN ⟨k, a, b, c, z⟩ = true := fun _ _ _ => h6
                have hs : stepB out ⟨k, a, b, c, z⟩ = some (out.getD (j - 1) 0) := by
                  unfold stepB
                  rw [if_neg hf, if_pos hk, if_pos ⟨by omega, by simp only; omega, h4, hbr ▸ h6⟩]
                  simp only [h3, Int.toNat_natCast]
                have hgood := good _ hs
                clear hbf good bad hs
                simp only [D0, SP0, seval, -Int.reduceNatCast', @use_all t5 124 k103.ora rfl, e103, h', hg, eNd, eSet, decide_true, Int.natCast_nonneg, Int.toNat_natCast, hk, h1', h3, h4, hm, hgb, hlen, hbl, hgj, hjl, h6s, decide_false, eNats_set, hsv, hp]
                simp only [F1, SF0, SP0, seval, -Int.reduceNatCast', eNats_set, hsv]
                exact ⟨h, out ++ [out.getD (j - 1) 0], by simp [ho], hgood, app_le ho hle (by omega), rfl, h⟩
              · have h6' : bareN ⟨0, 0, 0, c, z⟩ = false := by simpa using h6
                have h6s : ∀ k a b, bareN ⟨k, a, b, c, z⟩ = false := fun _ _ _ => h6'
                have hs : stepB out ⟨k, a, b, c, z⟩ = none := by
                  unfold stepB
                  rw [if_neg hf, if_pos hk, if_neg (by rintro ⟨_, _, _, h7⟩; exact h6 (hbr ▸ h7))]
                have hb0 := bad hs
                clear hbf good bad hs
                simp only [D0, SP0, seval, -Int.reduceNatCast', @use_all t5 124 k103.ora rfl, e103, h', hg, eNd, eSet, decide_true, Int.natCast_nonneg, Int.toNat_natCast, hk, h1', h3, h4, hm, hgb, hlen, hbl, hgj, h6s, decide_false]
                simp only [F1, SF0, SP0, seval, -Int.reduceNatCast', fn71_res, fn71_keep, fz, fzd, fzd.fzcells, begL_none hb0, begB_none hb0, eNats_nil]
            · have h4' : (b != 0) = true := by simpa using h4
              have hs : stepB out ⟨k, a, b, c, z⟩ = none := by
                unfold stepB
                rw [if_neg hf, if_pos hk, if_neg (by rintro ⟨_, _, h7, _⟩; exact h4 h7)]
              have hb0 := bad hs
              clear hbf good bad hs
              simp only [D0, SP0, seval, -Int.reduceNatCast', @use_all t5 124 k103.ora rfl, e103, h', hg, eNd, eSet, decide_true, Int.natCast_nonneg, Int.toNat_natCast, hk, h1', h3, h4', hm, decide_false]
              simp only [F1, SF0, SP0, seval, -Int.reduceNatCast', fn71_res, fn71_keep, fz, fzd, fzd.fzcells, begL_none hb0, begB_none hb0, eNats_nil]
          · have h3' : (a != ((j - 1 : Nat) : Int)) = true := by simpa using h3
            have hs : stepB out ⟨k, a, b, c, z⟩ = none := by
              unfold stepB
              rw [if_neg hf, if_pos hk, if_neg (by rintro ⟨_, h7, _⟩; simp only at h7; omega)]
            have hb0 := bad hs
            clear hbf good bad hs
            simp only [D0, SP0, seval, -Int.reduceNatCast', @use_all t5 124 k103.ora rfl, e103, h', hg, eNd, eSet, decide_true, Int.natCast_nonneg, Int.toNat_natCast, hk, h1', h3', hm, decide_false]
            simp only [F1, SF0, SP0, seval, -Int.reduceNatCast', fn71_res, fn71_keep, fz, fzd, fzd.fzcells, begL_none hb0, begB_none hb0, eNats_nil]
      · have hk5 : (k == 5) = false := by simpa using hk
        by_cases h6 : leafN ⟨k, a, b, c, z⟩ = true
        · have hs : stepB out ⟨k, a, b, c, z⟩ = some j := by
            unfold stepB
            rw [if_neg hf, if_neg hk, if_pos h6, ho]
          have hgood := good _ hs
          clear hbf good bad hs
          simp only [D0, SP0, seval, -Int.reduceNatCast', @use_all t5 125 k104.ora rfl, e104, h', hg, eNd, eSet, decide_true, Int.natCast_nonneg, Int.toNat_natCast, hk3, hk4, hk5, hsl, hgj, hlen, h6, decide_false, eNats_set, hsv, hp]
          simp only [F1, SF0, SP0, seval, -Int.reduceNatCast', eNats_set, hsv]
          exact ⟨h, out ++ [j], by simp [ho], hgood, app_le ho hle (by omega), rfl, h⟩
        · have h6' : leafN ⟨k, a, b, c, z⟩ = false := by simpa using h6
          have hs : stepB out ⟨k, a, b, c, z⟩ = none := by
            unfold stepB
            rw [if_neg hf, if_neg hk, if_neg h6]
          have hb0 := bad hs
          clear hbf good bad hs
          simp only [D0, SP0, seval, -Int.reduceNatCast', @use_all t5 125 k104.ora rfl, e104, h', hg, eNd, eSet, decide_true, Int.natCast_nonneg, Int.toNat_natCast, hk3, hk4, hk5, hsl, h6', decide_false]
          simp only [F1, SF0, SP0, seval, -Int.reduceNatCast', fn71_res, fn71_keep, fz, fzd, fzd.fzcells, begL_none hb0, begB_none hb0, eNats_nil]
  · have h' : ¬ (j : Int) < (t.length : Int) := by omega
    have hj2 : j = t.length := by omega
    subst hj2
    simp only [List.drop_length, begsFrom] at hbf
    simp only [D0, SP0, seval, -Int.reduceNatCast', h', decide_false]
    refine .inr ⟨by simp, ?_⟩
    simp only [F1, SF0, SP0, seval, -Int.reduceNatCast', fn71_res, fn71_keep, fz, fzd, fzd.fzcells, eNats_len, Nat.sub_self, List.replicate_zero, ho, begL_some hbf.symm, begB_some hbf.symm]
end Go.Proofs.Abs

set_option maxRecDepth 100000
set_option maxHeartbeats 4000000
namespace Go.Proofs.Abs
open Go
theorem run36 (t : List Nd) (hw : WfT t) (hl : t.length ≤ 40000) : cwp t5 82 [] [eTree t] [] (fun r H => r = .list 1 (eNats (begL t)) ∧ H = []) := by
  refine run_fn (fn := fn36) rfl rfl ?_
  simp only [fn36_body, c36, eTree, eSet, D0, SP0, seval, -Int.reduceNatCast']
  refine lg_rule (fun j e H => ∃ out : List Nat, out.length = j ∧ begsFrom out (t.drop j) = begs t ∧ (∀ i, i < j → out.getD i 0 ≤ i) ∧
    e = [(0, eTree t), (2, .own [0] 0), (3, .own [1] j), (4, .int .i64 j)] ∧
    H = [[([1], .row true true 3 1 (eNats out)), ([0], .row true true 3 1 [])]] ∧ j ≤ t.length) t.length ?_ ?_
  · exact ⟨[], rfl, rfl, by simp, rfl, rfl, by simp⟩
  rintro j e H ⟨out, ho, hbf, hle, rfl, rfl, hj⟩
  simp only [eTree, D0, SP0, seval, -Int.reduceNatCast']
  by_cases h : j < t.length
  · have h' : (j : Int) < (t.length : Int) := by omega
    have hg := map_get (f := eNd) h default
    have hp := wrapp (j := j) (by omega)
    have hcap : (j + 1) * 8 ≤ 140737488355328 := by omega
    have hwn : WfN (t.getD j default) := hw.all _ (by
      rw [List.getD_eq_getElem?_getD, List.getElem?_eq_getElem h]
      exact List.getElem_mem h)
    rw [drop_cons h] at hbf
    generalize t.getD j default = n at hg hwn hbf
    have hsl := hwn.set.len
    have bad : stepB out n = none → begs t = none := fun h1 => by rw [← hbf, begsFrom, h1]
    have good : ∀ v, stepB out n = some v → begsFrom (out ++ [v]) (t.drop (j + 1)) = begs t := fun v h1 => by rw [← hbf, begsFrom, h1]
    obtain ⟨k, a, b, c, z⟩ := n
    simp only at hsl hwn
    by_cases hk2 : k = 2
    · have hf : ¬ isFork ⟨k, a, b, c, z⟩ = true := by simp [isFork, hk2]
      have hk5 : ¬ k = 5 := by omega
      by_cases ha : a = 0
      · by_cases hb : b = 0
        · by_cases hc : c.length = 0
          · have hc' : ((c.length : Int) == 0) = true := by simp [hc]
            have hs : stepB out ⟨k, a, b, c, z⟩ = none := by
              unfold stepB
              rw [if_neg hf, if_neg hk5, if_neg (by simp [leafN, hk2, hc])]
            have hb0 := bad hs
            clear hbf good bad hs
            simp only [D0, SP0, seval, -Int.reduceNatCast', @use_all t5 53 k57.ora rfl, e57, h', hg, eNd, eSet, decide_true, decide_false, Int.natCast_nonneg, Int.toNat_natCast, hk2, ha, hb, hc']
            all_goals simp only [F1, SF0, SP0, seval, -Int.reduceNatCast', fn36_res, fn36_keep, fz, fzd, fzd.fzcells, begL_none hb0, eNats_nil]
          · have hc' : ((c.length : Int) == 0) = false := by simp only [beq_eq_false_iff_ne]; omega
            by_cases hgo : goodS c = true
            · have hs : stepB out ⟨k, a, b, c, z⟩ = some (j) := by
                unfold stepB
                rw [if_neg hf, if_neg hk5, if_pos (by simp [leafN, hk2, ha, hb, hgo]; omega), ho]
              have hgood := good _ hs
              clear hbf good bad hs
              simp only [D0, SP0, seval, -Int.reduceNatCast', @use_all t5 53 k57.ora rfl, e57, h', hg, eNd, eSet, decide_true, decide_false, Int.natCast_nonneg, Int.toNat_natCast, hk2, ha, hb, hc', hsl, hgo, hp, ho, hcap]
              all_goals simp only [F1, SF0, SP0, seval, -Int.reduceNatCast']
              all_goals exact ⟨h, out ++ [j], by simp [ho], hgood, app_le ho hle (by omega), rfl, h⟩
            · have hgo' : goodS c = false := by simpa using hgo
              have hs : stepB out ⟨k, a, b, c, z⟩ = none := by
                unfold stepB
                rw [if_neg hf, if_neg hk5, if_neg (by simp [leafN, hk2, hgo'])]
              have hb0 := bad hs
              clear hbf good bad hs
              simp only [D0, SP0, seval, -Int.reduceNatCast', @use_all t5 53 k57.ora rfl, e57, h', hg, eNd, eSet, decide_true, decide_false, Int.natCast_nonneg, Int.toNat_natCast, hk2, ha, hb, hc', hsl, hgo']
              all_goals simp only [F1, SF0, SP0, seval, -Int.reduceNatCast', fn36_res, fn36_keep, fz, fzd, fzd.fzcells, begL_none hb0, eNats_nil]
        · have hb' : (b != 0) = true := by simpa using hb
          have hs : stepB out ⟨k, a, b, c, z⟩ = none := by
            unfold stepB
            rw [if_neg hf, if_neg hk5, if_neg (by simp [leafN, hb])]
          have hb0 := bad hs
          clear hbf good bad hs
          simp only [D0, SP0, seval, -Int.reduceNatCast', @use_all t5 53 k57.ora rfl, e57, h', hg, eNd, eSet, decide_true, decide_false, Int.natCast_nonneg, Int.toNat_natCast, hk2, ha, hb']
          all_goals simp only [F1, SF0, SP0, seval, -Int.reduceNatCast', fn36_res, fn36_keep, fz, fzd, fzd.fzcells, begL_none hb0, eNats_nil]
      · have ha' : (a != 0) = true := by simpa using ha
        have hs : stepB out ⟨k, a, b, c, z⟩ = none := by
          unfold stepB
          rw [if_neg hf, if_neg hk5, if_neg (by simp [leafN, ha])]
        have hb0 := bad hs
        clear hbf good bad hs
        simp only [D0, SP0, seval, -Int.reduceNatCast', @use_all t5 53 k57.ora rfl, e57, h', hg, eNd, eSet, decide_true, decide_false, Int.natCast_nonneg, Int.toNat_natCast, hk2, ha']
        all_goals simp only [F1, SF0, SP0, seval, -Int.reduceNatCast', fn36_res, fn36_keep, fz, fzd, fzd.fzcells, begL_none hb0, eNats_nil]
    · have hk2' : (k != 2) = true := by simpa using hk2
      by_cases hc : c.length = 0
      · have hc' : ¬ (c.length : Int) > 0 := by omega
        by_cases hz : z.size = 0
        · have hbr : ∀ k a b, bareN ⟨k, a, b, c, z⟩ = true := fun _ _ _ => by simp [bareN, hc, hz]
          by_cases hk01 : k = 0 ∨ k = 1
          · have hf : ¬ isFork ⟨k, a, b, c, z⟩ = true := by rcases hk01 with rfl | rfl <;> simp [isFork]
            have hk5 : ¬ k = 5 := by omega
            by_cases ha : a = 0
            · by_cases hb : b = 0
              · have hs : stepB out ⟨k, a, b, c, z⟩ = some (j) := by
                  unfold stepB
                  rw [if_neg hf, if_neg hk5, if_pos (by rcases hk01 with rfl | rfl <;> simp [leafN, ha, hb, hbr]), ho]
                have hgood := good _ hs
                clear hbf good bad hs
                rcases hk01 with hk | hk <;> simp only [D0, SP0, seval, -Int.reduceNatCast', @use_all t5 53 k57.ora rfl, e57, h', hg, eNd, eSet, decide_true, decide_false, Int.natCast_nonneg, Int.toNat_natCast, hk, hc', hz, ha, hb, hp, ho, hcap]
                all_goals simp only [F1, SF0, SP0, seval, -Int.reduceNatCast']
                all_goals exact ⟨h, out ++ [j], by simp [ho], hgood, app_le ho hle (by omega), rfl, h⟩
              · have hb' : (b != 0) = true := by simpa using hb
                have hs : stepB out ⟨k, a, b, c, z⟩ = none := by
                  unfold stepB
                  rw [if_neg hf, if_neg hk5, if_neg (by simp [leafN, hb])]
                have hb0 := bad hs
                clear hbf good bad hs
                rcases hk01 with hk | hk <;> simp only [D0, SP0, seval, -Int.reduceNatCast', @use_all t5 53 k57.ora rfl, e57, h', hg, eNd, eSet, decide_true, decide_false, Int.natCast_nonneg, Int.toNat_natCast, hk, hc', hz, ha, hb']
                all_goals simp only [F1, SF0, SP0, seval, -Int.reduceNatCast', fn36_res, fn36_keep, fz, fzd, fzd.fzcells, begL_none hb0, eNats_nil]
            · have ha' : (a != 0) = true := by simpa using ha
              have hs : stepB out ⟨k, a, b, c, z⟩ = none := by
                unfold stepB
                rw [if_neg hf, if_neg hk5, if_neg (by simp [leafN, ha])]
              have hb0 := bad hs
              clear hbf good bad hs
              rcases hk01 with hk | hk <;> simp only [D0, SP0, seval, -Int.reduceNatCast', @use_all t5 53 k57.ora rfl, e57, h', hg, eNd, eSet, decide_true, decide_false, Int.natCast_nonneg, Int.toNat_natCast, hk, hc', hz, ha']
              all_goals simp only [F1, SF0, SP0, seval, -Int.reduceNatCast', fn36_res, fn36_keep, fz, fzd, fzd.fzcells, begL_none hb0, eNats_nil]
          · have hk0 : (k == 0) = false := by simp only [beq_eq_false_iff_ne]; omega
            have hk1 : (k == 1) = false := by simp only [beq_eq_false_iff_ne]; omega
            have hk2'' : (k == 2) = false := by simp only [beq_eq_false_iff_ne]; omega
            by_cases hk5 : k = 5
            · have hf : ¬ isFork ⟨k, a, b, c, z⟩ = true := by simp [isFork, hk5]
              by_cases h1 : j = 0
              · have h1' : ((j : Int) == 0) = true := by simp [h1]
                have hs : stepB out ⟨k, a, b, c, z⟩ = none := by
                  unfold stepB
                  rw [if_neg hf, if_pos hk5, if_neg (by omega)]
                have hb0 := bad hs
                clear hbf good bad hs
                simp only [D0, SP0, seval, -Int.reduceNatCast', @use_all t5 53 k57.ora rfl, e57, h', hg, eNd, eSet, decide_true, decide_false, Int.natCast_nonneg, Int.toNat_natCast, hk5, hc', hz, h1']
                all_goals simp only [F1, SF0, SP0, seval, -Int.reduceNatCast', fn36_res, fn36_keep, fz, fzd, fzd.fzcells, begL_none hb0, eNats_nil]
              · have h1' : ((j : Int) == 0) = false := by simp only [beq_eq_false_iff_ne]; omega
                have hm := wrapm (j := j) (by omega) (by omega)
                by_cases h3 : a = ((j - 1 : Nat) : Int)
                · by_cases h4 : b = 0
                  · have hgb := eNats_get (l := out) (i := j - 1) (by omega)
                    have hbl : ((j - 1 : Nat) : Int) < (j : Int) := by omega
                    have hle1 := hle (j - 1) (by omega)
                    have hs : stepB out ⟨k, a, b, c, z⟩ = some (out.getD (j - 1) 0) := by
                      unfold stepB
                      rw [if_neg hf, if_pos hk5, if_pos ⟨by omega, by simp only; omega, h4, hbr _ _ _⟩]
                      simp only [h3, Int.toNat_natCast]
                    have hgood := good _ hs
                    clear hbf good bad hs
                    simp only [D0, SP0, seval, -Int.reduceNatCast', @use_all t5 53 k57.ora rfl, e57, h', hg, eNd, eSet, decide_true, decide_false, Int.natCast_nonneg, Int.toNat_natCast, hk5, hc', hz, h1', h3, h4, hm, hgb, hbl, hp, ho, hcap]
                    all_goals simp only [F1, SF0, SP0, seval, -Int.reduceNatCast']
                    all_goals exact ⟨h, out ++ [out.getD (j - 1) 0], by simp [ho], hgood, app_le ho hle (by omega), rfl, h⟩
                  · have h4' : (b != 0) = true := by simpa using h4
                    have hs : stepB out ⟨k, a, b, c, z⟩ = none := by
                      unfold stepB
                      rw [if_neg hf, if_pos hk5, if_neg (by rintro ⟨_, _, h7, _⟩; exact h4 h7)]
                    have hb0 := bad hs
                    clear hbf good bad hs
                    simp only [D0, SP0, seval, -Int.reduceNatCast', @use_all t5 53 k57.ora rfl, e57, h', hg, eNd, eSet, decide_true, decide_false, Int.natCast_nonneg, Int.toNat_natCast, hk5, hc', hz, h1', h3, h4', hm]
                    all_goals simp only [F1, SF0, SP0, seval, -Int.reduceNatCast', fn36_res, fn36_keep, fz, fzd, fzd.fzcells, begL_none hb0, eNats_nil]
                · have h3' : (a != ((j - 1 : Nat) : Int)) = true := by simpa using h3
                  have hs : stepB out ⟨k, a, b, c, z⟩ = none := by
                    unfold stepB
                    rw [if_neg hf, if_pos hk5, if_neg (by rintro ⟨_, h7, _⟩; simp only at h7; omega)]
                  have hb0 := bad hs
                  clear hbf good bad hs
                  simp only [D0, SP0, seval, -Int.reduceNatCast', @use_all t5 53 k57.ora rfl, e57, h', hg, eNd, eSet, decide_true, decide_false, Int.natCast_nonneg, Int.toNat_natCast, hk5, hc', hz, h1', h3', hm]
                  all_goals simp only [F1, SF0, SP0, seval, -Int.reduceNatCast', fn36_res, fn36_keep, fz, fzd, fzd.fzcells, begL_none hb0, eNats_nil]
            · have hk5' : (k == 5) = false := by simpa using hk5
              by_cases hf : isFork ⟨k, a, b, c, z⟩ = true
              · have hk : k = 3 ∨ k = 4 := by simpa [isFork] using hf
                by_cases h2 : j < 2
                · have h2' : (j : Int) < 2 := by omega
                  have hs : stepB out ⟨k, a, b, c, z⟩ = none := by
                    unfold stepB
                    rw [if_pos hf, if_neg (by omega)]
                  have hb0 := bad hs
                  clear hbf good bad hs
                  rcases hk with hk | hk <;> simp only [D0, SP0, seval, -Int.reduceNatCast', @use_all t5 53 k57.ora rfl, e57, h', hg, eNd, eSet, decide_true, decide_false, Int.natCast_nonneg, Int.toNat_natCast, hk, hc', hz, h2']
                  all_goals simp only [F1, SF0, SP0, seval, -Int.reduceNatCast', fn36_res, fn36_keep, fz, fzd, fzd.fzcells, begL_none hb0, eNats_nil]
                · have h2' : ¬ (j : Int) < 2 := by omega
                  have hm := wrapm (j := j) (by omega) (by omega)
                  by_cases h3 : b = ((j - 1 : Nat) : Int)
                  · have hgb := eNats_get (l := out) (i := j - 1) (by omega)
                    have hbl : ((j - 1 : Nat) : Int) < (j : Int) := by omega
                    have hle1 := hle (j - 1) (by omega)
                    by_cases h5 : 1 ≤ out.getD (j - 1) 0
                    · obtain ⟨o, ho2⟩ : ∃ o : Nat, out.getD (j - 1) 0 = o + 1 := ⟨out.getD (j - 1) 0 - 1, by omega⟩
                      rw [ho2] at hgb hle1
                      have hw2 : IntKind.i64.wrap (((o + 1 : Nat) : Int) - 1) = (o : Int) := by
                        rw [wrap64 (by omega) (by omega)]; omega
                      have hnn : ¬ ((o + 1 : Nat) : Int) < 1 := by omega
                      by_cases h4 : a = (o : Int)
                      · have hol : (o : Int) < (j : Int) := by omega
                        have hga := eNats_get (l := out) (i := o) (by omega)
                        have hoo := hle o (by omega)
                        have hs : stepB out ⟨k, a, b, c, z⟩ = some (out.getD o 0) := by
                          unfold stepB
                          rw [if_pos hf, if_pos ⟨by omega, by simp only; omega, by rw [ho, ho2]; omega, by simp only; rw [ho, ho2]; omega, hbr _ _ _⟩]
                          simp only [h4, Int.toNat_natCast]
                        have hgood := good _ hs
                        clear hbf good bad hs
                        rcases hk with hk | hk <;> simp only [D0, SP0, seval, -Int.reduceNatCast', @use_all t5 53 k57.ora rfl, e57, h', hg, eNd, eSet, decide_true, decide_false, Int.natCast_nonneg, Int.toNat_natCast, hk, hc', hz, h2', h3, h4, hm, hgb, hbl, hw2, hnn, hol, hga, ho, hp, ho, hcap]
                        all_goals simp only [F1, SF0, SP0, seval, -Int.reduceNatCast']
                        all_goals exact ⟨h, out ++ [out.getD o 0], by simp [ho], hgood, app_le ho hle (by omega), rfl, h⟩
                      · have h4' : (a != (o : Int)) = true := by simpa using h4
                        have hs : stepB out ⟨k, a, b, c, z⟩ = none := by
                          unfold stepB
                          rw [if_pos hf, if_neg (by rintro ⟨_, _, _, h7, _⟩; rw [ho, ho2] at h7; simp only at h7; omega)]
                        have hb0 := bad hs
                        clear hbf good bad hs
                        rcases hk with hk | hk <;> simp only [D0, SP0, seval, -Int.reduceNatCast', @use_all t5 53 k57.ora rfl, e57, h', hg, eNd, eSet, decide_true, decide_false, Int.natCast_nonneg, Int.toNat_natCast, hk, hc', hz, h2', h3, h4', hm, hgb, hbl, hw2, hnn, ho]
                        all_goals simp only [F1, SF0, SP0, seval, -Int.reduceNatCast', fn36_res, fn36_keep, fz, fzd, fzd.fzcells, begL_none hb0, eNats_nil]
                    · have h5' : ((out.getD (j - 1) 0 : Nat) : Int) < 1 := by omega
                      have hs : stepB out ⟨k, a, b, c, z⟩ = none := by
                        unfold stepB
                        rw [if_pos hf, if_neg (by rintro ⟨_, _, h7, _, _⟩; rw [ho] at h7; omega)]
                      have hb0 := bad hs
                      clear hbf good bad hs
                      rcases hk with hk | hk <;> simp only [D0, SP0, seval, -Int.reduceNatCast', @use_all t5 53 k57.ora rfl, e57, h', hg, eNd, eSet, decide_true, decide_false, Int.natCast_nonneg, Int.toNat_natCast, hk, hc', hz, h2', h3, hm, hgb, hbl, h5', ho]
                      all_goals simp only [F1, SF0, SP0, seval, -Int.reduceNatCast', fn36_res, fn36_keep, fz, fzd, fzd.fzcells, begL_none hb0, eNats_nil]
                  · have h3' : (b != ((j - 1 : Nat) : Int)) = true := by simpa using h3
                    have hs : stepB out ⟨k, a, b, c, z⟩ = none := by
                      unfold stepB
                      rw [if_pos hf, if_neg (by rintro ⟨_, h7, _⟩; simp only at h7; omega)]
                    have hb0 := bad hs
                    clear hbf good bad hs
                    rcases hk with hk | hk <;> simp only [D0, SP0, seval, -Int.reduceNatCast', @use_all t5 53 k57.ora rfl, e57, h', hg, eNd, eSet, decide_true, decide_false, Int.natCast_nonneg, Int.toNat_natCast, hk, hc', hz, h2', h3', hm]
                    all_goals simp only [F1, SF0, SP0, seval, -Int.reduceNatCast', fn36_res, fn36_keep, fz, fzd, fzd.fzcells, begL_none hb0, eNats_nil]
              · have hk3 : (k == 3) = false := by simp [isFork] at hf; simp [hf]
                have hk4 : (k == 4) = false := by simp [isFork] at hf; simp [hf]
                have hs : stepB out ⟨k, a, b, c, z⟩ = none := by
                  unfold stepB
                  rw [if_neg hf, if_neg hk5, if_neg (by simp only [leafN, if_neg hk2]; simp; omega)]
                have hb0 := bad hs
                clear hbf good bad hs
                simp only [D0, SP0, seval, -Int.reduceNatCast', @use_all t5 53 k57.ora rfl, e57, h', hg, eNd, eSet, decide_true, decide_false, Int.natCast_nonneg, Int.toNat_natCast, hk2', hk0, hk1, hk2'', hk3, hk4, hk5', hc', hz]
                all_goals simp only [F1, SF0, SP0, seval, -Int.reduceNatCast', fn36_res, fn36_keep, fz, fzd, fzd.fzcells, begL_none hb0, eNats_nil]
        · have hz' : z.size ≠ 0 := hz
          have hs : stepB out ⟨k, a, b, c, z⟩ = none := by
            unfold stepB
            by_cases hf : isFork ⟨k, a, b, c, z⟩ = true
            · rw [if_pos hf, if_neg (by rintro ⟨_, _, _, _, h7⟩; simp [bareN, hz] at h7)]
            · rw [if_neg hf]
              by_cases hk5 : k = 5
              · rw [if_pos hk5, if_neg (by rintro ⟨_, _, _, h7⟩; simp [bareN, hz] at h7)]
              · rw [if_neg hk5, if_neg (by simp [leafN, hk2, bareN, hz])]
          have hb0 := bad hs
          clear hbf good bad hs
          simp only [D0, SP0, seval, -Int.reduceNatCast', @use_all t5 53 k57.ora rfl, e57, h', hg, eNd, eSet, decide_true, decide_false, Int.natCast_nonneg, Int.toNat_natCast, hk2', hc', hz]
          all_goals simp only [F1, SF0, SP0, seval, -Int.reduceNatCast', fn36_res, fn36_keep, fz, fzd, fzd.fzcells, begL_none hb0, eNats_nil]
      · have hc' : (c.length : Int) > 0 := by omega
        have hs : stepB out ⟨k, a, b, c, z⟩ = none := by
          unfold stepB
          by_cases hf : isFork ⟨k, a, b, c, z⟩ = true
          · rw [if_pos hf, if_neg (by rintro ⟨_, _, _, _, h7⟩; simp [bareN, hc] at h7)]
          · rw [if_neg hf]
            by_cases hk5 : k = 5
            · rw [if_pos hk5, if_neg (by rintro ⟨_, _, _, h7⟩; simp [bareN, hc] at h7)]
            · rw [if_neg hk5, if_neg (by simp [leafN, hk2, bareN, hc])]
        have hb0 := bad hs
        clear hbf good bad hs
        simp only [D0, SP0, seval, -Int.reduceNatCast', @use_all t5 53 k57.ora rfl, e57, h', hg, eNd, eSet, decide_true, decide_false, Int.natCast_nonneg, Int.toNat_natCast, hk2', hc']
        all_goals simp only [F1, SF0, SP0, seval, -Int.reduceNatCast', fn36_res, fn36_keep, fz, fzd, fzd.fzcells, begL_none hb0, eNats_nil]
  · have h' : ¬ (j : Int) < (t.length : Int) := by omega
    have hj2 : j = t.length := by omega
    subst hj2
    simp only [List.drop_length, begsFrom] at hbf
    simp only [D0, SP0, seval, -Int.reduceNatCast', h', decide_false]
    refine .inr ⟨by simp, ?_⟩
    simp only [F1, SF0, SP0, seval, -Int.reduceNatCast', fn36_res, fn36_keep, fz, fzd, fzd.fzcells, eNats_len, Nat.sub_self, List.replicate_zero, ho, begL_some hbf.symm, begB_some hbf.symm]
end Go.Proofs.Abs

set_option maxRecDepth 100000
set_option maxHeartbeats 4000000
namespace Go.Proofs.Abs
open Go
theorem treeInj : ∀ a b : List Nd, [AV.list 5 (List.map eNd a)] = [AV.list 5 (List.map eNd b)] → a = b := by
  intro a b h
  simp only [List.cons.injEq, and_true] at h
  exact eTree_inj h
noncomputable def k71 : Kon (List Nd) := ⟨fun x => WfT x ∧ x.length ≤ 40000, fun x => [(AV.list 5 (List.map eNd x))], fun x => .tuple [.list 1 (eNats (begL x)), .bool (begB x)]⟩
theorem e71 (t : List Nd) (hd : WfT t ∧ t.length ≤ 40000) (q0 : Id) (H0 : Heap) : k71.ora q0 ([(AV.list 5 (List.map eNd t))]) H0 = some (.tuple [.list 1 (eNats (begL t)), .bool (begB t)], H0) := k71.eq (treeInj) (t) hd q0 H0
theorem ook71 : OraOK Tryz.prog (87 % 100000) k71.ora := k71.ok orders t5_ok (fun x hd => by simp [k71, PU]) (fun x hd => by simp [k71, PU]) (fun x hd => run71 x hd.1 hd.2)

noncomputable def k36 : Kon (List Nd) := ⟨fun x => WfT x ∧ x.length ≤ 40000, fun x => [(AV.list 5 (List.map eNd x))], fun x => .list 1 (eNats (begL x))⟩
theorem e36 (t : List Nd) (hd : WfT t ∧ t.length ≤ 40000) (q0 : Id) (H0 : Heap) : k36.ora q0 ([(AV.list 5 (List.map eNd t))]) H0 = some (.list 1 (eNats (begL t)), H0) := k36.eq (treeInj) (t) hd q0 H0
theorem ook36 : OraOK Tryz.prog (82 % 100000) k36.ora := k36.ok orders t5_ok (fun x hd => by simp [k36, PU]) (fun x hd => by simp [k36, PU]) (fun x hd => run36 x hd.1 hd.2)

noncomputable def t6 : FT := upd (upd (t5) 87 k71.ora) 82 k36.ora
theorem t6_ok : FTOK Tryz.prog t6 := upd_ok2 (f := 82) (upd_ok2 (f := 87) (t5_ok) ook71) ook36

theorem goodT_eq (t : List Nd) : goodT t = (decide (1 ≤ t.length) && decide (t.length ≤ 40000) && begB t && decide ((begL t).getD (t.length - 1) 0 = 0)) := by
  unfold goodT begB begL
  cases h : begs t with
  | none => simp
  | some l => simp
theorem begL_len {t : List Nd} (h : begB t = true) : (begL t).length = t.length := by
  unfold begB at h
  cases h2 : begs t with
  | none => simp [h2] at h
  | some l => rw [begL_some h2, begs_len h2]
theorem begL_no {t : List Nd} (h : begB t = false) : begL t = [] := by
  unfold begB at h
  cases h2 : begs t with
  | none => exact begL_none h2
  | some l => simp [h2] at h
theorem run29 (t : List Nd) (hw : WfT t) : cwp t6 55 [] [eTree t] [] (fun r H => r = .bool (goodT t) ∧ H = []) := by
  refine run_fn (fn := fn29) rfl rfl ?_
  rw [goodT_eq]
  by_cases h1 : t.length < 1
  · have h1' : (t.length : Int) < 1 := by omega
    simp only [fn29_body, c29, eTree, eSet, D0, SP0, seval, -Int.reduceNatCast', h1', decide_true]
    simp only [F1, SF0, SP0, seval, -Int.reduceNatCast', fn29_res, fn29_keep]
    simp [show ¬ 1 ≤ t.length by omega]
  · have h1' : ¬ (t.length : Int) < 1 := by omega
    by_cases h2 : t.length ≤ 40000
    · have h2' : ¬ (t.length : Int) > 40000 := by omega
      have hd : WfT t ∧ t.length ≤ 40000 := ⟨hw, h2⟩
      have hm := wrapm (j := t.length) (by omega) (by omega)
      by_cases h3 : begB t = true
      · have hlen := begL_len h3
        have hlt : t.length - 1 < t.length := by omega
        have hg := eNats_get (l := begL t) (i := t.length - 1) (by omega)
        simp only [fn29_body, c29, eTree, eSet, @use_all t6 87 k71.ora rfl, e71, hd, D0, SP0, seval, -Int.reduceNatCast', h1', h2', decide_false, fz_list, h3, hm, hg, Int.natCast_nonneg, Int.toNat_natCast]
        simp only [F1, SF0, SP0, seval, -Int.reduceNatCast', fn29_res, fn29_keep]
        simp [show 1 ≤ t.length by omega, h2]
        rw [Bool.eq_iff_iff]; simp
      · have h3' : begB t = false := by simpa using h3
        simp only [fn29_body, c29, eTree, eSet, @use_all t6 87 k71.ora rfl, e71, hd, D0, SP0, seval, -Int.reduceNatCast', h1', h2', decide_false, fz_list, h3']
        simp only [F1, SF0, SP0, seval, -Int.reduceNatCast', fn29_res, fn29_keep]
        simp
    · have h2' : (t.length : Int) > 40000 := by omega
      simp only [fn29_body, c29, eTree, eSet, D0, SP0, seval, -Int.reduceNatCast', h1', h2', decide_true, decide_false]
      simp only [F1, SF0, SP0, seval, -Int.reduceNatCast', fn29_res, fn29_keep]
      simp [show ¬ t.length ≤ 40000 by omega]
theorem run30 (t : List Nd) (hw : WfT t) : cwp t6 48 [] [eTree t] [] (fun r H => r = .bool (goodT t) ∧ H = []) := by
  refine run_fn (fn := fn30) rfl rfl ?_
  rw [goodT_eq]
  by_cases h1 : t.length < 1
  · have h1' : (t.length : Int) < 1 := by omega
    simp only [fn30_body, c30, eTree, eSet, D0, SP0, seval, -Int.reduceNatCast', h1', decide_true]
    simp only [F1, SF0, SP0, seval, -Int.reduceNatCast', fn30_res, fn30_keep]
    simp [show ¬ 1 ≤ t.length by omega]
  · have h1' : ¬ (t.length : Int) < 1 := by omega
    by_cases h2 : t.length ≤ 40000
    · have h2' : ¬ (t.length : Int) > 40000 := by omega
      have hd : WfT t ∧ t.length ≤ 40000 := ⟨hw, h2⟩
      have hm := wrapm (j := t.length) (by omega) (by omega)
      by_cases h3 : begB t = true
      · have hlen := begL_len h3
        have hg := eNats_get (l := begL t) (i := t.length - 1) (by omega)
        simp only [fn30_body, c30, eTree, eSet, @use_all t6 82 k36.ora rfl, e36, hd, D0, SP0, seval, -Int.reduceNatCast', h1', h2', decide_false, fz_list, hlen, hm, hg, Int.natCast_nonneg, Int.toNat_natCast]
        simp only [F1, SF0, SP0, seval, -Int.reduceNatCast', fn30_res, fn30_keep]
        simp [show 1 ≤ t.length by omega, h2, h3]
        rw [Bool.eq_iff_iff]; simp
      · have h3' : begB t = false := by simpa using h3
        have hne : (((0 : Nat) : Int) == (t.length : Int)) = false := by simp only [beq_eq_false_iff_ne]; omega
        simp only [fn30_body, c30, eTree, eSet, @use_all t6 82 k36.ora rfl, e36, hd, D0, SP0, seval, -Int.reduceNatCast', h1', h2', decide_false, fz_list, begL_no h3', eNats_nil, hne]
        simp only [F1, SF0, SP0, seval, -Int.reduceNatCast', fn30_res, fn30_keep]
        simp [h3']
    · have h2' : (t.length : Int) > 40000 := by omega
      simp only [fn30_body, c30, eTree, eSet, D0, SP0, seval, -Int.reduceNatCast', h1', h2', decide_true, decide_false]
      simp only [F1, SF0, SP0, seval, -Int.reduceNatCast', fn30_res, fn30_keep]
      simp [show ¬ t.length ≤ 40000 by omega]
def wNd (x : Nd) : Nat := 1 + min x.set.length 600 + min (x.name.size / 8) 600
def runL : Nat → List Nd → Nat
  | n, [] => n
  | n, x :: r => if n ≤ 600 then runL (n + wNd x) r else n
def large (t : List Nd) : Bool := decide (600 < runL 0 t)
theorem tdiv8 (n : Nat) : (n : Int).tdiv 8 = ((n / 8 : Nat) : Int) := rfl
theorem min600 (n : Nat) : (if (600 : Int) < (n : Int) then (600 : Int) else (n : Int)) = ((min n 600 : Nat) : Int) := by split <;> omega
theorem runL_step (n : Nat) (t : List Nd) (j : Nat) (h : j < t.length) (h2 : n ≤ 600) : runL n (t.drop j) = runL (n + wNd (t.getD j default)) (t.drop (j + 1)) := by
  rw [drop_cons h, runL, if_pos h2]
theorem runL_over (n : Nat) (l : List Nd) (h : ¬ n ≤ 600) : runL n l = n := by cases l <;> simp [runL, h]
theorem runL_ge : ∀ (t : List Nd) (n : Nat), 601 ≤ n + t.length → 601 ≤ runL n t
  | [], n, h => by simpa [runL] using h
  | x :: r, n, h => by
    unfold runL
    split
    · exact runL_ge r _ (by unfold wNd; simp at h ⊢; omega)
    · omega
theorem large_len {t : List Nd} (h : large t = false) : t.length ≤ 600 := by
  simp only [large, decide_eq_false_iff_not] at h
  by_cases h2 : t.length ≤ 600
  · exact h2
  · have := runL_ge t 0 (by omega)
    omega
theorem run16 (t : List Nd) (hw : WfT t) : cwp t6 61 [] [eTree t] [] (fun v H => v = .bool (large t) ∧ H = []) := by
  refine run_fn (fn := fn16) rfl rfl ?_
  simp only [fn16_body, c16, eTree, D0, SP0, seval, -Int.reduceNatCast']
  refine lg_rule (fun j e H => ∃ n : Nat, e = [(0, eTree t), (2, .bool false), (3, .int .i64 n), (4, .int .i64 j)] ∧ H = [[]] ∧ j ≤ t.length ∧ n ≤ 1801 ∧ runL n (t.drop j) = runL 0 t) t.length ?_ ?_
  · exact ⟨0, rfl, rfl, by simp, by simp, by simp⟩
  rintro j e H ⟨n, rfl, rfl, hj, hn, hr⟩
  have htl := hw.len
  simp only [eTree, D0, SP0, seval, -Int.reduceNatCast']
  by_cases h : j < t.length
  · have h' : (j : Int) < (t.length : Int) := by omega
    have hg := map_get (f := eNd) h default
    have hp := wrapp (j := j) (by omega)
    by_cases h2 : n ≤ 600
    · have h2' : (n : Int) ≤ 600 := by omega
      simp only [D0, SP0, seval, -Int.reduceNatCast', h', decide_true, h2', hg, eNd, eSet, Int.natCast_nonneg, Int.toNat_natCast]
      refine .inl ⟨h, n + wNd (t.getD j default), ?_, rfl, h, ?_, ?_⟩
      · have hb : (t.getD j default).name.size ≤ 9223372036854775807 := (hw.all _ (by
          rw [List.getD_eq_getElem?_getD, List.getElem?_eq_getElem h]
          exact List.getElem_mem h)).name
        simp (disch := omega) only [min600, tdiv8, wrap64]
        simp only [wNd]
        have e1 : (n : Int) + (1 + ((min (t.getD j default).set.length 600 : Nat) : Int) + ((min ((t.getD j default).name.size / 8) 600 : Nat) : Int)) = ((n + (1 + min (t.getD j default).set.length 600 + min ((t.getD j default).name.size / 8) 600) : Nat) : Int) := by omega
        have e2 : (j : Int) + 1 = ((j + 1 : Nat) : Int) := by omega
        simp only [e1, e2, and_self]
      · unfold wNd; omega
      · rw [← hr, runL_step n t j h h2]
    · have h2' : ¬ (n : Int) ≤ 600 := by omega
      simp only [D0, SP0, seval, -Int.reduceNatCast', h', decide_true, h2', decide_false]
      refine .inr ⟨by simp, ?_⟩
      simp only [F1, SF0, SP0, seval, -Int.reduceNatCast', fn16_res, fn16_keep]
      rw [runL_over n _ h2] at hr
      rw [large, ← hr]
      congr 2
      simp
      omega
  · have h' : ¬ (j : Int) < (t.length : Int) := by omega
    simp only [D0, SP0, seval, -Int.reduceNatCast', h', decide_false]
    refine .inr ⟨by simp, ?_⟩
    simp only [F1, SF0, SP0, seval, -Int.reduceNatCast', fn16_res, fn16_keep]
    have hz : t.drop j = [] := List.drop_eq_nil_of_le (by omega)
    rw [hz, runL] at hr
    rw [large, ← hr]
    congr 2
    simp
    omega
noncomputable def k29 : Kon (List Nd) := ⟨fun x => WfT x, fun x => [(AV.list 5 (List.map eNd x))], fun x => .bool (goodT x)⟩
theorem e29 (t : List Nd) (hd : WfT t) (q0 : Id) (H0 : Heap) : k29.ora q0 ([(AV.list 5 (List.map eNd t))]) H0 = some (.bool (goodT t), H0) := k29.eq (treeInj) (t) hd q0 H0
theorem ook29 : OraOK Tryz.prog (55 % 100000) k29.ora := k29.ok orders t6_ok (fun x hd => by simp [k29, PU]) (fun x hd => by simp [k29, PU]) (fun x hd => run29 x hd)

noncomputable def k30 : Kon (List Nd) := ⟨fun x => WfT x, fun x => [(AV.list 5 (List.map eNd x))], fun x => .bool (goodT x)⟩
theorem e30 (t : List Nd) (hd : WfT t) (q0 : Id) (H0 : Heap) : k30.ora q0 ([(AV.list 5 (List.map eNd t))]) H0 = some (.bool (goodT t), H0) := k30.eq (treeInj) (t) hd q0 H0
theorem ook30 : OraOK Tryz.prog (48 % 100000) k30.ora := k30.ok orders t6_ok (fun x hd => by simp [k30, PU]) (fun x hd => by simp [k30, PU]) (fun x hd => run30 x hd)

noncomputable def k16 : Kon (List Nd) := ⟨fun x => WfT x, fun x => [(AV.list 5 (List.map eNd x))], fun x => .bool (large x)⟩
theorem e16 (t : List Nd) (hd : WfT t) (q0 : Id) (H0 : Heap) : k16.ora q0 ([(AV.list 5 (List.map eNd t))]) H0 = some (.bool (large t), H0) := k16.eq (treeInj) (t) hd q0 H0
theorem ook16 : OraOK Tryz.prog (61 % 100000) k16.ora := k16.ok orders t6_ok (fun x hd => by simp [k16, PU]) (fun x hd => by simp [k16, PU]) (fun x hd => run16 x hd)

noncomputable def t7 : FT := upd (upd (upd (t6) 55 k29.ora) 48 k30.ora) 61 k16.ora
theorem t7_ok : FTOK Tryz.prog t7 := upd_ok2 (f := 61) (upd_ok2 (f := 48) (upd_ok2 (f := 55) (t6_ok) ook29) ook30) ook16

end Go.Proofs.Abs
