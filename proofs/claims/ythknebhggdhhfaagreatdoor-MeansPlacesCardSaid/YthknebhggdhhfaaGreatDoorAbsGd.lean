/- A part of a proof: the text that states the row tells what is proved. No condition is laid on anything. -/
import Derived.Test.YthknebhggdhhfaaGreatDoorAbsGc
namespace Go.Proofs.Abs
open Go
def wordsA : List AV := [(.str ⟨#[99, 108, 97, 115, 115]⟩), (.str ⟨#[101, 108, 115, 101]⟩), (.str ⟨#[97, 110, 121]⟩), (.str ⟨#[101, 109, 112, 116, 121]⟩), (.str ⟨#[110, 101, 118, 101, 114]⟩)]
def signsA : List AV := [(.str ⟨#[61]⟩), (.int .i64 3), (.str ⟨#[59]⟩), (.int .i64 3), (.str ⟨#[40]⟩), (.int .i64 3), (.str ⟨#[41]⟩), (.int .i64 3), (.str ⟨#[91]⟩), (.int .i64 3), (.str ⟨#[93]⟩), (.int .i64 3), (.str ⟨#[124]⟩), (.int .i64 3), (.str ⟨#[42]⟩), (.int .i64 3), (.str ⟨#[43]⟩), (.int .i64 3), (.str ⟨#[63]⟩), (.int .i64 3), (.str ⟨#[45]⟩), (.int .i64 3), (.str ⟨#[195, 183]⟩), (.int .i64 4), (.str ⟨#[195, 151]⟩), (.int .i64 5)]
def globTab (n : Nat) : Option (List AV) := if n = 0 then some wordsA else if n = 1 then some signsA else none
theorem globTab_atoms (n : Nat) (cs : List AV) (h : globTab n = some cs) : cs.all atomA = true := by
  unfold globTab at h
  split at h
  · injection h with h; subst h; rfl
  split at h
  · injection h with h; subst h; rfl
  cases h
instance : Globs := ⟨globTab, globTab_atoms⟩
end Go.Proofs.Abs

set_option linter.all false
set_option linter.constructorNameAsVariable false
set_option linter.defProp false
set_option linter.unusedVariables false
set_option linter.unusedSimpArgs false
namespace Go.Proofs.Abs
open Go

structure Nd where
  kind : Int
  a : Int
  b : Int
  set : List (Int × Int)
  name : ByteArray

def I64 (n : Int) : Prop := -9223372036854775808 ≤ n ∧ n ≤ 9223372036854775807
def eSet (s : List (Int × Int)) : AV := .list 2 (s.map fun x => [.int .i64 x.1, .int .i64 x.2])
def eNd (n : Nd) : List AV := [.int .i64 n.kind, .int .i64 n.a, .int .i64 n.b, eSet n.set, .str n.name]
def eTree (t : List Nd) : AV := .list 5 (t.map eNd)
def eRow (l : List Int) : AV := .list 1 (l.map fun x => [.int .i64 x])
structure WfS (s : List (Int × Int)) : Prop where
  len : s.length ≤ 9223372036854775807
  all : ∀ x ∈ s, I64 x.1 ∧ I64 x.2
structure WfN (n : Nd) : Prop where
  kind : I64 n.kind
  a : I64 n.a
  b : I64 n.b
  set : WfS n.set
  name : n.name.size ≤ 9223372036854775807
structure WfT (t : List Nd) : Prop where
  len : t.length ≤ 9223372036854775807
  all : ∀ x ∈ t, WfN x

theorem wf_int {n : Int} (h : (Lit.int .i64 n).wf = true) : I64 n := by
  simp only [Lit.wf, Bool.and_eq_true, decide_eq_true_eq] at h
  have h1 : IntKind.i64.min = -9223372036854775808 := rfl
  have h2 : IntKind.i64.max = 9223372036854775807 := rfl
  rw [h1, h2] at h
  exact h

theorem map_inj' {α β : Type} {f : α → β} (hf : ∀ x y, f x = f y → x = y) : ∀ {a b : List α}, a.map f = b.map f → a = b
  | [], [], _ => rfl
  | [], _ :: _, h => by simp at h
  | _ :: _, [], h => by simp at h
  | x :: a, y :: b, h => by
    simp only [List.map_cons, List.cons.injEq] at h
    rw [hf _ _ h.1, map_inj' hf h.2]
theorem eSet_inj {a b : List (Int × Int)} (h : eSet a = eSet b) : a = b := by
  unfold eSet at h
  injection h with _ h
  refine map_inj' ?_ h
  intro x y e
  simp only [List.cons.injEq, AV.int.injEq, and_true, true_and] at e
  exact Prod.ext e.1 e.2
theorem eNd_inj {a b : Nd} (h : eNd a = eNd b) : a = b := by
  unfold eNd at h
  simp only [List.cons.injEq, AV.int.injEq, AV.str.injEq, and_true, true_and] at h
  obtain ⟨h1, h2, h3, h4, h5⟩ := h
  cases a; cases b
  simp only at h1 h2 h3 h4 h5
  rw [h1, h2, h3, eSet_inj h4, h5]
theorem eTree_inj {a b : List Nd} (h : eTree a = eTree b) : a = b := by
  unfold eTree at h
  injection h with _ h
  exact map_inj' (fun x y e => eNd_inj e) h
theorem eRow_inj {a b : List Int} (h : eRow a = eRow b) : a = b := by
  unfold eRow at h
  injection h with _ h
  refine map_inj' ?_ h
  intro x y e
  simp only [List.cons.injEq, AV.int.injEq, and_true, true_and] at e
  exact e

theorem pure_flat {rows : List (List AV)} (h : ∀ r ∈ rows, ∀ a ∈ r, Pure a) (j : Nat) (av : AV) (e : rows.flatten[j]? = some av) : Pure av := by
  obtain ⟨r, hr, ha⟩ := List.mem_flatten.1 (List.mem_of_getElem? e)
  exact h r hr av ha
theorem pure_eSet (s : List (Int × Int)) : Pure (eSet s) := .list _ _ (pure_flat (by
  intro r hr a ha
  obtain ⟨x, _, rfl⟩ := List.mem_map.1 hr
  simp only [List.mem_cons, List.not_mem_nil, or_false] at ha
  rcases ha with rfl | rfl <;> exact .int _ _))
theorem pure_eNd (n : Nd) : ∀ a ∈ eNd n, Pure a := by
  intro a ha
  simp only [eNd, List.mem_cons, List.not_mem_nil, or_false] at ha
  rcases ha with rfl | rfl | rfl | rfl | rfl
  · exact .int _ _
  · exact .int _ _
  · exact .int _ _
  · exact pure_eSet _
  · exact .str _
theorem pure_eTree (t : List Nd) : Pure (eTree t) := .list _ _ (pure_flat (by
  intro r hr a ha
  obtain ⟨x, _, rfl⟩ := List.mem_map.1 hr
  exact pure_eNd x a ha))
theorem pure_eRow (l : List Int) : Pure (eRow l) := .list _ _ (pure_flat (by
  intro r hr a ha
  obtain ⟨x, _, rfl⟩ := List.mem_map.1 hr
  simp only [List.mem_cons, List.not_mem_nil, or_false] at ha
  subst ha
  exact .int _ _))

def shSet : Sh := .sl [.int .i64, .int .i64]
def shNode : List Sh := [.int .i64, .int .i64, .int .i64, shSet, .str]
def shTree : Sh := .sl shNode
def shRow : Sh := .sl [.int .i64]
theorem okv_i64 {v : AV} (h : Okv (.int .i64) v) : ∃ n, v = .int .i64 n ∧ I64 n := by
  cases h with
  | int _ n h => exact ⟨n, rfl, wf_int h⟩
theorem rows_of {α : Type} {f : α → List AV} {p : α → Prop} : ∀ {rows : List (List AV)}, (∀ r ∈ rows, ∃ x, r = f x ∧ p x) → ∃ l : List α, rows = l.map f ∧ ∀ x ∈ l, p x
  | [], _ => ⟨[], rfl, by simp⟩
  | r :: rows, h => by
    obtain ⟨x, rfl, hx⟩ := h r (by simp)
    obtain ⟨l, rfl, hl⟩ := rows_of (f := f) (p := p) (rows := rows) fun r hr => h r (by simp [hr])
    exact ⟨x :: l, rfl, by simpa using ⟨hx, hl⟩⟩
theorem okv_set {v : AV} (h : Okv shSet v) : ∃ s, v = eSet s ∧ WfS s := by
  unfold shSet at h
  cases h with
  | sl _ rows hl hr hv =>
    obtain ⟨l, rfl, hp⟩ := rows_of (f := fun x : Int × Int => [.int .i64 x.1, .int .i64 x.2]) (p := fun x => I64 x.1 ∧ I64 x.2) (rows := rows) fun r hm => by
      have h1 := hr r hm
      match r, h1 with
      | [a, b], _ =>
        obtain ⟨n, rfl, hn⟩ := okv_i64 (hv _ hm 0 _ _ rfl rfl)
        obtain ⟨m, rfl, hm'⟩ := okv_i64 (hv _ hm 1 _ _ rfl rfl)
        exact ⟨(n, m), rfl, hn, hm'⟩
    exact ⟨l, rfl, by simpa [maxLen] using hl, hp⟩
theorem okv_row {v : AV} (h : Okv shRow v) : ∃ s, v = eRow s ∧ s.length ≤ 9223372036854775807 ∧ ∀ x ∈ s, I64 x := by
  unfold shRow at h
  cases h with
  | sl _ rows hl hr hv =>
    obtain ⟨l, rfl, hp⟩ := rows_of (f := fun x : Int => [.int .i64 x]) (p := I64) (rows := rows) fun r hm => by
      have h1 := hr r hm
      match r, h1 with
      | [a], _ =>
        obtain ⟨n, rfl, hn⟩ := okv_i64 (hv _ hm 0 _ _ rfl rfl)
        exact ⟨n, rfl, hn⟩
    exact ⟨l, rfl, by simpa [maxLen] using hl, hp⟩
theorem okv_tree {v : AV} (h : Okv shTree v) : ∃ t, v = eTree t ∧ WfT t := by
  unfold shTree at h
  cases h with
  | sl _ rows hl hr hv =>
    obtain ⟨l, rfl, hp⟩ := rows_of (f := eNd) (p := WfN) (rows := rows) fun r hm => by
      have h1 := hr r hm
      match r, h1 with
      | [a, b, c, d, e], _ =>
        obtain ⟨k, rfl, hk⟩ := okv_i64 (hv _ hm 0 _ _ rfl rfl)
        obtain ⟨n, rfl, hn⟩ := okv_i64 (hv _ hm 1 _ _ rfl rfl)
        obtain ⟨m, rfl, hm'⟩ := okv_i64 (hv _ hm 2 _ _ rfl rfl)
        obtain ⟨s, rfl, hs⟩ := okv_set (hv _ hm 3 _ _ rfl rfl)
        have h5 := hv _ hm 4 _ _ rfl rfl
        cases h5 with
        | str x hx => exact ⟨⟨k, n, m, s, x⟩, rfl, hk, hn, hm', hs, by simpa [maxLen] using hx⟩
    exact ⟨l, rfl, by simpa [maxLen] using hl, hp⟩
end Go.Proofs.Abs

namespace Go.Proofs.Abs
open Go

instance : Inhabited Nd := ⟨⟨0, 0, 0, [], ⟨#[]⟩⟩⟩
def isS (v : Int) : Bool := (decide (0 ≤ v) && decide (v < 55296)) || (decide (57344 ≤ v) && decide (v ≤ 1114111))
def nextV (v : Int) : Int := if v < 0 then 0 else if 1114111 ≤ v then 0 else if 55295 ≤ v ∧ v < 57344 then 57344 else v + 1
def nextB (v : Int) : Bool := decide (v < 1114111)
def wholeS (r : Int × Int) : Bool := isS r.1 && isS r.2 && decide (r.1 ≤ r.2)
def apartS (a b : Int × Int) : Bool := nextB a.2 && decide (nextV a.2 < b.1)
def okAt (s : List (Int × Int)) (i : Nat) : Bool := wholeS (s.getD i (0, 0)) && (decide (i = 0) || apartS (s.getD (i - 1) (0, 0)) (s.getD i (0, 0)))
def goodS (s : List (Int × Int)) : Bool := (List.range s.length).all (okAt s)
theorem all_true {n : Nat} {f : Nat → Bool} (h : ∀ i, i < n → f i = true) : (List.range n).all f = true := by
  rw [List.all_eq_true]
  intro i hi
  exact h i (List.mem_range.1 hi)
theorem all_false {n i : Nat} {f : Nat → Bool} (hi : i < n) (h : f i = false) : (List.range n).all f = false := by
  rw [List.all_eq_false]
  exact ⟨i, List.mem_range.2 hi, by simp [h]⟩

def bareN (n : Nd) : Bool := decide (n.set.length = 0) && decide (n.name.size = 0)
def leafN (n : Nd) : Bool :=
  decide (n.a = 0) && decide (n.b = 0) && (if n.kind = 2 then decide (0 < n.set.length) && goodS n.set else (decide (n.kind = 0) || decide (n.kind = 1)) && bareN n)
def isFork (n : Nd) : Bool := decide (n.kind = 3) || decide (n.kind = 4)
def stepB (out : List Nat) (n : Nd) : Option Nat :=
  if isFork n then
    if 2 ≤ out.length ∧ n.b = out.length - 1 ∧ 1 ≤ out.getD (out.length - 1) 0 ∧ n.a = out.getD (out.length - 1) 0 - 1 ∧ bareN n = true then some (out.getD n.a.toNat 0) else none
  else if n.kind = 5 then
    if 1 ≤ out.length ∧ n.a = out.length - 1 ∧ n.b = 0 ∧ bareN n = true then some (out.getD n.a.toNat 0) else none
  else if leafN n then some out.length else none
def begsFrom : List Nat → List Nd → Option (List Nat)
  | out, [] => some out
  | out, n :: r => match stepB out n with
    | some b => begsFrom (out ++ [b]) r
    | none => none
def begs (t : List Nd) : Option (List Nat) := begsFrom [] t
def goodT (t : List Nd) : Bool := decide (1 ≤ t.length) && decide (t.length ≤ 40000) && (match begs t with
  | some l => decide (l.getD (t.length - 1) 0 = 0)
  | none => false)

theorem begsFrom_len : ∀ (r : List Nd) (out l : List Nat), begsFrom out r = some l → l.length = out.length + r.length ∧ l.take out.length = out
  | [], out, l, h => by
    injection h with h
    subst h
    simp
  | n :: r, out, l, h => by
    unfold begsFrom at h
    split at h
    · obtain ⟨h1, h2⟩ := begsFrom_len r _ l h
      refine ⟨by simp at h1 ⊢; omega, ?_⟩
      have := congrArg (List.take out.length) h2
      simpa [List.take_take, Nat.min_eq_left] using this
    · cases h
theorem begs_len {t : List Nd} {l : List Nat} (h : begs t = some l) : l.length = t.length := by
  have := (begsFrom_len _ _ _ h).1
  simpa using this
theorem begsFrom_step : ∀ (r : List Nd) (out l : List Nat), begsFrom out r = some l → ∀ i, (h : i < r.length) → stepB (l.take (out.length + i)) r[i] = some (l.getD (out.length + i) 0)
  | [], _, _, _, i, h => by simp at h
  | n :: r, out, l, h, i, hi => by
    unfold begsFrom at h
    split at h
    · rename_i b hb
      obtain ⟨h1, h2⟩ := begsFrom_len r _ l h
      have hlen : (out ++ [b]).length = out.length + 1 := by simp
      cases i with
      | zero =>
        have e1 : l.take out.length = out := by
          have := congrArg (List.take out.length) h2
          simpa [List.take_take, Nat.min_eq_left] using this
        have e2 : l.getD out.length 0 = b := by
          have := congrArg (fun x => x.getD out.length 0) h2
          simp [List.getD_eq_getElem?_getD, List.getElem?_take] at this
          simpa [List.getD_eq_getElem?_getD] using this
        simp only [Nat.add_zero, e1, e2, List.getElem_cons_zero, hb]
      | succ i =>
        have := begsFrom_step r _ l h i (by simpa using hi)
        rw [hlen] at this
        simpa [Nat.add_assoc, Nat.add_comm 1 i] using this
    · cases h
theorem begsFrom_take : ∀ (r : List Nd) (out l : List Nat) (k : Nat), begsFrom out r = some l → begsFrom out (r.take k) = some (l.take (out.length + k))
  | [], out, l, k, h => by
    injection h with h
    subst h
    simp only [List.take_nil, begsFrom]
    rw [List.take_of_length_le (by omega)]
  | n :: r, out, l, 0, h => by
    simp only [List.take_zero, begsFrom, Nat.add_zero]
    rw [(begsFrom_len _ _ _ h).2]
  | n :: r, out, l, k + 1, h => by
    unfold begsFrom at h
    split at h
    · rename_i b hb
      have := begsFrom_take r _ l k h
      simp only [List.take_succ_cons, begsFrom, hb, this]
      simp [Nat.add_assoc, Nat.add_comm 1 k]
    · cases h
theorem begs_take {t : List Nd} {l : List Nat} (h : begs t = some l) (k : Nat) : begs (t.take k) = some (l.take k) := by
  have := begsFrom_take t [] l k h
  simp only [List.length_nil, Nat.zero_add] at this
  exact this
theorem begs_step {t : List Nd} {l : List Nat} (h : begs t = some l) (i : Nat) (hi : i < t.length) : stepB (l.take i) t[i] = some (l.getD i 0) := by
  have := begsFrom_step t [] l h i hi
  simpa using this

theorem getD_take {l : List Nat} {i m : Nat} (h : i < m) : (l.take m).getD i 0 = l.getD i 0 := by
  simp [List.getD_eq_getElem?_getD, List.getElem?_take, h]
inductive Cut (l : List Nat) (i : Nat) (n : Nd) : Prop
  | fork (hk : isFork n = true) (h2 : 2 ≤ i) (hb : n.b = i - 1) (h1 : 1 ≤ l.getD (i - 1) 0) (ha : n.a = l.getD (i - 1) 0 - 1) (hn : bareN n = true) (h : l.getD i 0 = l.getD n.a.toNat 0)
  | star (hf : isFork n = false) (hk : n.kind = 5) (h1 : 1 ≤ i) (ha : n.a = i - 1) (hb : n.b = 0) (hn : bareN n = true) (h : l.getD i 0 = l.getD n.a.toNat 0)
  | leaf (hf : isFork n = false) (hk : n.kind ≠ 5) (hn : leafN n = true) (h : l.getD i 0 = i)
theorem begs_cut {t : List Nd} {l : List Nat} (h : begs t = some l) : ∀ i, (hi : i < t.length) → l.getD i 0 ≤ i ∧ Cut l i t[i] := by
  intro i
  induction i using Nat.strongRecOn with
  | ind i ih =>
    intro hi
    have hs := begs_step h i hi
    have hl := begs_len h
    have e : (l.take i).length = i := by simp; omega
    unfold stepB at hs
    rw [e] at hs
    by_cases hf : isFork t[i] = true
    · rw [if_pos hf] at hs
      split at hs
      · rename_i hc
        obtain ⟨c1, c2, c3, c4, c5⟩ := hc
        rw [getD_take (by omega)] at c3 c4
        have hp := (ih (i - 1) (by omega) (by omega)).1
        have hlt : t[i].a.toNat < i := by omega
        rw [getD_take hlt] at hs
        injection hs with hs
        have hq := (ih _ hlt (by omega)).1
        exact ⟨by omega, .fork hf c1 (by omega) c3 (by omega) c5 hs.symm⟩
      · cases hs
    · rw [if_neg hf] at hs
      split at hs
      · rename_i hk
        split at hs
        · rename_i hc
          obtain ⟨c1, c2, c3, c4⟩ := hc
          have hlt : t[i].a.toNat < i := by omega
          rw [getD_take hlt] at hs
          injection hs with hs
          have hq := (ih _ hlt (by omega)).1
          exact ⟨by omega, .star (by simpa using hf) hk c1 (by omega) c3 c4 hs.symm⟩
        · cases hs
      · rename_i hk
        split at hs
        · rename_i hc
          injection hs with hs
          exact ⟨by omega, .leaf (by simpa using hf) hk hc hs.symm⟩
        · cases hs

def inc (ch : List Nat) (a : Nat) : List Nat := ch.set a (ch.getD a 0 + 1)
structure Cn where
  lv : Nat
  fk : Nat
  ch : List Nat
def stepC (s : Cn) (n : Nd) : Cn :=
  if isFork n then ⟨s.lv, s.fk + 1, inc (inc s.ch n.a.toNat) n.b.toNat⟩
  else if n.kind = 5 then ⟨s.lv, s.fk, inc s.ch n.a.toNat⟩
  else ⟨s.lv + 1, s.fk, s.ch⟩
def cnt (t : List Nd) (j : Nat) : Cn := (t.take j).foldl stepC ⟨0, 0, List.replicate t.length 0⟩
theorem cnt_succ (t : List Nd) (j : Nat) (h : j < t.length) : cnt t (j + 1) = stepC (cnt t j) t[j] := by
  unfold cnt
  rw [show t.take (j + 1) = t.take j ++ [t[j]] by simp, List.foldl_append]
  rfl
inductive Ch (f : Nat → Nat) : Nat → List Nat → Prop
  | nil : Ch f 0 []
  | cons (m : Nat) (l : List Nat) (h : Ch f (f m) l) : Ch f (m + 1) (m :: l)
theorem Ch.lt {f : Nat → Nat} (hf : ∀ i, f i ≤ i) : ∀ {m : Nat} {l : List Nat}, Ch f m l → ∀ x ∈ l, x < m
  | _, _, .nil, x, hx => by simp at hx
  | _, _, .cons m l h, x, hx => by
    rcases List.mem_cons.1 hx with rfl | hx
    · omega
    · have := h.lt hf x hx
      have := hf m
      omega
theorem inc_len (ch : List Nat) (a : Nat) : (inc ch a).length = ch.length := by simp [inc]
theorem inc_get (ch : List Nat) (a i : Nat) (ha : a < ch.length) : (inc ch a).getD i 0 = if i = a then ch.getD i 0 + 1 else ch.getD i 0 := by
  unfold inc
  rw [List.getD_eq_getElem?_getD, List.getElem?_set]
  by_cases h : a = i
  · subst h
    simp [ha]
  · rw [if_neg h, if_neg (Ne.symm h), List.getD_eq_getElem?_getD]
theorem sizes_inv {t : List Nd} {l : List Nat} (h : begs t = some l) : ∀ j, j ≤ t.length → ∃ r, Ch (fun i => min (l.getD i 0) i) j r ∧ (cnt t j).lv = (cnt t j).fk + r.length ∧ (cnt t j).ch.length = t.length ∧
    (∀ i, (cnt t j).ch.getD i 0 = if i < j ∧ i ∉ r then 1 else 0) := by
  intro j
  induction j with
  | zero =>
    intro _
    refine ⟨[], .nil, by simp [cnt], by simp [cnt], fun i => ?_⟩
    simp [cnt, List.getD_eq_getElem?_getD, List.getElem?_replicate]
    split <;> rfl
  | succ j ih =>
    intro hj
    obtain ⟨r, hc, h1, h2, h3⟩ := ih (by omega)
    have hlt := fun x hx => hc.lt (fun i => Nat.min_le_right _ _) x hx
    obtain ⟨hle, hcut⟩ := begs_cut h j hj
    have fle := fun i hi => (begs_cut h i hi).1
    rw [cnt_succ t j hj]
    generalize cnt t j = s at h1 h2 h3
    generalize t[j] = n at hcut
    cases hcut with
    | fork hk c2 hb c1 ha hn hg =>
      obtain ⟨m, rfl⟩ : ∃ m, j = m + 1 := ⟨j - 1, by omega⟩
      simp only [Nat.add_sub_cancel] at *
      have hm := fle m (by omega)
      cases hc with
      | cons _ r' hc =>
        have e1 : min (l.getD m 0) m = l.getD m 0 := by omega
        rw [e1] at hc
        obtain ⟨a, hae⟩ : ∃ a, l.getD m 0 = a + 1 := ⟨l.getD m 0 - 1, by omega⟩
        rw [hae] at hc
        cases hc with
        | cons _ r2 hc =>
          have ea : n.a.toNat = a := by omega
          have eb : n.b.toNat = m := by omega
          have eqa : l.getD (m + 1) 0 = l.getD a 0 := by rw [hg, ea]
          have haa := fle a (by omega)
          refine ⟨(m + 1) :: r2, .cons _ _ ?_, ?_, ?_, ?_⟩
          · have : min (l.getD (m + 1) 0) (m + 1) = min (l.getD a 0) a := by omega
            simp only [this]
            exact hc
          · simp only [stepC, hk, if_true]
            simp at h1 ⊢
            omega
          · simp only [stepC, hk, if_true, inc_len]
            exact h2
          · intro i
            have hr2 : ∀ x ∈ r2, x < a := fun x hx => by
              have := hc.lt (fun i => Nat.min_le_right _ _) x hx
              omega
            simp only [stepC, hk, if_true, ea, eb]
            rw [inc_get _ _ _ (by rw [inc_len]; omega), inc_get _ _ _ (by omega), h3 i]
            simp only [List.mem_cons, not_or]
            have hna : a ∉ r2 := fun hx => by have := hr2 a hx; omega
            have hnm : m ∉ r2 := fun hx => by have := hr2 m hx; omega
            by_cases i1 : i = m
            · subst i1
              have : i ≠ a := by omega
              have h5 : i < i + 1 + 1 := by omega
              simp [this, hnm, h5]
            · by_cases i2 : i = a
              · subst i2
                have h5 : i < m + 1 + 1 := by omega
                have h6 : ¬ i = m + 1 := by omega
                simp [i1, hna, h5, h6]
              · by_cases i3 : i = m + 1
                · subst i3; simp [i1, i2]
                · by_cases i4 : i < m + 1
                  · have : i < m + 1 + 1 := by omega
                    simp [i1, i2, i3, i4, this]
                  · have : ¬ i < m + 1 + 1 := by omega
                    simp [i1, i2, i3, i4, this]
    | star hf hk c1 ha hb hn hg =>
      obtain ⟨m, rfl⟩ : ∃ m, j = m + 1 := ⟨j - 1, by omega⟩
      have hm := fle m (by omega)
      cases hc with
      | cons _ r' hc =>
        have ea : n.a.toNat = m := by omega
        have eqa : l.getD (m + 1) 0 = l.getD m 0 := by rw [hg, ea]
        refine ⟨(m + 1) :: r', .cons _ _ ?_, ?_, ?_, ?_⟩
        · have : min (l.getD (m + 1) 0) (m + 1) = min (l.getD m 0) m := by omega
          simp only [this]
          exact hc
        · simp only [stepC, hf, hk, if_true, Bool.false_eq_true, if_false]
          simp at h1 ⊢
          omega
        · simp only [stepC, hf, hk, if_true, Bool.false_eq_true, if_false, inc_len]
          exact h2
        · intro i
          have hr2 : ∀ x ∈ r', x < m := fun x hx => by
            have := hc.lt (fun i => Nat.min_le_right _ _) x hx
            omega
          simp only [stepC, hf, hk, if_true, Bool.false_eq_true, if_false, ea]
          rw [inc_get _ _ _ (by omega), h3 i]
          simp only [List.mem_cons, not_or]
          have hnm : m ∉ r' := fun hx => by have := hr2 m hx; omega
          by_cases i1 : i = m
          · subst i1
            have h5 : i < i + 1 + 1 := by omega
            simp [hnm, h5]
          · by_cases i3 : i = m + 1
            · subst i3; simp [i1]
            · by_cases i4 : i < m + 1
              · have : i < m + 1 + 1 := by omega
                simp [i1, i3, i4, this]
              · have : ¬ i < m + 1 + 1 := by omega
                simp [i1, i3, i4, this]
    | leaf hf hk hn hg =>
      refine ⟨j :: r, .cons _ _ ?_, ?_, ?_, ?_⟩
      · simp only [hg, Nat.min_self]
        exact hc
      · simp only [stepC, hf, hk, Bool.false_eq_true, if_false]
        simp
        omega
      · simp only [stepC, hf, hk, Bool.false_eq_true, if_false]
        exact h2
      · intro i
        simp only [stepC, hf, hk, Bool.false_eq_true, if_false]
        rw [h3 i]
        simp only [List.mem_cons, not_or]
        by_cases i3 : i = j
        · subst i3; simp
        · by_cases i4 : i < j
          · have : i < j + 1 := by omega
            simp [i3, i4, this]
          · have : ¬ i < j + 1 := by omega
            simp [i4, this]
theorem sizes_law {t : List Nd} (h : goodT t = true) : (cnt t t.length).lv = (cnt t t.length).fk + 1 ∧ (cnt t t.length).ch.length = t.length ∧ ∀ i, i < t.length → (cnt t t.length).ch.getD i 0 = if i + 1 < t.length then 1 else 0 := by
  unfold goodT at h
  simp only [Bool.and_eq_true, decide_eq_true_eq] at h
  obtain ⟨⟨h1, h2⟩, h3⟩ := h
  split at h3
  · rename_i l hl
    simp only [decide_eq_true_eq] at h3
    obtain ⟨r, hc, c1, c2, c3⟩ := sizes_inv hl t.length (Nat.le_refl _)
    obtain ⟨m, hm⟩ : ∃ m, t.length = m + 1 := ⟨t.length - 1, by omega⟩
    rw [hm] at hc
    cases hc with
    | cons _ r' hc =>
      have : min (l.getD m 0) m = 0 := by
        have : t.length - 1 = m := by omega
        rw [this] at h3
        omega
      rw [this] at hc
      cases hc
      refine ⟨by simpa using c1, c2, fun i hi => ?_⟩
      rw [c3 i, hm]
      simp only [List.mem_singleton]
      by_cases e : i = m
      · subst e; simp
      · have h5 : i < m := by omega
        simp [e, h5]
        omega
  · cases h3
end Go.Proofs.Abs

namespace Go.Proofs.Abs
open Go

section
variable {ft : FT} {α : Type} {dom : α → Prop} {enc : α → List AV} {out : α → AV} {f : Nat}
theorem cg_has (h : ft f = some (.ora (oraF dom enc out))) (inj : ∀ a b, enc a = enc b → a = b) {a : α} (ha : dom a) (q : Id) (H : Heap) (d : Option Nat) (r : List AIn) (k : Nat) (drop : List Nat) (ks : List Kt) (Q : Fin) (s : St) :
    cg ft f q (enc a) H d r k drop ks Q s = rg ft r k drop ks Q { s with env := putd s.env d (out a), heap := H, k := s.k + 1 } := by
  rw [cg_spec h, oraF_eq inj ha, cgs_some]
theorem dcg_has (h : ft f = some (.ora (oraF dom enc out))) (inj : ∀ a b, enc a = enc b → a = b) {a : α} (ha : dom a) (q : Id) (H : Heap) (i : AIn) (r : List AIn) (k : Nat) (l : List Rec) (drop : List Nat) (ks : List Kt) (Q : Fin) (s : St) :
    dcg ft f q (enc a) H i r k l drop ks Q s = dn ft (dnext (clsOf i.i s.env) (out a) s { s with heap := H, k := s.k + 1 }) i r k l drop ks Q s := by
  rw [dcg_spec h, oraF_eq inj ha, dcgs_some]
end
theorem fz_tuple2 (H : Heap) (k : IntKind) (n : Int) (b : Bool) : fz H (.tuple [.int k n, .bool b]) = some (.tuple [.int k n, .bool b], H) := rfl
theorem fz_agg2 (H : Heap) (k k' : IntKind) (n m : Int) : fz H (.agg [.int k n, .int k' m]) = some (.agg [.int k n, .int k' m], H) := rfl
theorem fz_aggb (H : Heap) (k : IntKind) (n : Int) (b : Bool) : fz H (.agg [.int k n, .bool b]) = some (.agg [.int k n, .bool b], H) := rfl
theorem fz_nd (H : Heap) (n : Nd) : fz H (.agg (eNd n)) = some (.agg (eNd n), H) := rfl
theorem wrap32 {n : Int} (h1 : -2147483648 ≤ n) (h2 : n ≤ 2147483647) : IntKind.i32.wrap n = n := by
  simp only [IntKind.wrap, IntKind.bits, IntKind.signed]
  simp
  split <;> omega
theorem beqH_self : ∀ H : Heap, beqH H H = true := by
  have hA : ∀ (n : Nat), (∀ a : AV, SizeOf.sizeOf a < n → beqA a a = true) ∧ (∀ l : List AV, SizeOf.sizeOf l < n → beqL l l = true) ∧ (∀ l : List (List AV), SizeOf.sizeOf l < n → beqLL l l = true) := by
    intro n
    induction n with
    | zero => exact ⟨fun a h => by omega, fun a h => by omega, fun a h => by omega⟩
    | succ n ih =>
      obtain ⟨i1, i2, i3⟩ := ih
      refine ⟨fun a h => ?_, fun l h => ?_, fun l h => ?_⟩
      · cases a <;> simp only [beqA, decide_true, beq_self_eq_true, Bool.and_self, Bool.true_and] <;> first | exact i2 _ (by simp at h; omega) | exact i3 _ (by simp at h; omega) | exact i1 _ (by simp at h; omega)
      · cases l with
        | nil => rfl
        | cons a r =>
          simp only [beqL, Bool.and_eq_true]
          exact ⟨i1 _ (by simp at h; omega), i2 _ (by simp at h; omega)⟩
      · cases l with
        | nil => rfl
        | cons a r =>
          simp only [beqLL, Bool.and_eq_true]
          exact ⟨i2 _ (by simp at h; omega), i3 _ (by simp at h; omega)⟩
  have hE : ∀ l : List (AV × AV), beqE l l = true := by
    intro l
    induction l with
    | nil => rfl
    | cons a r ih =>
      obtain ⟨a, b⟩ := a
      simp only [beqE, Bool.and_eq_true]
      exact ⟨⟨(hA _).1 a (Nat.lt_succ_self _), (hA _).1 b (Nat.lt_succ_self _)⟩, ih⟩
  have hO : ∀ o : AObj, beqO o o = true := by
    intro o
    cases o with
    | row w f e s r =>
      simp only [beqO, beq_self_eq_true, Bool.and_self, Bool.true_and]
      exact (hA _).2.2 r (Nat.lt_succ_self _)
    | box c => exact (hA _).2.1 c (Nat.lt_succ_self _)
    | map e => exact hE e
  have hF : ∀ f : Fr, beqF f f = true := by
    intro f
    induction f with
    | nil => rfl
    | cons a r ih =>
      obtain ⟨i, o⟩ := a
      simp only [beqF, beq_self_eq_true, Bool.true_and, Bool.and_eq_true]
      exact ⟨hO o, ih⟩
  intro H
  induction H with
  | nil => rfl
  | cons f r ih =>
    simp only [beqH, Bool.and_eq_true]
    exact ⟨hF f, ih⟩
theorem toList_loop (b : ByteArray) : ∀ (d i : Nat) (r : List UInt8), b.size - i ≤ d → ByteArray.toList.loop b i r = r.reverse ++ b.data.toList.drop i
  | 0, i, r, h => by
    unfold ByteArray.toList.loop
    rw [if_neg (by omega), List.drop_eq_nil_of_le (by have : b.data.toList.length = b.size := rfl; omega), List.append_nil]
  | d + 1, i, r, h => by
    unfold ByteArray.toList.loop
    by_cases hi : i < b.size
    · have hl : i < b.data.toList.length := hi
      rw [if_pos hi, toList_loop b d (i + 1) _ (by omega), List.drop_eq_getElem_cons hl]
      have e : b.get! i = b.data.toList[i] := by
        have h2 : i < b.data.size := hi
        show b.data[i]! = _
        rw [getElem!_pos b.data i h2]
        simp
      rw [e]
      simp
    · rw [if_neg hi, List.drop_eq_nil_of_le (by have : b.data.toList.length = b.size := rfl; omega), List.append_nil]
theorem toList_eq (b : ByteArray) : b.toList = b.data.toList := by
  unfold ByteArray.toList
  rw [toList_loop b b.size 0 [] (by omega)]
  simp
theorem bytes_beq (a b : ByteArray) : (a.toList == b.toList) = decide (a = b) := by
  rw [toList_eq, toList_eq, Bool.eq_iff_iff]
  simp only [beq_iff_eq, decide_eq_true_eq]
  constructor
  · intro h
    cases a; cases b
    simp only [Array.toList_inj] at h
    rw [h]
  · rintro rfl; rfl
theorem bytes_empty (a : ByteArray) : (a = ⟨#[]⟩) ↔ a.size = 0 := by
  constructor
  · rintro rfl; rfl
  · intro h
    cases a with
    | mk d =>
      have : d.size = 0 := h
      rw [Array.eq_empty_of_size_eq_zero this]
theorem astr_eql (a b : ByteArray) : astr .eql a b = some (.bool (decide (a = b))) := by
  simp only [astr, bytes_beq]
theorem astr_neq (a b : ByteArray) : astr .neq a b = some (.bool (!decide (a = b))) := by
  simp only [astr, bytes_beq]
theorem pure_undef : Pure .undef = True := eq_true .undef
theorem pure_bool (b : Bool) : Pure (.bool b) = True := eq_true (.bool b)
theorem pure_int (k : IntKind) (n : Int) : Pure (.int k n) = True := eq_true (.int k n)
theorem pure_str (s : ByteArray) : Pure (.str s) = True := eq_true (.str s)
theorem pure_nils : Pure .nils = True := eq_true .nils
theorem pure_agg (cs : List AV) : Pure (.agg cs) = ∀ a ∈ cs, Pure a := propext ⟨fun h a ha => by
  cases h with
  | agg _ h =>
    obtain ⟨j, hj⟩ := List.getElem?_of_mem ha
    exact h j a hj, fun h => .agg _ fun j av e => h av (List.mem_of_getElem? e)⟩
theorem pure_tuple (cs : List AV) : Pure (.tuple cs) = ∀ a ∈ cs, Pure a := propext ⟨fun h a ha => by
  cases h with
  | tuple _ h =>
    obtain ⟨j, hj⟩ := List.getElem?_of_mem ha
    exact h j a hj, fun h => .tuple _ fun j av e => h av (List.mem_of_getElem? e)⟩
theorem pure_list (z : Nat) (rows : List (List AV)) : Pure (.list z rows) = ∀ r ∈ rows, ∀ a ∈ r, Pure a := propext ⟨fun h r hr a ha => by
  cases h with
  | list _ _ h =>
    obtain ⟨j, hj⟩ := List.getElem?_of_mem (List.mem_flatten.2 ⟨r, hr, ha⟩)
    exact h j a hj, fun h => .list _ _ (pure_flat h)⟩
theorem pureL_eNd (n : Nd) : (∀ a ∈ eNd n, Pure a) = True := eq_true (pure_eNd n)
theorem fz_nd5 (H : Heap) (k1 k2 k3 : IntKind) (a b c : Int) (z : Nat) (r : List (List AV)) (s : ByteArray) : fz H (.agg [.int k1 a, .int k2 b, .int k3 c, .list z r, .str s]) = some (.agg [.int k1 a, .int k2 b, .int k3 c, .list z r, .str s], H) := rfl
theorem map_get {α : Type} [Inhabited α] {f : α → List AV} {l : List α} {j : Nat} (h : j < l.length) (z : α) : (l.map f)[j]? = some (f (l.getD j z)) := by
  rw [List.getElem?_map, List.getD_eq_getElem?_getD, List.getElem?_eq_getElem h]
  rfl
theorem wrapm {j : Nat} (h : 0 < j) (h2 : j ≤ 9223372036854775807) : IntKind.i64.wrap ((j : Int) - 1) = ((j - 1 : Nat) : Int) := by
  rw [wrap64 (by omega) (by omega)]
  omega
theorem wrapp {j : Nat} (h2 : j < 9223372036854775807) : IntKind.i64.wrap ((j : Int) + 1) = ((j + 1 : Nat) : Int) := by
  rw [wrap64 (by omega) (by omega)]
  omega
theorem pure_setL (s : List (Int × Int)) : Pure (.list 2 (List.map (fun x => [AV.int .i64 x.1, AV.int .i64 x.2]) s)) = True := eq_true (pure_eSet s)
theorem pure_treeL (t : List Nd) : Pure (.list 5 (List.map eNd t)) = True := eq_true (pure_eTree t)
theorem pure_rowL (l : List Int) : Pure (.list 1 (List.map (fun x => [AV.int .i64 x]) l)) = True := eq_true (pure_eRow l)
def eNats (l : List Nat) : List (List AV) := l.map fun x : Nat => [AV.int .i64 (x : Int)]
theorem eNats_len (l : List Nat) : (eNats l).length = l.length := by simp [eNats]
theorem eNats_get {l : List Nat} {i : Nat} (h : i < l.length) : (eNats l)[i]? = some [AV.int .i64 ((l.getD i 0 : Nat) : Int)] := by
  unfold eNats
  rw [List.getElem?_map, List.getD_eq_getElem?_getD, List.getElem?_eq_getElem h]
  rfl
theorem eNats_set (l : List Nat) (i v : Nat) : (eNats l).set i [AV.int .i64 (v : Int)] = eNats (l.set i v) := by
  unfold eNats
  rw [List.map_set]
theorem eNats_app (l m : List Nat) : eNats l ++ eNats m = eNats (l ++ m) := by simp [eNats]
theorem eNats_rep (n : Nat) : List.replicate n [AV.int .i64 0] = eNats (List.replicate n 0) := by simp [eNats]
theorem eNats_inj {a b : List Nat} (h : eNats a = eNats b) : a = b := by
  refine map_inj' ?_ h
  intro x y e
  simp at e
  omega
theorem pure_nats (l : List Nat) : Pure (.list 1 (eNats l)) = True := by
  unfold eNats
  have := pure_eRow (l.map fun x : Nat => (x : Int))
  unfold eRow at this
  rw [List.map_map] at this
  exact eq_true this
theorem eNats_nil : eNats [] = [] := rfl
abbrev N5 := Int × Int × Int × List (Int × Int) × ByteArray
theorem ndInj5 : ∀ x y : N5, [AV.agg [AV.int .i64 x.1, AV.int .i64 x.2.1, AV.int .i64 x.2.2.1, (AV.list 2 (List.map (fun x => [AV.int .i64 x.1, AV.int .i64 x.2]) x.2.2.2.1)), AV.str x.2.2.2.2]] = [AV.agg [AV.int .i64 y.1, AV.int .i64 y.2.1, AV.int .i64 y.2.2.1, (AV.list 2 (List.map (fun x => [AV.int .i64 x.1, AV.int .i64 x.2]) y.2.2.2.1)), AV.str y.2.2.2.2]] → x = y := by
  rintro ⟨k, a, b, c, z⟩ ⟨k', a', b', c', z'⟩ h
  simp only [List.cons.injEq, AV.agg.injEq, and_true] at h
  have h2 := @eNd_inj ⟨k, a, b, c, z⟩ ⟨k', a', b', c', z'⟩ (by
    simp only [eNd, eSet, List.cons.injEq, and_true]
    exact h)
  injection h2 with h1 h2 h3 h4 h5
  rw [h1, h2, h3, h4, h5]
theorem eNats_snoc (l : List Nat) (v : Nat) : eNats l ++ [[AV.int .i64 (v : Int)]] = eNats (l ++ [v]) := by simp [eNats]
end Go.Proofs.Abs

namespace Go.Proofs.Abs
open Go Go.RowKit
theorem lift2 {P : Program} {ft : FT} (hmo : P.follows .mixedOrders = true) (hft : FTOK P ft) {f : Nat} {α : Type} {dom : α → Prop} {enc : α → List AV} {out : α → AV}
    (hin : ∀ a, dom a → ∀ x ∈ enc a, Pure x) (hout : ∀ a, dom a → Pure (out a)) (hrun : ∀ a, dom a → ∃ n, acall ft n f [] (enc a) [] = some (out a, [])) : OraOK P (f % 100000) (oraF dom enc out) := by
  intro q args H r H' h
  unfold oraF at h
  split at h
  · rename_i hex
    simp only [Option.some.injEq, Prod.mk.injEq] at h
    obtain ⟨rfl, rfl⟩ := h
    obtain ⟨hd, he⟩ := Classical.choose_spec hex
    generalize Classical.choose hex = a at hd he
    subst he
    obtain ⟨n, hn⟩ := hrun a hd
    obtain ⟨h1, h2⟩ := (sound P ft hmo hft n).2 f [] (enc a) [] _ _ hn
    refine ⟨h1, fun C vs hH hr hav hl => ?_⟩
    have := h2 (hide C) vs rfl (hide_rep hr) (fun _ _ => trivial) (hl.pure (hin a hd) fun _ _ _ h => hide_fro h)
    refine this.mono ?_
    rintro e w' ⟨v, C2, rfl, rfl, hH2, hr2, hv, hx, _⟩
    exact ⟨v, { C with w := C2.w }, rfl, rfl, hH, hide_hrep hr hx, hv.pure (hout a hd) fun _ _ _ h => hide_back hx h, hide_ext hr hx, fun _ h _ => h⟩
  · cases h
theorem upd_ok2 {P : Program} {ft : FT} {f : Nat} (h : FTOK P ft) {spec : Id → List AV → Heap → Option (AV × Heap)} (hs : OraOK P (f % 100000) spec) : FTOK P (upd ft f spec) := by
  intro n x hx
  unfold upd at hx
  split at hx
  · rename_i e
    subst e
    injection hx with hx
    subst hx
    exact hs
  · exact h n x hx
theorem cwp_runO {ft : FT} {f : Nat} {args : List AV} {elem sz : Nat} {rows : List (List AV)} (h : cwp ft f [] args [] fun v H => ∃ id, v = .own id rows.length ∧ H = [[(id, .row true true elem sz rows)]]) :
    ∃ n id, acall ft n f [] args [] = some (.own id rows.length, [[(id, .row true true elem sz rows)]]) := by
  obtain ⟨v, H2, e, id, rfl, rfl⟩ := h
  obtain ⟨n, hn⟩ := e.get
  exact ⟨n, id, hn⟩
section
variable {ft : FT} {α : Type} {dom : α → Prop} {enc : α → List AV} {elem sz : Nat} {out : α → List (List AV)} {f : Nat}
theorem cg_hasO (h : ft f = some (.ora (oraO dom enc elem sz out))) (inj : ∀ a b, enc a = enc b → a = b) {a : α} (ha : dom a) (q : Id) (H : Heap) (d : Option Nat) (r : List AIn) (k : Nat) (drop : List Nat) (ks : List Kt) (Q : Fin) (s : St) :
    cg ft f q (enc a) H d r k drop ks Q s = rg ft r k drop ks Q { s with env := putd s.env d (.own (q ++ [0]) (out a).length), heap := hadd H (q ++ [0]) (.row true true elem sz (out a)), k := s.k + 1 } := by
  rw [cg_spec h, oraO_eq inj ha, cgs_some]
theorem dcg_hasO (h : ft f = some (.ora (oraO dom enc elem sz out))) (inj : ∀ a b, enc a = enc b → a = b) {a : α} (ha : dom a) (q : Id) (H : Heap) (i : AIn) (r : List AIn) (k : Nat) (l : List Rec) (drop : List Nat) (ks : List Kt) (Q : Fin) (s : St) :
    dcg ft f q (enc a) H i r k l drop ks Q s = dn ft (dnext (clsOf i.i s.env) (.own (q ++ [0]) (out a).length) s { s with heap := hadd H (q ++ [0]) (.row true true elem sz (out a)), k := s.k + 1 }) i r k l drop ks Q s := by
  rw [dcg_spec h, oraO_eq inj ha, dcgs_some]
end
theorem pureL_setL (s : List (Int × Int)) : (∀ r ∈ List.map (fun x : Int × Int => [AV.int .i64 x.1, AV.int .i64 x.2]) s, ∀ a ∈ r, Pure a) = True := by
  have := pure_setL s
  rw [pure_list] at this
  exact this
theorem pureL_treeL (t : List Nd) : (∀ r ∈ List.map eNd t, ∀ a ∈ r, Pure a) = True := by
  have := pure_treeL t
  rw [pure_list] at this
  exact this
theorem pure_func0 (f : Nat) : Pure (.func f []) = True := eq_true (.func f [] fun j av e => by simp at e)
theorem cg_use {ft : FT} {f : Nat} {q : Id} {a : List AV} {H : Heap} {K : AV → Heap → Prop} {d : Option Nat} {r : List AIn} {k : Nat} {drop : List Nat} {ks : List Kt} {Q : Fin} {s : St} (h : cwp ft f q a H K)
    (hk : ∀ v H', K v H' → rg ft r k drop ks Q { s with env := putd s.env d v, heap := H', k := s.k + 1 }) : cg ft f q a H d r k drop ks Q s := by
  obtain ⟨v, H', e, hK⟩ := h
  exact ⟨v, H', e, hk v H' hK⟩
theorem lrc_x (cs : List Nat) (i : Nat) (p : List Nat) (m : Id) (l : List Rec) : lrc cs i (⟨.x, p, m⟩ :: l) = false := rfl
theorem fset_fset : ∀ (f : Fr) (id : Id) (a b : AObj), fset (fset f id a) id b = fset f id b
  | [], _, _, _ => rfl
  | (i, o) :: r, id, a, b => by
    by_cases h : i = id
    · simp [fset, h]
    · simp [fset, h, fset_fset r id a b]
theorem hset_hset : ∀ (H : Heap) (id : Id) (a b : AObj), hset (hset H id a) id b = hset H id b
  | [], _, _, _ => rfl
  | f :: r, id, a, b => by
    cases e : fget f id with
    | none =>
      have h1 : hset (f :: r) id a = f :: hset r id a := by simp [hset, e]
      have h2 : hset (f :: r) id b = f :: hset r id b := by simp [hset, e]
      have h3 : hset (f :: hset r id a) id b = f :: hset (hset r id a) id b := by simp [hset, e]
      rw [h1, h2, h3, hset_hset r id a b]
    | some o =>
      have h1 : hset (f :: r) id a = fset f id a :: r := by simp [hset, e]
      have h2 : hset (f :: r) id b = fset f id b :: r := by simp [hset, e]
      have e2 : fget (fset f id a) id = some a := by rw [fget_fset]; simp [e]
      have h3 : hset (fset f id a :: r) id b = fset (fset f id a) id b :: r := by simp [hset, e2]
      rw [h1, h2, h3, fset_fset]
end Go.Proofs.Abs

namespace Go.Proofs.Abs
open Go
def xm (d s : Nat) : AIn := ⟨some d, none, .mov (.t s), []⟩
def xo (d : Nat) (i : AIns) : AIn := ⟨some d, none, i, []⟩
def xf (d g : Nat) (i : AIns) : AIn := ⟨some d, some (g, false), i, []⟩
def xt (d g : Nat) (i : AIns) : AIn := ⟨some d, some (g, true), i, []⟩
def xn (i : AIns) : AIn := ⟨none, none, i, []⟩
def ym (d s : Nat) (p : List Nat) : AIn := ⟨some d, none, .mov (.t s), p⟩
def yo (d : Nat) (i : AIns) (p : List Nat) : AIn := ⟨some d, none, i, p⟩
def yf (d g : Nat) (i : AIns) (p : List Nat) : AIn := ⟨some d, some (g, false), i, p⟩
def yt (d g : Nat) (i : AIns) (p : List Nat) : AIn := ⟨some d, some (g, true), i, p⟩
def ki (n : Int) : AX := .k (.int .i64 n)
def kt : AX := .k (.bool true)
def kf : AX := .k (.bool false)
def rng (s n : Nat) : List Nat := List.range' s n
theorem rng_contains (s n i : Nat) : (rng s n).contains i = decide (s ≤ i ∧ i + 1 ≤ s + n) := by
  unfold rng
  rw [Bool.eq_iff_iff, List.contains_iff_mem, List.mem_range'_1, decide_eq_true_eq]
  omega
def D1 := (And.intro (And.intro (And.intro (And.intro (And.intro (And.intro (And.intro @List.contains_cons.{0}
 @List.contains_nil.{0})
 (And.intro @if_true.{0}
 @if_false.{0}))
 (And.intro (And.intro @List.all_nil.{0}
 @List.all_cons.{0})
 (And.intro @List.cons_append.{0}
 @List.nil_append.{0})))
 (And.intro (And.intro (And.intro @beq_self_eq_true.{0}
 @List.getElem?_cons_zero.{0})
 (And.intro @List.getElem?_cons_succ.{0}
 @List.length_cons.{0}))
 (And.intro (And.intro @List.length_nil.{0}
 @List.drop_zero.{0})
 (And.intro @List.drop_succ_cons.{0}
 @List.drop_nil.{0}))))
 (And.intro (And.intro (And.intro (And.intro @List.take_zero.{0}
 @List.take_succ_cons.{0})
 (And.intro @List.take_nil.{0}
 @List.cons.injEq.{0}))
 (And.intro (And.intro @List.append_nil.{0}
 @bne_self_eq_false.{0})
 (And.intro @List.replicate_succ.{0}
 @List.replicate_zero.{0})))
 (And.intro (And.intro (And.intro @List.set_cons_zero.{0}
 @List.set_cons_succ.{0})
 (And.intro @List.isEmpty_nil.{0}
 @List.isEmpty_cons.{0}))
 (And.intro (And.intro @List.map_cons.{0, 0}
 @List.map_nil.{0, 0})
 (And.intro @Option.map_some.{0, 0}
 @List.length_map.{0, 0})))))
 (And.intro (And.intro (And.intro (And.intro (And.intro @edrop_nil
 @edrop_cons)
 (And.intro @ekeep_nil
 @ekeep_cons))
 (And.intro (And.intro @Bool.or_false
 @Bool.false_or)
 (And.intro @Bool.or_true
 @Bool.true_or)))
 (And.intro (And.intro (And.intro @Bool.false_eq_true
 @lrc_nil)
 (And.intro @lrc_l
 @lrc_r))
 (And.intro (And.intro @lrc_c
 @Bool.not_false)
 (And.intro @Bool.not_true
 @Bool.and_self))))
 (And.intro (And.intro (And.intro (And.intro @Bool.and_true
 @Bool.true_and)
 (And.intro @beq_true
 @beq_false))
 (And.intro (And.intro @fz_bool
 @fz_int)
 (And.intro @fz_list
 @fz_nils)))
 (And.intro (And.intro (And.intro @fz_str
 @and_true)
 (And.intro @true_and
 @and_false))
 (And.intro (And.intro @false_and
 @and_self)
 (And.intro @astr_eql
 @astr_neq))))))
 (And.intro (And.intro (And.intro (And.intro (And.intro (And.intro @bytes_empty
 @fz_tuple2)
 (And.intro @fz_agg2
 @fz_aggb))
 (And.intro (And.intro @fz_nd
 @fz_nd5)
 (And.intro @beqH_self
 @eNats_len)))
 (And.intro (And.intro (And.intro @eNats_snoc
 @rng_contains)
 (And.intro @decide_true
 @decide_false))
 (And.intro (And.intro @xm.eq_1
 @xo.eq_1)
 (And.intro @xf.eq_1
 @xt.eq_1))))
 (And.intro (And.intro (And.intro (And.intro @xn.eq_1
 @ym.eq_1)
 (And.intro @yo.eq_1
 @yf.eq_1))
 (And.intro (And.intro @yt.eq_1
 @ki.eq_1)
 (And.intro @kt.eq_1
 @kf.eq_1)))
 (And.intro (And.intro (And.intro @wanted.eq_1
 @wanted.eq_2)
 (And.intro @putd.eq_1
 @putd.eq_2))
 (And.intro (And.intro @eset.eq_1
 @eset.eq_2)
 (And.intro @eget.eq_1
 @eget.eq_2)))))
 (And.intro (And.intro (And.intro (And.intro (And.intro @AX.ev.eq_1
 @AX.ev.eq_2)
 (And.intro @params.eq_1
 @params.eq_2))
 (And.intro (And.intro @slots.eq_1
 @agetl.eq_1)
 (And.intro @foldMin.eq_1
 @foldMin.eq_2)))
 (And.intro (And.intro (And.intro @foldMin.eq_3
 @argsOf.eq_1)
 (And.intro @argsOf.eq_2
 @St.add.eq_1))
 (And.intro (And.intro @hadd.eq_1
 @hadd.eq_2)
 (And.intro @hget.eq_1
 @hget.eq_2))))
 (And.intro (And.intro (And.intro (And.intro @fget.eq_1
 @fget.eq_2)
 (And.intro @hset.eq_1
 @hset.eq_2))
 (And.intro (And.intro @fset.eq_1
 @fset.eq_2)
 (And.intro @partsOfA.eq_1
 @partsOfA.eq_2)))
 (And.intro (And.intro (And.intro @afill.eq_1
 @afill.eq_2)
 (And.intro @partsOf.eq_1
 @partsOf.eq_2))
 (And.intro (And.intro @setRows.eq_1
 @setRows.eq_2)
 (And.intro @hpop.eq_1
 @hpop.eq_2)))))))
def D0 := And.intro mach D1
def F1 := And.intro ((And.intro (And.intro (And.intro @ob_some
 @ne_eq.{1})
 (And.intro @not_false_eq_true
 (And.intro @not_true_eq_false
 @false_or)))
 (And.intro (And.intro @or_false
 @resOf.eq_1)
 (And.intro @resOf.eq_2
 (And.intro @resOf.eq_3
 @endr.eq_1))))) D1

section
variable {ft : FT} {ks : List Kt} {Q : Fin} {s : St} {drop : List Nat} {k : Nat} {d : Option Nat} {r : List AIn} {l : List Rec} {i : AIn}
theorem use_all {ft : FT} {f : Nat} {spec : Id → List AV → Heap → Option (AV × Heap)} (hf : ft f = some (.ora spec)) :
    (∀ q a H d r k drop ks Q s, cg ft f q a H d r k drop ks Q s = cgs ft (spec q a H) d r k drop ks Q s) ∧ (∀ q a H i r k l drop ks Q s, dcg ft f q a H i r k l drop ks Q s = dcgs ft (spec q a H) i r k l drop ks Q s) :=
  ⟨fun _ _ _ _ _ _ _ _ _ _ => cg_spec hf, fun _ _ _ _ _ _ _ _ _ _ _ => dcg_spec hf⟩
end
theorem oraF_eqD {α : Type} {dom : α → Prop} {enc : α → List AV} {out : α → AV} (inj : ∀ a b, dom a → dom b → enc a = enc b → a = b) {a : α} (ha : dom a) (q : Id) (H : Heap) : oraF dom enc out q (enc a) H = some (out a, H) := by
  have h : ∃ b, dom b ∧ enc b = enc a := ⟨a, ha, rfl⟩
  unfold oraF
  rw [dif_pos h]
  rw [inj _ _ (Classical.choose_spec h).1 ha (Classical.choose_spec h).2]
theorem oraO_eqD {α : Type} {dom : α → Prop} {enc : α → List AV} {elem sz : Nat} {out : α → List (List AV)} (inj : ∀ a b, dom a → dom b → enc a = enc b → a = b) {a : α} (ha : dom a) (q : Id) (H : Heap) :
    oraO dom enc elem sz out q (enc a) H = some (.own (q ++ [0]) (out a).length, hadd H (q ++ [0]) (.row true true elem sz (out a))) := by
  have h : ∃ b, dom b ∧ enc b = enc a := ⟨a, ha, rfl⟩
  unfold oraO
  rw [dif_pos h]
  rw [inj _ _ (Classical.choose_spec h).1 ha (Classical.choose_spec h).2]
structure Kon (α : Type) where
  dom : α → Prop
  enc : α → List AV
  out : α → AV
structure KonO (α : Type) where
  dom : α → Prop
  enc : α → List AV
  elem : Nat
  sz : Nat
  out : α → List (List AV)
section
variable {α : Type} (K : Kon α)
noncomputable def Kon.ora : Id → List AV → Heap → Option (AV × Heap) := oraF K.dom K.enc K.out
theorem Kon.eq (inj : ∀ a b, K.enc a = K.enc b → a = b) (a : α) (ha : K.dom a) (q : Id) (H : Heap) : K.ora q (K.enc a) H = some (K.out a, H) := oraF_eq inj ha q H
theorem Kon.eqD (inj : ∀ a b, K.dom a → K.dom b → K.enc a = K.enc b → a = b) (a : α) (ha : K.dom a) (q : Id) (H : Heap) : K.ora q (K.enc a) H = some (K.out a, H) := oraF_eqD inj ha q H
theorem Kon.ok {P : Program} {ft : FT} (hmo : P.follows .mixedOrders = true) (hft : FTOK P ft) {f : Nat} (hin : ∀ a, K.dom a → ∀ x ∈ K.enc a, Pure x) (hout : ∀ a, K.dom a → Pure (K.out a))
    (hrun : ∀ a, K.dom a → cwp ft f [] (K.enc a) [] fun r H => r = K.out a ∧ H = []) : OraOK P (f % 100000) K.ora := lift2 hmo hft hin hout fun a h => cwp_run (hrun a h)
variable (L : KonO α)
noncomputable def KonO.ora : Id → List AV → Heap → Option (AV × Heap) := oraO L.dom L.enc L.elem L.sz L.out
theorem KonO.eq (inj : ∀ a b, L.enc a = L.enc b → a = b) (a : α) (ha : L.dom a) (q : Id) (H : Heap) : L.ora q (L.enc a) H = some (.own (q ++ [0]) (L.out a).length, hadd H (q ++ [0]) (.row true true L.elem L.sz (L.out a))) := oraO_eq inj ha q H
theorem KonO.eqD (inj : ∀ a b, L.dom a → L.dom b → L.enc a = L.enc b → a = b) (a : α) (ha : L.dom a) (q : Id) (H : Heap) : L.ora q (L.enc a) H = some (.own (q ++ [0]) (L.out a).length, hadd H (q ++ [0]) (.row true true L.elem L.sz (L.out a))) := oraO_eqD inj ha q H
theorem KonO.ok {P : Program} {ft : FT} (hmo : P.follows .mixedOrders = true) (hft : FTOK P ft) {f : Nat} (hin : ∀ a, L.dom a → ∀ x ∈ L.enc a, Pure x) (hout : ∀ a, L.dom a → ∀ r ∈ L.out a, ∀ x ∈ r, Pure x)
    (hrun : ∀ a, L.dom a → cwp ft f [] (L.enc a) [] fun v H => ∃ id, v = .own id (L.out a).length ∧ H = [[(id, .row true true L.elem L.sz (L.out a))]]) : OraOK P (f % 100000) L.ora := liftO hmo hft hin (fun a h => pure_flat (hout a h)) fun a h => cwp_runO (hrun a h)
end
theorem ora_rec {P : Program} {f : Nat} {α : Type} {K : Kon α} (m : α → Nat) (inj : ∀ a b, K.dom a → K.dom b → K.enc a = K.enc b → a = b)
    (step : ∀ n, OraOK P f (Kon.ora ⟨fun a => K.dom a ∧ m a < n, K.enc, K.out⟩) → OraOK P f (Kon.ora ⟨fun a => K.dom a ∧ m a < n + 1, K.enc, K.out⟩)) : OraOK P f K.ora := by
  have all : ∀ n, OraOK P f (Kon.ora ⟨fun a => K.dom a ∧ m a < n, K.enc, K.out⟩) := by
    intro n
    induction n with
    | zero =>
      intro q args H r H' h
      simp only [Kon.ora, oraF] at h
      rw [dif_neg (by rintro ⟨a, ⟨_, h2⟩, _⟩; omega)] at h
      cases h
    | succ n ih => exact step n ih
  intro q args H r H' e
  have e0 := e
  simp only [Kon.ora, oraF] at e
  split at e
  · rename_i hex
    obtain ⟨a, ha, rfl⟩ := hex
    rw [K.eqD inj a ha] at e0
    refine all (m a + 1) q (K.enc a) H r H' ?_
    rw [← e0]
    exact Kon.eqD ⟨fun a => K.dom a ∧ m a < _, K.enc, K.out⟩ (fun a b h1 h2 => inj a b h1.1 h2.1) a ⟨ha, Nat.lt_succ_self _⟩ q H
  · cases e
theorem oraO_rec {P : Program} {f : Nat} {α : Type} {K : KonO α} (m : α → Nat) (inj : ∀ a b, K.dom a → K.dom b → K.enc a = K.enc b → a = b)
    (step : ∀ n, OraOK P f (KonO.ora ⟨fun a => K.dom a ∧ m a < n, K.enc, K.elem, K.sz, K.out⟩) → OraOK P f (KonO.ora ⟨fun a => K.dom a ∧ m a < n + 1, K.enc, K.elem, K.sz, K.out⟩)) : OraOK P f K.ora := by
  have all : ∀ n, OraOK P f (KonO.ora ⟨fun a => K.dom a ∧ m a < n, K.enc, K.elem, K.sz, K.out⟩) := by
    intro n
    induction n with
    | zero =>
      intro q args H r H' h
      simp only [KonO.ora, oraO] at h
      rw [dif_neg (by rintro ⟨a, ⟨_, h2⟩, _⟩; omega)] at h
      cases h
    | succ n ih => exact step n ih
  intro q args H r H' e
  have e0 := e
  simp only [KonO.ora, oraO] at e
  split at e
  · rename_i hex
    obtain ⟨a, ha, rfl⟩ := hex
    rw [K.eqD inj a ha] at e0
    refine all (m a + 1) q (K.enc a) H r H' ?_
    rw [← e0]
    exact KonO.eqD ⟨fun a => K.dom a ∧ m a < _, K.enc, K.elem, K.sz, K.out⟩ (fun a b h1 h2 => inj a b h1.1 h2.1) a ⟨ha, Nat.lt_succ_self _⟩ q H
  · cases e
def updC (ft : FT) (f : Nat) (x : AFn) : FT := fun n => if n = f then some (.code x) else ft n
theorem updC_ok {P : Go.Program} {ft : FT} (h : FTOK P ft) {f : Nat} {x : AFn} (hx : fnOK P (f % 100000) x = true) : FTOK P (updC ft f x) := by
  intro n y hy
  unfold updC at hy
  split at hy
  · rename_i e
    subst e
    injection hy with hy
    subst hy
    exact hx
  · exact h n y hy
def PU := And.intro pure_undef (And.intro pure_bool (And.intro pure_int (And.intro pure_str (And.intro pure_nils (And.intro pure_agg (And.intro pure_tuple (And.intro pure_setL (And.intro pure_treeL (And.intro pure_rowL (And.intro pureL_eNd (And.intro pure_nats (And.intro pure_func0 (And.intro pureL_setL pureL_treeL)))))))))))))
def lenV (s : St) : Nat → AV → Option (AV × St)
  | 0, .str b => some (.int .i64 b.size, s)
  | 1, .list _ rows => some (.int .i64 rows.length, s)
  | 1, .nils => some (.int .i64 0, s)
  | 1, .emp => some (.int .i64 0, s)
  | 1, .own id n => match hget s.heap id with
    | some (.row _ _ _ _ rows) => if rows.length = n then some (.int .i64 n, s) else none
    | _ => none
  | 2, .map id => match hget s.heap id with
    | some (.map es) => some (.int .i64 es.length, s)
    | _ => none
  | _, _ => none
theorem ains_len (s : St) (ty : Nat) (x : AX) : ains (.len ty x) s = lenV s ty (AX.ev s.env x) := rfl
def SP0 := And.intro @ains.eq_1 <| And.intro @ains.eq_2 <| And.intro @ains.eq_3 <| And.intro @ains.eq_4 <| And.intro @ains.eq_5 <| And.intro @ains.eq_6 <| And.intro @ains.eq_7 <| And.intro @ains.eq_8 <| And.intro @ains.eq_9 <| And.intro @ains.eq_10 <| And.intro @ains.eq_11 <| And.intro @ains.eq_12 <| And.intro @ains.eq_13 <| And.intro @ains.eq_14 <| And.intro @ains.eq_15 <| And.intro @ains.eq_16 <| And.intro @ains.eq_17 <| And.intro @ains.eq_18 <| And.intro @ains.eq_19 <| And.intro @ains.eq_20 <| And.intro @ains.eq_21 <| And.intro @ains.eq_22 <| And.intro @ains.eq_23 <| And.intro @ains.eq_24 <| And.intro @ains.eq_25 <| And.intro @ains.eq_26 <| And.intro @ains.eq_27 <| And.intro @ains.eq_28 <| And.intro @ains.eq_29 <| And.intro @ains.eq_30 <| And.intro @ains.eq_31 <| And.intro @ains_len <| And.intro @lenV.eq_1 <| And.intro @lenV.eq_2 <| And.intro @lenV.eq_3 <| And.intro @lenV.eq_4 <| And.intro @lenV.eq_5 <| And.intro @lenV.eq_6 <| And.intro @lenV.eq_7 <| And.intro @ains.eq_39 <| And.intro @ains.eq_40 <| And.intro @ains.eq_41 <| And.intro @ains.eq_42 <| And.intro @ains.eq_46 <| And.intro @ains.eq_47 <| And.intro @appG.eq_1 <| And.intro @appG.eq_2 <| And.intro @clsOf.eq_1 <| And.intro @clsOf.eq_2 <| And.intro @clsOf.eq_3 <| And.intro @clsOf.eq_4 <| And.intro @clsOf.eq_5 <| And.intro @clsOf.eq_6 <| And.intro @clsOf.eq_7 <| And.intro @clsOf.eq_8 <| And.intro @clsOf.eq_9 <| And.intro @clsOf.eq_10 <| And.intro @clsOf.eq_11 <| And.intro @clsOf.eq_12 <| And.intro @clsOf.eq_13 <| And.intro @clsOf.eq_14 <| And.intro @clsOf.eq_15 <| And.intro @clsOf.eq_16 <| And.intro @clsOf.eq_17 <| And.intro @clsOf.eq_18 <| And.intro @clsOf.eq_19 <| And.intro @clsOf.eq_20 <| And.intro @clsOf.eq_21 <| And.intro @clsOf.eq_22 <| And.intro @clsOf.eq_23 <| And.intro @clsOf.eq_24 <| And.intro @clsOf.eq_25 <| And.intro @clsOf.eq_26 <| And.intro @clsOf.eq_27 <| And.intro @clsOf.eq_28 <| And.intro @clsOf.eq_29 <| And.intro @abin.eq_1 <| And.intro @abin.eq_2 <| And.intro @abin.eq_3 <| And.intro @abin.eq_4 <| And.intro @abin.eq_5 <| And.intro @abin.eq_6 <| And.intro @abin.eq_7 <| And.intro @abin.eq_8 <| And.intro @abin.eq_9 <| And.intro @abin.eq_10 <| And.intro @abin.eq_11 <| And.intro @aint.eq_1 <| And.intro @aint.eq_2 <| And.intro @aint.eq_3 <| And.intro @aint.eq_4 <| And.intro @aint.eq_5 <| And.intro @aint.eq_6 <| And.intro @aint.eq_7 <| And.intro @aint.eq_8 <| And.intro @aint.eq_9 <| And.intro @aint.eq_10 <| And.intro @aint.eq_11 <| And.intro @aint.eq_12 <| And.intro @aun.eq_1 <| And.intro @aun.eq_2 <| And.intro @aun.eq_3 <| And.intro @dnext.eq_1 <| And.intro @dnext.eq_2 <| And.intro @dnext.eq_3 <| And.intro @dnext.eq_4 <| And.intro @rowsOf.eq_1 <| And.intro @rowsOf.eq_2 <| And.intro @rowsOf.eq_3 <| And.intro @rowsOf.eq_4 <| And.intro @rowsOf.eq_5 <| And.intro @loadObj.eq_1 <| And.intro @loadObj.eq_2 <| And.intro @loadObj.eq_3 <| And.intro @cellsOf.eq_1 <| And.intro @cellsOf.eq_2 <| And.intro @cellsOf.eq_3 <| And.intro @cellsOf.eq_4 <| And.intro @cellsOf.eq_5 <| And.intro @ofCells.eq_1 <| And.intro @ofCells.eq_2 <| And.intro @bnd.eq_1 <| And.intro @bnd.eq_2 <| And.intro @hmerge.eq_1 <| @hmerge.eq_2
def SF0 := And.intro @bodyRes.eq_1 <| And.intro @bodyRes.eq_2 <| And.intro @one.eq_1 <| @one.eq_2
end Go.Proofs.Abs
