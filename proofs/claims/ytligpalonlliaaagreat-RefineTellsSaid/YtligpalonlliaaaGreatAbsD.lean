/- A part of a proof: the text that states the row tells what is proved. No condition is laid on anything. -/
import Derived.Test.YtligpalonlliaaaGreatAbsB
set_option linter.all false
set_option linter.constructorNameAsVariable false
set_option linter.defProp false
set_option linter.unusedVariables false
set_option linter.unusedSimpArgs false
namespace Go.Proofs.Abs
open Go

/-! ### Trees, sets, rows as data -/
structure Nd where
  kind : Int
  a : Int
  b : Int
  set : List (Int × Int)
  name : ByteArray

def I64 (n : Int) : Prop := -9223372036854775808 ≤ n ∧ n ≤ 9223372036854775807
def eSet (s : List (Int × Int)) : AV := .list 2 (s.map fun x => [.int .i64 x.1, .int .i64 x.2])
def eNd (n : Nd) : List AV := [.int .i64 n.kind, .int .i64 n.a, .int .i64 n.b, eSet n.set, .str n.name]
def eTree (t : List Nd) : AV := .list 5 (t.map eNd)
def eRow (l : List Int) : AV := .list 1 (l.map fun x => [.int .i64 x])
structure WfS (s : List (Int × Int)) : Prop where
  len : s.length ≤ 9223372036854775807
  all : ∀ x ∈ s, I64 x.1 ∧ I64 x.2
structure WfN (n : Nd) : Prop where
  kind : I64 n.kind
  a : I64 n.a
  b : I64 n.b
  set : WfS n.set
  name : n.name.size ≤ 9223372036854775807
structure WfT (t : List Nd) : Prop where
  len : t.length ≤ 9223372036854775807
  all : ∀ x ∈ t, WfN x

theorem wf_int {n : Int} (h : (Lit.int .i64 n).wf = true) : I64 n := by
  simp only [Lit.wf, Bool.and_eq_true, decide_eq_true_eq] at h
  have h1 : IntKind.i64.min = -9223372036854775808 := rfl
  have h2 : IntKind.i64.max = 9223372036854775807 := rfl
  rw [h1, h2] at h
  exact h

theorem map_inj' {α β : Type} {f : α → β} (hf : ∀ x y, f x = f y → x = y) : ∀ {a b : List α}, a.map f = b.map f → a = b
  | [], [], _ => rfl
  | [], _ :: _, h => by simp at h
  | _ :: _, [], h => by simp at h
  | x :: a, y :: b, h => by
    simp only [List.map_cons, List.cons.injEq] at h
    rw [hf _ _ h.1, map_inj' hf h.2]
theorem eSet_inj {a b : List (Int × Int)} (h : eSet a = eSet b) : a = b := by
  unfold eSet at h
  injection h with _ h
  refine map_inj' ?_ h
  intro x y e
  simp only [List.cons.injEq, AV.int.injEq, and_true, true_and] at e
  exact Prod.ext e.1 e.2
theorem eNd_inj {a b : Nd} (h : eNd a = eNd b) : a = b := by
  unfold eNd at h
  simp only [List.cons.injEq, AV.int.injEq, AV.str.injEq, and_true, true_and] at h
  obtain ⟨h1, h2, h3, h4, h5⟩ := h
  cases a; cases b
  simp only at h1 h2 h3 h4 h5
  rw [h1, h2, h3, eSet_inj h4, h5]
theorem eTree_inj {a b : List Nd} (h : eTree a = eTree b) : a = b := by
  unfold eTree at h
  injection h with _ h
  exact map_inj' (fun x y e => eNd_inj e) h
theorem eRow_inj {a b : List Int} (h : eRow a = eRow b) : a = b := by
  unfold eRow at h
  injection h with _ h
  refine map_inj' ?_ h
  intro x y e
  simp only [List.cons.injEq, AV.int.injEq, and_true, true_and] at e
  exact e

theorem pure_flat {rows : List (List AV)} (h : ∀ r ∈ rows, ∀ a ∈ r, Pure a) (j : Nat) (av : AV) (e : rows.flatten[j]? = some av) : Pure av := by
  obtain ⟨r, hr, ha⟩ := List.mem_flatten.1 (List.mem_of_getElem? e)
  exact h r hr av ha
theorem pure_eSet (s : List (Int × Int)) : Pure (eSet s) := .list _ _ (pure_flat (by
  intro r hr a ha
  obtain ⟨x, _, rfl⟩ := List.mem_map.1 hr
  simp only [List.mem_cons, List.not_mem_nil, or_false] at ha
  rcases ha with rfl | rfl <;> exact .int _ _))
theorem pure_eNd (n : Nd) : ∀ a ∈ eNd n, Pure a := by
  intro a ha
  simp only [eNd, List.mem_cons, List.not_mem_nil, or_false] at ha
  rcases ha with rfl | rfl | rfl | rfl | rfl
  · exact .int _ _
  · exact .int _ _
  · exact .int _ _
  · exact pure_eSet _
  · exact .str _
theorem pure_eTree (t : List Nd) : Pure (eTree t) := .list _ _ (pure_flat (by
  intro r hr a ha
  obtain ⟨x, _, rfl⟩ := List.mem_map.1 hr
  exact pure_eNd x a ha))
theorem pure_eRow (l : List Int) : Pure (eRow l) := .list _ _ (pure_flat (by
  intro r hr a ha
  obtain ⟨x, _, rfl⟩ := List.mem_map.1 hr
  simp only [List.mem_cons, List.not_mem_nil, or_false] at ha
  subst ha
  exact .int _ _))

/-! What comes in. -/
def shSet : Sh := .sl [.int .i64, .int .i64]
def shNode : List Sh := [.int .i64, .int .i64, .int .i64, shSet, .str]
def shTree : Sh := .sl shNode
def shRow : Sh := .sl [.int .i64]
theorem okv_i64 {v : AV} (h : Okv (.int .i64) v) : ∃ n, v = .int .i64 n ∧ I64 n := by
  cases h with
  | int _ n h => exact ⟨n, rfl, wf_int h⟩
theorem rows_of {α : Type} {f : α → List AV} {p : α → Prop} : ∀ {rows : List (List AV)}, (∀ r ∈ rows, ∃ x, r = f x ∧ p x) → ∃ l : List α, rows = l.map f ∧ ∀ x ∈ l, p x
  | [], _ => ⟨[], rfl, by simp⟩
  | r :: rows, h => by
    obtain ⟨x, rfl, hx⟩ := h r (by simp)
    obtain ⟨l, rfl, hl⟩ := rows_of (f := f) (p := p) (rows := rows) fun r hr => h r (by simp [hr])
    exact ⟨x :: l, rfl, by simpa using ⟨hx, hl⟩⟩
theorem okv_set {v : AV} (h : Okv shSet v) : ∃ s, v = eSet s ∧ WfS s := by
  unfold shSet at h
  cases h with
  | sl _ rows hl hr hv =>
    obtain ⟨l, rfl, hp⟩ := rows_of (f := fun x : Int × Int => [.int .i64 x.1, .int .i64 x.2]) (p := fun x => I64 x.1 ∧ I64 x.2) (rows := rows) fun r hm => by
      have h1 := hr r hm
      match r, h1 with
      | [a, b], _ =>
        obtain ⟨n, rfl, hn⟩ := okv_i64 (hv _ hm 0 _ _ rfl rfl)
        obtain ⟨m, rfl, hm'⟩ := okv_i64 (hv _ hm 1 _ _ rfl rfl)
        exact ⟨(n, m), rfl, hn, hm'⟩
    exact ⟨l, rfl, by simpa [maxLen] using hl, hp⟩
theorem okv_row {v : AV} (h : Okv shRow v) : ∃ s, v = eRow s ∧ s.length ≤ 9223372036854775807 ∧ ∀ x ∈ s, I64 x := by
  unfold shRow at h
  cases h with
  | sl _ rows hl hr hv =>
    obtain ⟨l, rfl, hp⟩ := rows_of (f := fun x : Int => [.int .i64 x]) (p := I64) (rows := rows) fun r hm => by
      have h1 := hr r hm
      match r, h1 with
      | [a], _ =>
        obtain ⟨n, rfl, hn⟩ := okv_i64 (hv _ hm 0 _ _ rfl rfl)
        exact ⟨n, rfl, hn⟩
    exact ⟨l, rfl, by simpa [maxLen] using hl, hp⟩
theorem okv_tree {v : AV} (h : Okv shTree v) : ∃ t, v = eTree t ∧ WfT t := by
  unfold shTree at h
  cases h with
  | sl _ rows hl hr hv =>
    obtain ⟨l, rfl, hp⟩ := rows_of (f := eNd) (p := WfN) (rows := rows) fun r hm => by
      have h1 := hr r hm
      match r, h1 with
      | [a, b, c, d, e], _ =>
        obtain ⟨k, rfl, hk⟩ := okv_i64 (hv _ hm 0 _ _ rfl rfl)
        obtain ⟨n, rfl, hn⟩ := okv_i64 (hv _ hm 1 _ _ rfl rfl)
        obtain ⟨m, rfl, hm'⟩ := okv_i64 (hv _ hm 2 _ _ rfl rfl)
        obtain ⟨s, rfl, hs⟩ := okv_set (hv _ hm 3 _ _ rfl rfl)
        have h5 := hv _ hm 4 _ _ rfl rfl
        cases h5 with
        | str x hx => exact ⟨⟨k, n, m, s, x⟩, rfl, hk, hn, hm', hs, by simpa [maxLen] using hx⟩
    exact ⟨l, rfl, by simpa [maxLen] using hl, hp⟩
end Go.Proofs.Abs
