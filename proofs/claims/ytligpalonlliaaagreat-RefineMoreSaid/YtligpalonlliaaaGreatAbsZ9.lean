/- A part of a proof: the text that states the row tells what is proved. No condition is laid on anything. -/
import Derived.Test.YtligpalonlliaaaGreatAbsZ8
import Derived.Test.YtligpalonlliaaaGreatAbsZW
set_option linter.all false
set_option linter.constructorNameAsVariable false
set_option linter.defProp false
set_option linter.unusedVariables false
set_option linter.unusedSimpArgs false
set_option maxRecDepth 100000
set_option maxHeartbeats 16000000
namespace Go.Proofs.Abs
open Go
/-! 1061: caesuralaw04.RefineOne. -/
noncomputable def r8 : FT := upd r7 6 kW.ora
theorem r8_ok : FTOK Tryz.prog r8 := upd_ok2 (f := 6) r7_ok ook1004
theorem both_self {s : List R2} (h : goodS s = true) : bothS s s = s := by
  obtain ⟨g, m⟩ := both_good h h
  exact gdL_ext g ((gdL_iff _).1 h) fun v _ => by rw [m v, and_self]
theorem both_not {s : List R2} (h : goodS s = true) : bothS s (notS s) = [] := by
  obtain ⟨n1, n2⟩ := notS_good h
  obtain ⟨g, m⟩ := both_good h (good_of n1)
  exact gdL_ext g .nil fun v hv => by rw [m v, n2 v hv]; simp [memS]
theorem first_in {s : List R2} (h : goodS s = true) (hne : s ≠ []) : ∃ v, isS v = true ∧ inS v s = true ∧ s.head? ≠ none := by
  cases s with
  | nil => exact absurd rfl hne
  | cons r s =>
    obtain ⟨a, _, c⟩ := wholeS_iff.1 (((gdL_iff _).1 h).whole r (List.mem_cons_self ..))
    exact ⟨r.1, a, inS_iff.2 ⟨r, List.mem_cons_self .., Int.le_refl _, c⟩, by simp⟩
theorem in_not {s : List R2} (h : goodS s = true) {v : Int} (hv : isS v = true) : inS v (notS s) = !inS v s := by
  have := (notS_good h).2 v hv
  rw [← inS_iff, ← inS_iff] at this
  cases a : inS v (notS s) <;> cases b : inS v s <;> simp_all
theorem is0 : isS 0 = true := by decide
/-- The first range's beginning, and whether nothing is in the set. -/
theorem lo_zero {s : List R2} (h : goodS s = true) (h0 : 0 < s.length) : 0 ≤ (s.getD 0 (0, 0)).1 ∧ ((s.getD 0 (0, 0)).1 = 0 ↔ inS 0 s = true) := by
  have hG := (gdL_iff _).1 h
  have hm : s.getD 0 (0, 0) ∈ s := by rw [getD_eq h0]; exact List.getElem_mem h0
  obtain ⟨a, b, c⟩ := wholeS_iff.1 (hG.whole _ hm)
  have ha := isS_iff.1 a
  refine ⟨by omega, ?_, ?_⟩
  · intro e
    exact inS_iff.2 ⟨_, hm, by omega, by omega⟩
  · intro e
    obtain ⟨r, hr, k1, k2⟩ := inS_iff.1 e
    obtain ⟨j, hj, ej⟩ := List.getElem_of_mem hr
    rw [← getD_eq hj] at ej
    subst ej
    by_cases hj0 : j = 0
    · subst hj0; omega
    · have := lo_up hG (i := 0) (j := j) (by omega) hj
      omega
theorem e1006s (s : List R2) (hs : s.length ≤ 60) (q : Id) (H : Heap) : k1006.ora q [.list 1 [[(AV.list 2 (List.map (fun x => [AV.int .i64 x.1, AV.int .i64 x.2]) (s)))]]] H = some (.tuple [(AV.list 1 (List.map (fun s => [(AV.list 2 (List.map (fun x => [AV.int .i64 x.1, AV.int .i64 x.2]) (s)))]) (partsV [s]))), .bool (partsB [s])], H) :=
  e1006 [s] ⟨by simp, by simp [lenS]; omega, fun t ht => by rw [List.mem_singleton.1 ht]; omega⟩ q H
theorem e1014a (P : List (List R2)) (h0 : P.length ≤ 1000000) (h1 : ∀ s ∈ P, s.length ≤ 9223372036854775807) (q : Id) (H : Heap) : k1014.ora q [(AV.list 1 (List.map (fun s => [(AV.list 2 (List.map (fun x => [AV.int .i64 x.1, AV.int .i64 x.2]) (s)))]) (P))), .list 1 [[.list 2 [[.int .i64 0, .int .i64 1114111]]]]] H = some (.bool (decide (P = [allS])), H) :=
  e1014 P [allS] ⟨h0, h1⟩ q H
theorem e1014b (P : List (List R2)) (x y : List R2) (h0 : P.length ≤ 1000000) (h1 : ∀ s ∈ P, s.length ≤ 9223372036854775807) (q : Id) (H : Heap) : k1014.ora q [(AV.list 1 (List.map (fun s => [(AV.list 2 (List.map (fun x => [AV.int .i64 x.1, AV.int .i64 x.2]) (s)))]) (P))), .list 1 [[(AV.list 2 (List.map (fun x => [AV.int .i64 x.1, AV.int .i64 x.2]) (x)))], [(AV.list 2 (List.map (fun x => [AV.int .i64 x.1, AV.int .i64 x.2]) (y)))]]] H = some (.bool (decide (P = [x, y])), H) :=
  e1014 P [x, y] ⟨h0, h1⟩ q H
theorem e1012s (s : List R2) (P : List (List R2)) (hs : s.length ≤ 60) (h0 : P.length ≤ 1000) (h1 : ∀ s ∈ P, s.length ≤ 400000) (q : Id) (H : Heap) : k1012.ora q [.list 1 [[(AV.list 2 (List.map (fun x => [AV.int .i64 x.1, AV.int .i64 x.2]) (s)))]], (AV.list 1 (List.map (fun s => [(AV.list 2 (List.map (fun x => [AV.int .i64 x.1, AV.int .i64 x.2]) (s)))]) (P)))] H = some (.tuple [.list 1 (List.map (fun y => [(AV.list 1 (List.map (fun x => [AV.int .i64 x]) (y)))]) (withinV [s] P)), .bool (withinB [s] P)], H) :=
  e1012 [s] P ⟨by simp, h0, fun t ht => by rw [List.mem_singleton.1 ht]; omega, h1⟩ q H
end Go.Proofs.Abs
