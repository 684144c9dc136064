/- A part of a proof: the text that states the row tells what is proved. No condition is laid on anything. -/
import Derived.WalkKit
import Derived.Lib.Small
import Derived.Lib.Walk
import Derived.StillTailTactics
import Derived.Deep.QuietTactic
import Derived.BigQuiet
import Derived.Shelf.SlSortCmp.WholeK
import Derived.Test.YtligpalonlliaaaGreatProg
set_option linter.all false
set_option linter.constructorNameAsVariable false
set_option linter.defProp false
set_option linter.unusedVariables false
set_option linter.unusedSimpArgs false
namespace Go.Proofs.Rg
open Go Go.Proofs Go.RowKit Go.Lib Go.Sort
set_option maxHeartbeats 1000000 in
theorem isNaN_int (x : Int) (w : World) : Calls Tryz.prog 59 #[.int .i64 x] w fun e w' => e = .returned (.bool false) ∧ w' = w := by
  go_enter Tryz.func59, Tryz.ntmps59
  go_wp2
  go_ret
  exact ⟨by simp, rfl⟩
set_option maxHeartbeats 1000000 in
theorem compare_int (x y : Int) (w : World) : Calls Tryz.prog 34 #[.int .i64 x, .int .i64 y] w fun e w' => e = .returned (.int .i64 (Lib.compareInt x y)) ∧ w' = w := by
  go_enter Tryz.func34, Tryz.ntmps34
  go_wp2_with (go_at_call 59; refine (isNaN_int _ _).mono ?_; rintro e w' ⟨rfl, hw⟩; rw [hw])
  all_goals (go_ret; refine ⟨?_, rfl⟩; unfold Lib.compareInt; (repeat' split) <;> first | rfl | (exfalso; omega))
set_option maxHeartbeats 1000000 in
theorem or_int (x y : Int) (g : Nat) (w : World) (h0 : w.cell? ⟨g, 0, none⟩ = some (.int .i64 x)) (h1 : w.cell? ⟨g, 1, none⟩ = some (.int .i64 y)) :
    Calls Tryz.prog 70 #[.slice (some ⟨g, 0, none⟩) 2 2] w fun e w' => e = .returned (.int .i64 (if x = 0 then y else x)) ∧ w' = w := by
  go_enter Tryz.func70, Tryz.ntmps70
  go_wp2
  go_loopw [8] (fun i wr => ∃ k : Nat, k ≤ 2 ∧ i = .int .i64 k ∧ (1 ≤ k → x = 0) ∧ (2 ≤ k → y = 0) ∧ wr = w) (fun i _ => 2 - (RowKit.intOf i).toNat)
  case atStart => exact ⟨0, by omega, rfl, by omega, by omega, rfl⟩
  case round =>
    obtain ⟨k, hk, rfl, h1x, h2y, rfl⟩ := hrel
    match k, hk with
    | 0, _ =>
      by_cases hx : x = 0
      · subst hx
        go_wp2
        go_roundw
        case rel => exact ⟨1, by simp⟩
        case measure => simp [RowKit.intOf]
      · go_wp2
        go_ret
        exact ⟨by simp, rfl⟩
    | 1, _ =>
      have hx := h1x (by omega)
      subst hx
      by_cases hy : y = 0
      · subst hy
        go_wp2
        go_roundw
        case rel => exact ⟨2, by simp⟩
        case measure => simp [RowKit.intOf]
      · go_wp2
        go_ret
        exact ⟨by simp, rfl⟩
    | 2, _ =>
      have hx := h1x (by omega)
      have hy := h2y (by omega)
      subst hx hy
      go_wp2
      go_ret
      exact ⟨by simp, rfl⟩
def ordZ (x y : Int × Int) : Int := if Lib.compareInt x.1 y.1 = 0 then Lib.compareInt x.2 y.2 else Lib.compareInt x.1 y.1
set_option maxRecDepth 100000 in
set_option maxHeartbeats 1000000 in
theorem order_in (x y : Int × Int) (W : World) : Calls Tryz.prog 53 #[.agg #[.int .i64 x.1, .int .i64 x.2], .agg #[.int .i64 y.1, .int .i64 y.2]] W fun e w' => e = .returned (.int .i64 (ordZ x y)) ∧ ∃ q os', w' = grow (W.drewN q) os' := by
  unfold ordZ
  have c1 := fun W' => compare_int x.1 y.1 W'
  have c2 := fun W' => compare_int x.2 y.2 W'
  have o := fun g W' => or_int (Lib.compareInt x.1 y.1) (Lib.compareInt x.2 y.2) g W'
  generalize Lib.compareInt x.1 y.1 = r1 at *
  generalize Lib.compareInt x.2 y.2 = r2 at *
  go_enter Tryz.func53, Tryz.ntmps53
  go_wp2
  refine wp_region_still_tail 10 (by kernel_rfl) (by kernel_rfl) ?_
  change wpStill _ _ ((W.alloc (.cells #[.int .i64 x.1, .int .i64 x.2] 55)).alloc (.cells #[.int .i64 y.1, .int .i64 y.2] 55)).drew (fun a' => wpList _ _ _ _ a' ((W.alloc (.cells #[.int .i64 x.1, .int .i64 x.2] 55)).alloc (.cells #[.int .i64 y.1, .int .i64 y.2] 55)).drew) _ _
  have f1 : (((W.alloc (.cells #[.int .i64 x.1, .int .i64 x.2] 55)).alloc (.cells #[.int .i64 y.1, .int .i64 y.2] 55)).drew).cell? ⟨W.heap.size, 0, none⟩ = some (.int .i64 x.1) := by simp [go_sem]
  have f2 : (((W.alloc (.cells #[.int .i64 x.1, .int .i64 x.2] 55)).alloc (.cells #[.int .i64 y.1, .int .i64 y.2] 55)).drew).cell? ⟨W.heap.size, 1, none⟩ = some (.int .i64 x.2) := by simp [go_sem]
  have f3 : (((W.alloc (.cells #[.int .i64 x.1, .int .i64 x.2] 55)).alloc (.cells #[.int .i64 y.1, .int .i64 y.2] 55)).drew).cell? ⟨W.heap.size + 1, 0, none⟩ = some (.int .i64 y.1) := by simp [go_sem]
  have f4 : (((W.alloc (.cells #[.int .i64 x.1, .int .i64 x.2] 55)).alloc (.cells #[.int .i64 y.1, .int .i64 y.2] 55)).drew).cell? ⟨W.heap.size + 1, 1, none⟩ = some (.int .i64 y.2) := by simp [go_sem]
  have hW : ((W.alloc (.cells #[.int .i64 x.1, .int .i64 x.2] 55)).alloc (.cells #[.int .i64 y.1, .int .i64 y.2] 55)).drew = grow (W.drewN 1) #[.cells #[.int .i64 x.1, .int .i64 x.2] 55, .cells #[.int .i64 y.1, .int .i64 y.2] 55] := by rw [alloc_eq_grow, alloc_eq_grow, grow_grow]; rfl
  generalize ((W.alloc (.cells #[.int .i64 x.1, .int .i64 x.2] 55)).alloc (.cells #[.int .i64 y.1, .int .i64 y.2] 55)).drew = W2 at f1 f2 f3 f4 hW ⊢
  have HW : Hid (W2 = _) := hW
  clear hW
  simp only [List.take_succ_cons, List.take_zero, List.drop_succ_cons, List.drop_zero]
  iterate 4 still_step
  still_call (c1 _)
  iterate 4 still_step
  still_call (c2 _)
  refine wpStill_nil ?_
  go_wp2_with (go_at_call 70; refine (o _ _ ?_ ?_).mono ?_; (simp [go_sem]); (simp [go_sem]); rintro e w' ⟨rfl, hw⟩; rw [hw])
  all_goals (go_ret; exact ⟨rfl, 1, _, by rw [HW.out, alloc_eq_grow, grow_grow]⟩)
abbrev encL (x : Int × Int) : List Value := [.int .i64 x.1, .int .i64 x.2]
theorem cmpLays87 (blk off size : Nat) (w : World) : CmpLays Tryz.prog 53 #[] encL 2 ordZ blk off size w := fun _ _ _ _ x y => order_in x y _
def ltZ (x y : Int × Int) : Bool := decide (x.1 < y.1 ∨ (x.1 = y.1 ∧ x.2 < y.2))
theorem ltOf_ordZ (x y : Int × Int) : ltOf ordZ x y = ltZ x y := by
  unfold ltOf ordZ ltZ Lib.compareInt
  rcases Int.lt_trichotomy x.1 y.1 with h | h | h
  · simp [h]
  · rcases Int.lt_trichotomy x.2 y.2 with k | k | k
    · simp [h, k]
    · simp [h, k]
    · have : ¬ x.2 < y.2 := by omega
      simp [h, k, this]
  · have h1 : ¬ x.1 < y.1 := by omega
    have h2 : ¬ x.1 = y.1 := by omega
    simp [h, h1, h2]
theorem swoZ : SWO (ltOf ordZ) where
  irrefl x := by rw [ltOf_ordZ]; simp [ltZ]
  trans x y z h1 h2 := by rw [ltOf_ordZ] at *; simp only [ltZ, decide_eq_true_eq] at *; omega
  ntrans x y z h1 h2 := by rw [ltOf_ordZ] at *; simp only [ltZ, decide_eq_false_iff_not] at *; omega
end Go.Proofs.Rg
