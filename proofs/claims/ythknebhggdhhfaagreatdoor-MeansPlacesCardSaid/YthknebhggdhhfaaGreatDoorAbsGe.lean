/- A part of a proof: the text that states the row tells what is proved. No condition is laid on anything. -/
import Derived.RangeFuncNested
import Derived.RangeFuncBox
import Derived.RangeFuncLeaves
import Derived.Shelf.Abstract
import Derived.WalkKit
import Derived.OwnWalkIn
import Derived.TacticsInMore
import Derived.LoopNIn
import Derived.LoopIn
import Derived.Maps.AppendAt
import Derived.Test.YthknebhggdhhfaaGreatDoorProg
import Derived.Shelf.SlSortCmp.WholeK
import Derived.Ground.SlsfProg
import Derived.Lib.Small
import Derived.Lib.Walk
import Derived.StillTailTactics
import Derived.Deep.QuietTactic
import Derived.BigQuiet
import Derived.Shelf.SlSortCmp.NoneTotal
import Derived.Test.YthknebhggdhhfaaGreatDoorAbsGd
import Derived.Shelf.Spec.SlicesGrow
import Derived.Ground.Names8Prog
import Derived.Test.YthknebhggdhhfaaGreatDoorAbsGc
import Derived.Recover
import Derived.KernelRfl
set_option linter.all false
set_option linter.constructorNameAsVariable false
set_option linter.defProp false
set_option linter.unusedVariables false
set_option linter.unusedSimpArgs false
namespace Go.Proofs.Rg
open Go Go.Proofs Go.RowKit Go.Shelf
attribute [local go_sem] Oper.semAt_some
def upto {α : Type} (f : Nat → α) (k : Nat) : List α := (List.range k).map f
theorem upto_succ {α : Type} (f : Nat → α) (k : Nat) : upto f (k + 1) = upto f k ++ [f k] := by simp [upto, List.range_succ]
theorem upto_length {α : Type} (f : Nat → α) (k : Nat) : (upto f k).length = k := by simp [upto]
theorem upto_all (zs : List (Int × Int)) : upto (fun j => zs[j]?.getD (0, 0)) zs.length = zs := by
  apply List.ext_getElem
  · simp [upto]
  · intro i h1 h2
    simp [upto, h2]
abbrev encR (x : Int × Int) : Value := .agg #[.int .i64 x.1, .int .i64 x.2]
set_option maxRecDepth 100000 in
set_option maxHeartbeats 2000000 in
theorem values1_in (F : Fence) (n : Nat) (h7 : F.fn 160) (hro : F.round = none) (hn : 1 ≤ n) (l Bs n₀ b off len cap : Nat) (zs : List (Int × Int)) (hreach : len * 16 ≤ 140737488351232) (hb : b < n₀) (J Jx : List (Int × Int) → World → Prop)
    (hA : ∀ pre W o, J pre W → J pre (W.alloc o))
    (hY : ∀ pre x W, J pre W → pre.length < len → YieldAt F (n - 1) Tryz.prog l #[encR x] W fun e W' =>
      (e = .returned (.bool true) ∧ J (pre ++ [x]) W' ∧ Below n₀ W W') ∨ (e = .returned (.bool false) ∧ Jx (pre ++ [x]) W'))
    (W : World) (hn₀ : n₀ ≤ W.heap.size) (hBs : W.cell? ⟨Bs, 0, none⟩ = some (.slice (some ⟨b, off, none⟩) len cap)) (hc : ∀ j, j < len → W.cell? ⟨b, off + j * 2, none⟩ = some (.int .i64 (zs[j]?.getD (0, 0)).1) ∧ W.cell? ⟨b, off + j * 2 + 1, none⟩ = some (.int .i64 (zs[j]?.getD (0, 0)).2)) (h0 : J [] W) :
    CallsIn F n Tryz.prog 160 #[.func (.yield l) #[] #[], .pointer (some ⟨Bs, 0, none⟩)] W fun e W' => (∃ v, e = .returned v) ∧
      ((∃ ys, ys = upto (fun j => zs[j]?.getD (0, 0)) len ∧ J ys W') ∨ (∃ pre, (∃ k, k ≤ len ∧ pre = upto (fun j => zs[j]?.getD (0, 0)) k) ∧ Jx pre W')) := by
  refine callsIn_of_wp Tryz.func160 rfl h7 ?_ hro
  simp only [Tryz.ntmps160, List.size_toArray, List.length_cons, List.length_nil, Nat.reduceAdd, Nat.reduceSub, Array.replicate_succ, Array.replicate_zero, List.push_toArray, List.append_toArray, List.nil_append, List.cons_append]
  gi_wp2
  gi_loopw [7] (fun i wr => ∃ k : Nat, k ≤ len ∧ i = .int .i64 k ∧ J (upto (fun j => zs[j]?.getD (0, 0)) k) wr ∧ Below n₀ W wr)
    (fun i _ => len - (intOf i).toNat)
  case atStart => exact ⟨0, Nat.zero_le _, rfl, h0, Below.refl _ _⟩
  case round =>
    obtain ⟨k, hk, rfl, hJs, hnx⟩ := hrel
    by_cases hlt : k < len
    · have hc1 : wr.cell? ⟨b, off + k * 2, none⟩ = some (.int .i64 (zs[k]?.getD (0, 0)).1) := (hnx.cell (p := ⟨b, off + k * 2, none⟩) hb).trans (hc k hlt).1
      have hc2 : wr.cell? ⟨b, off + k * 2 + 1, none⟩ = some (.int .i64 (zs[k]?.getD (0, 0)).2) := (hnx.cell (p := ⟨b, off + k * 2 + 1, none⟩) hb).trans (hc k hlt).2
      have hnx2 : Below n₀ wr (wr.alloc (Obj.cells #[Value.int IntKind.i64 (zs[k]?.getD (0, 0)).1, Value.int IntKind.i64 (zs[k]?.getD (0, 0)).2] 52)) := (Below.refl _ _).alloc (Nat.le_trans hn₀ hnx.size) _
      obtain ⟨fn, tmps, assign, body, hy, hR⟩ := hY _ (zs[k]?.getD (0, 0)) _ (hA _ _ (Obj.cells #[Value.int IntKind.i64 (zs[k]?.getD (0, 0)).1, Value.int IntKind.i64 (zs[k]?.getD (0, 0)).2] 52) hJs) (by rw [upto_length]; exact hlt)
      gi_wp2
      refine hR.mono ?_
      rintro e W3 (⟨rfl, hJ3, hk3⟩ | ⟨rfl, hJx3⟩)
      · gi_wp2
        go_roundw
        case rel => exact ⟨k + 1, by omega, by simp, by rw [upto_succ]; exact hJ3, (hnx.trans hnx2).trans hk3⟩
        case measure => simp [intOf]; omega
      · gi_wp2
        refine bodyPost_ret (results_none rfl _ _ _) rfl ?_
        exact ⟨⟨_, rfl⟩, .inr ⟨_, ⟨k + 1, by omega, (upto_succ _ _).symm⟩, hJx3⟩⟩
    · obtain rfl : k = len := by omega
      gi_wp2
      go_end0
      exact ⟨⟨_, rfl⟩, .inl ⟨_, rfl, hJs⟩⟩
theorem upto_take (zs : List (Int × Int)) {k : Nat} (hk : k ≤ zs.length) : upto (fun j => zs[j]?.getD (0, 0)) k = zs.take k := by
  apply List.ext_getElem
  · simp [upto, hk]
  · intro i h1 h2
    have : i < zs.length := by simp [upto] at h1; omega
    simp [upto, this]
def Rgs (n₀ : Nat) (W : World) (sv : Value) (zs : List (Int × Int)) : Prop :=
  (∃ p cap, sv = .slice p 0 cap ∧ zs = []) ∨ ∃ b off cap, sv = .slice (some ⟨b, off, none⟩) zs.length cap ∧ b < n₀ ∧ ∀ j, j < zs.length → W.cell? ⟨b, off + j * 2, none⟩ = some (.int .i64 (zs[j]?.getD (0, 0)).1) ∧ W.cell? ⟨b, off + j * 2 + 1, none⟩ = some (.int .i64 (zs[j]?.getD (0, 0)).2)
theorem Rgs.below {n₀ : Nat} {A B : World} (h : Below n₀ A B) {sv : Value} {zs : List (Int × Int)} : Rgs n₀ A sv zs → Rgs n₀ B sv zs
  | .inl e => .inl e
  | .inr ⟨b, off, cap, e, hb, hc⟩ => .inr ⟨b, off, cap, e, hb, fun j hj => ⟨(h.cell (p := ⟨b, off + j * 2, none⟩) hb).trans (hc j hj).1, (h.cell (p := ⟨b, off + j * 2 + 1, none⟩) hb).trans (hc j hj).2⟩⟩
set_option maxRecDepth 100000 in
set_option maxHeartbeats 1000000 in
theorem values1_nil_in (F : Fence) (n : Nat) (h7 : F.fn 160) (hro : F.round = none) (l Bs cap : Nat) (p : Option Addr) (J : List (Int × Int) → World → Prop) (W : World) (hBs : W.cell? ⟨Bs, 0, none⟩ = some (.slice p 0 cap)) (h0 : J [] W) :
    CallsIn F n Tryz.prog 160 #[.func (.yield l) #[] #[], .pointer (some ⟨Bs, 0, none⟩)] W fun e W' => (∃ v, e = .returned v) ∧ J [] W' := by
  refine callsIn_of_wp Tryz.func160 rfl h7 ?_ hro
  simp only [Tryz.ntmps160, List.size_toArray, List.length_cons, List.length_nil, Nat.reduceAdd, Nat.reduceSub, Array.replicate_succ, Array.replicate_zero, List.push_toArray, List.append_toArray, List.nil_append, List.cons_append]
  gi_wp2
  gi_loopw [7] (fun i wr => i = .int .i64 0 ∧ J [] wr) (fun _ _ => 0)
  case atStart => exact ⟨rfl, h0⟩
  case round =>
    obtain ⟨rfl, hJs⟩ := hrel
    gi_wp2
    go_end0
    exact ⟨⟨_, rfl⟩, hJs⟩
theorem abides_alloc {β : Type} {B : Nat} {J : β → World → Prop} (h : AbidesFrom B J) (s : β) (W : World) (o : Obj) (hj : J s W) : J s (W.alloc o) := h s W _ none hj (World.grownBy_alloc W o none) (fun r e => by cases e)
theorem values_stops (F : Fence) (n : Nat) (h7 : F.fn 160) (hro : F.round = none) (hn : 1 ≤ n) (Bs n₀ : Nat) (sv : Value) (zs : List (Int × Int)) (hreach : zs.length * 16 ≤ 140737488351232) (w : World) (hBs : Bs < w.heap.size) (hn₀ : n₀ ≤ w.heap.size)
    (hc : w.cell? ⟨Bs, 0, none⟩ = some sv) (hI : Rgs n₀ w sv zs) :
    SeqStopsK F n Tryz.prog 160 #[.pointer (some ⟨Bs, 0, none⟩)] (fun x : Int × Int => #[encR x]) (Below n₀) (fun ys => ys = zs) (fun pre => pre <+: zs) zs.length w := fun l J Jx W hW hJ _ hY h0 => by
  have hc' := (hW.cell (p := ⟨Bs, 0, none⟩) hBs).trans hc
  rcases hI.below (hW.mono hn₀) with ⟨p, cap, rfl, rfl⟩ | ⟨b, off, cap, rfl, hb, hcs⟩
  · exact (values1_nil_in F n h7 hro l Bs cap p J W hc' h0).mono fun e W' ⟨he, hj⟩ => ⟨he, .inl ⟨_, rfl, hj⟩⟩
  · refine (values1_in F n h7 hro hn l Bs n₀ b off zs.length cap zs hreach hb J Jx (fun s W o h => abides_alloc hJ s W o h) hY W (Nat.le_trans hn₀ hW.size) hc' hcs h0).mono ?_
    rintro e W' ⟨he, ⟨ys, rfl, hj⟩ | ⟨pre, ⟨k, hk, rfl⟩, hj⟩⟩
    · exact ⟨he, .inl ⟨_, upto_all zs, hj⟩⟩
    · exact ⟨he, .inr ⟨_, by rw [upto_take zs hk]; exact List.take_prefix _ _, hj⟩⟩
def cellsR (l : List (Int × Int)) : List Value := l.flatMap fun x => [.int .i64 x.1, .int .i64 x.2]
theorem cellsR_snoc (l : List (Int × Int)) (x : Int × Int) : cellsR (l ++ [x]) = cellsR l ++ [.int .i64 x.1, .int .i64 x.2] := by simp [cellsR]
theorem cells_two_new (w : World) (x y : Value) (t : TypeId) : ∀ j u, [x, y][j]? = some u → (w.alloc (.cells #[x, y] t)).cell? ((⟨w.heap.size, 0, none⟩ : Addr).add j) = some u := by
  intro j u hj
  match j, hj with
  | 0, hj =>
    simp at hj; subst hj
    show (match (w.alloc (.cells #[x, y] t)).heap[w.heap.size]? with | some (.cells c _ _) => c[0]? | _ => none) = _
    rw [World.alloc_heap_new]; rfl
  | 1, hj =>
    simp at hj; subst hj
    show (match (w.alloc (.cells #[x, y] t)).heap[w.heap.size]? with | some (.cells c _ _) => c[0 + 1]? | _ => none) = _
    rw [World.alloc_heap_new]; rfl
theorem info70 : (Tryz.prog.info? 52).map (fun i => (i.zero, i.size, i.bytes)) = some (some (.agg #[.int .i64 0, .int .i64 0]), 2, 16) := by kernel_rfl
def AxR (t0 t1 t2 t3 t4 t6 : Value) (x : Int × Int) (a' : Act) (W : World) : Prop :=
  ∃ B, a' = { tmps := #[t0, t1, t2, t3, t4, .pointer (some ⟨B, 0, none⟩), t6, encR x, undef, undef, undef, undef, undef], defers := [] } ∧ W.heap[B]? = some (.cells #[.int .i64 x.1, .int .i64 x.2] 52 (0, 0))
theorem axR_own (t0 t1 t2 t3 t4 t6 : Value) (N : Nat) (x : Int × Int) (a' : Act) : OwnFrom N (fun (_ : Unit) W => AxR t0 t1 t2 t3 t4 t6 x a' W) := by
  rintro _ X Y row ⟨B, e, hB⟩ hg hrow
  refine ⟨B, e, (hg.block B (Array.getElem?_eq_some_iff.1 hB).1 fun e' => ?_).trans hB⟩
  obtain ⟨_, o, ho, hc⟩ := hrow B e'.symm
  rw [hB] at ho; cases ho; cases hc
set_option maxRecDepth 100000 in
set_option maxHeartbeats 4000000 in
theorem appendSeq_in (F : Fence) (n : Nat) (h130 : F.fn 183) (h115 : F.fn 160) (hro : F.round = none) (hn : 3 ≤ n) (Bs : Nat) (sv : Value) (zs : List (Int × Int)) (hlen : zs.length ≤ 1000000) (w : World) (hBs : Bs < w.heap.size)
    (hc : w.cell? ⟨Bs, 0, none⟩ = some sv) (hI : Rgs w.heap.size w sv zs) :
    CallsIn F n Tryz.prog 183 #[.slice none 0 0, .func (.func 160) #[] #[.pointer (some ⟨Bs, 0, none⟩)]] w fun e W' => ∃ v, e = .returned v ∧ W'.ownsRow w.heap.size 52 2 v zs.length (cellsR zs) ∧ Below w.heap.size w W' := by
  have h1 : 1 ≤ n := by omega
  obtain ⟨i0, hi, hz0, hz1, hz2⟩ := info_parts info70
  refine callsIn_of_wp_marks Tryz.func183 rfl h130 ?_ hro
  simp only [Tryz.ntmps183, List.size_toArray, List.length_cons, List.length_nil, Nat.reduceAdd, Nat.reduceSub, Array.replicate_succ, Array.replicate_zero, List.push_toArray, List.append_toArray, List.nil_append, List.cons_append]
  gi_wp2
  have bO := Boxed.new w 53 (.slice none 0 0)
  have hB0 : Below w.heap.size w (w.alloc (.cells #[.slice none 0 0] 53)) := (Below.refl _ w).alloc (Nat.le_refl _) _
  refine wpIn_rangeFunc_ownH hro h1 (gf := 160) (lb := #[.pointer (some ⟨Bs, 0, none⟩)]) rfl h115 (enters_of Tryz.func160 (by kernel_rfl) rfl)
    (values_stops F (n - 1) h115 hro (by omega) Bs w.heap.size sv zs (by omega) _ (by simp; omega) (by simp) ((hB0.cell (p := ⟨Bs, 0, none⟩) hBs).trans hc) (hI.below hB0)) belowK_t (belowK_b (by simp)) (Below.refl _ _) (fun _ => rfl)
    (fun pre W => (∃ v, Boxed W w.heap.size 53 v ∧ W.ownsRow w.heap.size 52 2 v pre.length (cellsR pre) ∧ True) ∧ Below w.heap.size w W)
    (fun _ _ _ => False)
    (OwnFrom.and (Own.from (holdsRow_own w.heap.size w.heap.size 53 52 2 (fun pre => pre.length) cellsR (fun _ _ => True)) _) (ownFrom_below (Nat.le_refl _) (by simp)))
    (fun _ _ _ _ _ hs _ _ => hs)
    ⟨⟨_, bO, World.ownsRow_nil _ _ _ _, trivial⟩, hB0⟩
    (AxR (.slice none 0 0) (.func (.func 160) #[] #[.pointer (some ⟨Bs, 0, none⟩)]) (.pointer (some ⟨w.heap.size, 0, none⟩)) undef (.slice none 0 0) (.func (.func 160) #[] #[.pointer (some ⟨Bs, 0, none⟩)])) (axR_own _ _ _ _ _ _ _)
    ?assign ?body ?done ?stop
  case assign =>
    rintro l pre x W K ⟨⟨v, hv, hrow, _⟩, hB⟩ hK
    gi_wp2
    exact hK _ _ ((KeepsOthers.alloc W _).from _) ((Below.refl _ _).alloc hB.size _) ⟨⟨v, hv.alloc _, hrow.alloc _, trivial⟩, hB.alloc hB.size _⟩ ⟨W.heap.size, rfl, World.alloc_heap_new W _⟩
  case body =>
    rintro l pre x a' W hl hr ⟨⟨v, hv, hrow, _⟩, hB⟩ ⟨B, rfl, hBx⟩ hlt
    have hc := hv.cell
    have hx1 : W.cell? ⟨B, 0, none⟩ = some (.int .i64 x.1) := by simp [World.cell?, hBx]
    have hx2 : W.cell? ⟨B, 1, none⟩ = some (.int .i64 x.2) := by simp [World.cell?, hBx]
    have hml : (1000000 : Nat) ≤ maxLen := by decide
    gi_wp2_with (gi_at_builtin; refine wpListIn_append_own _ rfl _ _ 53 rfl w.heap.size 52 i0 (.agg #[.int .i64 0, .int .i64 0]) 2 16 Tryz.underlying53 hi hz0 hz1 hz2 rfl (by decide) _ _ _ rfl (hrow.alloc _) ⟨W.heap.size, 0, none⟩ 1 1 [.int .i64 x.1, .int .i64 x.2] rfl rfl (cells_two_new _ _ _ _) (by simp [Value.oneCell']) (by omega) (by omega) (by have := hB.size; simp; omega) ?_; intro v' w1 hown' hgrow _; obtain ⟨g', cap', rfl⟩ := ownsRow_succ hown'; obtain ⟨hv1, hv2, hr2, hk2, hb2⟩ := hv.appended (by decide) hrow hB.size (Nat.le_refl _) hown' hgrow; have hc1 := hv1.cell; have hf1 := hv1.frozen)
    exact ⟨hk2.from _, hb2, ⟨_, hv2, by rw [cellsR_snoc]; simpa using hr2, trivial⟩, hB.trans hb2⟩
  case done =>
    rintro D ys W hD rfl ⟨⟨v, hv, hrow, _⟩, hB⟩ hK
    have hc := hv.cell
    gi_wp2
    refine ⟨by simp, .inl ⟨_, _, rfl, run_takeDeferred hK, ?_⟩⟩
    exact ⟨_, results_tmp rfl _ _ _, v, rfl, ownsRow_putObj hrow _ hK rfl, hB.trans (belowK_b (w := w) (Nat.le_refl _) W D _ _ (by simp at hD; omega) hK rfl rfl)⟩
  case stop =>
    rintro D c pre W _ _ h _
    exact h.elim
end Go.Proofs.Rg

namespace Go.Proofs
open Go.Shelf
def Tryz.sortRg_ren : Go.Shelf.Ren := ⟨fun | 6 => 159 | 15 => 154 | 14 => 184 | 28 => 180 | 29 => 181 | 20 => 198 | 21 => 199 | 22 => 200 | 23 => 201 | 24 => 202 | 25 => 203 | 26 => 204 | 27 => 205 | 46 => 210 | 47 => 194 | 48 => 195 | 49 => 211 | 50 => 212 | 57 => 221 | n => n, fun | 22 => 53 | 24 => 52 | 25 => 197 | 3 => 3 | 39 => 211 | 0 => 0 | 53 => 236 | 55 => 238 | 4 => 4 | 46 => 230 | 45 => 229 | 50 => 69 | 5 => 5 | 9 => 9 | 66 => 246 | 70 => 250 | 76 => 258 | 77 => 259 | n => n, fun | n => n⟩
theorem Tryz.sortRg : Go.Proofs.SlLaysF0.n6 Tryz.prog Tryz.sortRg_ren := {
  mixed := by kernel_rfl
  f6 := ⟨Tryz.f159.name, by decide, Tryz.func159.trans (congrArg some (by kernel_rfl))⟩
  f14 := ⟨Tryz.f184.name, by decide, Tryz.func184.trans (congrArg some (by kernel_rfl))⟩
  f15 := Tryz.func154.trans (congrArg some (by kernel_rfl))
  f20 := ⟨Tryz.f198.name, by decide, Tryz.func198.trans (congrArg some (by kernel_rfl))⟩
  f21 := ⟨Tryz.f199.name, by decide, Tryz.func199.trans (congrArg some (by kernel_rfl))⟩
  f22 := ⟨Tryz.f200.name, by decide, Tryz.func200.trans (congrArg some (by kernel_rfl))⟩
  f23 := ⟨Tryz.f201.name, by decide, Tryz.func201.trans (congrArg some (by kernel_rfl))⟩
  f24 := ⟨Tryz.f202.name, by decide, Tryz.func202.trans (congrArg some (by kernel_rfl))⟩
  f25 := ⟨Tryz.f203.name, by decide, Tryz.func203.trans (congrArg some (by kernel_rfl))⟩
  f26 := ⟨Tryz.f204.name, by decide, Tryz.func204.trans (congrArg some (by kernel_rfl))⟩
  f27 := ⟨Tryz.f205.name, by decide, Tryz.func205.trans (congrArg some (by kernel_rfl))⟩
  f28 := Tryz.func180.trans (congrArg some (by kernel_rfl))
  f29 := Tryz.func181.trans (congrArg some (by kernel_rfl))
  f46 := ⟨Tryz.f210.name, by decide, Tryz.func210.trans (congrArg some (by kernel_rfl))⟩
  f47 := Tryz.func194.trans (congrArg some (by kernel_rfl))
  f48 := Tryz.func195.trans (congrArg some (by kernel_rfl))
  f49 := ⟨Tryz.f211.name, by decide, Tryz.func211.trans (congrArg some (by kernel_rfl))⟩
  f50 := ⟨Tryz.f212.name, by decide, Tryz.func212.trans (congrArg some (by kernel_rfl))⟩
  f57 := ⟨Tryz.f221.name, by decide, Tryz.func221.trans (congrArg some (by kernel_rfl))⟩
  t0 := Tryz.underlying0
  a0 := Tryz.isAgg0
  z0 := Tryz.sizeOf0
  v0 := Tryz.zeroValue0
  t3 := Tryz.underlying3
  a3 := Tryz.isAgg3
  z3 := Tryz.sizeOf3
  v3 := Tryz.zeroValue3
  t4 := Tryz.underlying4
  a4 := Tryz.isAgg4
  z4 := Tryz.sizeOf4
  v4 := Tryz.zeroValue4
  t5 := Tryz.underlying5
  a5 := Tryz.isAgg5
  z5 := Tryz.sizeOf5
  v5 := Tryz.zeroValue5
  t9 := Tryz.underlying9
  a9 := Tryz.isAgg9
  z9 := Tryz.sizeOf9
  v9 := Tryz.zeroValue9
  t22 := Tryz.underlying53
  a22 := Tryz.isAgg53
  z22 := Tryz.sizeOf53
  v22 := Tryz.zeroValue53
  t25 := Tryz.underlying197
  a25 := Tryz.isAgg197
  z25 := Tryz.sizeOf197
  v25 := Tryz.zeroValue197
  t39 := Tryz.underlying211
  a39 := Tryz.isAgg211
  z39 := Tryz.sizeOf211
  v39 := Tryz.zeroValue211
  t45 := Tryz.underlying229
  a45 := Tryz.isAgg229
  z45 := Tryz.sizeOf229
  v45 := Tryz.zeroValue229
  t46 := Tryz.underlying230
  a46 := Tryz.isAgg230
  z46 := Tryz.sizeOf230
  v46 := Tryz.zeroValue230
  t50 := Tryz.underlying69
  a50 := Tryz.isAgg69
  z50 := Tryz.sizeOf69
  v50 := Tryz.zeroValue69
  t53 := Tryz.underlying236
  a53 := Tryz.isAgg236
  z53 := Tryz.sizeOf236
  v53 := Tryz.zeroValue236
  t55 := Tryz.underlying238
  a55 := Tryz.isAgg238
  z55 := Tryz.sizeOf238
  v55 := Tryz.zeroValue238
  t66 := Tryz.underlying246
  a66 := Tryz.isAgg246
  z66 := Tryz.sizeOf246
  v66 := Tryz.zeroValue246
  t70 := Tryz.underlying250
  a70 := Tryz.isAgg250
  z70 := Tryz.sizeOf250
  v70 := Tryz.zeroValue250
  t76 := Tryz.underlying258
  a76 := Tryz.isAgg258
  z76 := Tryz.sizeOf258
  v76 := Tryz.zeroValue258
  t77 := Tryz.underlying259
  a77 := Tryz.isAgg259
  z77 := Tryz.sizeOf259
  v77 := Tryz.zeroValue259 }
end Go.Proofs

namespace Go.Proofs.Rg
open Go Go.Proofs Go.RowKit Go.Lib Go.Sort
set_option maxHeartbeats 1000000 in
theorem isNaN_int (x : Int) (w : World) : Calls Tryz.prog 182 #[.int .i64 x] w fun e w' => e = .returned (.bool false) ∧ w' = w := by
  go_enter Tryz.func182, Tryz.ntmps182
  go_wp2
  go_ret
  exact ⟨by simp, rfl⟩
set_option maxHeartbeats 1000000 in
theorem compare_int (x y : Int) (w : World) : Calls Tryz.prog 157 #[.int .i64 x, .int .i64 y] w fun e w' => e = .returned (.int .i64 (Lib.compareInt x y)) ∧ w' = w := by
  go_enter Tryz.func157, Tryz.ntmps157
  go_wp2_with (go_at_call 182; refine (isNaN_int _ _).mono ?_; rintro e w' ⟨rfl, hw⟩; rw [hw])
  all_goals (go_ret; refine ⟨?_, rfl⟩; unfold Lib.compareInt; (repeat' split) <;> first | rfl | (exfalso; omega))
set_option maxHeartbeats 1000000 in
theorem or_int (x y : Int) (g : Nat) (w : World) (h0 : w.cell? ⟨g, 0, none⟩ = some (.int .i64 x)) (h1 : w.cell? ⟨g, 1, none⟩ = some (.int .i64 y)) :
    Calls Tryz.prog 161 #[.slice (some ⟨g, 0, none⟩) 2 2] w fun e w' => e = .returned (.int .i64 (if x = 0 then y else x)) ∧ w' = w := by
  go_enter Tryz.func161, Tryz.ntmps161
  go_wp2
  go_loopw [8] (fun i wr => ∃ k : Nat, k ≤ 2 ∧ i = .int .i64 k ∧ (1 ≤ k → x = 0) ∧ (2 ≤ k → y = 0) ∧ wr = w) (fun i _ => 2 - (RowKit.intOf i).toNat)
  case atStart => exact ⟨0, by omega, rfl, by omega, by omega, rfl⟩
  case round =>
    obtain ⟨k, hk, rfl, h1x, h2y, rfl⟩ := hrel
    match k, hk with
    | 0, _ =>
      by_cases hx : x = 0
      · subst hx
        go_wp2
        go_roundw
        case rel => exact ⟨1, by simp⟩
        case measure => simp [RowKit.intOf]
      · go_wp2
        go_ret
        exact ⟨by simp, rfl⟩
    | 1, _ =>
      have hx := h1x (by omega)
      subst hx
      by_cases hy : y = 0
      · subst hy
        go_wp2
        go_roundw
        case rel => exact ⟨2, by simp⟩
        case measure => simp [RowKit.intOf]
      · go_wp2
        go_ret
        exact ⟨by simp, rfl⟩
    | 2, _ =>
      have hx := h1x (by omega)
      have hy := h2y (by omega)
      subst hx hy
      go_wp2
      go_ret
      exact ⟨by simp, rfl⟩
def ordZ (x y : Int × Int) : Int := if Lib.compareInt x.1 y.1 = 0 then Lib.compareInt x.2 y.2 else Lib.compareInt x.1 y.1
set_option maxRecDepth 100000 in
set_option maxHeartbeats 1000000 in
theorem order_in (x y : Int × Int) (W : World) : Calls Tryz.prog 139 #[.agg #[.int .i64 x.1, .int .i64 x.2], .agg #[.int .i64 y.1, .int .i64 y.2]] W fun e w' => e = .returned (.int .i64 (ordZ x y)) ∧ ∃ q os', w' = grow (W.drewN q) os' := by
  unfold ordZ
  have c1 := fun W' => compare_int x.1 y.1 W'
  have c2 := fun W' => compare_int x.2 y.2 W'
  have o := fun g W' => or_int (Lib.compareInt x.1 y.1) (Lib.compareInt x.2 y.2) g W'
  generalize Lib.compareInt x.1 y.1 = r1 at *
  generalize Lib.compareInt x.2 y.2 = r2 at *
  go_enter Tryz.func139, Tryz.ntmps139
  go_wp2
  refine wp_region_still_tail 10 (by kernel_rfl) (by kernel_rfl) ?_
  change wpStill _ _ ((W.alloc (.cells #[.int .i64 x.1, .int .i64 x.2] 52)).alloc (.cells #[.int .i64 y.1, .int .i64 y.2] 52)).drew (fun a' => wpList _ _ _ _ a' ((W.alloc (.cells #[.int .i64 x.1, .int .i64 x.2] 52)).alloc (.cells #[.int .i64 y.1, .int .i64 y.2] 52)).drew) _ _
  have f1 : (((W.alloc (.cells #[.int .i64 x.1, .int .i64 x.2] 52)).alloc (.cells #[.int .i64 y.1, .int .i64 y.2] 52)).drew).cell? ⟨W.heap.size, 0, none⟩ = some (.int .i64 x.1) := by simp [go_sem]
  have f2 : (((W.alloc (.cells #[.int .i64 x.1, .int .i64 x.2] 52)).alloc (.cells #[.int .i64 y.1, .int .i64 y.2] 52)).drew).cell? ⟨W.heap.size, 1, none⟩ = some (.int .i64 x.2) := by simp [go_sem]
  have f3 : (((W.alloc (.cells #[.int .i64 x.1, .int .i64 x.2] 52)).alloc (.cells #[.int .i64 y.1, .int .i64 y.2] 52)).drew).cell? ⟨W.heap.size + 1, 0, none⟩ = some (.int .i64 y.1) := by simp [go_sem]
  have f4 : (((W.alloc (.cells #[.int .i64 x.1, .int .i64 x.2] 52)).alloc (.cells #[.int .i64 y.1, .int .i64 y.2] 52)).drew).cell? ⟨W.heap.size + 1, 1, none⟩ = some (.int .i64 y.2) := by simp [go_sem]
  have hW : ((W.alloc (.cells #[.int .i64 x.1, .int .i64 x.2] 52)).alloc (.cells #[.int .i64 y.1, .int .i64 y.2] 52)).drew = grow (W.drewN 1) #[.cells #[.int .i64 x.1, .int .i64 x.2] 52, .cells #[.int .i64 y.1, .int .i64 y.2] 52] := by rw [alloc_eq_grow, alloc_eq_grow, grow_grow]; rfl
  generalize ((W.alloc (.cells #[.int .i64 x.1, .int .i64 x.2] 52)).alloc (.cells #[.int .i64 y.1, .int .i64 y.2] 52)).drew = W2 at f1 f2 f3 f4 hW ⊢
  have HW : Hid (W2 = _) := hW
  clear hW
  simp only [List.take_succ_cons, List.take_zero, List.drop_succ_cons, List.drop_zero]
  iterate 4 still_step
  still_call (c1 _)
  iterate 4 still_step
  still_call (c2 _)
  refine wpStill_nil ?_
  go_wp2_with (go_at_call 161; refine (o _ _ ?_ ?_).mono ?_; (simp [go_sem]); (simp [go_sem]); rintro e w' ⟨rfl, hw⟩; rw [hw])
  all_goals (go_ret; exact ⟨rfl, 1, _, by rw [HW.out, alloc_eq_grow, grow_grow]⟩)
abbrev encL (x : Int × Int) : List Value := [.int .i64 x.1, .int .i64 x.2]
theorem cmpLays87 (blk off size : Nat) (w : World) : CmpLays Tryz.prog 139 #[] encL 2 ordZ blk off size w := fun _ _ _ _ x y => order_in x y _
def ltZ (x y : Int × Int) : Bool := decide (x.1 < y.1 ∨ (x.1 = y.1 ∧ x.2 < y.2))
theorem ltOf_ordZ (x y : Int × Int) : ltOf ordZ x y = ltZ x y := by
  unfold ltOf ordZ ltZ Lib.compareInt
  rcases Int.lt_trichotomy x.1 y.1 with h | h | h
  · simp [h]
  · rcases Int.lt_trichotomy x.2 y.2 with k | k | k
    · simp [h, k]
    · simp [h, k]
    · have : ¬ x.2 < y.2 := by omega
      simp [h, k, this]
  · have h1 : ¬ x.1 < y.1 := by omega
    have h2 : ¬ x.1 = y.1 := by omega
    simp [h, h1, h2]
theorem swoZ : SWO (ltOf ordZ) where
  irrefl x := by rw [ltOf_ordZ]; simp [ltZ]
  trans x y z h1 h2 := by rw [ltOf_ordZ] at *; simp only [ltZ, decide_eq_true_eq] at *; omega
  ntrans x y z h1 h2 := by rw [ltOf_ordZ] at *; simp only [ltZ, decide_eq_false_iff_not] at *; omega
end Go.Proofs.Rg

namespace Go.Proofs.Rg
open Go Go.Proofs Go.RowKit Go.Sort Go.Shelf
def insZ (x : Int × Int) : List (Int × Int) → List (Int × Int)
  | [] => [x]
  | y :: r => if ltZ y x then y :: insZ x r else x :: y :: r
def sortZ : List (Int × Int) → List (Int × Int)
  | [] => []
  | x :: r => insZ x (sortZ r)
theorem insZ_perm (x : Int × Int) : ∀ l, (insZ x l).Perm (x :: l)
  | [] => .refl _
  | y :: r => by
    unfold insZ
    split
    · exact ((insZ_perm x r).cons y).trans (.swap _ _ _)
    · exact .refl _
theorem sortZ_perm : ∀ l, (sortZ l).Perm l
  | [] => .refl _
  | x :: r => (insZ_perm x _).trans ((sortZ_perm r).cons x)
theorem sortZ_length (l : List (Int × Int)) : (sortZ l).length = l.length := (sortZ_perm l).length_eq
def SortedZ (l : List (Int × Int)) : Prop := l.Pairwise fun a b => ltZ b a = false
theorem ltZ_iff {x y : Int × Int} : ltZ x y = true ↔ x.1 < y.1 ∨ (x.1 = y.1 ∧ x.2 < y.2) := by simp [ltZ]
theorem ltZ_not {x y : Int × Int} : ltZ x y = false ↔ ¬ (x.1 < y.1 ∨ (x.1 = y.1 ∧ x.2 < y.2)) := by simp [ltZ]
theorem insZ_sorted (x : Int × Int) : ∀ l, SortedZ l → SortedZ (insZ x l)
  | [], _ => by simp [insZ, SortedZ]
  | y :: r, h => by
    obtain ⟨h1, h2⟩ := List.pairwise_cons.1 h
    unfold insZ
    split
    · rename_i hlt
      refine List.pairwise_cons.2 ⟨fun b hb => ?_, insZ_sorted x r h2⟩
      rcases List.mem_cons.1 ((insZ_perm x r).mem_iff.1 hb) with rfl | hb
      · rw [ltZ_iff] at hlt; rw [ltZ_not]; omega
      · exact h1 b hb
    · rename_i hlt
      have hlt' : ltZ y x = false := by simpa using hlt
      refine List.pairwise_cons.2 ⟨fun b hb => ?_, h⟩
      rcases List.mem_cons.1 hb with rfl | hb
      · exact hlt'
      · have := h1 b hb
        rw [ltZ_not] at this hlt' ⊢; omega
theorem sortZ_sorted : ∀ l, SortedZ (sortZ l)
  | [] => .nil
  | x :: r => insZ_sorted x _ (sortZ_sorted r)
theorem sorted_one : ∀ {a b : List (Int × Int)}, a.Perm b → SortedZ a → SortedZ b → a = b
  | [], b, hp, _, _ => by simpa using hp.symm.eq_nil.symm
  | x :: r, [], hp, _, _ => absurd hp.eq_nil (by simp)
  | x :: r, y :: s, hp, ha, hb => by
    obtain ⟨a1, a2⟩ := List.pairwise_cons.1 ha
    obtain ⟨b1, b2⟩ := List.pairwise_cons.1 hb
    have hxy : x = y := by
      rcases List.mem_cons.1 (hp.mem_iff.1 (List.mem_cons_self ..)) with h | hx
      · exact h
      rcases List.mem_cons.1 (hp.mem_iff.2 (List.mem_cons_self ..)) with h | hy
      · exact h.symm
      have h1 := a1 y hy
      have h2 := b1 x hx
      rw [ltZ_not] at h1 h2
      exact Prod.ext (by omega) (by omega)
    subst hxy
    rw [sorted_one (List.perm_cons x |>.1 hp) a2 b2]
theorem merge_sortZ (l : List (Int × Int)) : l.mergeSort (fun x y => !(ltOf ordZ) y x) = sortZ l := by
  have tr : ∀ a b c : Int × Int, (!(ltOf ordZ) b a) = true → (!(ltOf ordZ) c b) = true → (!(ltOf ordZ) c a) = true := fun a b c h1 h2 => by
    simp only [ltOf_ordZ, Bool.not_eq_true'] at *
    rw [ltZ_not] at *; omega
  have to : ∀ a b : Int × Int, ((!(ltOf ordZ) b a) || (!(ltOf ordZ) a b)) = true := fun a b => by
    simp only [ltOf_ordZ, Bool.or_eq_true, Bool.not_eq_true']
    by_cases h : ltZ b a = false
    · exact .inl h
    · right
      have h : ltZ b a = true := by simpa using h
      rw [ltZ_iff] at h; rw [ltZ_not]; omega
  refine sorted_one ((List.mergeSort_perm l _).trans (sortZ_perm l).symm) ?_ (sortZ_sorted l)
  have := List.pairwise_mergeSort (le := fun x y => !(ltOf ordZ) y x) tr to l
  exact this.imp fun h => by simpa [ltOf_ordZ] using h
theorem cellsR_length (l : List (Int × Int)) : (cellsR l).length = l.length * 2 := by
  induction l with
  | nil => rfl
  | cons x r ih => simp only [cellsR, List.flatMap_cons, List.length_append, List.length_cons, List.length_nil] at *; omega
theorem cellsR_get : ∀ (l : List (Int × Int)) (t : Nat), t < l.length * 2 → (cellsR l)[t]! = (encL l[t / 2]!)[t % 2]!
  | [], t, h => by simp at h
  | x :: r, t, h => by
    match t with
    | 0 => rfl
    | 1 => rfl
    | t + 2 =>
      have := cellsR_get r t (by simp at h; omega)
      have e1 : (t + 2) / 2 = t / 2 + 1 := by omega
      have e2 : (t + 2) % 2 = t % 2 := by omega
      rw [e1, e2]
      show (encL x ++ cellsR r)[t + 2]! = _
      simpa using this
theorem flatK_cells (l : List (Int × Int)) : (flatK encL 2 l.toArray).toList = cellsR l := by
  apply List.ext_getElem
  · rw [cellsR_length]; simp [flatK]
  · intro t h1 h2
    have ht : t < l.length * 2 := by rw [cellsR_length] at h2; exact h2
    have a := cellsR_get l t ht
    rw [getElem!_pos (cellsR l) t h2] at a
    rw [a]
    simp [flatK]
theorem putCells_take (F cur : Array Value) (h : F.size ≤ cur.size) : (putCells id 0 F cur).toList.take F.size = F.toList := by
  apply List.ext_getElem
  · simp [putCells]; omega
  · intro t h1 h2
    have ht : t < F.size := by simpa using h2
    simp [putCells, ht]
theorem isAgg70 : ∀ w, (isAgg 52).run Tryz.prog w = .ok true w := fun w => by kernel_rfl
theorem sizeOf70 : ∀ w, (Go.sizeOf 52).run Tryz.prog w = .ok 2 w := fun w => by kernel_rfl
theorem sort_nil (w : World) : Calls Tryz.prog 159 #[.slice none 0 0, .func (.func 139) #[] #[]] w fun e w' => e = .returned (.tuple #[]) ∧ w' = w :=
  AnyF.slices_SortFunc_none Tryz.sortRg none 0 _ w
theorem sort_own (w : World) (base g cap : Nat) (cur : Array Value) (zs : List (Int × Int)) (hg : w.heap[g]? = some (.cells cur 52 (0, 0))) (hcap : zs.length ≤ cap) (hm : cap ≤ maxLen) (hcur : cur.size = cap * 2) (hb : base ≤ g) (hx : cur.toList.take (zs.length * 2) = cellsR zs) (hz : zs.length < 1000001) :
    Calls Tryz.prog 159 #[.slice (some ⟨g, 0, none⟩) zs.length cap, .func (.func 139) #[] #[]] w fun e w' => e = .returned (.tuple #[]) ∧ w'.ownsRow base 52 2 (.slice (some ⟨g, 0, none⟩) zs.length cap) zs.length (cellsR (sortZ zs)) ∧ w'.tape = w.tape ∧ w'.os = w.os ∧ w'.output = w.output ∧ w.heap.size ≤ w'.heap.size ∧ ∀ k, k < w.heap.size → k ≠ g → w'.heap[k]? = w.heap[k]? := by
  have hlt : g < w.heap.size := (Array.getElem?_eq_some_iff.1 hg).1
  have hsz : (flatK encL 2 zs.toArray).size = zs.length * 2 := by simp
  have hH : HoldsK encL 2 w g 0 zs.toArray := fun j hj => by
    rw [hsz] at hj
    have hjc : j < cur.size := by omega
    have e1 : cur[j]? = some ((flatK encL 2 zs.toArray)[j]!) := by
      have a : cur.toList[j]? = (cellsR zs)[j]? := by rw [← hx, List.getElem?_take, if_pos hj]
      rw [← flatK_cells] at a
      rw [← Array.getElem?_toList, a, Array.getElem?_toList]
      have : j < (flatK encL 2 zs.toArray).size := by rw [hsz]; exact hj
      rw [getElem!_pos (flatK encL 2 zs.toArray) j this, Array.getElem?_eq_getElem this]
    constructor
    · simp only [World.cell?, hg, Nat.zero_add]
      exact e1
    · simp [World.frozen?, hg]
  have h := AnyQ.slices_SortFunc_total Tryz.sortRg 2 isAgg70 sizeOf70 encL (fun _ => rfl) (fun x v hv => by simp at hv; rcases hv with rfl | rfl <;> rfl) ordZ swoZ 139 #[] g 0 cap zs.toArray w (enters_of Tryz.func139 (by kernel_rfl) rfl) (cmpLays87 _ _ _ w) hH hlt (by simp; omega)
    (fun x y h1 h2 => by rw [ltOf_ordZ, ltZ_not] at h1 h2; exact Prod.ext (by omega) (by omega))
  refine h.mono ?_
  rintro e w' ⟨rfl, n, os, rfl⟩
  rw [show zs.toArray.toList = zs from rfl, merge_sortZ]
  have hsz2 : (flatK encL 2 (sortZ zs).toArray).size = zs.length * 2 := by simp [sortZ_length]
  have hmod : ∀ k, k < w.heap.size → (sortWorldK encL 2 w g 0 n (sortZ zs).toArray os).heap[k]? = if g = k then some (.cells (putCells id 0 (flatK encL 2 (sortZ zs).toArray) cur) 52 (0, 0)) else w.heap[k]? := fun k hk => by
    show ((w.heap.modify g _) ++ os)[k]? = _
    rw [Array.getElem?_append_left (by simpa using hk), Array.getElem?_modify]
    split
    · rename_i e; subst e; rw [hg]; rfl
    · rfl
  refine ⟨rfl, ⟨by rw [cellsR_length, sortZ_length], .inr ⟨g, cap, _, rfl, hb, (hmod g hlt).trans (if_pos rfl), hcap, hm, by simp [putCells, hcur], ?_⟩⟩, rfl, rfl, rfl, by simp [sortWorldK, grow, putRowK, putRow, mapBlock, ahead], fun k hk hne => (hmod k hk).trans (if_neg (Ne.symm hne))⟩
  rw [← hsz2, putCells_take _ _ (by rw [hsz2, hcur]; omega), flatK_cells]
set_option maxRecDepth 100000 in
set_option maxHeartbeats 1000000 in
theorem collect_in (F : Fence) (n : Nat) (h113 : F.fn 158) (h130 : F.fn 183) (h115 : F.fn 160) (hro : F.round = none) (hn : 4 ≤ n) (Bs : Nat) (sv : Value) (zs : List (Int × Int)) (hlen : zs.length ≤ 1000000) (w : World) (hBs : Bs < w.heap.size)
    (hc : w.cell? ⟨Bs, 0, none⟩ = some sv) (hI : Rgs w.heap.size w sv zs) :
    CallsIn F n Tryz.prog 158 #[.func (.func 160) #[] #[.pointer (some ⟨Bs, 0, none⟩)]] w fun e W' => ∃ v, e = .returned v ∧ W'.ownsRow w.heap.size 52 2 v zs.length (cellsR zs) ∧ Below w.heap.size w W' := by
  have h1 : 1 ≤ n := by omega
  refine callsIn_of_wp Tryz.func158 rfl h113 ?_ hro
  simp only [Tryz.ntmps158, List.size_toArray, List.length_cons, List.length_nil, Nat.reduceAdd, Nat.reduceSub, Array.replicate_succ, Array.replicate_zero, List.push_toArray, List.append_toArray, List.nil_append, List.cons_append]
  gi_wp2_with (gi_at_call 183; refine (appendSeq_in F (n - 1) h130 h115 hro (by omega) Bs sv zs hlen _ hBs hc hI).mono ?_; rintro e w' ⟨v, rfl, hrow, hb⟩)
  go_ret
  exact ⟨v, rfl, hrow, hb⟩
def allF : Fence := { fn := fun _ => True }
theorem collect (Bs : Nat) (sv : Value) (zs : List (Int × Int)) (hlen : zs.length ≤ 1000000) (w : World) (hBs : Bs < w.heap.size)
    (hc : w.cell? ⟨Bs, 0, none⟩ = some sv) (hI : Rgs w.heap.size w sv zs) :
    Calls Tryz.prog 158 #[.func (.func 160) #[] #[.pointer (some ⟨Bs, 0, none⟩)]] w fun e W' => ∃ v, e = .returned v ∧ W'.ownsRow w.heap.size 52 2 v zs.length (cellsR zs) ∧ Below w.heap.size w W' :=
  (collect_in allF 4 trivial trivial trivial rfl (Nat.le_refl _) Bs sv zs hlen w hBs hc hI).calls fun k d hd => by cases hd
set_option maxRecDepth 100000 in
set_option maxHeartbeats 1000000 in
theorem sortedFunc (Bs : Nat) (sv : Value) (zs : List (Int × Int)) (hlen : zs.length ≤ 1000000) (w : World) (hBs : Bs < w.heap.size)
    (hc : w.cell? ⟨Bs, 0, none⟩ = some sv) (hI : Rgs w.heap.size w sv zs) :
    Calls Tryz.prog 137 #[.func (.func 160) #[] #[.pointer (some ⟨Bs, 0, none⟩)], .func (.func 139) #[] #[]] w fun e W' => ∃ v, e = .returned v ∧ W'.ownsRow w.heap.size 52 2 v zs.length (cellsR (sortZ zs)) ∧ Below w.heap.size w W' := by
  have hcol := collect Bs sv zs hlen w hBs hc hI
  have hsort : ∀ W v, W.ownsRow w.heap.size 52 2 v zs.length (cellsR zs) → Below w.heap.size w W → Calls Tryz.prog 159 #[v, .func (.func 139) #[] #[]] W fun e W' => e = .returned (.tuple #[]) ∧ (W'.ownsRow w.heap.size 52 2 v zs.length (cellsR (sortZ zs)) ∧ Below w.heap.size w W') := by
    intro W v hrow hb
    rcases hrow.2 with ⟨rfl, h0⟩ | ⟨g, cap, cur, rfl, hbg, hg, hcap, hm, hcur, hx⟩
    · have : zs = [] := List.eq_nil_of_length_eq_zero h0
      subst this
      exact (sort_nil W).mono fun e W' ⟨he, hw⟩ => ⟨he, by rw [hw]; exact hrow, by rw [hw]; exact hb⟩
    · refine (sort_own W w.heap.size g cap cur zs hg hcap hm hcur hbg hx (by omega)).mono ?_
      rintro e W' ⟨rfl, hrow', ht, ho, hou, hs, hk⟩
      exact ⟨rfl, hrow', ho.trans hb.os, ht.trans hb.tape, hou.trans hb.output, Nat.le_trans hb.size hs, fun k hk' => (hk k (Nat.lt_of_lt_of_le hk' hb.size) (by omega)).trans (hb.block k hk')⟩
  clear hc hI
  go_enter Tryz.func137, Tryz.ntmps137
  go_wp2_with (first | (go_at_call 158; refine hcol.mono ?_; rintro e w' ⟨v, rfl, hrow, hb⟩) | (go_at_call 159; refine (hsort _ _ hrow hb).mono ?_; rintro e w'' ⟨rfl, hrow', hb'⟩))
  go_ret
  exact ⟨v, rfl, hrow', hb'⟩
end Go.Proofs.Rg

namespace Go.Proofs.Abs
open Go Go.Proofs
def rgOf : List (List AV) → Option (List (Int × Int))
  | [] => some []
  | [.int .i64 a, .int .i64 b] :: r => match rgOf r with
    | some l => some ((a, b) :: l)
    | none => none
  | _ => none
def rgRows (l : List (Int × Int)) : List (List AV) := l.map fun x => [.int .i64 x.1, .int .i64 x.2]
theorem rgOf_rows : ∀ l, rgOf (rgRows l) = some l
  | [] => rfl
  | x :: r => by
    have := rgOf_rows r
    unfold rgRows at this ⊢
    simp [rgOf, this]
theorem rgOf_some : ∀ {rows : List (List AV)} {l : List (Int × Int)}, rgOf rows = some l → rows = rgRows l
  | [], l, h => by simp [rgOf] at h; subst h; rfl
  | r :: rs, l, h => by
    unfold rgOf at h
    split at h
    · rename_i heq; cases heq
    · rename_i a b r' heq
      injection heq with e1 e2
      subst e1 e2
      split at h
      · rename_i l' hl'
        injection h with h
        subst h
        rw [rgOf_some hl']; rfl
      · cases h
    · cases h
theorem rgRows_length (l : List (Int × Int)) : (rgRows l).length = l.length := by simp [rgRows]
def boxRg : AV → Option (List (Int × Int))
  | .list 2 rows => rgOf rows
  | .nils => some []
  | .emp => some []
  | _ => none
def sfSpec (q : Id) (args : List AV) (H : Heap) : Option (AV × Heap) :=
  match args with
  | [.func 160 [.ref id 1 _ 0], .func 139 []] => match hget H id with
    | some (.box [c]) => match boxRg c with
      | some zs => if zs.length ≤ 1000000 then some (.own (q ++ [0]) zs.length, hadd H (q ++ [0]) (.row true true 52 2 (rgRows (Rg.sortZ zs)))) else none
      | none => none
    | _ => none
  | _ => none
theorem boxRg_rep {C : Ctx} {c : AV} {v : Value} {zs : List (Int × Int)} (h : boxRg c = some zs) (hr : Rep C c v) : Rg.Rgs C.w.heap.size C.w v zs := by
  unfold boxRg at h
  split at h
  · rename_i rows
    obtain rfl := rgOf_some h
    cases hr with
    | list _ _ base cap vals h0 hc hz hrl hb hf hv =>
      by_cases hn : zs = []
      · subst hn; exact .inl ⟨base, cap, rfl, rfl⟩
      · have hne : rgRows zs ≠ [] := fun e => hn (by simpa [rgRows] using e)
        obtain ⟨ad, rfl, hs⟩ := hb hne
        obtain ⟨blk, off, spot⟩ := ad
        simp only at hs
        subst hs
        have cell : ∀ j x, (rgRows zs).flatten[j]? = some x → ∃ u, C.w.cell? ⟨blk, off + j, none⟩ = some u ∧ Rep C x u := fun j x e => ⟨_, ((hf j x e).2 _ rfl).1, hv j x e⟩
        have fl : ∀ (l : List (Int × Int)) (j : Nat), j < l.length → (rgRows l).flatten[j * 2]? = some (.int .i64 (l[j]?.getD (0, 0)).1) ∧ (rgRows l).flatten[j * 2 + 1]? = some (.int .i64 (l[j]?.getD (0, 0)).2) := by
          intro l
          induction l with
          | nil => intro j hj; simp at hj
          | cons x r ih =>
            intro j hj
            match j with
            | 0 => simp [rgRows]
            | j + 1 =>
              have := ih j (by simpa using hj)
              simp only [rgRows, List.map_cons, List.flatten_cons] at this ⊢
              rw [show (j + 1) * 2 = j * 2 + 2 by omega]
              simpa using this
        have h0' : 0 < zs.length := List.length_pos_iff.2 hn
        refine .inr ⟨blk, off, cap, by rw [rgRows_length], ?_, fun j hj => ?_⟩
        · obtain ⟨u, hu, _⟩ := cell 0 _ (by simpa using (fl zs 0 h0').1)
          exact cell_lt hu
        · obtain ⟨u, hu, ru⟩ := cell _ _ (fl zs j hj).1
          obtain ⟨u2, hu2, ru2⟩ := cell _ _ (fl zs j hj).2
          cases ru; cases ru2
          exact ⟨hu, hu2⟩
  · cases hr; injection h with h; subst h; exact .inl ⟨_, _, rfl, rfl⟩
  · cases hr; injection h with h; subst h; exact .inl ⟨_, _, rfl, rfl⟩
  · cases h
theorem rgRows_cells (l : List (Int × Int)) (C : Ctx) : Cells (rgRows l).flatten ∧ RepL C (rgRows l).flatten (Rg.cellsR l) := by
  induction l with
  | nil => exact ⟨Cells.nil, RepL.nil⟩
  | cons x r ih =>
    simp only [rgRows, List.map_cons, List.flatten_cons, Rg.cellsR, List.flatMap_cons] at ih ⊢
    exact ⟨(Cells.cons rfl (Cells.cons rfl Cells.nil)).app ih.1, (RepL.cons (.int _ _) (RepL.cons (.int _ _) RepL.nil)).app ih.2⟩
theorem sf_ok : OraOK Tryz.prog 137 sfSpec := by
  intro q args H r H' h
  refine ⟨enters_of Tryz.func137 (by kernel_rfl) rfl, ?_⟩
  unfold sfSpec at h
  split at h
  rotate_left
  · cases h
  rename_i id i
  split at h
  rotate_left
  · cases h
  rename_i c hbox
  split at h
  rotate_left
  · cases h
  rename_i zs hzs
  split at h
  rotate_left
  · cases h
  rename_i hlen
  simp only [Option.some.injEq, Prod.mk.injEq] at h
  obtain ⟨rfl, rfl⟩ := h
  intro C vs hH hr hav hl
  obtain ⟨hll, hlv⟩ := hl
  match vs, hll with
  | [v0, v1], _ =>
    have r0 := hlv 0 _ _ rfl rfl
    have r1 := hlv 1 _ _ rfl rfl
    cases r1 with
    | func _ _ us ul uv =>
    cases r0 with
    | func _ _ ws wl wv =>
    match us, ul with
    | [], _ =>
    match ws, wl with
    | [p], _ =>
    have rp := wv 0 _ _ rfl rfl
    have hbox' : hget C.H id = some (.box [c]) := by rw [hH]; exact hbox
    obtain ⟨_, g, cs, e, hφ, hg, hcs⟩ := hr.obj id _ hbox'
    cases rp with
    | ref _ _ _ _ _ ha hs ho =>
    obtain ⟨g', hb, rfl⟩ := (ho _ hbox').2 rfl
    rw [hφ] at hb
    have : g = g' := by simpa [blk] using hb
    subst this
    obtain ⟨hcl, hcv⟩ := hcs
    have hsz1 : cs.size = 1 := by simpa using hcl.symm
    have hc0 : cs[0]? = some cs[0] := by simp
    have hcell : C.w.cell? ⟨g, 0, none⟩ = some cs[0] := by simp [World.cell?, hg]
    have hrep : Rep C c cs[0] := hcv 0 _ _ rfl (by simp)
    have := Rg.sortedFunc g cs[0] zs hlen C.w (cell_lt hcell) hcell (boxRg_rep hzs hrep)
    simp only [cellsz, Nat.mul_zero, Nat.add_zero]
    refine this.mono ?_
    rintro e w' ⟨v, rfl, hrow, hbel⟩
    have hq : C.Av (q ++ [0]) := hav _ (List.prefix_append _ _)
    have hA : ∀ i, less C.Av q i → C.Av i := fun i h => h.1
    have hid : ¬ less C.Av q (q ++ [0]) := fun h => h.2 (List.prefix_append _ _)
    have hblk : ∀ g, blk v = some g → C.w.heap.size ≤ g := fun g hg => by
      rcases hrow.2 with ⟨rfl, _⟩ | ⟨g', cap, cur, rfl, hbg, _⟩
      · cases hg
      · have : g' = g := by simpa [blk] using hg
        omega
    have hsl : ∃ a l c, v = .slice a l c := by
      rcases hrow.2 with ⟨rfl, _⟩ | ⟨g', cap, cur, rfl, _⟩
      · exact ⟨_, _, _, rfl⟩
      · exact ⟨_, _, _, rfl⟩
    have hrow0 : w'.ownsRow 0 52 2 v zs.length (Rg.cellsR (Rg.sortZ zs)) := ⟨hrow.1, hrow.2.imp (fun h => h) fun ⟨g, cap, cur, a, _, b⟩ => ⟨g, cap, cur, a, Nat.zero_le _, b⟩⟩
    have hlz : (rgRows (Rg.sortZ zs)).length = zs.length := by rw [rgRows_length, Rg.sortZ_length]
    have he := Ext.new (o := .row true true 52 2 (rgRows (Rg.sortZ zs))) (v := v) (w := w') hr hq hA hbel.size (fun k hk => hbel.block k hk) hbel.tape hbel.os hbel.output hblk
    refine ⟨v, C.put (hadd C.H (q ++ [0]) (.row true true 52 2 (rgRows (Rg.sortZ zs)))) (q ++ [0]) v w' (less C.Av q), rfl, rfl, by rw [← hH]; rfl, HRep.new hr hq hA hid hbel.size (fun k hk => hbel.block k hk) hbel.tape hbel.os hbel.output hblk (fun _ => ⟨by omega, fun r hr' => ?_, (rgRows_cells _ C).1, _, by rw [put_self, hlz]; exact hrow0, (rgRows_cells _ _).2⟩), ?_, he, fun i h1 h2 => ⟨h1, h2⟩⟩
    · obtain ⟨x, _, rfl⟩ := List.mem_map.1 hr'
      rfl
    · refine .own _ _ _ hid hsl fun o' e => ?_
      have e' : hget (hadd C.H (q ++ [0]) (.row true true 52 2 (rgRows (Rg.sortZ zs)))) (q ++ [0]) = some o' := e
      rw [hget_hadd, if_pos rfl] at e'
      injection e' with e'
      subst e'
      refine ⟨by simp [asize, hlz], fun _ => .inl ?_⟩
      rw [put_self]
end Go.Proofs.Abs

namespace Go.Proofs.Abs
open Go Go.Proofs Go.Shelf Go.RowKit
theorem own_post {C : Ctx} {q : Id} {rows : List (List AV)} {el sz : Nat} {v : Value} {w' : World} {xs : List Value} (hr : HRep C) (hav : ∀ id, q <+: id → C.Av id) (hsz : 0 < sz) (hl : ∀ r ∈ rows, r.length = sz) (hc : Cells rows.flatten)
    (hx : ∀ C', RepL C' rows.flatten xs) (hrow : w'.ownsRow C.w.heap.size el sz v rows.length xs) (hbel : Below C.w.heap.size C.w w') :
    CallPost C q (.own (q ++ [0]) rows.length) (hadd C.H (q ++ [0]) (.row true true el sz rows)) (.returned v) w' := by
  have hq : C.Av (q ++ [0]) := hav _ (List.prefix_append _ _)
  have hA : ∀ i, less C.Av q i → C.Av i := fun i h => h.1
  have hid : ¬ less C.Av q (q ++ [0]) := fun h => h.2 (List.prefix_append _ _)
  have hblk : ∀ g, blk v = some g → C.w.heap.size ≤ g := fun g hg => by
    rcases hrow.2 with ⟨rfl, _⟩ | ⟨g', cap, cur, rfl, hbg, _⟩
    · cases hg
    · have : g' = g := by simpa [blk] using hg
      omega
  have hsl : ∃ a l c, v = .slice a l c := by
    rcases hrow.2 with ⟨rfl, _⟩ | ⟨g', cap, cur, rfl, _⟩
    · exact ⟨_, _, _, rfl⟩
    · exact ⟨_, _, _, rfl⟩
  have hrow0 : w'.ownsRow 0 el sz v rows.length xs := ⟨hrow.1, hrow.2.imp (fun h => h) fun ⟨g, cap, cur, a, _, b⟩ => ⟨g, cap, cur, a, Nat.zero_le _, b⟩⟩
  have he := Ext.new (o := .row true true el sz rows) (v := v) (w := w') hr hq hA hbel.size (fun k hk => hbel.block k hk) hbel.tape hbel.os hbel.output hblk
  refine ⟨v, C.put (hadd C.H (q ++ [0]) (.row true true el sz rows)) (q ++ [0]) v w' (less C.Av q), rfl, rfl, rfl, HRep.new hr hq hA hid hbel.size (fun k hk => hbel.block k hk) hbel.tape hbel.os hbel.output hblk (fun _ => ⟨hsz, hl, hc, _, by rw [put_self]; exact hrow0, hx _⟩), ?_, he, fun i h1 h2 => ⟨h1, h2⟩⟩
  refine .own _ _ _ hid hsl fun o' e => ?_
  have e' : hget (hadd C.H (q ++ [0]) (.row true true el sz rows)) (q ++ [0]) = some o' := e
  rw [hget_hadd, if_pos rfl] at e'
  injection e' with e'
  subst e'
  refine ⟨Nat.le_refl _, fun _ => .inl ?_⟩
  rw [put_self]
theorem int_post {C : Ctx} {q : Id} {k : IntKind} {n : Int} {w' : World} (hr : HRep C) (hb : Below C.w.heap.size C.w w') : CallPost C q (.int k n) C.H (.returned (.int k n)) w' := by
  have hx : Ext (hide C) { hide C with w := w' } := ⟨hb.size, hb.tape, hb.os, hb.output, fun k hk _ => hb.block k hk, fun k off hk _ => World.cell?_of_block (hb.block k hk), fun _ _ _ h => h, fun _ _ h => h, fun _ h => h, rfl, fun _ o' _ h => ⟨o', h, rfl, Nat.le_refl _, fun _ => rfl⟩⟩
  exact ⟨_, { C with w := w' }, rfl, rfl, rfl, hide_hrep hr hx, .int _ _, hide_ext hr hx, fun _ h _ => h⟩
def ordSpec (q : Id) (args : List AV) (H : Heap) : Option (AV × Heap) :=
  match args with
  | [.agg [.int .i64 a, .int .i64 b], .agg [.int .i64 c, .int .i64 d]] => some (.int .i64 (Rg.ordZ (a, b) (c, d)), H)
  | _ => none
theorem agg2_inv {C : Ctx} {a b : Int} {v : Value} (h : Rep C (.agg [.int .i64 a, .int .i64 b]) v) : v = .agg #[.int .i64 a, .int .i64 b] := by
  cases h with
  | agg _ vs hl hc hv =>
    match vs, hl with
    | [x, y], _ =>
      have h0 := hv 0 _ _ rfl rfl
      have h1 := hv 1 _ _ rfl rfl
      cases h0
      cases h1
      rfl
theorem ord_ok : OraOK Tryz.prog 139 ordSpec := by
  intro q args H r H' h
  refine ⟨enters_of Tryz.func139 (by kernel_rfl) rfl, ?_⟩
  unfold ordSpec at h
  split at h
  rotate_left
  · cases h
  rename_i a b c d
  simp only [Option.some.injEq, Prod.mk.injEq] at h
  obtain ⟨rfl, rfl⟩ := h
  intro C vs hH hr hav hl
  obtain ⟨hll, hlv⟩ := hl
  match vs, hll with
  | [v0, v1], _ =>
    have r0 := agg2_inv (hlv 0 _ _ rfl rfl)
    have r1 := agg2_inv (hlv 1 _ _ rfl rfl)
    subst r0 r1
    refine (Rg.order_in (a, b) (c, d) C.w).mono ?_
    rintro e w' ⟨rfl, n, os, rfl⟩
    rw [← hH]
    exact int_post hr ⟨rfl, rfl, rfl, by simp [Sort.grow, World.drewN], fun k hk => Sort.heap_grow_old _ _ hk⟩
end Go.Proofs.Abs

set_option maxRecDepth 100000
namespace Go.Proofs.Abs
open Go
variable [Globs]
theorem norec_of {P : Program} {fd : Nat} {g : Func} {c : Code} (hf : P.funcs[fd]? = some g) (hb : g.body = some c) (hn : (g.name == "runtime.NumGoroutine") = false) (hr : g.results = #[]) (hnt : g.ntmps = 16)
    {r0 r1 : Nat} {oR oA oM oB : Oper} {X : Code} {t : TypeId} {ms : Array (String × TypeId)} (ht : P.underlying t = some (.interface ms))
    (hc : c = .seq (.region r0 #[oR, oA] false) (.seq (.region r1 #[oM, oB] false) (.cond (.tmp 6) X .skip)))
    (h1 : oR.op = .call { callee := .builtin .recover, args := #[], argTypes := #[] } ∧ oR.dst = some 4 ∧ oR.guard = none)
    (h2 : oA.op = .assign (.tmp 4) ∧ oA.dst = some 1 ∧ oA.guard = none)
    (h3 : oM.op = .move (.tmp 1) ∧ oM.dst = some 5 ∧ oM.guard = none)
    (h4 : oB.op = .binOp .neq t (.tmp 5) (.const .nilIface) t ∧ oB.dst = some 6 ∧ oB.guard = none) : NoRec P fd := by
  refine ⟨fun vals w => enter_run hf hb hn vals w, fun x w => ?_⟩
  refine callsD_of_wpS hf hb fun c₀ cs hmode => ?_
  obtain ⟨a1, a2, a3⟩ := h1
  obtain ⟨b1, b2, b3⟩ := h2
  obtain ⟨d1, d2, d3⟩ := h3
  obtain ⟨e1, e2, e3⟩ := h4
  have hrec : recoverD (c₀ :: cs) = none := by simp [recoverD, hmode]
  have hR : ∀ (ρ : Operand → Value) (w : World), (execOp ρ oR).run P w = .ok .recover w := fun ρ w => by
    simp [execOp, a1, resolve, invoke, builtin]
  have hA : ∀ (ρ : Operand → Value) (w : World), (execOp ρ oA).run P w = .ok (.value (ρ (.tmp 4))) w := fun ρ w => by simp [execOp, b1]
  have hM : ∀ (ρ : Operand → Value) (w : World), (execOp ρ oM).run P w = .ok (.value (ρ (.tmp 1))) w := fun ρ w => by simp [execOp, d1]
  have hB : ∀ (ρ : Operand → Value) (w : World), ρ (.tmp 5) = .nilIface → ρ (.const .nilIface) = .nilIface → (execOp ρ oB).run P w = .ok (.value (.bool false)) w := fun ρ w hρ hk => by
    have hd : ∀ d, (Op.equalIn (d + 1) t .nilIface .nilIface).run P w = .ok true w := fun d => by simp [Op.equalIn, run_underlying ht]
    have he : (Op.equal t .nilIface .nilIface).run P w = .ok true w := hd 9999
    simp [execOp, e1, hρ, hk, eqGuard, binOp, he]
  subst hc
  refine wpS_seq (wpS_region ?_)
  have w1 : ∀ (o : Oper) y, o.guard = none → Region.wanted o y = true := fun o y hg => by simp [Region.wanted, hg]
  have g0 : (#[oR, oA] : Array Oper)[0]? = some oR := rfl
  have g1 : (#[oR, oA] : Array Oper)[1]? = some oA := rfl
  have g2 : (#[oM, oB] : Array Oper)[0]? = some oM := rfl
  have g3 : (#[oM, oB] : Array Oper)[1]? = some oB := rfl
  have hx : (#[x] : Array Value).size = 1 := rfl
  rw [show List.range (#[oR, oA] : Array Oper).size = [0, 1] from rfl]
  simp only [wpOpsS, g0, g1, w1 _ _ a3, w1 _ _ b3, if_true, hR, hA, hrec, Oper.upon_value, Exit.thenS]
  refine wpS_seq (wpS_region ?_)
  rw [show List.range (#[oM, oB] : Array Oper).size = [0, 1] from rfl]
  simp only [wpOpsS, g2, g3, w1 _ _ d3, w1 _ _ e3, if_true, hM, Oper.upon_value, Exit.thenS, a2, b2, d2, e2, hnt, hx]
  rw [hB _ _ (by simp [Act.put, Act.eval, Array.getD]) rfl]
  simp only [Oper.upon_value, e2]
  refine wpS_cond (t := false) (by simp [Act.put, Act.eval, Array.getD]) ?_
  simp only [Bool.false_eq_true, if_false]
  refine wpS_of_wp (wp_skip ?_)
  refine ⟨rfl, .returning, by rw [← hmode], .tuple #[], by simp [results, hr], ⟨_, rfl⟩, rfl, rfl⟩
theorem norec : NoRec Tryz.prog 113 :=
  norec_of (g := Tryz.f113) (ms := #[]) (by kernel_rfl) rfl (by decide) rfl rfl (by kernel_rfl) rfl ⟨rfl, rfl, rfl⟩ ⟨rfl, rfl, rfl⟩ ⟨rfl, rfl, rfl⟩ ⟨rfl, rfl, rfl⟩
end Go.Proofs.Abs
