/- A part of a proof: the text that states the row tells what is proved. No condition is laid on anything. -/
import Derived.Shelf.Spec.SlicesGrow
import Derived.Ground.Names8Prog
import Derived.Test.YtligpalonlliaaaGreatProg
import Derived.Test.YtligpalonlliaaaGreatAbsQ5
set_option linter.all false
set_option linter.constructorNameAsVariable false
set_option linter.defProp false
set_option linter.unusedVariables false
set_option linter.unusedSimpArgs false
namespace Go.Proofs.Abs
open Go Go.Proofs Go.Shelf Go.RowKit
/-- A call whose result is a row of its own, freshly laid. -/
theorem own_post {C : Ctx} {q : Id} {rows : List (List AV)} {el sz : Nat} {v : Value} {w' : World} {xs : List Value} (hr : HRep C) (hav : ∀ id, q <+: id → C.Av id) (hsz : 0 < sz) (hl : ∀ r ∈ rows, r.length = sz) (hc : Cells rows.flatten)
    (hx : ∀ C', RepL C' rows.flatten xs) (hrow : w'.ownsRow C.w.heap.size el sz v rows.length xs) (hbel : Below C.w.heap.size C.w w') :
    CallPost C q (.own (q ++ [0]) rows.length) (hadd C.H (q ++ [0]) (.row true true el sz rows)) (.returned v) w' := by
  have hq : C.Av (q ++ [0]) := hav _ (List.prefix_append _ _)
  have hA : ∀ i, less C.Av q i → C.Av i := fun i h => h.1
  have hid : ¬ less C.Av q (q ++ [0]) := fun h => h.2 (List.prefix_append _ _)
  have hblk : ∀ g, blk v = some g → C.w.heap.size ≤ g := fun g hg => by
    rcases hrow.2 with ⟨rfl, _⟩ | ⟨g', cap, cur, rfl, hbg, _⟩
    · cases hg
    · have : g' = g := by simpa [blk] using hg
      omega
  have hsl : ∃ a l c, v = .slice a l c := by
    rcases hrow.2 with ⟨rfl, _⟩ | ⟨g', cap, cur, rfl, _⟩
    · exact ⟨_, _, _, rfl⟩
    · exact ⟨_, _, _, rfl⟩
  have hrow0 : w'.ownsRow 0 el sz v rows.length xs := ⟨hrow.1, hrow.2.imp (fun h => h) fun ⟨g, cap, cur, a, _, b⟩ => ⟨g, cap, cur, a, Nat.zero_le _, b⟩⟩
  have he := Ext.new (o := .row true true el sz rows) (v := v) (w := w') hr hq hA hbel.size (fun k hk => hbel.block k hk) hbel.tape hbel.os hbel.output hblk
  refine ⟨v, C.put (hadd C.H (q ++ [0]) (.row true true el sz rows)) (q ++ [0]) v w' (less C.Av q), rfl, rfl, rfl, HRep.new hr hq hA hid hbel.size (fun k hk => hbel.block k hk) hbel.tape hbel.os hbel.output hblk (fun _ => ⟨hsz, hl, hc, _, by rw [put_self]; exact hrow0, hx _⟩), ?_, he, fun i h1 h2 => ⟨h1, h2⟩⟩
  refine .own _ _ _ hid hsl fun o' e => ?_
  have e' : hget (hadd C.H (q ++ [0]) (.row true true el sz rows)) (q ++ [0]) = some o' := e
  rw [hget_hadd, if_pos rfl] at e'
  injection e' with e'
  subst e'
  refine ⟨Nat.le_refl _, fun _ => .inl ?_⟩
  rw [put_self]
theorem int_post {C : Ctx} {q : Id} {k : IntKind} {n : Int} {w' : World} (hr : HRep C) (hb : Below C.w.heap.size C.w w') : CallPost C q (.int k n) C.H (.returned (.int k n)) w' := by
  have hx : Ext (hide C) { hide C with w := w' } := ⟨hb.size, hb.tape, hb.os, hb.output, fun k hk _ => hb.block k hk, fun k off hk _ => World.cell?_of_block (hb.block k hk), fun _ _ _ h => h, fun _ _ h => h, fun _ h => h, rfl, fun _ o' _ h => ⟨o', h, rfl, Nat.le_refl _, fun _ => rfl⟩⟩
  exact ⟨_, { C with w := w' }, rfl, rfl, rfl, hide_hrep hr hx, .int _ _, hide_ext hr hx, fun _ h _ => h⟩
/-- sets.order. -/
def ordSpec (q : Id) (args : List AV) (H : Heap) : Option (AV × Heap) :=
  match args with
  | [.agg [.int .i64 a, .int .i64 b], .agg [.int .i64 c, .int .i64 d]] => some (.int .i64 (Rg.ordZ (a, b) (c, d)), H)
  | _ => none
theorem agg2_inv {C : Ctx} {a b : Int} {v : Value} (h : Rep C (.agg [.int .i64 a, .int .i64 b]) v) : v = .agg #[.int .i64 a, .int .i64 b] := by
  cases h with
  | agg _ vs hl hc hv =>
    match vs, hl with
    | [x, y], _ =>
      have h0 := hv 0 _ _ rfl rfl
      have h1 := hv 1 _ _ rfl rfl
      cases h0
      cases h1
      rfl
theorem ord_ok : OraOK Tryz.prog 53 ordSpec := by
  intro q args H r H' h
  refine ⟨enters_of Tryz.func53 (by kernel_rfl) rfl, ?_⟩
  unfold ordSpec at h
  split at h
  rotate_left
  · cases h
  rename_i a b c d
  simp only [Option.some.injEq, Prod.mk.injEq] at h
  obtain ⟨rfl, rfl⟩ := h
  intro C vs hH hr hav hl
  obtain ⟨hll, hlv⟩ := hl
  match vs, hll with
  | [v0, v1], _ =>
    have r0 := agg2_inv (hlv 0 _ _ rfl rfl)
    have r1 := agg2_inv (hlv 1 _ _ rfl rfl)
    subst r0 r1
    refine (Rg.order_in (a, b) (c, d) C.w).mono ?_
    rintro e w' ⟨rfl, n, os, rfl⟩
    rw [← hH]
    exact int_post hr ⟨rfl, rfl, rfl, by simp [Sort.grow, World.drewN], fun k hk => Sort.heap_grow_old _ _ hk⟩
end Go.Proofs.Abs
