/- A part of a proof: the text that states the row tells what is proved. No condition is laid on anything. -/
import Derived.Test.YtgcncpedpjjjeaaAbs21
import Derived.RowKit
import Derived.Carry
import Derived.SizedLaws
set_option linter.all false
set_option linter.constructorNameAsVariable false
set_option linter.defProp false
set_option linter.unusedVariables false
set_option linter.unusedSimpArgs false
namespace Go.Proofs.Abs
open Go Go.RowKit

/-! ### Rows: a law that returns true -/
inductive ASh where
  | one (s : Sh)
  | agg (l : List Sh)
def ashp (P : Program) (t : TypeId) : Option ASh :=
  match P.underlying t with
  | some (.struct _) => (shp P 20 t).map .agg
  | some .bool | some (.int _) | some .string | some (.slice _) => match shp P 20 t with
    | some [s] => some (.one s)
    | _ => none
  | _ => none
def Oka : ASh → AV → Prop
  | .one s, v => Okv s v
  | .agg l, .agg avs => OkL l avs
  | .agg _, _ => False

section
variable {H : Type} {enc : TypeId × Value → H} {P : Program} {C : Ctx} {sp : Nat → Bool}
theorem arg_rep (hC : (∀ id, hget C.H id = none) ∧ ∀ g off, ¬ C.X g off) {t : TypeId} {v : Value} {d : DataW H} {p : List MemPlace} {sh : ASh} {base : Nat} (hs : ashp P t = some sh) (hok : Value.okWide P C.w .any base t v)
    (h : DataW.Trod enc P C.w 0 sp true t v d p) : ∃ av, Rep C av v ∧ Oka sh av := by
  obtain ⟨fuel, h⟩ := h
  have plain : ∀ s, shp P 20 t = some [s] → (∀ cs, v ≠ .agg cs) → (∀ cs, v ≠ .tuple cs) → ∃ av, Rep C av v ∧ Okv s av := by
    intro s hs1 hna hnt
    obtain ⟨avs, h1, h2⟩ := trod_rep hC _ _ _ _ _ _ hs1 h
    have hv : v.cells = #[v] := by cases v <;> first | rfl | exact absurd rfl (hna _) | exact absurd rfl (hnt _)
    rw [hv] at h1
    have hl := h1.1
    cases avs with
    | nil => simp at hl
    | cons av r => exact ⟨av, h1.2 0 av v rfl rfl, h2.2 0 s av rfl rfl⟩
  unfold ashp at hs
  split at hs
  · rename_i fs hu
    simp only [Option.map_eq_some_iff] at hs
    obtain ⟨l, hl, rfl⟩ := hs
    unfold Value.okWide at hok
    rw [hu] at hok
    obtain ⟨cs, rfl, _⟩ := hok
    obtain ⟨avs, h1, h2⟩ := trod_rep hC _ _ _ _ _ _ hl h
    refine ⟨.agg avs, ?_, h2⟩
    have := Rep.agg (C := C) avs cs.toList h1.1 (fun j av e => h2.cells j av e) h1.2
    simpa using this
  · rename_i hu
    split at hs
    · rename_i s hs1
      injection hs with hs; subst hs
      refine plain s hs1 (fun cs e => ?_) (fun cs e => ?_) <;> subst e <;> simp [Value.okWide, hu, Cell.okWide, Cell.ok] at hok
    · cases hs
  · rename_i k hu
    split at hs
    · rename_i s hs1
      injection hs with hs; subst hs
      refine plain s hs1 (fun cs e => ?_) (fun cs e => ?_) <;> subst e <;> simp [Value.okWide, hu, Cell.okWide, Cell.ok] at hok
    · cases hs
  · rename_i hu
    split at hs
    · rename_i s hs1
      injection hs with hs; subst hs
      refine plain s hs1 (fun cs e => ?_) (fun cs e => ?_) <;> subst e <;> simp [Value.okWide, hu, Cell.okWide, Cell.ok] at hok
    · cases hs
  · rename_i e hu
    split at hs
    · rename_i s hs1
      injection hs with hs; subst hs
      refine plain s hs1 (fun cs e => ?_) (fun cs e => ?_) <;> subst e <;> simp [Value.okWide, hu, Cell.okWide, Cell.ok] at hok
    · cases hs
  · cases hs

/-- The arguments' values, pair by pair of their shapes. -/
def OkAs : List ASh → List AV → Prop
  | [], [] => True
  | s :: r, v :: r' => Oka s v ∧ OkAs r r'
  | _, _ => False

theorem args_rep (hC : (∀ id, hget C.H id = none) ∧ ∀ g off, ¬ C.X g off) {base : Nat} : ∀ {ts : List TypeId} {vs : List Value} {ds : List (DataW H)} {p : List MemPlace} {shs : List ASh}, ts.mapM (ashp P) = some shs → (∀ (j : Nat) t v, ts[j]? = some t → vs[j]? = some v → Value.okWide P C.w .any base t v) →
    DataW.TrodAll enc P C.w 0 sp true ts vs ds p → ∃ avs, RepL C avs vs ∧ OkAs shs avs
  | [], vs, ds, p, shs, hs, hok, h => by
    obtain ⟨rfl, rfl, rfl⟩ := Go.ChangeShapes.trodAll_nil h
    simp at hs
    subst hs
    exact ⟨[], .nil, trivial⟩
  | t :: ts, vs, ds, p, shs, hs, hok, h => by
    obtain ⟨v, vs', d, ds', p1, p2, rfl, rfl, rfl, h1, h2⟩ := Go.ChangeShapes.trodAll_cons h
    rw [List.mapM_cons] at hs
    simp only [bind, Option.bind_eq_some_iff, pure, Option.some.injEq] at hs
    obtain ⟨sh, hsh, shs', hshs, rfl⟩ := hs
    obtain ⟨av, r1, o1⟩ := arg_rep hC hsh (hok 0 t v rfl rfl) h1
    obtain ⟨avs, r2, o2⟩ := args_rep hC hshs (fun j t v e e' => hok (j + 1) t v e e') h2
    exact ⟨av :: avs, .cons r1 r2, o1, o2⟩

theorem args_stay {W W' : World} (hl : laidOutB P = true) (hb : Below W.heap.size W W') : ∀ {ts : List TypeId} {vs : List Value} {ds : List (DataW H)} {p : List MemPlace}, ts.all (fun t => P.readableRec t && decide (t < P.types.size)) = true →
    DataW.TrodAll enc P W 0 (fun _ => true) true ts vs ds p → DataW.TrodAll enc P W' 0 (fun b => decide (b < W.heap.size)) true ts vs ds p
  | [], vs, ds, p, _, h => by
    obtain ⟨rfl, rfl, rfl⟩ := Go.ChangeShapes.trodAll_nil h
    rfl
  | t :: ts, vs, ds, p, hs, h => by
    obtain ⟨v, vs', d, ds', p1, p2, rfl, rfl, rfl, h1, h2⟩ := Go.ChangeShapes.trodAll_cons h
    simp only [List.all_cons, Bool.and_eq_true, decide_eq_true_eq] at hs
    have hlt : ∀ x ∈ p1, x.block < W.heap.size := by
      obtain ⟨m, hm⟩ := h1
      exact DataW.trod_lt m _ _ _ hm
    exact ⟨p1, p2, Below.trod hl hs.1.1 hs.1.2 h1 hb hlt, args_stay hl hb hs.2 h2, rfl⟩
end

/-- The world, with no object of ours in it. -/
def bare (W : World) : Ctx := ⟨[], fun _ => .nilFunc, W, fun _ => True, fun _ _ => False⟩
theorem bare_rep (W : World) : HRep (bare W) := ⟨trivial, fun id o h => (by cases h), fun id o h => (by cases h), fun id id' o o' g h => (by cases h), fun id o g off h => (by cases h), fun _ _ h => h.elim⟩

theorem law_calls {H : Type} {enc : TypeId × Value → H} {P : Program} {ft : FT} (hmo : P.follows .mixedOrders = true) (hft : FTOK P ft) {f : Nat} (hf5 : f < 100000) {ts : List TypeId} {shs : List ASh} (hs : ts.mapM (ashp P) = some shs)
    (law : ∀ avs, OkAs shs avs → ∃ n H', acall ft n f [] avs [] = some (.bool true, H'))
    {W : World} {base : Nat} {args : Array Value} {ds : List (DataW H)} {p : List MemPlace} (hok : ∀ (j : Nat) t v, ts[j]? = some t → args[j]? = some v → Value.okWide P W .any base t v)
    (h : DataW.TrodAll enc P W 0 (fun _ => true) true ts args.toList ds p) : Calls P f args W fun e W' => e = .returned (.bool true) ∧ Below W.heap.size W W' := by
  have hC : (∀ id, hget (bare W).H id = none) ∧ ∀ g off, ¬ (bare W).X g off := ⟨fun _ => rfl, fun _ _ h => h⟩
  obtain ⟨avs, r, o⟩ := args_rep (C := bare W) hC hs (fun j t v e e' => hok j t v e (by simpa using e')) h
  obtain ⟨n, H', hn⟩ := law avs o
  have := ((sound P ft hmo hft n).2 f [] avs [] _ _ hn).2 (bare W) args.toList rfl (bare_rep W) (fun _ _ => trivial) r
  rw [Nat.mod_eq_of_lt hf5] at this
  have ha : args.toList.toArray = args := by simp
  rw [ha] at this
  refine this.mono ?_
  rintro e w' ⟨v, C', rfl, rfl, _, _, hv, hx, _⟩
  refine ⟨by rw [hv.bool_inv], hx.os, hx.tape, hx.output, hx.size, fun k hk => hx.block k hk fun ⟨id, o, e, _⟩ => by cases e⟩

/-- The contract of a law's row. -/
theorem law_post {H : Type} {enc : TypeId × Value → H} {P : Program} {ft : FT} (hmo : P.follows .mixedOrders = true) (hft : FTOK P ft) (hl : laidOutB P = true) {f : Nat} (hf5 : f < 100000) {fn : Func} {tb : TypeId} (hres : fn.resultTypes = #[tb]) (htb : P.underlying tb = some .bool)
    {shs : List ASh} (hs : fn.params.toList.mapM (ashp P) = some shs) (hread : fn.params.toList.all (fun t => P.readableRec t && decide (t < P.types.size)) = true)
    (law : ∀ avs, OkAs shs avs → ∃ n H', acall ft n f [] avs [] = some (.bool true, H')) {s : ChangeSpec} (hvars : s.vars = [])
    (hfn : ∀ ds : List (DataW H), ds.length = fn.params.size → s.fn H ds = { results := [.lit (.bool true)], args := ds })
    {W : World} {base : Nat} {args : Array Value} {ds gs : List (DataW H)} {before : List MemPlace} (hok : ∀ (j : Nat) t v, fn.params[j]? = some t → args[j]? = some v → Value.okWide P W .any base t v)
    (hW : DataW.Whole enc P fn.params.toList s.vars false W args.toList ds gs before) : Calls P f args W fun e W' => ∃ v, e = .returned v ∧ s.post enc P fn false true false false W args v W' := by
  have hW' := hW
  obtain ⟨p, q, hA, hV, rfl, hfz, hnd⟩ := hW
  rw [hvars] at hV
  obtain ⟨rfl, rfl⟩ := Go.ChangeShapes.trodVars_none hV
  refine (law_calls hmo hft hf5 hs law (fun j t v e e' => hok j t v (by simpa using e) e') hA).mono fun e W' ⟨he, bel⟩ => ?_
  subst he
  have hlen : ∀ {ts : List TypeId} {vs : List Value} {ds : List (DataW H)} {p : List MemPlace}, DataW.TrodAll enc P W 0 (fun _ => true) true ts vs ds p → ds.length = ts.length := by
    intro ts
    induction ts with
    | nil => intro vs ds p h; obtain ⟨_, rfl, _⟩ := Go.ChangeShapes.trodAll_nil h; rfl
    | cons t ts ih =>
      intro vs ds p h
      obtain ⟨v, vs', d, ds', p1, p2, rfl, rfl, rfl, h1, h2⟩ := Go.ChangeShapes.trodAll_cons h
      simp [ih h2]
  have hd : s.fn H (ds ++ []) = { results := [.lit (.bool true)], args := ds } := by
    rw [List.append_nil]
    exact hfn ds (by rw [hlen hA]; simp)
  refine ⟨_, rfl, ds, [], _, [], p, [], hW', ?_, ?_, ?_, bel.frame _, fun h => by cases h⟩
  · rw [hd, hres]
    exact Go.ChangeShapes.trodAll_mk1 (Go.RowKit.shut_bool htb true)
  · rw [hd]
    exact args_stay hl bel hread hA
  · rw [hvars, hd]
    rfl
end Go.Proofs.Abs
