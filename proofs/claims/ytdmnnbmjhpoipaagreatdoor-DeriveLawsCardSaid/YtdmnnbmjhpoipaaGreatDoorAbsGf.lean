/- A part of a proof: the text that states the row tells what is proved. No condition is laid on anything. -/
import Derived.Test.YtdmnnbmjhpoipaaGreatDoorAbsGd
import Derived.Test.YtdmnnbmjhpoipaaGreatDoorAbsC
set_option linter.all false
set_option linter.constructorNameAsVariable false
set_option linter.defProp false
set_option linter.unusedVariables false
set_option linter.unusedSimpArgs false
set_option maxRecDepth 1000000
namespace Go.Proofs.Abs
open Go
def memoF (tab : List (List AV × AV)) (t : FT) (f : Nat) : Id → List AV → Heap → Option (AV × Heap) := fun q args H => match tab.find? fun x => beqL x.1 args with
  | some x => some (x.2, H)
  | none => acall t 400 f q args H
def okd (t : FT) (f : Nat) (l : List AV) (r : AV) : Bool := match acall t 400 f [] l [] with
  | some (v, H) => beqA v r && beqH H []
  | none => false
theorem okd_run {t : FT} {f : Nat} {l : List AV} {r : AV} (h : okd t f l r = true) : acall t 400 f [] l [] = some (r, []) := by
  unfold okd at h
  split at h
  · rename_i v H e
    simp only [Bool.and_eq_true] at h
    rw [e, beqA_eq h.1, beqH_eq h.2]
  · cases h
def purB : Nat → AV → Bool
  | 0, _ => false
  | d + 1, v => match v with
    | .undef | .bool _ | .int _ _ | .str _ | .nils | .emp | .nilp | .nilm | .nilf | .nili => true
    | .list _ rows => rows.all fun r => r.all (purB d)
    | .agg l => l.all (purB d)
    | .tuple l => l.all (purB d)
    | _ => false
theorem purB_ok : ∀ (d : Nat) (v : AV), purB d v = true → Pure v
  | 0, _, h => by cases h
  | d + 1, v, h => by
    cases v with
    | undef => exact .undef
    | bool b => exact .bool b
    | int k n => exact .int k n
    | str s => exact .str s
    | nils => exact .nils
    | emp => exact .emp
    | nilp => exact .nilp
    | nilm => exact .nilm
    | nilf => exact .nilf
    | nili => exact .nili
    | list z rows =>
      refine .list _ _ fun j av e => ?_
      have hm := List.mem_of_getElem? e
      rw [List.mem_flatten] at hm
      obtain ⟨r, hr, ha⟩ := hm
      exact purB_ok d av (List.all_eq_true.1 (List.all_eq_true.1 h r hr) av ha)
    | agg l => exact .agg _ fun j a e => purB_ok d a (List.all_eq_true.1 h a (List.mem_of_getElem? e))
    | tuple l => exact .tuple _ fun j a e => purB_ok d a (List.all_eq_true.1 h a (List.mem_of_getElem? e))
    | own _ _ => cases h
    | tl _ _ _ => cases h
    | rp _ => cases h
    | ref _ _ _ _ => cases h
    | map _ => cases h
    | func _ _ => cases h
    | iface _ _ => cases h
def purT (tab : List (List AV × AV)) : Bool := tab.all fun x => x.1.all (purB 12) && purB 12 x.2
theorem memoF_ok {P : Program} {ft : FT} (hmo : P.follows .mixedOrders = true) (hft : FTOK P ft) {f : Nat} {tab : List (List AV × AV)} (hp : purT tab = true) (h : (tab.all fun x => okd ft f x.1 x.2) = true) : OraOK P (f % 100000) (memoF tab ft f) := by
  intro q args H r H' hs
  unfold memoF at hs
  split at hs
  · rename_i x hx
    simp only [Option.some.injEq, Prod.mk.injEq] at hs
    obtain ⟨rfl, rfl⟩ := hs
    have hm := List.mem_of_find?_eq_some hx
    have hb : beqL x.1 args = true := List.find?_some (p := fun x : List AV × AV => beqL x.1 args) hx
    have he := beqL_eq hb
    have hpx := List.all_eq_true.1 hp x hm
    simp only [Bool.and_eq_true] at hpx
    have p1 : ∀ a ∈ x.1, Pure a := fun a ha => purB_ok 12 a (List.all_eq_true.1 hpx.1 a ha)
    have p2 : Pure x.2 := purB_ok 12 _ hpx.2
    have hk := lift2 (α := Unit) (dom := fun _ => True) (enc := fun _ => x.1) (out := fun _ => x.2) hmo hft (fun _ _ => p1) (fun _ _ => p2) (fun _ _ => ⟨400, okd_run (List.all_eq_true.1 h x hm)⟩)
    have := hk q x.1 H x.2 H (oraF_eq (fun _ _ _ => rfl) (a := ()) trivial q H)
    rw [he] at this
    exact this
  · exact (sound P ft hmo hft 400).2 f q args H r H' hs
end Go.Proofs.Abs

set_option maxRecDepth 1000000
namespace Go.Proofs.Abs
open Go
abbrev sW0 : AV := (.str ⟨#[40, 91, 117, 43, 54, 49, 93, 32, 91, 117, 43, 54, 50, 93, 41, 42]⟩)
def aW35 : List AV := [(.list 5 [[(.int .i64 0), (.int .i64 0), (.int .i64 0), (.list 2 []), (.str ⟨#[]⟩)]])]
def rW35 : AV := (.bool true)
def tW1_25 : List (List AV × AV) := [(aW35, rW35)]
def aW27 : List AV := [(.list 5 [[(.int .i64 1), (.int .i64 0), (.int .i64 0), (.list 2 []), (.str ⟨#[]⟩)]])]
def rW27 : AV := (.tuple [(.list 1 [[(.int .i64 0)]]), (.bool true)])
def tW1_42 : List (List AV × AV) := [(aW27, rW27)]
def aW3 : List AV := [(.int .i64 97)]
def rW3 : AV := (.tuple [(.int .i32 97), (.bool true)])
def aW7 : List AV := [(.int .i64 98)]
def rW7 : AV := (.tuple [(.int .i32 98), (.bool true)])
def tW1_43 : List (List AV × AV) := [(aW3, rW3), (aW7, rW7)]
def aW16 : List AV := [(.agg [(.int .i64 3), (.int .i64 0), (.int .i64 1), (.list 2 []), (.str ⟨#[]⟩)])]
def rW16 : AV := (.bool true)
def aW19 : List AV := [(.agg [(.int .i64 5), (.int .i64 2), (.int .i64 0), (.list 2 []), (.str ⟨#[]⟩)])]
def rW19 : AV := (.bool true)
def tW1_65 : List (List AV × AV) := [(aW16, rW16), (aW19, rW19)]
def aW30 : List AV := [(.list 5 [[(.int .i64 2), (.int .i64 0), (.int .i64 0), (.list 2 [[(.int .i64 97), (.int .i64 97)]]), (.str ⟨#[]⟩)], [(.int .i64 2), (.int .i64 0), (.int .i64 0), (.list 2 [[(.int .i64 98), (.int .i64 98)]]), (.str ⟨#[]⟩)], [(.int .i64 3), (.int .i64 0), (.int .i64 1), (.list 2 []), (.str ⟨#[]⟩)], [(.int .i64 5), (.int .i64 2), (.int .i64 0), (.list 2 []), (.str ⟨#[]⟩)]])]
def rW30 : AV := (.agg [(.int .i64 5), (.int .i64 2), (.int .i64 0), (.str ⟨#[]⟩)])
def tW1_84 : List (List AV × AV) := [(aW30, rW30)]
def aW0 : List AV := [(.str ⟨#[54, 49]⟩), (.int .i64 16), (.int .i64 32)]
def rW0 : AV := (.tuple [(.int .u64 97), .nili])
def aW1 : List AV := [(.str ⟨#[54, 50]⟩), (.int .i64 16), (.int .i64 32)]
def rW1 : AV := (.tuple [(.int .u64 98), .nili])
def tW1_120 : List (List AV × AV) := [(aW0, rW0), (aW1, rW1)]
def aW22 : List AV := [(.list 5 [[(.int .i64 2), (.int .i64 0), (.int .i64 0), (.list 2 [[(.int .i64 97), (.int .i64 97)]]), (.str ⟨#[]⟩)], [(.int .i64 2), (.int .i64 0), (.int .i64 0), (.list 2 [[(.int .i64 98), (.int .i64 98)]]), (.str ⟨#[]⟩)], [(.int .i64 3), (.int .i64 0), (.int .i64 1), (.list 2 []), (.str ⟨#[]⟩)]]), (.int .i64 0)]
def rW22 : AV := (.list 5 [[(.int .i64 2), (.int .i64 0), (.int .i64 0), (.list 2 [[(.int .i64 97), (.int .i64 97)]]), (.str ⟨#[]⟩)], [(.int .i64 2), (.int .i64 0), (.int .i64 0), (.list 2 [[(.int .i64 98), (.int .i64 98)]]), (.str ⟨#[]⟩)], [(.int .i64 3), (.int .i64 0), (.int .i64 1), (.list 2 []), (.str ⟨#[]⟩)]])
def aW23 : List AV := [(.list 5 [[(.int .i64 2), (.int .i64 0), (.int .i64 0), (.list 2 [[(.int .i64 97), (.int .i64 97)]]), (.str ⟨#[]⟩)]]), (.int .i64 0)]
def rW23 : AV := (.list 5 [[(.int .i64 2), (.int .i64 0), (.int .i64 0), (.list 2 [[(.int .i64 97), (.int .i64 97)]]), (.str ⟨#[]⟩)]])
def aW24 : List AV := [(.list 5 [[(.int .i64 2), (.int .i64 0), (.int .i64 0), (.list 2 [[(.int .i64 98), (.int .i64 98)]]), (.str ⟨#[]⟩)]]), (.int .i64 (-1))]
def rW24 : AV := (.list 5 [[(.int .i64 2), (.int .i64 0), (.int .i64 0), (.list 2 [[(.int .i64 98), (.int .i64 98)]]), (.str ⟨#[]⟩)]])
def tW1_100068 : List (List AV × AV) := [(aW22, rW22), (aW23, rW23), (aW24, rW24)]
def wW1 : FT := upd (upd (upd (upd (upd (upd (upd (ft) 25 (memoF tW1_25 ft 25)) 42 (memoF tW1_42 ft 42)) 43 (memoF tW1_43 ft 43)) 65 (memoF tW1_65 ft 65)) 84 (memoF tW1_84 ft 84)) 120 (memoF tW1_120 ft 120)) 100068 (memoF tW1_100068 ft 100068)
def aW4 : List AV := [(.int .i64 97)]
def rW4 : AV := (.bool true)
def aW8 : List AV := [(.int .i64 98)]
def rW8 : AV := (.bool true)
def tW2_26 : List (List AV × AV) := [(aW4, rW4), (aW8, rW8)]
def aW2 : List AV := [sW0]
def rW2 : AV := (.tuple [(.list 3 [[(.int .i64 3), (.str ⟨#[40]⟩), (.int .i64 0)], [(.int .i64 3), (.str ⟨#[91]⟩), (.int .i64 1)], [(.int .i64 2), (.str ⟨#[54, 49]⟩), (.int .i64 2)], [(.int .i64 3), (.str ⟨#[93]⟩), (.int .i64 6)], [(.int .i64 3), (.str ⟨#[91]⟩), (.int .i64 8)], [(.int .i64 2), (.str ⟨#[54, 50]⟩), (.int .i64 9)], [(.int .i64 3), (.str ⟨#[93]⟩), (.int .i64 13)], [(.int .i64 3), (.str ⟨#[41]⟩), (.int .i64 14)], [(.int .i64 3), (.str ⟨#[42]⟩), (.int .i64 15)]]), (.agg [(.int .i64 0), (.int .i64 0)])])
def tW2_56 : List (List AV × AV) := [(aW2, rW2)]
def wW2 : FT := upd (upd (wW1) 26 (memoF tW2_26 wW1 26)) 56 (memoF tW2_56 wW1 56)
def aW5 : List AV := [(.agg [(.int .i64 97), (.int .i64 97)])]
def rW5 : AV := (.bool true)
def aW9 : List AV := [(.agg [(.int .i64 98), (.int .i64 98)])]
def rW9 : AV := (.bool true)
def tW3_102 : List (List AV × AV) := [(aW5, rW5), (aW9, rW9)]
def wW3 : FT := upd (wW2) 102 (memoF tW3_102 wW2 102)
def aW6 : List AV := [(.list 2 [[(.int .i64 97), (.int .i64 97)]])]
def rW6 : AV := (.bool true)
def aW10 : List AV := [(.list 2 [[(.int .i64 98), (.int .i64 98)]])]
def rW10 : AV := (.bool true)
def tW4_82 : List (List AV × AV) := [(aW6, rW6), (aW10, rW10)]
def wW4 : FT := upd (wW3) 82 (memoF tW4_82 wW3 82)
def aW11 : List AV := [(.agg [(.int .i64 2), (.int .i64 0), (.int .i64 0), (.list 2 [[(.int .i64 97), (.int .i64 97)]]), (.str ⟨#[]⟩)])]
def rW11 : AV := (.bool true)
def aW13 : List AV := [(.agg [(.int .i64 2), (.int .i64 0), (.int .i64 0), (.list 2 [[(.int .i64 98), (.int .i64 98)]]), (.str ⟨#[]⟩)])]
def rW13 : AV := (.bool true)
def tW5_66 : List (List AV × AV) := [(aW11, rW11), (aW13, rW13)]
def wW5 : FT := upd (wW4) 66 (memoF tW5_66 wW4 66)
def aW12 : List AV := [(.list 5 [[(.int .i64 2), (.int .i64 0), (.int .i64 0), (.list 2 [[(.int .i64 97), (.int .i64 97)]]), (.str ⟨#[]⟩)]])]
def rW12 : AV := (.tuple [(.list 1 [[(.int .i64 0)]]), (.bool true)])
def aW14 : List AV := [(.list 5 [[(.int .i64 2), (.int .i64 0), (.int .i64 0), (.list 2 [[(.int .i64 98), (.int .i64 98)]]), (.str ⟨#[]⟩)]])]
def rW14 : AV := (.tuple [(.list 1 [[(.int .i64 0)]]), (.bool true)])
def aW17 : List AV := [(.list 5 [[(.int .i64 2), (.int .i64 0), (.int .i64 0), (.list 2 [[(.int .i64 97), (.int .i64 97)]]), (.str ⟨#[]⟩)], [(.int .i64 2), (.int .i64 0), (.int .i64 0), (.list 2 [[(.int .i64 98), (.int .i64 98)]]), (.str ⟨#[]⟩)], [(.int .i64 3), (.int .i64 0), (.int .i64 1), (.list 2 []), (.str ⟨#[]⟩)]])]
def rW17 : AV := (.tuple [(.list 1 [[(.int .i64 0)], [(.int .i64 1)], [(.int .i64 0)]]), (.bool true)])
def aW20 : List AV := [(.list 5 [[(.int .i64 2), (.int .i64 0), (.int .i64 0), (.list 2 [[(.int .i64 97), (.int .i64 97)]]), (.str ⟨#[]⟩)], [(.int .i64 2), (.int .i64 0), (.int .i64 0), (.list 2 [[(.int .i64 98), (.int .i64 98)]]), (.str ⟨#[]⟩)], [(.int .i64 3), (.int .i64 0), (.int .i64 1), (.list 2 []), (.str ⟨#[]⟩)], [(.int .i64 5), (.int .i64 2), (.int .i64 0), (.list 2 []), (.str ⟨#[]⟩)]])]
def rW20 : AV := (.tuple [(.list 1 [[(.int .i64 0)], [(.int .i64 1)], [(.int .i64 0)], [(.int .i64 0)]]), (.bool true)])
def aW34 : List AV := [(.list 5 [[(.int .i64 2), (.int .i64 0), (.int .i64 0), (.list 2 [[(.int .i64 98), (.int .i64 98)]]), (.str ⟨#[]⟩)], [(.int .i64 2), (.int .i64 0), (.int .i64 0), (.list 2 [[(.int .i64 97), (.int .i64 97)]]), (.str ⟨#[]⟩)], [(.int .i64 2), (.int .i64 0), (.int .i64 0), (.list 2 [[(.int .i64 98), (.int .i64 98)]]), (.str ⟨#[]⟩)], [(.int .i64 3), (.int .i64 1), (.int .i64 2), (.list 2 []), (.str ⟨#[]⟩)], [(.int .i64 5), (.int .i64 3), (.int .i64 0), (.list 2 []), (.str ⟨#[]⟩)], [(.int .i64 3), (.int .i64 0), (.int .i64 4), (.list 2 []), (.str ⟨#[]⟩)]])]
def rW34 : AV := (.tuple [(.list 1 [[(.int .i64 0)], [(.int .i64 1)], [(.int .i64 2)], [(.int .i64 1)], [(.int .i64 1)], [(.int .i64 0)]]), (.bool true)])
def tW6_42 : List (List AV × AV) := [(aW12, rW12), (aW14, rW14), (aW17, rW17), (aW20, rW20), (aW34, rW34)]
def wW6 : FT := upd (wW5) 42 (memoF tW6_42 wW5 42)
def aW26 : List AV := [(.list 5 [[(.int .i64 2), (.int .i64 0), (.int .i64 0), (.list 2 [[(.int .i64 97), (.int .i64 97)]]), (.str ⟨#[]⟩)]])]
def rW26 : AV := (.bool false)
def tW7_15 : List (List AV × AV) := [(aW26, rW26)]
def aW15 : List AV := [(.list 5 [[(.int .i64 2), (.int .i64 0), (.int .i64 0), (.list 2 [[(.int .i64 98), (.int .i64 98)]]), (.str ⟨#[]⟩)]])]
def rW15 : AV := (.bool true)
def aW21 : List AV := [(.list 5 [[(.int .i64 2), (.int .i64 0), (.int .i64 0), (.list 2 [[(.int .i64 97), (.int .i64 97)]]), (.str ⟨#[]⟩)], [(.int .i64 2), (.int .i64 0), (.int .i64 0), (.list 2 [[(.int .i64 98), (.int .i64 98)]]), (.str ⟨#[]⟩)], [(.int .i64 3), (.int .i64 0), (.int .i64 1), (.list 2 []), (.str ⟨#[]⟩)], [(.int .i64 5), (.int .i64 2), (.int .i64 0), (.list 2 []), (.str ⟨#[]⟩)]])]
def rW21 : AV := (.bool true)
def tW7_25 : List (List AV × AV) := [(aW15, rW15), (aW21, rW21)]
def aW25 : List AV := [(.list 5 [[(.int .i64 2), (.int .i64 0), (.int .i64 0), (.list 2 [[(.int .i64 97), (.int .i64 97)]]), (.str ⟨#[]⟩)], [(.int .i64 2), (.int .i64 0), (.int .i64 0), (.list 2 [[(.int .i64 98), (.int .i64 98)]]), (.str ⟨#[]⟩)], [(.int .i64 3), (.int .i64 0), (.int .i64 1), (.list 2 []), (.str ⟨#[]⟩)]])]
def rW25 : AV := (.tuple [(.list 5 [[(.int .i64 2), (.int .i64 0), (.int .i64 0), (.list 2 [[(.int .i64 97), (.int .i64 97)]]), (.str ⟨#[]⟩)]]), (.list 5 [[(.int .i64 2), (.int .i64 0), (.int .i64 0), (.list 2 [[(.int .i64 98), (.int .i64 98)]]), (.str ⟨#[]⟩)]]), (.bool true)])
def tW7_45 : List (List AV × AV) := [(aW25, rW25)]
def wW7 : FT := upd (upd (upd (wW6) 15 (memoF tW7_15 wW6 15)) 25 (memoF tW7_25 wW6 25)) 45 (memoF tW7_45 wW6 45)
def aW18 : List AV := [sW0]
def rW18 : AV := (.tuple [(.list 5 [[(.int .i64 2), (.int .i64 0), (.int .i64 0), (.list 2 [[(.int .i64 97), (.int .i64 97)]]), (.str ⟨#[]⟩)], [(.int .i64 2), (.int .i64 0), (.int .i64 0), (.list 2 [[(.int .i64 98), (.int .i64 98)]]), (.str ⟨#[]⟩)], [(.int .i64 3), (.int .i64 0), (.int .i64 1), (.list 2 []), (.str ⟨#[]⟩)], [(.int .i64 5), (.int .i64 2), (.int .i64 0), (.list 2 []), (.str ⟨#[]⟩)]]), (.agg [(.int .i64 0), (.int .i64 0)])])
def tW8_24 : List (List AV × AV) := [(aW18, rW18)]
def aW28 : List AV := [(.list 5 [[(.int .i64 1), (.int .i64 0), (.int .i64 0), (.list 2 []), (.str ⟨#[]⟩)]]), (.list 5 [[(.int .i64 2), (.int .i64 0), (.int .i64 0), (.list 2 [[(.int .i64 98), (.int .i64 98)]]), (.str ⟨#[]⟩)]])]
def rW28 : AV := (.tuple [(.list 5 [[(.int .i64 2), (.int .i64 0), (.int .i64 0), (.list 2 [[(.int .i64 98), (.int .i64 98)]]), (.str ⟨#[]⟩)]]), (.bool true)])
def tW8_47 : List (List AV × AV) := [(aW28, rW28)]
def aW31 : List AV := [(.int .i64 3), (.list 5 [[(.int .i64 2), (.int .i64 0), (.int .i64 0), (.list 2 [[(.int .i64 98), (.int .i64 98)]]), (.str ⟨#[]⟩)]]), (.list 5 [[(.int .i64 2), (.int .i64 0), (.int .i64 0), (.list 2 [[(.int .i64 97), (.int .i64 97)]]), (.str ⟨#[]⟩)], [(.int .i64 2), (.int .i64 0), (.int .i64 0), (.list 2 [[(.int .i64 98), (.int .i64 98)]]), (.str ⟨#[]⟩)], [(.int .i64 3), (.int .i64 0), (.int .i64 1), (.list 2 []), (.str ⟨#[]⟩)], [(.int .i64 5), (.int .i64 2), (.int .i64 0), (.list 2 []), (.str ⟨#[]⟩)]])]
def rW31 : AV := (.tuple [(.list 5 [[(.int .i64 2), (.int .i64 0), (.int .i64 0), (.list 2 [[(.int .i64 98), (.int .i64 98)]]), (.str ⟨#[]⟩)], [(.int .i64 2), (.int .i64 0), (.int .i64 0), (.list 2 [[(.int .i64 97), (.int .i64 97)]]), (.str ⟨#[]⟩)], [(.int .i64 2), (.int .i64 0), (.int .i64 0), (.list 2 [[(.int .i64 98), (.int .i64 98)]]), (.str ⟨#[]⟩)], [(.int .i64 3), (.int .i64 1), (.int .i64 2), (.list 2 []), (.str ⟨#[]⟩)], [(.int .i64 5), (.int .i64 3), (.int .i64 0), (.list 2 []), (.str ⟨#[]⟩)], [(.int .i64 3), (.int .i64 0), (.int .i64 4), (.list 2 []), (.str ⟨#[]⟩)]]), (.bool true)])
def tW8_81 : List (List AV × AV) := [(aW31, rW31)]
def wW8 : FT := upd (upd (upd (wW7) 24 (memoF tW8_24 wW7 24)) 47 (memoF tW8_47 wW7 47)) 81 (memoF tW8_81 wW7 81)
def aW29 : List AV := [(.list 5 [[(.int .i64 2), (.int .i64 0), (.int .i64 0), (.list 2 [[(.int .i64 97), (.int .i64 97)]]), (.str ⟨#[]⟩)], [(.int .i64 2), (.int .i64 0), (.int .i64 0), (.list 2 [[(.int .i64 98), (.int .i64 98)]]), (.str ⟨#[]⟩)], [(.int .i64 3), (.int .i64 0), (.int .i64 1), (.list 2 []), (.str ⟨#[]⟩)]]), (.int .i32 97)]
def rW29 : AV := (.tuple [(.list 5 [[(.int .i64 2), (.int .i64 0), (.int .i64 0), (.list 2 [[(.int .i64 98), (.int .i64 98)]]), (.str ⟨#[]⟩)]]), (.bool true)])
def tW9_27 : List (List AV × AV) := [(aW29, rW29)]
def aW32 : List AV := [(.list 5 [[(.int .i64 2), (.int .i64 0), (.int .i64 0), (.list 2 [[(.int .i64 98), (.int .i64 98)]]), (.str ⟨#[]⟩)]]), (.list 5 [[(.int .i64 2), (.int .i64 0), (.int .i64 0), (.list 2 [[(.int .i64 97), (.int .i64 97)]]), (.str ⟨#[]⟩)], [(.int .i64 2), (.int .i64 0), (.int .i64 0), (.list 2 [[(.int .i64 98), (.int .i64 98)]]), (.str ⟨#[]⟩)], [(.int .i64 3), (.int .i64 0), (.int .i64 1), (.list 2 []), (.str ⟨#[]⟩)], [(.int .i64 5), (.int .i64 2), (.int .i64 0), (.list 2 []), (.str ⟨#[]⟩)]])]
def rW32 : AV := (.tuple [(.list 5 [[(.int .i64 2), (.int .i64 0), (.int .i64 0), (.list 2 [[(.int .i64 98), (.int .i64 98)]]), (.str ⟨#[]⟩)], [(.int .i64 2), (.int .i64 0), (.int .i64 0), (.list 2 [[(.int .i64 97), (.int .i64 97)]]), (.str ⟨#[]⟩)], [(.int .i64 2), (.int .i64 0), (.int .i64 0), (.list 2 [[(.int .i64 98), (.int .i64 98)]]), (.str ⟨#[]⟩)], [(.int .i64 3), (.int .i64 1), (.int .i64 2), (.list 2 []), (.str ⟨#[]⟩)], [(.int .i64 5), (.int .i64 3), (.int .i64 0), (.list 2 []), (.str ⟨#[]⟩)], [(.int .i64 3), (.int .i64 0), (.int .i64 4), (.list 2 []), (.str ⟨#[]⟩)]]), (.bool true)])
def tW9_47 : List (List AV × AV) := [(aW32, rW32)]
def wW9 : FT := upd (upd (wW8) 27 (memoF tW9_27 wW8 27)) 47 (memoF tW9_47 wW8 47)
def aW33 : List AV := [(.list 5 [[(.int .i64 2), (.int .i64 0), (.int .i64 0), (.list 2 [[(.int .i64 97), (.int .i64 97)]]), (.str ⟨#[]⟩)], [(.int .i64 2), (.int .i64 0), (.int .i64 0), (.list 2 [[(.int .i64 98), (.int .i64 98)]]), (.str ⟨#[]⟩)], [(.int .i64 3), (.int .i64 0), (.int .i64 1), (.list 2 []), (.str ⟨#[]⟩)], [(.int .i64 5), (.int .i64 2), (.int .i64 0), (.list 2 []), (.str ⟨#[]⟩)]]), (.int .i64 97)]
def rW33 : AV := (.tuple [(.list 5 [[(.int .i64 2), (.int .i64 0), (.int .i64 0), (.list 2 [[(.int .i64 98), (.int .i64 98)]]), (.str ⟨#[]⟩)], [(.int .i64 2), (.int .i64 0), (.int .i64 0), (.list 2 [[(.int .i64 97), (.int .i64 97)]]), (.str ⟨#[]⟩)], [(.int .i64 2), (.int .i64 0), (.int .i64 0), (.list 2 [[(.int .i64 98), (.int .i64 98)]]), (.str ⟨#[]⟩)], [(.int .i64 3), (.int .i64 1), (.int .i64 2), (.list 2 []), (.str ⟨#[]⟩)], [(.int .i64 5), (.int .i64 3), (.int .i64 0), (.list 2 []), (.str ⟨#[]⟩)], [(.int .i64 3), (.int .i64 0), (.int .i64 4), (.list 2 []), (.str ⟨#[]⟩)]]), (.bool true)])
def tW10_10 : List (List AV × AV) := [(aW33, rW33)]
def wW10 : FT := upd (wW9) 10 (memoF tW10_10 wW9 10)
end Go.Proofs.Abs
