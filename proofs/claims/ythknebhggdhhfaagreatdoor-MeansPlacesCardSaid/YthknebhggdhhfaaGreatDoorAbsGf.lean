/- A part of a proof: the text that states the row tells what is proved. No condition is laid on anything. -/
import Derived.Test.YthknebhggdhhfaaGreatDoorAbsGd
import Derived.Test.YthknebhggdhhfaaGreatDoorAbsC
set_option linter.all false
set_option linter.constructorNameAsVariable false
set_option linter.defProp false
set_option linter.unusedVariables false
set_option linter.unusedSimpArgs false
set_option maxRecDepth 1000000
namespace Go.Proofs.Abs
open Go
def memoF (tab : List (List AV × AV)) (t : FT) (f : Nat) : Id → List AV → Heap → Option (AV × Heap) := fun q args H => match tab.find? fun x => beqL x.1 args with
  | some x => some (x.2, H)
  | none => acall t 400 f q args H
def okd (t : FT) (f : Nat) (l : List AV) (r : AV) : Bool := match acall t 400 f [] l [] with
  | some (v, H) => beqA v r && beqH H []
  | none => false
theorem okd_run {t : FT} {f : Nat} {l : List AV} {r : AV} (h : okd t f l r = true) : acall t 400 f [] l [] = some (r, []) := by
  unfold okd at h
  split at h
  · rename_i v H e
    simp only [Bool.and_eq_true] at h
    rw [e, beqA_eq h.1, beqH_eq h.2]
  · cases h
def purB : Nat → AV → Bool
  | 0, _ => false
  | d + 1, v => match v with
    | .undef | .bool _ | .int _ _ | .str _ | .nils | .emp | .nilp | .nilm | .nilf | .nili => true
    | .list _ rows => rows.all fun r => r.all (purB d)
    | .agg l => l.all (purB d)
    | .tuple l => l.all (purB d)
    | _ => false
theorem purB_ok : ∀ (d : Nat) (v : AV), purB d v = true → Pure v
  | 0, _, h => by cases h
  | d + 1, v, h => by
    cases v with
    | undef => exact .undef
    | bool b => exact .bool b
    | int k n => exact .int k n
    | str s => exact .str s
    | nils => exact .nils
    | emp => exact .emp
    | nilp => exact .nilp
    | nilm => exact .nilm
    | nilf => exact .nilf
    | nili => exact .nili
    | list z rows =>
      refine .list _ _ fun j av e => ?_
      have hm := List.mem_of_getElem? e
      rw [List.mem_flatten] at hm
      obtain ⟨r, hr, ha⟩ := hm
      exact purB_ok d av (List.all_eq_true.1 (List.all_eq_true.1 h r hr) av ha)
    | agg l => exact .agg _ fun j a e => purB_ok d a (List.all_eq_true.1 h a (List.mem_of_getElem? e))
    | tuple l => exact .tuple _ fun j a e => purB_ok d a (List.all_eq_true.1 h a (List.mem_of_getElem? e))
    | own _ _ => cases h
    | tl _ _ _ => cases h
    | rp _ => cases h
    | ref _ _ _ _ => cases h
    | map _ => cases h
    | func _ _ => cases h
    | iface _ _ => cases h
def purT (tab : List (List AV × AV)) : Bool := tab.all fun x => x.1.all (purB 12) && purB 12 x.2
theorem memoF_ok {P : Program} {ft : FT} (hmo : P.follows .mixedOrders = true) (hft : FTOK P ft) {f : Nat} {tab : List (List AV × AV)} (hp : purT tab = true) (h : (tab.all fun x => okd ft f x.1 x.2) = true) : OraOK P (f % 100000) (memoF tab ft f) := by
  intro q args H r H' hs
  unfold memoF at hs
  split at hs
  · rename_i x hx
    simp only [Option.some.injEq, Prod.mk.injEq] at hs
    obtain ⟨rfl, rfl⟩ := hs
    have hm := List.mem_of_find?_eq_some hx
    have hb : beqL x.1 args = true := List.find?_some (p := fun x : List AV × AV => beqL x.1 args) hx
    have he := beqL_eq hb
    have hpx := List.all_eq_true.1 hp x hm
    simp only [Bool.and_eq_true] at hpx
    have p1 : ∀ a ∈ x.1, Pure a := fun a ha => purB_ok 12 a (List.all_eq_true.1 hpx.1 a ha)
    have p2 : Pure x.2 := purB_ok 12 _ hpx.2
    have hk := lift2 (α := Unit) (dom := fun _ => True) (enc := fun _ => x.1) (out := fun _ => x.2) hmo hft (fun _ _ => p1) (fun _ _ => p2) (fun _ _ => ⟨400, okd_run (List.all_eq_true.1 h x hm)⟩)
    have := hk q x.1 H x.2 H (oraF_eq (fun _ _ _ => rfl) (a := ()) trivial q H)
    rw [he] at this
    exact this
  · exact (sound P ft hmo hft 400).2 f q args H r H' hs
end Go.Proofs.Abs

set_option maxRecDepth 1000000
namespace Go.Proofs.Abs
open Go
abbrev sW0 : AV := (.str ⟨#[97, 110, 121, 42, 32, 91, 117, 43, 54, 49, 93, 32, 195, 151, 32, 91, 117, 43, 54, 50, 93, 59, 32, 97, 110, 121, 42, 32, 195, 183, 32, 91, 117, 43, 54, 50, 93, 59, 32, 101, 108, 115, 101, 32, 195, 151, 59]⟩)
def aW5 : List AV := [(.int .i64 0)]
def rW5 : AV := (.tuple [(.int .i32 0), (.bool true)])
def aW7 : List AV := [(.int .i64 1114111)]
def rW7 : AV := (.tuple [(.int .i32 1114111), (.bool true)])
def aW13 : List AV := [(.int .i64 97)]
def rW13 : AV := (.tuple [(.int .i32 97), (.bool true)])
def aW21 : List AV := [(.int .i64 98)]
def rW21 : AV := (.tuple [(.int .i32 98), (.bool true)])
def tW1_123 : List (List AV × AV) := [(aW5, rW5), (aW7, rW7), (aW13, rW13), (aW21, rW21)]
def aW17 : List AV := [(.agg [(.int .i64 5), (.int .i64 0), (.int .i64 0), (.list 2 []), (.str ⟨#[]⟩)])]
def rW17 : AV := (.bool true)
def aW27 : List AV := [(.agg [(.int .i64 3), (.int .i64 1), (.int .i64 2), (.list 2 []), (.str ⟨#[]⟩)])]
def rW27 : AV := (.bool true)
def tW1_124 : List (List AV × AV) := [(aW17, rW17), (aW27, rW27)]
def aW0 : List AV := [(.str ⟨#[97, 110, 121]⟩)]
def rW0 : AV := (.bool true)
def tW1_128 : List (List AV × AV) := [(aW0, rW0)]
def aW1 : List AV := [(.str ⟨#[54, 49]⟩), (.int .i64 16), (.int .i64 32)]
def rW1 : AV := (.tuple [(.int .u64 97), .nili])
def aW2 : List AV := [(.str ⟨#[54, 50]⟩), (.int .i64 16), (.int .i64 32)]
def rW2 : AV := (.tuple [(.int .u64 98), .nili])
def tW1_206 : List (List AV × AV) := [(aW1, rW1), (aW2, rW2)]
def wW1 : FT := upd (upd (upd (upd (ft) 123 (memoF tW1_123 ft 123)) 124 (memoF tW1_124 ft 124)) 128 (memoF tW1_128 ft 128)) 206 (memoF tW1_206 ft 206)
def aW6 : List AV := [(.int .i64 0)]
def rW6 : AV := (.bool true)
def aW8 : List AV := [(.int .i64 1114111)]
def rW8 : AV := (.bool true)
def aW14 : List AV := [(.int .i64 97)]
def rW14 : AV := (.bool true)
def aW22 : List AV := [(.int .i64 98)]
def rW22 : AV := (.bool true)
def tW2_80 : List (List AV × AV) := [(aW6, rW6), (aW8, rW8), (aW14, rW14), (aW22, rW22)]
def aW3 : List AV := [(.str ⟨#[54, 50]⟩), (.int .i64 16), (.int .i64 32)]
def rW3 : AV := (.tuple [(.int .u64 98), .nili])
def tW2_187 : List (List AV × AV) := [(aW3, rW3)]
def wW2 : FT := upd (upd (wW1) 80 (memoF tW2_80 wW1 80)) 187 (memoF tW2_187 wW1 187)
def aW9 : List AV := [(.agg [(.int .i64 0), (.int .i64 1114111)])]
def rW9 : AV := (.bool true)
def aW15 : List AV := [(.agg [(.int .i64 97), (.int .i64 97)])]
def rW15 : AV := (.bool true)
def aW23 : List AV := [(.agg [(.int .i64 98), (.int .i64 98)])]
def rW23 : AV := (.bool true)
def tW3_89 : List (List AV × AV) := [(aW9, rW9), (aW15, rW15), (aW23, rW23)]
def aW4 : List AV := [sW0]
def rW4 : AV := (.tuple [(.list 3 [[(.int .i64 1), (.str ⟨#[97, 110, 121]⟩), (.int .i64 0)], [(.int .i64 3), (.str ⟨#[42]⟩), (.int .i64 3)], [(.int .i64 3), (.str ⟨#[91]⟩), (.int .i64 5)], [(.int .i64 2), (.str ⟨#[54, 49]⟩), (.int .i64 6)], [(.int .i64 3), (.str ⟨#[93]⟩), (.int .i64 10)], [(.int .i64 5), (.str ⟨#[195, 151]⟩), (.int .i64 12)], [(.int .i64 3), (.str ⟨#[91]⟩), (.int .i64 15)], [(.int .i64 2), (.str ⟨#[54, 50]⟩), (.int .i64 16)], [(.int .i64 3), (.str ⟨#[93]⟩), (.int .i64 20)], [(.int .i64 3), (.str ⟨#[59]⟩), (.int .i64 21)], [(.int .i64 1), (.str ⟨#[97, 110, 121]⟩), (.int .i64 23)], [(.int .i64 3), (.str ⟨#[42]⟩), (.int .i64 26)], [(.int .i64 4), (.str ⟨#[195, 183]⟩), (.int .i64 28)], [(.int .i64 3), (.str ⟨#[91]⟩), (.int .i64 31)], [(.int .i64 2), (.str ⟨#[54, 50]⟩), (.int .i64 32)], [(.int .i64 3), (.str ⟨#[93]⟩), (.int .i64 36)], [(.int .i64 3), (.str ⟨#[59]⟩), (.int .i64 37)], [(.int .i64 1), (.str ⟨#[101, 108, 115, 101]⟩), (.int .i64 39)], [(.int .i64 5), (.str ⟨#[195, 151]⟩), (.int .i64 44)], [(.int .i64 3), (.str ⟨#[59]⟩), (.int .i64 46)]]), (.agg [(.int .i64 0), (.int .i64 0)])])
def tW3_112 : List (List AV × AV) := [(aW4, rW4)]
def wW3 : FT := upd (upd (wW2) 89 (memoF tW3_89 wW2 89)) 112 (memoF tW3_112 wW2 112)
def aW10 : List AV := [(.list 2 [[(.int .i64 0), (.int .i64 1114111)]])]
def rW10 : AV := (.bool true)
def aW16 : List AV := [(.list 2 [[(.int .i64 97), (.int .i64 97)]])]
def rW16 : AV := (.bool true)
def aW25 : List AV := [(.list 2 [[(.int .i64 98), (.int .i64 98)]])]
def rW25 : AV := (.bool true)
def tW4_57 : List (List AV × AV) := [(aW10, rW10), (aW16, rW16), (aW25, rW25)]
def aW24 : List AV := [(.list 2 [[(.int .i64 98), (.int .i64 98)]])]
def rW24 : AV := (.tuple [(.list 2 [[(.int .i64 98), (.int .i64 98)]]), (.bool true)])
def tW4_99 : List (List AV × AV) := [(aW24, rW24)]
def wW4 : FT := upd (upd (wW3) 57 (memoF tW4_57 wW3 57)) 99 (memoF tW4_99 wW3 99)
def aW37 : List AV := [(.list 2 [[(.int .i64 97), (.int .i64 97)]]), (.int .i64 97)]
def rW37 : AV := (.bool true)
def aW40 : List AV := [(.list 2 [[(.int .i64 0), (.int .i64 1114111)]]), (.int .i64 97)]
def rW40 : AV := (.bool true)
def aW42 : List AV := [(.list 2 [[(.int .i64 98), (.int .i64 98)]]), (.int .i64 98)]
def rW42 : AV := (.bool true)
def aW44 : List AV := [(.list 2 [[(.int .i64 97), (.int .i64 97)]]), (.int .i64 98)]
def rW44 : AV := (.bool false)
def aW45 : List AV := [(.list 2 [[(.int .i64 0), (.int .i64 1114111)]]), (.int .i64 98)]
def rW45 : AV := (.bool true)
def tW5_69 : List (List AV × AV) := [(aW37, rW37), (aW40, rW40), (aW42, rW42), (aW44, rW44), (aW45, rW45)]
def aW11 : List AV := [(.agg [(.int .i64 2), (.int .i64 0), (.int .i64 0), (.list 2 [[(.int .i64 0), (.int .i64 1114111)]]), (.str ⟨#[]⟩)])]
def rW11 : AV := (.bool true)
def aW20 : List AV := [(.agg [(.int .i64 2), (.int .i64 0), (.int .i64 0), (.list 2 [[(.int .i64 97), (.int .i64 97)]]), (.str ⟨#[]⟩)])]
def rW20 : AV := (.bool true)
def aW30 : List AV := [(.agg [(.int .i64 2), (.int .i64 0), (.int .i64 0), (.list 2 [[(.int .i64 98), (.int .i64 98)]]), (.str ⟨#[]⟩)])]
def rW30 : AV := (.bool true)
def tW5_125 : List (List AV × AV) := [(aW11, rW11), (aW20, rW20), (aW30, rW30)]
def wW5 : FT := upd (upd (wW4) 69 (memoF tW5_69 wW4 69)) 125 (memoF tW5_125 wW4 125)
def aW12 : List AV := [(.list 5 [[(.int .i64 2), (.int .i64 0), (.int .i64 0), (.list 2 [[(.int .i64 0), (.int .i64 1114111)]]), (.str ⟨#[]⟩)]])]
def rW12 : AV := (.tuple [(.list 5 [[(.int .i64 2), (.int .i64 0), (.int .i64 0), (.list 2 [[(.int .i64 0), (.int .i64 1114111)]]), (.str ⟨#[]⟩)], [(.int .i64 5), (.int .i64 0), (.int .i64 0), (.list 2 []), (.str ⟨#[]⟩)]]), (.bool true)])
def tW6_26 : List (List AV × AV) := [(aW12, rW12)]
def aW18 : List AV := [(.list 5 [[(.int .i64 2), (.int .i64 0), (.int .i64 0), (.list 2 [[(.int .i64 0), (.int .i64 1114111)]]), (.str ⟨#[]⟩)], [(.int .i64 5), (.int .i64 0), (.int .i64 0), (.list 2 []), (.str ⟨#[]⟩)]])]
def rW18 : AV := (.tuple [(.list 1 [[(.int .i64 0)], [(.int .i64 0)]]), (.bool true)])
def aW28 : List AV := [(.list 5 [[(.int .i64 2), (.int .i64 0), (.int .i64 0), (.list 2 [[(.int .i64 0), (.int .i64 1114111)]]), (.str ⟨#[]⟩)], [(.int .i64 5), (.int .i64 0), (.int .i64 0), (.list 2 []), (.str ⟨#[]⟩)], [(.int .i64 2), (.int .i64 0), (.int .i64 0), (.list 2 [[(.int .i64 97), (.int .i64 97)]]), (.str ⟨#[]⟩)], [(.int .i64 3), (.int .i64 1), (.int .i64 2), (.list 2 []), (.str ⟨#[]⟩)]])]
def rW28 : AV := (.tuple [(.list 1 [[(.int .i64 0)], [(.int .i64 0)], [(.int .i64 2)], [(.int .i64 0)]]), (.bool true)])
def aW31 : List AV := [(.list 5 [[(.int .i64 2), (.int .i64 0), (.int .i64 0), (.list 2 [[(.int .i64 98), (.int .i64 98)]]), (.str ⟨#[]⟩)]])]
def rW31 : AV := (.tuple [(.list 1 [[(.int .i64 0)]]), (.bool true)])
def tW6_87 : List (List AV × AV) := [(aW18, rW18), (aW28, rW28), (aW31, rW31)]
def wW6 : FT := upd (upd (wW5) 26 (memoF tW6_26 wW5 26)) 87 (memoF tW6_87 wW5 87)
def aW19 : List AV := [(.list 5 [[(.int .i64 2), (.int .i64 0), (.int .i64 0), (.list 2 [[(.int .i64 0), (.int .i64 1114111)]]), (.str ⟨#[]⟩)], [(.int .i64 5), (.int .i64 0), (.int .i64 0), (.list 2 []), (.str ⟨#[]⟩)]])]
def rW19 : AV := (.bool true)
def aW29 : List AV := [(.list 5 [[(.int .i64 2), (.int .i64 0), (.int .i64 0), (.list 2 [[(.int .i64 0), (.int .i64 1114111)]]), (.str ⟨#[]⟩)], [(.int .i64 5), (.int .i64 0), (.int .i64 0), (.list 2 []), (.str ⟨#[]⟩)], [(.int .i64 2), (.int .i64 0), (.int .i64 0), (.list 2 [[(.int .i64 97), (.int .i64 97)]]), (.str ⟨#[]⟩)], [(.int .i64 3), (.int .i64 1), (.int .i64 2), (.list 2 []), (.str ⟨#[]⟩)]])]
def rW29 : AV := (.bool true)
def aW32 : List AV := [(.list 5 [[(.int .i64 2), (.int .i64 0), (.int .i64 0), (.list 2 [[(.int .i64 98), (.int .i64 98)]]), (.str ⟨#[]⟩)]])]
def rW32 : AV := (.bool true)
def tW7_55 : List (List AV × AV) := [(aW19, rW19), (aW29, rW29), (aW32, rW32)]
def wW7 : FT := upd (wW6) 55 (memoF tW7_55 wW6 55)
def aW34 : List AV := [(.list 5 [[(.int .i64 2), (.int .i64 0), (.int .i64 0), (.list 2 [[(.int .i64 0), (.int .i64 1114111)]]), (.str ⟨#[]⟩)], [(.int .i64 5), (.int .i64 0), (.int .i64 0), (.list 2 []), (.str ⟨#[]⟩)], [(.int .i64 2), (.int .i64 0), (.int .i64 0), (.list 2 [[(.int .i64 97), (.int .i64 97)]]), (.str ⟨#[]⟩)], [(.int .i64 3), (.int .i64 1), (.int .i64 2), (.list 2 []), (.str ⟨#[]⟩)]]), (.list 1 [])]
def rW34 : AV := (.bool false)
def aW35 : List AV := [(.list 5 [[(.int .i64 2), (.int .i64 0), (.int .i64 0), (.list 2 [[(.int .i64 0), (.int .i64 1114111)]]), (.str ⟨#[]⟩)], [(.int .i64 5), (.int .i64 0), (.int .i64 0), (.list 2 []), (.str ⟨#[]⟩)]]), (.list 1 [])]
def rW35 : AV := (.bool true)
def aW36 : List AV := [(.list 5 [[(.int .i64 2), (.int .i64 0), (.int .i64 0), (.list 2 [[(.int .i64 98), (.int .i64 98)]]), (.str ⟨#[]⟩)]]), (.list 1 [])]
def rW36 : AV := (.bool false)
def aW38 : List AV := [(.list 5 [[(.int .i64 2), (.int .i64 0), (.int .i64 0), (.list 2 [[(.int .i64 0), (.int .i64 1114111)]]), (.str ⟨#[]⟩)], [(.int .i64 5), (.int .i64 0), (.int .i64 0), (.list 2 []), (.str ⟨#[]⟩)], [(.int .i64 2), (.int .i64 0), (.int .i64 0), (.list 2 [[(.int .i64 97), (.int .i64 97)]]), (.str ⟨#[]⟩)], [(.int .i64 3), (.int .i64 1), (.int .i64 2), (.list 2 []), (.str ⟨#[]⟩)]]), (.list 1 [[(.int .i64 97)]])]
def rW38 : AV := (.bool true)
def aW39 : List AV := [(.list 5 [[(.int .i64 2), (.int .i64 0), (.int .i64 0), (.list 2 [[(.int .i64 98), (.int .i64 98)]]), (.str ⟨#[]⟩)]]), (.list 1 [[(.int .i64 97)]])]
def rW39 : AV := (.bool false)
def aW41 : List AV := [(.list 5 [[(.int .i64 2), (.int .i64 0), (.int .i64 0), (.list 2 [[(.int .i64 0), (.int .i64 1114111)]]), (.str ⟨#[]⟩)], [(.int .i64 5), (.int .i64 0), (.int .i64 0), (.list 2 []), (.str ⟨#[]⟩)]]), (.list 1 [[(.int .i64 97)]])]
def rW41 : AV := (.bool true)
def aW43 : List AV := [(.list 5 [[(.int .i64 2), (.int .i64 0), (.int .i64 0), (.list 2 [[(.int .i64 98), (.int .i64 98)]]), (.str ⟨#[]⟩)]]), (.list 1 [[(.int .i64 98)]])]
def rW43 : AV := (.bool true)
def aW46 : List AV := [(.list 5 [[(.int .i64 2), (.int .i64 0), (.int .i64 0), (.list 2 [[(.int .i64 0), (.int .i64 1114111)]]), (.str ⟨#[]⟩)], [(.int .i64 5), (.int .i64 0), (.int .i64 0), (.list 2 []), (.str ⟨#[]⟩)], [(.int .i64 2), (.int .i64 0), (.int .i64 0), (.list 2 [[(.int .i64 97), (.int .i64 97)]]), (.str ⟨#[]⟩)], [(.int .i64 3), (.int .i64 1), (.int .i64 2), (.list 2 []), (.str ⟨#[]⟩)]]), (.list 1 [[(.int .i64 97)], [(.int .i64 98)]])]
def rW46 : AV := (.bool false)
def aW47 : List AV := [(.list 5 [[(.int .i64 2), (.int .i64 0), (.int .i64 0), (.list 2 [[(.int .i64 0), (.int .i64 1114111)]]), (.str ⟨#[]⟩)], [(.int .i64 5), (.int .i64 0), (.int .i64 0), (.list 2 []), (.str ⟨#[]⟩)], [(.int .i64 2), (.int .i64 0), (.int .i64 0), (.list 2 [[(.int .i64 97), (.int .i64 97)]]), (.str ⟨#[]⟩)], [(.int .i64 3), (.int .i64 1), (.int .i64 2), (.list 2 []), (.str ⟨#[]⟩)]]), (.list 1 [[(.int .i64 97)], [(.int .i64 98)], [(.int .i64 98)]])]
def rW47 : AV := (.bool false)
def aW48 : List AV := [(.list 5 [[(.int .i64 2), (.int .i64 0), (.int .i64 0), (.list 2 [[(.int .i64 0), (.int .i64 1114111)]]), (.str ⟨#[]⟩)], [(.int .i64 5), (.int .i64 0), (.int .i64 0), (.list 2 []), (.str ⟨#[]⟩)]]), (.list 1 [[(.int .i64 97)], [(.int .i64 98)]])]
def rW48 : AV := (.bool true)
def aW49 : List AV := [(.list 5 [[(.int .i64 2), (.int .i64 0), (.int .i64 0), (.list 2 [[(.int .i64 0), (.int .i64 1114111)]]), (.str ⟨#[]⟩)], [(.int .i64 5), (.int .i64 0), (.int .i64 0), (.list 2 []), (.str ⟨#[]⟩)], [(.int .i64 2), (.int .i64 0), (.int .i64 0), (.list 2 [[(.int .i64 97), (.int .i64 97)]]), (.str ⟨#[]⟩)], [(.int .i64 3), (.int .i64 1), (.int .i64 2), (.list 2 []), (.str ⟨#[]⟩)]]), (.list 1 [[(.int .i64 97)], [(.int .i64 98)], [(.int .i64 98)], [(.int .i64 97)]])]
def rW49 : AV := (.bool true)
def tW8_24 : List (List AV × AV) := [(aW34, rW34), (aW35, rW35), (aW36, rW36), (aW38, rW38), (aW39, rW39), (aW41, rW41), (aW43, rW43), (aW46, rW46), (aW47, rW47), (aW48, rW48), (aW49, rW49)]
def aW26 : List AV := [sW0]
def rW26 : AV := (.tuple [(.agg [(.list 2 []), (.list 3 [[(.list 5 [[(.int .i64 2), (.int .i64 0), (.int .i64 0), (.list 2 [[(.int .i64 0), (.int .i64 1114111)]]), (.str ⟨#[]⟩)], [(.int .i64 5), (.int .i64 0), (.int .i64 0), (.list 2 []), (.str ⟨#[]⟩)], [(.int .i64 2), (.int .i64 0), (.int .i64 0), (.list 2 [[(.int .i64 97), (.int .i64 97)]]), (.str ⟨#[]⟩)], [(.int .i64 3), (.int .i64 1), (.int .i64 2), (.list 2 []), (.str ⟨#[]⟩)]]), (.list 5 [[(.int .i64 2), (.int .i64 0), (.int .i64 0), (.list 2 [[(.int .i64 98), (.int .i64 98)]]), (.str ⟨#[]⟩)]]), (.bool false)], [(.list 5 [[(.int .i64 2), (.int .i64 0), (.int .i64 0), (.list 2 [[(.int .i64 0), (.int .i64 1114111)]]), (.str ⟨#[]⟩)], [(.int .i64 5), (.int .i64 0), (.int .i64 0), (.list 2 []), (.str ⟨#[]⟩)]]), (.list 5 [[(.int .i64 2), (.int .i64 0), (.int .i64 0), (.list 2 [[(.int .i64 98), (.int .i64 98)]]), (.str ⟨#[]⟩)]]), (.bool true)]]), (.bool false)]), (.agg [(.int .i64 0), (.int .i64 0)])])
def tW8_43 : List (List AV × AV) := [(aW26, rW26)]
def aW33 : List AV := [(.agg [(.list 2 []), (.list 3 [[(.list 5 [[(.int .i64 2), (.int .i64 0), (.int .i64 0), (.list 2 [[(.int .i64 0), (.int .i64 1114111)]]), (.str ⟨#[]⟩)], [(.int .i64 5), (.int .i64 0), (.int .i64 0), (.list 2 []), (.str ⟨#[]⟩)], [(.int .i64 2), (.int .i64 0), (.int .i64 0), (.list 2 [[(.int .i64 97), (.int .i64 97)]]), (.str ⟨#[]⟩)], [(.int .i64 3), (.int .i64 1), (.int .i64 2), (.list 2 []), (.str ⟨#[]⟩)]]), (.list 5 [[(.int .i64 2), (.int .i64 0), (.int .i64 0), (.list 2 [[(.int .i64 98), (.int .i64 98)]]), (.str ⟨#[]⟩)]]), (.bool false)], [(.list 5 [[(.int .i64 2), (.int .i64 0), (.int .i64 0), (.list 2 [[(.int .i64 0), (.int .i64 1114111)]]), (.str ⟨#[]⟩)], [(.int .i64 5), (.int .i64 0), (.int .i64 0), (.list 2 []), (.str ⟨#[]⟩)]]), (.list 5 [[(.int .i64 2), (.int .i64 0), (.int .i64 0), (.list 2 [[(.int .i64 98), (.int .i64 98)]]), (.str ⟨#[]⟩)]]), (.bool true)]]), (.bool false)])]
def rW33 : AV := (.bool true)
def tW8_62 : List (List AV × AV) := [(aW33, rW33)]
def wW8 : FT := upd (upd (upd (wW7) 24 (memoF tW8_24 wW7 24)) 43 (memoF tW8_43 wW7 43)) 62 (memoF tW8_62 wW7 62)
def aW52 : List AV := [(.agg [(.list 2 []), (.list 3 [[(.list 5 [[(.int .i64 2), (.int .i64 0), (.int .i64 0), (.list 2 [[(.int .i64 0), (.int .i64 1114111)]]), (.str ⟨#[]⟩)], [(.int .i64 5), (.int .i64 0), (.int .i64 0), (.list 2 []), (.str ⟨#[]⟩)], [(.int .i64 2), (.int .i64 0), (.int .i64 0), (.list 2 [[(.int .i64 97), (.int .i64 97)]]), (.str ⟨#[]⟩)], [(.int .i64 3), (.int .i64 1), (.int .i64 2), (.list 2 []), (.str ⟨#[]⟩)]]), (.list 5 [[(.int .i64 2), (.int .i64 0), (.int .i64 0), (.list 2 [[(.int .i64 98), (.int .i64 98)]]), (.str ⟨#[]⟩)]]), (.bool false)], [(.list 5 [[(.int .i64 2), (.int .i64 0), (.int .i64 0), (.list 2 [[(.int .i64 0), (.int .i64 1114111)]]), (.str ⟨#[]⟩)], [(.int .i64 5), (.int .i64 0), (.int .i64 0), (.list 2 []), (.str ⟨#[]⟩)]]), (.list 5 [[(.int .i64 2), (.int .i64 0), (.int .i64 0), (.list 2 [[(.int .i64 98), (.int .i64 98)]]), (.str ⟨#[]⟩)]]), (.bool true)]]), (.bool false)]), (.list 1 [[(.int .i64 98)]]), (.int .i64 1)]
def rW52 : AV := (.tuple [(.bool true), (.bool true)])
def tW9_16 : List (List AV × AV) := [(aW52, rW52)]
def aW50 : List AV := [(.agg [(.list 5 [[(.int .i64 2), (.int .i64 0), (.int .i64 0), (.list 2 [[(.int .i64 0), (.int .i64 1114111)]]), (.str ⟨#[]⟩)], [(.int .i64 5), (.int .i64 0), (.int .i64 0), (.list 2 []), (.str ⟨#[]⟩)]]), (.list 5 [[(.int .i64 2), (.int .i64 0), (.int .i64 0), (.list 2 [[(.int .i64 98), (.int .i64 98)]]), (.str ⟨#[]⟩)]]), (.bool true)]), (.list 1 [[(.int .i64 97)], [(.int .i64 98)], [(.int .i64 98)], [(.int .i64 97)]]), (.int .i64 4)]
def rW50 : AV := (.bool false)
def tW9_19 : List (List AV × AV) := [(aW50, rW50)]
def wW9 : FT := upd (upd (wW8) 16 (memoF tW9_16 wW8 16)) 19 (memoF tW9_19 wW8 19)
def aW51 : List AV := [(.agg [(.list 2 []), (.list 3 [[(.list 5 [[(.int .i64 2), (.int .i64 0), (.int .i64 0), (.list 2 [[(.int .i64 0), (.int .i64 1114111)]]), (.str ⟨#[]⟩)], [(.int .i64 5), (.int .i64 0), (.int .i64 0), (.list 2 []), (.str ⟨#[]⟩)], [(.int .i64 2), (.int .i64 0), (.int .i64 0), (.list 2 [[(.int .i64 97), (.int .i64 97)]]), (.str ⟨#[]⟩)], [(.int .i64 3), (.int .i64 1), (.int .i64 2), (.list 2 []), (.str ⟨#[]⟩)]]), (.list 5 [[(.int .i64 2), (.int .i64 0), (.int .i64 0), (.list 2 [[(.int .i64 98), (.int .i64 98)]]), (.str ⟨#[]⟩)]]), (.bool false)], [(.list 5 [[(.int .i64 2), (.int .i64 0), (.int .i64 0), (.list 2 [[(.int .i64 0), (.int .i64 1114111)]]), (.str ⟨#[]⟩)], [(.int .i64 5), (.int .i64 0), (.int .i64 0), (.list 2 []), (.str ⟨#[]⟩)]]), (.list 5 [[(.int .i64 2), (.int .i64 0), (.int .i64 0), (.list 2 [[(.int .i64 98), (.int .i64 98)]]), (.str ⟨#[]⟩)]]), (.bool true)]]), (.bool false)]), (.list 1 [[(.int .i64 97)], [(.int .i64 98)], [(.int .i64 98)], [(.int .i64 97)]])]
def rW51 : AV := (.tuple [(.list 1 [[(.int .i64 3)]]), (.bool true)])
def tW10_14 : List (List AV × AV) := [(aW51, rW51)]
def wW10 : FT := upd (wW9) 14 (memoF tW10_14 wW9 14)
end Go.Proofs.Abs
