/-
  No cell of these rows narrows 'for every input' (looked for: loops, veiled, ifaces, maps, wideKeys, modest, calm, conditions, laid).
  DERIVED. THE GIVEN ROWS OF THIS SEAT. 13 by the template 'for every input the law returns true; each argument reads behind the call as it read before'; 0 by the template 'total and deterministic' (their statements: YtgcncpedpjjjeaaTotals.lean).
  GIVEN WITH THE SEED: the statements are not yours to turn. If you find one false, say at which input.
  Laid BY PROGRAM, IN A SANDBOX (cutbox-rows.mjs): the forced cells as the released guide's own fill.sh prints them over the translation 7d461495abb8352e… (all of the seat's roots in one cut). By AI agents, Wed Nov 11 2026. No macro, syntax, notation, axiom, sorry.
-/
import Derived.Test.YtgcncpedpjjjeaaChecked
import GoSem.Claim
import GoSem.ClaimJoined
import GoSem.ClaimMapViews
import Derived.JoinedTies
import Derived.KernelRfl
namespace Go.Proofs.Ytgcncpedpjjjeaa
/- THE CELL 'sum', in the pinned program and in every row, IS THE sha256 OF THE DUMP (.gsa) THAT YtgcncpedpjjjeaaProg.lean LOADS. Nothing in Lean hashes anything: it is a label: what it is worth is what the hold of that sum in a sandbox is worth. -/
noncomputable def Try.pinned : Pinned := { name := "ytgcncpedpjjjeaa", sum := "7d461495abb8352ece61b2f8d836b2a4303bde6cf379f741b774463e33246f76", checked := Try.checked }
namespace Rows
def none {H : Type} : Left H := { results := [], args := [] }

/-- 'caesuralaw11.TreeTells': WHATEVER THE INPUT: true; the input reads as it did. -/
def treeTellsSpec : ChangeSpec := { name := "treeTells", fn := fun _ => fun
  | [d1, d2, d3] => { results := [.lit (.bool true)], args := [d1, d2, d3] }
  | _ => none }
def treeTellsRow : OpenClaim := { program := "ytgcncpedpjjjeaa", sum := "7d461495abb8352ece61b2f8d836b2a4303bde6cf379f741b774463e33246f76", func := "caesura/caesuralaw11.TreeTells", spec := "treeTells", unfollowed := true, recurses := true, plainKeys := false, apart := false }
def TreeTellsSaid : Prop := treeTellsRow.holds Try.pinned (OpenSpec.ofChange treeTellsSpec)

/-- ITS FALSE NEIGHBOUR: 'it returns false'. Refute it at one input. -/
def treeTellsWrong : ChangeSpec := { name := "treeTells", fn := fun _ => fun
  | [d1, d2, d3] => { results := [.lit (.bool false)], args := [d1, d2, d3] }
  | _ => none }
def TreeTellsWrongFalsely : Prop := treeTellsRow.holds Try.pinned (OpenSpec.ofChange treeTellsWrong)

/-- 'caesuralaw11.TreeParts': WHATEVER THE INPUT: true; the input reads as it did. -/
def treePartsSpec : ChangeSpec := { name := "treeParts", fn := fun _ => fun
  | [d1, d2] => { results := [.lit (.bool true)], args := [d1, d2] }
  | _ => none }
def treePartsRow : OpenClaim := { program := "ytgcncpedpjjjeaa", sum := "7d461495abb8352ece61b2f8d836b2a4303bde6cf379f741b774463e33246f76", func := "caesura/caesuralaw11.TreeParts", spec := "treeParts", unfollowed := true, recurses := true, plainKeys := false, apart := false }
def TreePartsSaid : Prop := treePartsRow.holds Try.pinned (OpenSpec.ofChange treePartsSpec)

/-- ITS FALSE NEIGHBOUR: 'it returns false'. Refute it at one input. -/
def treePartsWrong : ChangeSpec := { name := "treeParts", fn := fun _ => fun
  | [d1, d2] => { results := [.lit (.bool false)], args := [d1, d2] }
  | _ => none }
def TreePartsWrongFalsely : Prop := treePartsRow.holds Try.pinned (OpenSpec.ofChange treePartsWrong)

/-- 'caesuralaw11.TreeTakes': WHATEVER THE INPUT: true; the input reads as it did. -/
def treeTakesSpec : ChangeSpec := { name := "treeTakes", fn := fun _ => fun
  | [d1, d2, d3] => { results := [.lit (.bool true)], args := [d1, d2, d3] }
  | _ => none }
def treeTakesRow : OpenClaim := { program := "ytgcncpedpjjjeaa", sum := "7d461495abb8352ece61b2f8d836b2a4303bde6cf379f741b774463e33246f76", func := "caesura/caesuralaw11.TreeTakes", spec := "treeTakes", unfollowed := true, recurses := true, plainKeys := false, apart := false }
def TreeTakesSaid : Prop := treeTakesRow.holds Try.pinned (OpenSpec.ofChange treeTakesSpec)

/-- ITS FALSE NEIGHBOUR: 'it returns false'. Refute it at one input. -/
def treeTakesWrong : ChangeSpec := { name := "treeTakes", fn := fun _ => fun
  | [d1, d2, d3] => { results := [.lit (.bool false)], args := [d1, d2, d3] }
  | _ => none }
def TreeTakesWrongFalsely : Prop := treeTakesRow.holds Try.pinned (OpenSpec.ofChange treeTakesWrong)

/-- 'caesuralaw11.TreeSizes': WHATEVER THE INPUT: true; the input reads as it did. -/
def treeSizesSpec : ChangeSpec := { name := "treeSizes", fn := fun _ => fun
  | [d1, d2] => { results := [.lit (.bool true)], args := [d1, d2] }
  | _ => none }
def treeSizesRow : OpenClaim := { program := "ytgcncpedpjjjeaa", sum := "7d461495abb8352ece61b2f8d836b2a4303bde6cf379f741b774463e33246f76", func := "caesura/caesuralaw11.TreeSizes", spec := "treeSizes", unfollowed := true, recurses := true, plainKeys := false, apart := false }
def TreeSizesSaid : Prop := treeSizesRow.holds Try.pinned (OpenSpec.ofChange treeSizesSpec)

/-- ITS FALSE NEIGHBOUR: 'it returns false'. Refute it at one input. -/
def treeSizesWrong : ChangeSpec := { name := "treeSizes", fn := fun _ => fun
  | [d1, d2] => { results := [.lit (.bool false)], args := [d1, d2] }
  | _ => none }
def TreeSizesWrongFalsely : Prop := treeSizesRow.holds Try.pinned (OpenSpec.ofChange treeSizesWrong)

/-- 'caesuralaw12.SmartTells': WHATEVER THE INPUT: true; the input reads as it did. -/
def smartTellsSpec : ChangeSpec := { name := "smartTells", fn := fun _ => fun
  | [d1, d2] => { results := [.lit (.bool true)], args := [d1, d2] }
  | _ => none }
def smartTellsRow : OpenClaim := { program := "ytgcncpedpjjjeaa", sum := "7d461495abb8352ece61b2f8d836b2a4303bde6cf379f741b774463e33246f76", func := "caesura/caesuralaw12.SmartTells", spec := "smartTells", unfollowed := true, recurses := true, plainKeys := false, apart := false }
def SmartTellsSaid : Prop := smartTellsRow.holds Try.pinned (OpenSpec.ofChange smartTellsSpec)

/-- ITS FALSE NEIGHBOUR: 'it returns false'. Refute it at one input. -/
def smartTellsWrong : ChangeSpec := { name := "smartTells", fn := fun _ => fun
  | [d1, d2] => { results := [.lit (.bool false)], args := [d1, d2] }
  | _ => none }
def SmartTellsWrongFalsely : Prop := smartTellsRow.holds Try.pinned (OpenSpec.ofChange smartTellsWrong)

/-- 'caesuralaw12.SmartLaws': WHATEVER THE INPUT: true; the input reads as it did. -/
def smartLawsSpec : ChangeSpec := { name := "smartLaws", fn := fun _ => fun
  | [d1, d2] => { results := [.lit (.bool true)], args := [d1, d2] }
  | _ => none }
def smartLawsRow : OpenClaim := { program := "ytgcncpedpjjjeaa", sum := "7d461495abb8352ece61b2f8d836b2a4303bde6cf379f741b774463e33246f76", func := "caesura/caesuralaw12.SmartLaws", spec := "smartLaws", unfollowed := true, recurses := true, plainKeys := false, apart := false }
def SmartLawsSaid : Prop := smartLawsRow.holds Try.pinned (OpenSpec.ofChange smartLawsSpec)

/-- ITS FALSE NEIGHBOUR: 'it returns false'. Refute it at one input. -/
def smartLawsWrong : ChangeSpec := { name := "smartLaws", fn := fun _ => fun
  | [d1, d2] => { results := [.lit (.bool false)], args := [d1, d2] }
  | _ => none }
def SmartLawsWrongFalsely : Prop := smartLawsRow.holds Try.pinned (OpenSpec.ofChange smartLawsWrong)

/-- 'caesuralaw12.SmartChains': WHATEVER THE INPUT: true; the input reads as it did. -/
def smartChainsSpec : ChangeSpec := { name := "smartChains", fn := fun _ => fun
  | [d1, d2, d3] => { results := [.lit (.bool true)], args := [d1, d2, d3] }
  | _ => none }
def smartChainsRow : OpenClaim := { program := "ytgcncpedpjjjeaa", sum := "7d461495abb8352ece61b2f8d836b2a4303bde6cf379f741b774463e33246f76", func := "caesura/caesuralaw12.SmartChains", spec := "smartChains", unfollowed := true, recurses := true, plainKeys := false, apart := false }
def SmartChainsSaid : Prop := smartChainsRow.holds Try.pinned (OpenSpec.ofChange smartChainsSpec)

/-- ITS FALSE NEIGHBOUR: 'it returns false'. Refute it at one input. -/
def smartChainsWrong : ChangeSpec := { name := "smartChains", fn := fun _ => fun
  | [d1, d2, d3] => { results := [.lit (.bool false)], args := [d1, d2, d3] }
  | _ => none }
def SmartChainsWrongFalsely : Prop := smartChainsRow.holds Try.pinned (OpenSpec.ofChange smartChainsWrong)

/-- 'caesuralaw12.SmartTakes': WHATEVER THE INPUT: true; the input reads as it did. -/
def smartTakesSpec : ChangeSpec := { name := "smartTakes", fn := fun _ => fun
  | [d1, d2, d3] => { results := [.lit (.bool true)], args := [d1, d2, d3] }
  | _ => none }
def smartTakesRow : OpenClaim := { program := "ytgcncpedpjjjeaa", sum := "7d461495abb8352ece61b2f8d836b2a4303bde6cf379f741b774463e33246f76", func := "caesura/caesuralaw12.SmartTakes", spec := "smartTakes", unfollowed := true, recurses := true, plainKeys := false, apart := false }
def SmartTakesSaid : Prop := smartTakesRow.holds Try.pinned (OpenSpec.ofChange smartTakesSpec)

/-- ITS FALSE NEIGHBOUR: 'it returns false'. Refute it at one input. -/
def smartTakesWrong : ChangeSpec := { name := "smartTakes", fn := fun _ => fun
  | [d1, d2, d3] => { results := [.lit (.bool false)], args := [d1, d2, d3] }
  | _ => none }
def SmartTakesWrongFalsely : Prop := smartTakesRow.holds Try.pinned (OpenSpec.ofChange smartTakesWrong)

/-- 'caesuralaw03.SetsTell': WHATEVER THE INPUT: true; the input reads as it did. -/
def setsTellSpec : ChangeSpec := { name := "setsTell", fn := fun _ => fun
  | [d1, d2, d3] => { results := [.lit (.bool true)], args := [d1, d2, d3] }
  | _ => none }
def setsTellRow : OpenClaim := { program := "ytgcncpedpjjjeaa", sum := "7d461495abb8352ece61b2f8d836b2a4303bde6cf379f741b774463e33246f76", func := "caesura/caesuralaw03.SetsTell", spec := "setsTell", unfollowed := true, recurses := true, plainKeys := false, apart := false }
def SetsTellSaid : Prop := setsTellRow.holds Try.pinned (OpenSpec.ofChange setsTellSpec)

/-- ITS FALSE NEIGHBOUR: 'it returns false'. Refute it at one input. -/
def setsTellWrong : ChangeSpec := { name := "setsTell", fn := fun _ => fun
  | [d1, d2, d3] => { results := [.lit (.bool false)], args := [d1, d2, d3] }
  | _ => none }
def SetsTellWrongFalsely : Prop := setsTellRow.holds Try.pinned (OpenSpec.ofChange setsTellWrong)

/-- 'caesuralaw03.SetsHold': WHATEVER THE INPUT: true; the input reads as it did. -/
def setsHoldSpec : ChangeSpec := { name := "setsHold", fn := fun _ => fun
  | [d1, d2, d3] => { results := [.lit (.bool true)], args := [d1, d2, d3] }
  | _ => none }
def setsHoldRow : OpenClaim := { program := "ytgcncpedpjjjeaa", sum := "7d461495abb8352ece61b2f8d836b2a4303bde6cf379f741b774463e33246f76", func := "caesura/caesuralaw03.SetsHold", spec := "setsHold", unfollowed := true, recurses := true, plainKeys := false, apart := false }
def SetsHoldSaid : Prop := setsHoldRow.holds Try.pinned (OpenSpec.ofChange setsHoldSpec)

/-- ITS FALSE NEIGHBOUR: 'it returns false'. Refute it at one input. -/
def setsHoldWrong : ChangeSpec := { name := "setsHold", fn := fun _ => fun
  | [d1, d2, d3] => { results := [.lit (.bool false)], args := [d1, d2, d3] }
  | _ => none }
def SetsHoldWrongFalsely : Prop := setsHoldRow.holds Try.pinned (OpenSpec.ofChange setsHoldWrong)

/-- 'caesuralaw03.SetsOrder': WHATEVER THE INPUT: true; the input reads as it did. -/
def setsOrderSpec : ChangeSpec := { name := "setsOrder", fn := fun _ => fun
  | [d1, d2, d3] => { results := [.lit (.bool true)], args := [d1, d2, d3] }
  | _ => none }
def setsOrderRow : OpenClaim := { program := "ytgcncpedpjjjeaa", sum := "7d461495abb8352ece61b2f8d836b2a4303bde6cf379f741b774463e33246f76", func := "caesura/caesuralaw03.SetsOrder", spec := "setsOrder", unfollowed := true, recurses := true, plainKeys := false, apart := false }
def SetsOrderSaid : Prop := setsOrderRow.holds Try.pinned (OpenSpec.ofChange setsOrderSpec)

/-- ITS FALSE NEIGHBOUR: 'it returns false'. Refute it at one input. -/
def setsOrderWrong : ChangeSpec := { name := "setsOrder", fn := fun _ => fun
  | [d1, d2, d3] => { results := [.lit (.bool false)], args := [d1, d2, d3] }
  | _ => none }
def SetsOrderWrongFalsely : Prop := setsOrderRow.holds Try.pinned (OpenSpec.ofChange setsOrderWrong)

/-- 'caesuralaw03.SetsLaws': WHATEVER THE INPUT: true; the input reads as it did. -/
def setsLawsSpec : ChangeSpec := { name := "setsLaws", fn := fun _ => fun
  | [d1, d2] => { results := [.lit (.bool true)], args := [d1, d2] }
  | _ => none }
def setsLawsRow : OpenClaim := { program := "ytgcncpedpjjjeaa", sum := "7d461495abb8352ece61b2f8d836b2a4303bde6cf379f741b774463e33246f76", func := "caesura/caesuralaw03.SetsLaws", spec := "setsLaws", unfollowed := true, recurses := true, plainKeys := false, apart := false }
def SetsLawsSaid : Prop := setsLawsRow.holds Try.pinned (OpenSpec.ofChange setsLawsSpec)

/-- ITS FALSE NEIGHBOUR: 'it returns false'. Refute it at one input. -/
def setsLawsWrong : ChangeSpec := { name := "setsLaws", fn := fun _ => fun
  | [d1, d2] => { results := [.lit (.bool false)], args := [d1, d2] }
  | _ => none }
def SetsLawsWrongFalsely : Prop := setsLawsRow.holds Try.pinned (OpenSpec.ofChange setsLawsWrong)

/-- 'caesuralaw03.SetsOf': WHATEVER THE INPUT: true; the input reads as it did. -/
def setsOfSpec : ChangeSpec := { name := "setsOf", fn := fun _ => fun
  | [d1, d2] => { results := [.lit (.bool true)], args := [d1, d2] }
  | _ => none }
def setsOfRow : OpenClaim := { program := "ytgcncpedpjjjeaa", sum := "7d461495abb8352ece61b2f8d836b2a4303bde6cf379f741b774463e33246f76", func := "caesura/caesuralaw03.SetsOf", spec := "setsOf", unfollowed := true, recurses := true, plainKeys := false, apart := false }
def SetsOfSaid : Prop := setsOfRow.holds Try.pinned (OpenSpec.ofChange setsOfSpec)

/-- ITS FALSE NEIGHBOUR: 'it returns false'. Refute it at one input. -/
def setsOfWrong : ChangeSpec := { name := "setsOf", fn := fun _ => fun
  | [d1, d2] => { results := [.lit (.bool false)], args := [d1, d2] }
  | _ => none }
def SetsOfWrongFalsely : Prop := setsOfRow.holds Try.pinned (OpenSpec.ofChange setsOfWrong)

/- THE SECOND FORM. 'bulk': how many values and letters a reading holds, each counted each time it is reached (what is shared counts as often as it is met; a slice's spare places count too). A statement '..UptoSaid' is the law's where the arguments, and the package variables that the reading takes, are together of bulk at most 1048576: NARROWER than '..Said'. Prove '..Said' where nothing that the law and all that it calls make is longer than what came in: it says more and counts as full. Else prove '..UptoSaid'. A law counts once. -/
mutual
def uptoBulk {H : Type} : DataW H → Nat
  | .lit (.string bytes) => bytes.length + 1
  | .lit _ => 1
  | .nil => 1
  | .ptr d => uptoBulk d + 1
  | .slice elems spare => uptoBulkAll elems + uptoBulkAll spare + 1
  | .agg parts => uptoBulkAll parts + 1
  | .iface _ d => uptoBulk d + 1
  | .map entries => uptoBulkEntries entries + 1
  | .held _ => 1
def uptoBulkAll {H : Type} : List (DataW H) → Nat
  | [] => 0
  | d :: r => uptoBulk d + uptoBulkAll r
def uptoBulkEntries {H : Type} : List (Lit × DataW H) → Nat
  | [] => 0
  | x :: r => uptoBulkEntry x + uptoBulkEntries r
def uptoBulkEntry {H : Type} : Lit × DataW H → Nat
  | (.string bytes, d) => bytes.length + uptoBulk d + 1
  | (_, d) => uptoBulk d + 1
 end
def uptoSmall : (H : Type) → List (DataW H) → Bool := fun _ ds => decide (uptoBulkAll ds ≤ 1048576)
def OpenSpec.upto (s : _root_.Go.ChangeSpec) : _root_.Go.OpenSpec := { _root_.Go.OpenSpec.ofChange s with cond := some uptoSmall }

/-- 'caesuralaw11.TreeTells', WHERE WHAT IT READS IS OF BULK AT MOST 1048576: true; the input reads as it did. -/
def treeTellsUptoRow : OpenClaim := { program := "ytgcncpedpjjjeaa", sum := "7d461495abb8352ece61b2f8d836b2a4303bde6cf379f741b774463e33246f76", func := "caesura/caesuralaw11.TreeTells", spec := "treeTells", unfollowed := true, recurses := true, plainKeys := false, apart := false, narrowed := true }
def TreeTellsUptoSaid : Prop := treeTellsUptoRow.holds Try.pinned (OpenSpec.upto treeTellsSpec)

/-- 'caesuralaw11.TreeParts', WHERE WHAT IT READS IS OF BULK AT MOST 1048576: true; the input reads as it did. -/
def treePartsUptoRow : OpenClaim := { program := "ytgcncpedpjjjeaa", sum := "7d461495abb8352ece61b2f8d836b2a4303bde6cf379f741b774463e33246f76", func := "caesura/caesuralaw11.TreeParts", spec := "treeParts", unfollowed := true, recurses := true, plainKeys := false, apart := false, narrowed := true }
def TreePartsUptoSaid : Prop := treePartsUptoRow.holds Try.pinned (OpenSpec.upto treePartsSpec)

/-- 'caesuralaw11.TreeTakes', WHERE WHAT IT READS IS OF BULK AT MOST 1048576: true; the input reads as it did. -/
def treeTakesUptoRow : OpenClaim := { program := "ytgcncpedpjjjeaa", sum := "7d461495abb8352ece61b2f8d836b2a4303bde6cf379f741b774463e33246f76", func := "caesura/caesuralaw11.TreeTakes", spec := "treeTakes", unfollowed := true, recurses := true, plainKeys := false, apart := false, narrowed := true }
def TreeTakesUptoSaid : Prop := treeTakesUptoRow.holds Try.pinned (OpenSpec.upto treeTakesSpec)

/-- 'caesuralaw11.TreeSizes', WHERE WHAT IT READS IS OF BULK AT MOST 1048576: true; the input reads as it did. -/
def treeSizesUptoRow : OpenClaim := { program := "ytgcncpedpjjjeaa", sum := "7d461495abb8352ece61b2f8d836b2a4303bde6cf379f741b774463e33246f76", func := "caesura/caesuralaw11.TreeSizes", spec := "treeSizes", unfollowed := true, recurses := true, plainKeys := false, apart := false, narrowed := true }
def TreeSizesUptoSaid : Prop := treeSizesUptoRow.holds Try.pinned (OpenSpec.upto treeSizesSpec)

/-- 'caesuralaw12.SmartTells', WHERE WHAT IT READS IS OF BULK AT MOST 1048576: true; the input reads as it did. -/
def smartTellsUptoRow : OpenClaim := { program := "ytgcncpedpjjjeaa", sum := "7d461495abb8352ece61b2f8d836b2a4303bde6cf379f741b774463e33246f76", func := "caesura/caesuralaw12.SmartTells", spec := "smartTells", unfollowed := true, recurses := true, plainKeys := false, apart := false, narrowed := true }
def SmartTellsUptoSaid : Prop := smartTellsUptoRow.holds Try.pinned (OpenSpec.upto smartTellsSpec)

/-- 'caesuralaw12.SmartLaws', WHERE WHAT IT READS IS OF BULK AT MOST 1048576: true; the input reads as it did. -/
def smartLawsUptoRow : OpenClaim := { program := "ytgcncpedpjjjeaa", sum := "7d461495abb8352ece61b2f8d836b2a4303bde6cf379f741b774463e33246f76", func := "caesura/caesuralaw12.SmartLaws", spec := "smartLaws", unfollowed := true, recurses := true, plainKeys := false, apart := false, narrowed := true }
def SmartLawsUptoSaid : Prop := smartLawsUptoRow.holds Try.pinned (OpenSpec.upto smartLawsSpec)

/-- 'caesuralaw12.SmartChains', WHERE WHAT IT READS IS OF BULK AT MOST 1048576: true; the input reads as it did. -/
def smartChainsUptoRow : OpenClaim := { program := "ytgcncpedpjjjeaa", sum := "7d461495abb8352ece61b2f8d836b2a4303bde6cf379f741b774463e33246f76", func := "caesura/caesuralaw12.SmartChains", spec := "smartChains", unfollowed := true, recurses := true, plainKeys := false, apart := false, narrowed := true }
def SmartChainsUptoSaid : Prop := smartChainsUptoRow.holds Try.pinned (OpenSpec.upto smartChainsSpec)

/-- 'caesuralaw12.SmartTakes', WHERE WHAT IT READS IS OF BULK AT MOST 1048576: true; the input reads as it did. -/
def smartTakesUptoRow : OpenClaim := { program := "ytgcncpedpjjjeaa", sum := "7d461495abb8352ece61b2f8d836b2a4303bde6cf379f741b774463e33246f76", func := "caesura/caesuralaw12.SmartTakes", spec := "smartTakes", unfollowed := true, recurses := true, plainKeys := false, apart := false, narrowed := true }
def SmartTakesUptoSaid : Prop := smartTakesUptoRow.holds Try.pinned (OpenSpec.upto smartTakesSpec)

/-- 'caesuralaw03.SetsTell', WHERE WHAT IT READS IS OF BULK AT MOST 1048576: true; the input reads as it did. -/
def setsTellUptoRow : OpenClaim := { program := "ytgcncpedpjjjeaa", sum := "7d461495abb8352ece61b2f8d836b2a4303bde6cf379f741b774463e33246f76", func := "caesura/caesuralaw03.SetsTell", spec := "setsTell", unfollowed := true, recurses := true, plainKeys := false, apart := false, narrowed := true }
def SetsTellUptoSaid : Prop := setsTellUptoRow.holds Try.pinned (OpenSpec.upto setsTellSpec)

/-- 'caesuralaw03.SetsHold', WHERE WHAT IT READS IS OF BULK AT MOST 1048576: true; the input reads as it did. -/
def setsHoldUptoRow : OpenClaim := { program := "ytgcncpedpjjjeaa", sum := "7d461495abb8352ece61b2f8d836b2a4303bde6cf379f741b774463e33246f76", func := "caesura/caesuralaw03.SetsHold", spec := "setsHold", unfollowed := true, recurses := true, plainKeys := false, apart := false, narrowed := true }
def SetsHoldUptoSaid : Prop := setsHoldUptoRow.holds Try.pinned (OpenSpec.upto setsHoldSpec)

/-- 'caesuralaw03.SetsOrder', WHERE WHAT IT READS IS OF BULK AT MOST 1048576: true; the input reads as it did. -/
def setsOrderUptoRow : OpenClaim := { program := "ytgcncpedpjjjeaa", sum := "7d461495abb8352ece61b2f8d836b2a4303bde6cf379f741b774463e33246f76", func := "caesura/caesuralaw03.SetsOrder", spec := "setsOrder", unfollowed := true, recurses := true, plainKeys := false, apart := false, narrowed := true }
def SetsOrderUptoSaid : Prop := setsOrderUptoRow.holds Try.pinned (OpenSpec.upto setsOrderSpec)

/-- 'caesuralaw03.SetsLaws', WHERE WHAT IT READS IS OF BULK AT MOST 1048576: true; the input reads as it did. -/
def setsLawsUptoRow : OpenClaim := { program := "ytgcncpedpjjjeaa", sum := "7d461495abb8352ece61b2f8d836b2a4303bde6cf379f741b774463e33246f76", func := "caesura/caesuralaw03.SetsLaws", spec := "setsLaws", unfollowed := true, recurses := true, plainKeys := false, apart := false, narrowed := true }
def SetsLawsUptoSaid : Prop := setsLawsUptoRow.holds Try.pinned (OpenSpec.upto setsLawsSpec)

/-- 'caesuralaw03.SetsOf', WHERE WHAT IT READS IS OF BULK AT MOST 1048576: true; the input reads as it did. -/
def setsOfUptoRow : OpenClaim := { program := "ytgcncpedpjjjeaa", sum := "7d461495abb8352ece61b2f8d836b2a4303bde6cf379f741b774463e33246f76", func := "caesura/caesuralaw03.SetsOf", spec := "setsOf", unfollowed := true, recurses := true, plainKeys := false, apart := false, narrowed := true }
def SetsOfUptoSaid : Prop := setsOfUptoRow.holds Try.pinned (OpenSpec.upto setsOfSpec)

end Rows
end Go.Proofs.Ytgcncpedpjjjeaa
