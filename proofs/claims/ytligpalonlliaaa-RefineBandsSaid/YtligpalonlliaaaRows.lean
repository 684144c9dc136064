/-
  No cell of these rows narrows 'for every input' (looked for: loops, veiled, ifaces, maps, wideKeys, modest, calm, conditions, laid).
  DERIVED. THE GIVEN ROWS OF THIS SEAT. 3 by the template 'for every input the law returns true; each argument reads behind the call as it read before'; 0 by the template 'total and deterministic' (their statements: YtligpalonlliaaaTotals.lean).
  GIVEN WITH THE SEED: the statements are not yours to turn. If you find one false, say at which input.
  Laid BY PROGRAM, IN A SANDBOX (cutbox-rows.mjs): the forced cells as the released guide's own fill.sh prints them over the translation 4d550e6a53b37053… (all of the seat's roots in one cut). By AI agents, Wed Nov 11 2026. No macro, syntax, notation, axiom, sorry.
-/
import Derived.Test.YtligpalonlliaaaChecked
import GoSem.Claim
import GoSem.ClaimJoined
import GoSem.ClaimMapViews
import Derived.JoinedTies
import Derived.KernelRfl
namespace Go.Proofs.Ytligpalonlliaaa
/- THE CELL 'sum', in the pinned program and in every row, IS THE sha256 OF THE DUMP (.gsa) THAT YtligpalonlliaaaProg.lean LOADS. Nothing in Lean hashes anything: it is a label: what it is worth is what the hold of that sum in a sandbox is worth. -/
noncomputable def Try.pinned : Pinned := { name := "ytligpalonlliaaa", sum := "4d550e6a53b37053bcb365be5d9bcf28a3593f483815fb09f102ce3c427dc78d", checked := Try.checked }
namespace Rows
def none {H : Type} : Left H := { results := [], args := [] }

/-- 'caesuralaw04.RefineParts': WHATEVER THE INPUT: true; the input reads as it did. -/
def refinePartsSpec : ChangeSpec := { name := "refineParts", fn := fun _ => fun
  | [d1, d2] => { results := [.lit (.bool true)], args := [d1, d2] }
  | _ => none }
def refinePartsRow : OpenClaim := { program := "ytligpalonlliaaa", sum := "4d550e6a53b37053bcb365be5d9bcf28a3593f483815fb09f102ce3c427dc78d", func := "caesura/caesuralaw04.RefineParts", spec := "refineParts", unfollowed := true, recurses := true, plainKeys := false, apart := false }
def RefinePartsSaid : Prop := refinePartsRow.holds Try.pinned (OpenSpec.ofChange refinePartsSpec)

/-- ITS FALSE NEIGHBOUR: 'it returns false'. Refute it at one input. -/
def refinePartsWrong : ChangeSpec := { name := "refineParts", fn := fun _ => fun
  | [d1, d2] => { results := [.lit (.bool false)], args := [d1, d2] }
  | _ => none }
def RefinePartsWrongFalsely : Prop := refinePartsRow.holds Try.pinned (OpenSpec.ofChange refinePartsWrong)

/-- 'caesuralaw04.RefineBands': WHATEVER THE INPUT: true; the input reads as it did. -/
def refineBandsSpec : ChangeSpec := { name := "refineBands", fn := fun _ => fun
  | [d1, d2] => { results := [.lit (.bool true)], args := [d1, d2] }
  | _ => none }
def refineBandsRow : OpenClaim := { program := "ytligpalonlliaaa", sum := "4d550e6a53b37053bcb365be5d9bcf28a3593f483815fb09f102ce3c427dc78d", func := "caesura/caesuralaw04.RefineBands", spec := "refineBands", unfollowed := true, recurses := true, plainKeys := false, apart := false }
def RefineBandsSaid : Prop := refineBandsRow.holds Try.pinned (OpenSpec.ofChange refineBandsSpec)

/-- ITS FALSE NEIGHBOUR: 'it returns false'. Refute it at one input. -/
def refineBandsWrong : ChangeSpec := { name := "refineBands", fn := fun _ => fun
  | [d1, d2] => { results := [.lit (.bool false)], args := [d1, d2] }
  | _ => none }
def RefineBandsWrongFalsely : Prop := refineBandsRow.holds Try.pinned (OpenSpec.ofChange refineBandsWrong)

/-- 'caesuralaw04.RefineOne': WHATEVER THE INPUT: true; the input reads as it did. -/
def refineOneSpec : ChangeSpec := { name := "refineOne", fn := fun _ => fun
  | [d] => { results := [.lit (.bool true)], args := [d] }
  | _ => none }
def refineOneRow : OpenClaim := { program := "ytligpalonlliaaa", sum := "4d550e6a53b37053bcb365be5d9bcf28a3593f483815fb09f102ce3c427dc78d", func := "caesura/caesuralaw04.RefineOne", spec := "refineOne", unfollowed := true, recurses := true, plainKeys := false, apart := false }
def RefineOneSaid : Prop := refineOneRow.holds Try.pinned (OpenSpec.ofChange refineOneSpec)

/-- ITS FALSE NEIGHBOUR: 'it returns false'. Refute it at one input. -/
def refineOneWrong : ChangeSpec := { name := "refineOne", fn := fun _ => fun
  | [d] => { results := [.lit (.bool false)], args := [d] }
  | _ => none }
def RefineOneWrongFalsely : Prop := refineOneRow.holds Try.pinned (OpenSpec.ofChange refineOneWrong)

/- THE SECOND FORM. 'bulk': how many values and letters a reading holds, each counted each time it is reached (what is shared counts as often as it is met; a slice's spare places count too). A statement '..UptoSaid' is the law's where the arguments, and the package variables that the reading takes, are together of bulk at most 1048576: NARROWER than '..Said'. Prove '..Said' where nothing that the law and all that it calls make is longer than what came in: it says more and counts as full. Else prove '..UptoSaid'. A law counts once. -/
mutual
def uptoBulk {H : Type} : DataW H → Nat
  | .lit (.string bytes) => bytes.length + 1
  | .lit _ => 1
  | .nil => 1
  | .ptr d => uptoBulk d + 1
  | .slice elems spare => uptoBulkAll elems + uptoBulkAll spare + 1
  | .agg parts => uptoBulkAll parts + 1
  | .iface _ d => uptoBulk d + 1
  | .map entries => uptoBulkEntries entries + 1
  | .held _ => 1
def uptoBulkAll {H : Type} : List (DataW H) → Nat
  | [] => 0
  | d :: r => uptoBulk d + uptoBulkAll r
def uptoBulkEntries {H : Type} : List (Lit × DataW H) → Nat
  | [] => 0
  | x :: r => uptoBulkEntry x + uptoBulkEntries r
def uptoBulkEntry {H : Type} : Lit × DataW H → Nat
  | (.string bytes, d) => bytes.length + uptoBulk d + 1
  | (_, d) => uptoBulk d + 1
 end
def uptoSmall : (H : Type) → List (DataW H) → Bool := fun _ ds => decide (uptoBulkAll ds ≤ 1048576)
def OpenSpec.upto (s : _root_.Go.ChangeSpec) : _root_.Go.OpenSpec := { _root_.Go.OpenSpec.ofChange s with cond := some uptoSmall }

/-- 'caesuralaw04.RefineParts', WHERE WHAT IT READS IS OF BULK AT MOST 1048576: true; the input reads as it did. -/
def refinePartsUptoRow : OpenClaim := { program := "ytligpalonlliaaa", sum := "4d550e6a53b37053bcb365be5d9bcf28a3593f483815fb09f102ce3c427dc78d", func := "caesura/caesuralaw04.RefineParts", spec := "refineParts", unfollowed := true, recurses := true, plainKeys := false, apart := false, narrowed := true }
def RefinePartsUptoSaid : Prop := refinePartsUptoRow.holds Try.pinned (OpenSpec.upto refinePartsSpec)

/-- 'caesuralaw04.RefineBands', WHERE WHAT IT READS IS OF BULK AT MOST 1048576: true; the input reads as it did. -/
def refineBandsUptoRow : OpenClaim := { program := "ytligpalonlliaaa", sum := "4d550e6a53b37053bcb365be5d9bcf28a3593f483815fb09f102ce3c427dc78d", func := "caesura/caesuralaw04.RefineBands", spec := "refineBands", unfollowed := true, recurses := true, plainKeys := false, apart := false, narrowed := true }
def RefineBandsUptoSaid : Prop := refineBandsUptoRow.holds Try.pinned (OpenSpec.upto refineBandsSpec)

/-- 'caesuralaw04.RefineOne', WHERE WHAT IT READS IS OF BULK AT MOST 1048576: true; the input reads as it did. -/
def refineOneUptoRow : OpenClaim := { program := "ytligpalonlliaaa", sum := "4d550e6a53b37053bcb365be5d9bcf28a3593f483815fb09f102ce3c427dc78d", func := "caesura/caesuralaw04.RefineOne", spec := "refineOne", unfollowed := true, recurses := true, plainKeys := false, apart := false, narrowed := true }
def RefineOneUptoSaid : Prop := refineOneUptoRow.holds Try.pinned (OpenSpec.upto refineOneSpec)

end Rows
end Go.Proofs.Ytligpalonlliaaa
