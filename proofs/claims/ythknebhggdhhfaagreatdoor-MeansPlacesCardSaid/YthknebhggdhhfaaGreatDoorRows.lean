/-
  NARROWER THAN 'FOR EVERY INPUT', by the rows' own cells (each row's printed sentence says how): MeansTell: laid · MeansFirst: laid · MeansMore: laid · MeansSwap: laid · MeansPlaces: laid · AtomsTell: laid · AtomsHold: laid · AtomsNames: laid.
  DERIVED. THE GIVEN ROWS OF THIS SEAT. 8 by the template 'for every input the law returns true; each argument reads behind the call as it read before'; 0 by the template 'total and deterministic' (their statements: YthknebhggdhhfaaGreatDoorTotals.lean).
  GIVEN WITH THE SEED: the statements are not yours to turn. If you find one false, say at which input.
  Laid BY PROGRAM, IN A SANDBOX (cutbox-rows.mjs): the forced cells as the released guide's own fill.sh prints them over the translation e9de42835e2d8ac3… (all of the seat's roots in one cut). By AI agents, Wed Nov 11 2026. No macro, syntax, notation, axiom, sorry.
-/
import Derived.Test.YthknebhggdhhfaaGreatDoorChecked
import GoSem.Claim
import GoSem.ClaimJoined
import GoSem.ClaimMapViews
import Derived.JoinedTies
import Derived.KernelRfl
namespace Go.Proofs.YthknebhggdhhfaaGreatDoor
/- THE CELL 'sum', in the pinned program and in every row, IS THE sha256 OF THE DUMP (.gsa) THAT YthknebhggdhhfaaGreatDoorProg.lean LOADS. Nothing in Lean hashes anything: it is a label: what it is worth is what the hold of that sum in a sandbox is worth. -/
noncomputable def Tryz.pinned : Pinned := { name := "ythknebhggdhhfaagreatdoor", sum := "e9de42835e2d8ac3c2ee24e60690c72fd9946fb835ce43e6ddb77cf1089dfd14", checked := Tryz.checked }
namespace Rows
def none {H : Type} : Left H := { results := [], args := [] }

/- WHAT THE LISTED PACKAGE-LEVEL VARIABLES READ AS WHEN THE CALL BEGINS. Each datum BY PROGRAM (the guide's laid-datum.mjs) off the statement by which the dump's own 'gosem.cut.vars' lays the variable. In a bare row this is a premise. The card (YthknebhggdhhfaaGreatDoorCards.lean) ties it to the program's text. -/
def laid_math_bits_deBruijn32tab {H : Type} : DataW H := .agg [.lit (.int .u8 0), .lit (.int .u8 1), .lit (.int .u8 28), .lit (.int .u8 2), .lit (.int .u8 29), .lit (.int .u8 14), .lit (.int .u8 24), .lit (.int .u8 3), .lit (.int .u8 30), .lit (.int .u8 22), .lit (.int .u8 20), .lit (.int .u8 15), .lit (.int .u8 25), .lit (.int .u8 17), .lit (.int .u8 4), .lit (.int .u8 8), .lit (.int .u8 31), .lit (.int .u8 27), .lit (.int .u8 13), .lit (.int .u8 23), .lit (.int .u8 21), .lit (.int .u8 19), .lit (.int .u8 16), .lit (.int .u8 7), .lit (.int .u8 26), .lit (.int .u8 12), .lit (.int .u8 18), .lit (.int .u8 6), .lit (.int .u8 11), .lit (.int .u8 5), .lit (.int .u8 10), .lit (.int .u8 9)]
def laid_math_bits_deBruijn64tab {H : Type} : DataW H := .agg [.lit (.int .u8 0), .lit (.int .u8 1), .lit (.int .u8 56), .lit (.int .u8 2), .lit (.int .u8 57), .lit (.int .u8 49), .lit (.int .u8 28), .lit (.int .u8 3), .lit (.int .u8 61), .lit (.int .u8 58), .lit (.int .u8 42), .lit (.int .u8 50), .lit (.int .u8 38), .lit (.int .u8 29), .lit (.int .u8 17), .lit (.int .u8 4), .lit (.int .u8 62), .lit (.int .u8 47), .lit (.int .u8 59), .lit (.int .u8 36), .lit (.int .u8 45), .lit (.int .u8 43), .lit (.int .u8 51), .lit (.int .u8 22), .lit (.int .u8 53), .lit (.int .u8 39), .lit (.int .u8 33), .lit (.int .u8 30), .lit (.int .u8 24), .lit (.int .u8 18), .lit (.int .u8 12), .lit (.int .u8 5), .lit (.int .u8 63), .lit (.int .u8 55), .lit (.int .u8 48), .lit (.int .u8 27), .lit (.int .u8 60), .lit (.int .u8 41), .lit (.int .u8 37), .lit (.int .u8 16), .lit (.int .u8 46), .lit (.int .u8 35), .lit (.int .u8 44), .lit (.int .u8 21), .lit (.int .u8 52), .lit (.int .u8 32), .lit (.int .u8 23), .lit (.int .u8 11), .lit (.int .u8 54), .lit (.int .u8 26), .lit (.int .u8 40), .lit (.int .u8 15), .lit (.int .u8 34), .lit (.int .u8 20), .lit (.int .u8 31), .lit (.int .u8 10), .lit (.int .u8 25), .lit (.int .u8 14), .lit (.int .u8 19), .lit (.int .u8 9), .lit (.int .u8 13), .lit (.int .u8 8), .lit (.int .u8 7), .lit (.int .u8 6)]
def laid_internal_strconv_uint64pow10 {H : Type} : DataW H := .agg [.lit (.int .u64 1), .lit (.int .u64 10), .lit (.int .u64 100), .lit (.int .u64 1000), .lit (.int .u64 10000), .lit (.int .u64 100000), .lit (.int .u64 1000000), .lit (.int .u64 10000000), .lit (.int .u64 100000000), .lit (.int .u64 1000000000), .lit (.int .u64 10000000000), .lit (.int .u64 100000000000), .lit (.int .u64 1000000000000), .lit (.int .u64 10000000000000), .lit (.int .u64 100000000000000), .lit (.int .u64 1000000000000000), .lit (.int .u64 10000000000000000), .lit (.int .u64 100000000000000000), .lit (.int .u64 1000000000000000000), .lit (.int .u64 10000000000000000000)]
def laid_strconv_ErrRange {H : Type} : DataW H := .iface "*errors.errorString" (.ptr (.agg [.lit (.string [118, 97, 108, 117, 101, 32, 111, 117, 116, 32, 111, 102, 32, 114, 97, 110, 103, 101])]))
def laid_strconv_ErrSyntax {H : Type} : DataW H := .iface "*errors.errorString" (.ptr (.agg [.lit (.string [105, 110, 118, 97, 108, 105, 100, 32, 115, 121, 110, 116, 97, 120])]))
def laid_caesura_lex_signs {H : Type} : DataW H := .agg [.agg [.lit (.string [61]), .lit (.int .i64 3)], .agg [.lit (.string [59]), .lit (.int .i64 3)], .agg [.lit (.string [40]), .lit (.int .i64 3)], .agg [.lit (.string [41]), .lit (.int .i64 3)], .agg [.lit (.string [91]), .lit (.int .i64 3)], .agg [.lit (.string [93]), .lit (.int .i64 3)], .agg [.lit (.string [124]), .lit (.int .i64 3)], .agg [.lit (.string [42]), .lit (.int .i64 3)], .agg [.lit (.string [43]), .lit (.int .i64 3)], .agg [.lit (.string [63]), .lit (.int .i64 3)], .agg [.lit (.string [45]), .lit (.int .i64 3)], .agg [.lit (.string [195, 183]), .lit (.int .i64 4)], .agg [.lit (.string [195, 151]), .lit (.int .i64 5)]]
def laid_caesura_lex_words {H : Type} : DataW H := .agg [.lit (.string [99, 108, 97, 115, 115]), .lit (.string [101, 108, 115, 101]), .lit (.string [97, 110, 121]), .lit (.string [101, 109, 112, 116, 121]), .lit (.string [110, 101, 118, 101, 114])]

/-- 'caesuralaw17.MeansTell': WHATEVER THE INPUT: true; the input reads as it did. -/
def meansTellSpec : ChangeSpec := { name := "meansTell", fn := fun _ => fun
  | [d1, d2, d3] => { results := [.lit (.bool true)], args := [d1, d2, d3] }
  | _ => none }
def meansTellRow : OpenClaim := { program := "ythknebhggdhhfaagreatdoor", sum := "e9de42835e2d8ac3c2ee24e60690c72fd9946fb835ce43e6ddb77cf1089dfd14", func := "caesura/caesuralaw17.MeansTell", spec := "meansTell", unfollowed := true, recurses := true, named := ["caesura/lex.words", "strconv.ErrSyntax", "strconv.ErrRange", "internal/strconv.uint64pow10", "math/bits.deBruijn32tab", "math/bits.deBruijn64tab", "caesura/lex.signs"], plainKeys := false, apart := false, laid := [("math/bits.deBruijn32tab", laid_math_bits_deBruijn32tab), ("math/bits.deBruijn64tab", laid_math_bits_deBruijn64tab), ("internal/strconv.uint64pow10", laid_internal_strconv_uint64pow10), ("strconv.ErrRange", laid_strconv_ErrRange), ("strconv.ErrSyntax", laid_strconv_ErrSyntax), ("caesura/lex.signs", laid_caesura_lex_signs), ("caesura/lex.words", laid_caesura_lex_words)] }
def MeansTellSaid : Prop := meansTellRow.holds Tryz.pinned (OpenSpec.ofChange meansTellSpec)

/-- ITS FALSE NEIGHBOUR: 'it returns false'. Refute it at one input. -/
def meansTellWrong : ChangeSpec := { name := "meansTell", fn := fun _ => fun
  | [d1, d2, d3] => { results := [.lit (.bool false)], args := [d1, d2, d3] }
  | _ => none }
def MeansTellWrongFalsely : Prop := meansTellRow.holds Tryz.pinned (OpenSpec.ofChange meansTellWrong)

/-- 'caesuralaw17.MeansFirst': WHATEVER THE INPUT: true; the input reads as it did. -/
def meansFirstSpec : ChangeSpec := { name := "meansFirst", fn := fun _ => fun
  | [d1, d2, d3] => { results := [.lit (.bool true)], args := [d1, d2, d3] }
  | _ => none }
def meansFirstRow : OpenClaim := { program := "ythknebhggdhhfaagreatdoor", sum := "e9de42835e2d8ac3c2ee24e60690c72fd9946fb835ce43e6ddb77cf1089dfd14", func := "caesura/caesuralaw17.MeansFirst", spec := "meansFirst", unfollowed := true, recurses := true, named := ["caesura/lex.words", "strconv.ErrSyntax", "strconv.ErrRange", "internal/strconv.uint64pow10", "math/bits.deBruijn32tab", "math/bits.deBruijn64tab", "caesura/lex.signs"], plainKeys := false, apart := false, laid := [("math/bits.deBruijn32tab", laid_math_bits_deBruijn32tab), ("math/bits.deBruijn64tab", laid_math_bits_deBruijn64tab), ("internal/strconv.uint64pow10", laid_internal_strconv_uint64pow10), ("strconv.ErrRange", laid_strconv_ErrRange), ("strconv.ErrSyntax", laid_strconv_ErrSyntax), ("caesura/lex.signs", laid_caesura_lex_signs), ("caesura/lex.words", laid_caesura_lex_words)] }
def MeansFirstSaid : Prop := meansFirstRow.holds Tryz.pinned (OpenSpec.ofChange meansFirstSpec)

/-- ITS FALSE NEIGHBOUR: 'it returns false'. Refute it at one input. -/
def meansFirstWrong : ChangeSpec := { name := "meansFirst", fn := fun _ => fun
  | [d1, d2, d3] => { results := [.lit (.bool false)], args := [d1, d2, d3] }
  | _ => none }
def MeansFirstWrongFalsely : Prop := meansFirstRow.holds Tryz.pinned (OpenSpec.ofChange meansFirstWrong)

/-- 'caesuralaw17.MeansMore': WHATEVER THE INPUT: true; the input reads as it did. -/
def meansMoreSpec : ChangeSpec := { name := "meansMore", fn := fun _ => fun
  | [d1, d2, d3] => { results := [.lit (.bool true)], args := [d1, d2, d3] }
  | _ => none }
def meansMoreRow : OpenClaim := { program := "ythknebhggdhhfaagreatdoor", sum := "e9de42835e2d8ac3c2ee24e60690c72fd9946fb835ce43e6ddb77cf1089dfd14", func := "caesura/caesuralaw17.MeansMore", spec := "meansMore", unfollowed := true, recurses := true, named := ["caesura/lex.words", "strconv.ErrSyntax", "strconv.ErrRange", "internal/strconv.uint64pow10", "math/bits.deBruijn32tab", "math/bits.deBruijn64tab", "caesura/lex.signs"], plainKeys := false, apart := false, laid := [("math/bits.deBruijn32tab", laid_math_bits_deBruijn32tab), ("math/bits.deBruijn64tab", laid_math_bits_deBruijn64tab), ("internal/strconv.uint64pow10", laid_internal_strconv_uint64pow10), ("strconv.ErrRange", laid_strconv_ErrRange), ("strconv.ErrSyntax", laid_strconv_ErrSyntax), ("caesura/lex.signs", laid_caesura_lex_signs), ("caesura/lex.words", laid_caesura_lex_words)] }
def MeansMoreSaid : Prop := meansMoreRow.holds Tryz.pinned (OpenSpec.ofChange meansMoreSpec)

/-- ITS FALSE NEIGHBOUR: 'it returns false'. Refute it at one input. -/
def meansMoreWrong : ChangeSpec := { name := "meansMore", fn := fun _ => fun
  | [d1, d2, d3] => { results := [.lit (.bool false)], args := [d1, d2, d3] }
  | _ => none }
def MeansMoreWrongFalsely : Prop := meansMoreRow.holds Tryz.pinned (OpenSpec.ofChange meansMoreWrong)

/-- 'caesuralaw17.MeansSwap': WHATEVER THE INPUT: true; the input reads as it did. -/
def meansSwapSpec : ChangeSpec := { name := "meansSwap", fn := fun _ => fun
  | [d1, d2, d3] => { results := [.lit (.bool true)], args := [d1, d2, d3] }
  | _ => none }
def meansSwapRow : OpenClaim := { program := "ythknebhggdhhfaagreatdoor", sum := "e9de42835e2d8ac3c2ee24e60690c72fd9946fb835ce43e6ddb77cf1089dfd14", func := "caesura/caesuralaw17.MeansSwap", spec := "meansSwap", unfollowed := true, recurses := true, named := ["caesura/lex.words", "strconv.ErrSyntax", "strconv.ErrRange", "internal/strconv.uint64pow10", "math/bits.deBruijn32tab", "math/bits.deBruijn64tab", "caesura/lex.signs"], plainKeys := false, apart := false, laid := [("math/bits.deBruijn32tab", laid_math_bits_deBruijn32tab), ("math/bits.deBruijn64tab", laid_math_bits_deBruijn64tab), ("internal/strconv.uint64pow10", laid_internal_strconv_uint64pow10), ("strconv.ErrRange", laid_strconv_ErrRange), ("strconv.ErrSyntax", laid_strconv_ErrSyntax), ("caesura/lex.signs", laid_caesura_lex_signs), ("caesura/lex.words", laid_caesura_lex_words)] }
def MeansSwapSaid : Prop := meansSwapRow.holds Tryz.pinned (OpenSpec.ofChange meansSwapSpec)

/-- ITS FALSE NEIGHBOUR: 'it returns false'. Refute it at one input. -/
def meansSwapWrong : ChangeSpec := { name := "meansSwap", fn := fun _ => fun
  | [d1, d2, d3] => { results := [.lit (.bool false)], args := [d1, d2, d3] }
  | _ => none }
def MeansSwapWrongFalsely : Prop := meansSwapRow.holds Tryz.pinned (OpenSpec.ofChange meansSwapWrong)

/-- 'caesuralaw17.MeansPlaces': WHATEVER THE INPUT: true; the input reads as it did. -/
def meansPlacesSpec : ChangeSpec := { name := "meansPlaces", fn := fun _ => fun
  | [d1, d2] => { results := [.lit (.bool true)], args := [d1, d2] }
  | _ => none }
def meansPlacesRow : OpenClaim := { program := "ythknebhggdhhfaagreatdoor", sum := "e9de42835e2d8ac3c2ee24e60690c72fd9946fb835ce43e6ddb77cf1089dfd14", func := "caesura/caesuralaw17.MeansPlaces", spec := "meansPlaces", unfollowed := true, recurses := true, named := ["caesura/lex.words", "strconv.ErrSyntax", "strconv.ErrRange", "internal/strconv.uint64pow10", "math/bits.deBruijn32tab", "math/bits.deBruijn64tab", "caesura/lex.signs"], plainKeys := false, apart := false, laid := [("math/bits.deBruijn32tab", laid_math_bits_deBruijn32tab), ("math/bits.deBruijn64tab", laid_math_bits_deBruijn64tab), ("internal/strconv.uint64pow10", laid_internal_strconv_uint64pow10), ("strconv.ErrRange", laid_strconv_ErrRange), ("strconv.ErrSyntax", laid_strconv_ErrSyntax), ("caesura/lex.signs", laid_caesura_lex_signs), ("caesura/lex.words", laid_caesura_lex_words)] }
def MeansPlacesSaid : Prop := meansPlacesRow.holds Tryz.pinned (OpenSpec.ofChange meansPlacesSpec)

/-- ITS FALSE NEIGHBOUR: 'it returns false'. Refute it at one input. -/
def meansPlacesWrong : ChangeSpec := { name := "meansPlaces", fn := fun _ => fun
  | [d1, d2] => { results := [.lit (.bool false)], args := [d1, d2] }
  | _ => none }
def MeansPlacesWrongFalsely : Prop := meansPlacesRow.holds Tryz.pinned (OpenSpec.ofChange meansPlacesWrong)

/-- 'caesuralaw23.AtomsTell': WHATEVER THE INPUT: true; the input reads as it did. -/
def atomsTellSpec : ChangeSpec := { name := "atomsTell", fn := fun _ => fun
  | [d1, d2, d3] => { results := [.lit (.bool true)], args := [d1, d2, d3] }
  | _ => none }
def atomsTellRow : OpenClaim := { program := "ythknebhggdhhfaagreatdoor", sum := "e9de42835e2d8ac3c2ee24e60690c72fd9946fb835ce43e6ddb77cf1089dfd14", func := "caesura/caesuralaw23.AtomsTell", spec := "atomsTell", unfollowed := true, recurses := true, named := ["caesura/lex.words", "strconv.ErrSyntax", "strconv.ErrRange", "internal/strconv.uint64pow10", "math/bits.deBruijn32tab", "math/bits.deBruijn64tab", "caesura/lex.signs"], plainKeys := false, apart := false, laid := [("math/bits.deBruijn32tab", laid_math_bits_deBruijn32tab), ("math/bits.deBruijn64tab", laid_math_bits_deBruijn64tab), ("internal/strconv.uint64pow10", laid_internal_strconv_uint64pow10), ("strconv.ErrRange", laid_strconv_ErrRange), ("strconv.ErrSyntax", laid_strconv_ErrSyntax), ("caesura/lex.signs", laid_caesura_lex_signs), ("caesura/lex.words", laid_caesura_lex_words)] }
def AtomsTellSaid : Prop := atomsTellRow.holds Tryz.pinned (OpenSpec.ofChange atomsTellSpec)

/-- ITS FALSE NEIGHBOUR: 'it returns false'. Refute it at one input. -/
def atomsTellWrong : ChangeSpec := { name := "atomsTell", fn := fun _ => fun
  | [d1, d2, d3] => { results := [.lit (.bool false)], args := [d1, d2, d3] }
  | _ => none }
def AtomsTellWrongFalsely : Prop := atomsTellRow.holds Tryz.pinned (OpenSpec.ofChange atomsTellWrong)

/-- 'caesuralaw23.AtomsHold': WHATEVER THE INPUT: true; the input reads as it did. -/
def atomsHoldSpec : ChangeSpec := { name := "atomsHold", fn := fun _ => fun
  | [d1, d2] => { results := [.lit (.bool true)], args := [d1, d2] }
  | _ => none }
def atomsHoldRow : OpenClaim := { program := "ythknebhggdhhfaagreatdoor", sum := "e9de42835e2d8ac3c2ee24e60690c72fd9946fb835ce43e6ddb77cf1089dfd14", func := "caesura/caesuralaw23.AtomsHold", spec := "atomsHold", unfollowed := true, recurses := true, named := ["caesura/lex.words", "strconv.ErrSyntax", "strconv.ErrRange", "internal/strconv.uint64pow10", "math/bits.deBruijn32tab", "math/bits.deBruijn64tab", "caesura/lex.signs"], plainKeys := false, apart := false, laid := [("math/bits.deBruijn32tab", laid_math_bits_deBruijn32tab), ("math/bits.deBruijn64tab", laid_math_bits_deBruijn64tab), ("internal/strconv.uint64pow10", laid_internal_strconv_uint64pow10), ("strconv.ErrRange", laid_strconv_ErrRange), ("strconv.ErrSyntax", laid_strconv_ErrSyntax), ("caesura/lex.signs", laid_caesura_lex_signs), ("caesura/lex.words", laid_caesura_lex_words)] }
def AtomsHoldSaid : Prop := atomsHoldRow.holds Tryz.pinned (OpenSpec.ofChange atomsHoldSpec)

/-- ITS FALSE NEIGHBOUR: 'it returns false'. Refute it at one input. -/
def atomsHoldWrong : ChangeSpec := { name := "atomsHold", fn := fun _ => fun
  | [d1, d2] => { results := [.lit (.bool false)], args := [d1, d2] }
  | _ => none }
def AtomsHoldWrongFalsely : Prop := atomsHoldRow.holds Tryz.pinned (OpenSpec.ofChange atomsHoldWrong)

/-- 'caesuralaw23.AtomsNames': WHATEVER THE INPUT: true; the input reads as it did. -/
def atomsNamesSpec : ChangeSpec := { name := "atomsNames", fn := fun _ => fun
  | [d] => { results := [.lit (.bool true)], args := [d] }
  | _ => none }
def atomsNamesRow : OpenClaim := { program := "ythknebhggdhhfaagreatdoor", sum := "e9de42835e2d8ac3c2ee24e60690c72fd9946fb835ce43e6ddb77cf1089dfd14", func := "caesura/caesuralaw23.AtomsNames", spec := "atomsNames", unfollowed := true, recurses := true, named := ["caesura/lex.words", "strconv.ErrSyntax", "strconv.ErrRange", "internal/strconv.uint64pow10", "math/bits.deBruijn32tab", "math/bits.deBruijn64tab", "caesura/lex.signs"], plainKeys := false, apart := false, laid := [("math/bits.deBruijn32tab", laid_math_bits_deBruijn32tab), ("math/bits.deBruijn64tab", laid_math_bits_deBruijn64tab), ("internal/strconv.uint64pow10", laid_internal_strconv_uint64pow10), ("strconv.ErrRange", laid_strconv_ErrRange), ("strconv.ErrSyntax", laid_strconv_ErrSyntax), ("caesura/lex.signs", laid_caesura_lex_signs), ("caesura/lex.words", laid_caesura_lex_words)] }
def AtomsNamesSaid : Prop := atomsNamesRow.holds Tryz.pinned (OpenSpec.ofChange atomsNamesSpec)

/-- ITS FALSE NEIGHBOUR: 'it returns false'. Refute it at one input. -/
def atomsNamesWrong : ChangeSpec := { name := "atomsNames", fn := fun _ => fun
  | [d] => { results := [.lit (.bool false)], args := [d] }
  | _ => none }
def AtomsNamesWrongFalsely : Prop := atomsNamesRow.holds Tryz.pinned (OpenSpec.ofChange atomsNamesWrong)

/- THE SECOND FORM. 'bulk': how many values and letters a reading holds, each counted each time it is reached (what is shared counts as often as it is met; a slice's spare places count too). A statement '..UptoSaid' is the law's where the arguments, and the package variables that the reading takes, are together of bulk at most 1048576: NARROWER than '..Said'. Prove '..Said' where nothing that the law and all that it calls make is longer than what came in: it says more and counts as full. Else prove '..UptoSaid'. A law counts once. -/
mutual
def uptoBulk {H : Type} : DataW H → Nat
  | .lit (.string bytes) => bytes.length + 1
  | .lit _ => 1
  | .nil => 1
  | .ptr d => uptoBulk d + 1
  | .slice elems spare => uptoBulkAll elems + uptoBulkAll spare + 1
  | .agg parts => uptoBulkAll parts + 1
  | .iface _ d => uptoBulk d + 1
  | .map entries => uptoBulkEntries entries + 1
  | .held _ => 1
def uptoBulkAll {H : Type} : List (DataW H) → Nat
  | [] => 0
  | d :: r => uptoBulk d + uptoBulkAll r
def uptoBulkEntries {H : Type} : List (Lit × DataW H) → Nat
  | [] => 0
  | x :: r => uptoBulkEntry x + uptoBulkEntries r
def uptoBulkEntry {H : Type} : Lit × DataW H → Nat
  | (.string bytes, d) => bytes.length + uptoBulk d + 1
  | (_, d) => uptoBulk d + 1
 end
def uptoSmall : (H : Type) → List (DataW H) → Bool := fun _ ds => decide (uptoBulkAll ds ≤ 1048576)
def OpenSpec.upto (s : _root_.Go.ChangeSpec) : _root_.Go.OpenSpec := { _root_.Go.OpenSpec.ofChange s with cond := some uptoSmall }

/-- 'caesuralaw17.MeansTell', WHERE WHAT IT READS IS OF BULK AT MOST 1048576: true; the input reads as it did. -/
def meansTellUptoRow : OpenClaim := { program := "ythknebhggdhhfaagreatdoor", sum := "e9de42835e2d8ac3c2ee24e60690c72fd9946fb835ce43e6ddb77cf1089dfd14", func := "caesura/caesuralaw17.MeansTell", spec := "meansTell", unfollowed := true, recurses := true, named := ["caesura/lex.words", "strconv.ErrSyntax", "strconv.ErrRange", "internal/strconv.uint64pow10", "math/bits.deBruijn32tab", "math/bits.deBruijn64tab", "caesura/lex.signs"], plainKeys := false, apart := false, laid := [("math/bits.deBruijn32tab", laid_math_bits_deBruijn32tab), ("math/bits.deBruijn64tab", laid_math_bits_deBruijn64tab), ("internal/strconv.uint64pow10", laid_internal_strconv_uint64pow10), ("strconv.ErrRange", laid_strconv_ErrRange), ("strconv.ErrSyntax", laid_strconv_ErrSyntax), ("caesura/lex.signs", laid_caesura_lex_signs), ("caesura/lex.words", laid_caesura_lex_words)], narrowed := true }
def MeansTellUptoSaid : Prop := meansTellUptoRow.holds Tryz.pinned (OpenSpec.upto meansTellSpec)

/-- 'caesuralaw17.MeansFirst', WHERE WHAT IT READS IS OF BULK AT MOST 1048576: true; the input reads as it did. -/
def meansFirstUptoRow : OpenClaim := { program := "ythknebhggdhhfaagreatdoor", sum := "e9de42835e2d8ac3c2ee24e60690c72fd9946fb835ce43e6ddb77cf1089dfd14", func := "caesura/caesuralaw17.MeansFirst", spec := "meansFirst", unfollowed := true, recurses := true, named := ["caesura/lex.words", "strconv.ErrSyntax", "strconv.ErrRange", "internal/strconv.uint64pow10", "math/bits.deBruijn32tab", "math/bits.deBruijn64tab", "caesura/lex.signs"], plainKeys := false, apart := false, laid := [("math/bits.deBruijn32tab", laid_math_bits_deBruijn32tab), ("math/bits.deBruijn64tab", laid_math_bits_deBruijn64tab), ("internal/strconv.uint64pow10", laid_internal_strconv_uint64pow10), ("strconv.ErrRange", laid_strconv_ErrRange), ("strconv.ErrSyntax", laid_strconv_ErrSyntax), ("caesura/lex.signs", laid_caesura_lex_signs), ("caesura/lex.words", laid_caesura_lex_words)], narrowed := true }
def MeansFirstUptoSaid : Prop := meansFirstUptoRow.holds Tryz.pinned (OpenSpec.upto meansFirstSpec)

/-- 'caesuralaw17.MeansMore', WHERE WHAT IT READS IS OF BULK AT MOST 1048576: true; the input reads as it did. -/
def meansMoreUptoRow : OpenClaim := { program := "ythknebhggdhhfaagreatdoor", sum := "e9de42835e2d8ac3c2ee24e60690c72fd9946fb835ce43e6ddb77cf1089dfd14", func := "caesura/caesuralaw17.MeansMore", spec := "meansMore", unfollowed := true, recurses := true, named := ["caesura/lex.words", "strconv.ErrSyntax", "strconv.ErrRange", "internal/strconv.uint64pow10", "math/bits.deBruijn32tab", "math/bits.deBruijn64tab", "caesura/lex.signs"], plainKeys := false, apart := false, laid := [("math/bits.deBruijn32tab", laid_math_bits_deBruijn32tab), ("math/bits.deBruijn64tab", laid_math_bits_deBruijn64tab), ("internal/strconv.uint64pow10", laid_internal_strconv_uint64pow10), ("strconv.ErrRange", laid_strconv_ErrRange), ("strconv.ErrSyntax", laid_strconv_ErrSyntax), ("caesura/lex.signs", laid_caesura_lex_signs), ("caesura/lex.words", laid_caesura_lex_words)], narrowed := true }
def MeansMoreUptoSaid : Prop := meansMoreUptoRow.holds Tryz.pinned (OpenSpec.upto meansMoreSpec)

/-- 'caesuralaw17.MeansSwap', WHERE WHAT IT READS IS OF BULK AT MOST 1048576: true; the input reads as it did. -/
def meansSwapUptoRow : OpenClaim := { program := "ythknebhggdhhfaagreatdoor", sum := "e9de42835e2d8ac3c2ee24e60690c72fd9946fb835ce43e6ddb77cf1089dfd14", func := "caesura/caesuralaw17.MeansSwap", spec := "meansSwap", unfollowed := true, recurses := true, named := ["caesura/lex.words", "strconv.ErrSyntax", "strconv.ErrRange", "internal/strconv.uint64pow10", "math/bits.deBruijn32tab", "math/bits.deBruijn64tab", "caesura/lex.signs"], plainKeys := false, apart := false, laid := [("math/bits.deBruijn32tab", laid_math_bits_deBruijn32tab), ("math/bits.deBruijn64tab", laid_math_bits_deBruijn64tab), ("internal/strconv.uint64pow10", laid_internal_strconv_uint64pow10), ("strconv.ErrRange", laid_strconv_ErrRange), ("strconv.ErrSyntax", laid_strconv_ErrSyntax), ("caesura/lex.signs", laid_caesura_lex_signs), ("caesura/lex.words", laid_caesura_lex_words)], narrowed := true }
def MeansSwapUptoSaid : Prop := meansSwapUptoRow.holds Tryz.pinned (OpenSpec.upto meansSwapSpec)

/-- 'caesuralaw17.MeansPlaces', WHERE WHAT IT READS IS OF BULK AT MOST 1048576: true; the input reads as it did. -/
def meansPlacesUptoRow : OpenClaim := { program := "ythknebhggdhhfaagreatdoor", sum := "e9de42835e2d8ac3c2ee24e60690c72fd9946fb835ce43e6ddb77cf1089dfd14", func := "caesura/caesuralaw17.MeansPlaces", spec := "meansPlaces", unfollowed := true, recurses := true, named := ["caesura/lex.words", "strconv.ErrSyntax", "strconv.ErrRange", "internal/strconv.uint64pow10", "math/bits.deBruijn32tab", "math/bits.deBruijn64tab", "caesura/lex.signs"], plainKeys := false, apart := false, laid := [("math/bits.deBruijn32tab", laid_math_bits_deBruijn32tab), ("math/bits.deBruijn64tab", laid_math_bits_deBruijn64tab), ("internal/strconv.uint64pow10", laid_internal_strconv_uint64pow10), ("strconv.ErrRange", laid_strconv_ErrRange), ("strconv.ErrSyntax", laid_strconv_ErrSyntax), ("caesura/lex.signs", laid_caesura_lex_signs), ("caesura/lex.words", laid_caesura_lex_words)], narrowed := true }
def MeansPlacesUptoSaid : Prop := meansPlacesUptoRow.holds Tryz.pinned (OpenSpec.upto meansPlacesSpec)

/-- 'caesuralaw23.AtomsTell', WHERE WHAT IT READS IS OF BULK AT MOST 1048576: true; the input reads as it did. -/
def atomsTellUptoRow : OpenClaim := { program := "ythknebhggdhhfaagreatdoor", sum := "e9de42835e2d8ac3c2ee24e60690c72fd9946fb835ce43e6ddb77cf1089dfd14", func := "caesura/caesuralaw23.AtomsTell", spec := "atomsTell", unfollowed := true, recurses := true, named := ["caesura/lex.words", "strconv.ErrSyntax", "strconv.ErrRange", "internal/strconv.uint64pow10", "math/bits.deBruijn32tab", "math/bits.deBruijn64tab", "caesura/lex.signs"], plainKeys := false, apart := false, laid := [("math/bits.deBruijn32tab", laid_math_bits_deBruijn32tab), ("math/bits.deBruijn64tab", laid_math_bits_deBruijn64tab), ("internal/strconv.uint64pow10", laid_internal_strconv_uint64pow10), ("strconv.ErrRange", laid_strconv_ErrRange), ("strconv.ErrSyntax", laid_strconv_ErrSyntax), ("caesura/lex.signs", laid_caesura_lex_signs), ("caesura/lex.words", laid_caesura_lex_words)], narrowed := true }
def AtomsTellUptoSaid : Prop := atomsTellUptoRow.holds Tryz.pinned (OpenSpec.upto atomsTellSpec)

/-- 'caesuralaw23.AtomsHold', WHERE WHAT IT READS IS OF BULK AT MOST 1048576: true; the input reads as it did. -/
def atomsHoldUptoRow : OpenClaim := { program := "ythknebhggdhhfaagreatdoor", sum := "e9de42835e2d8ac3c2ee24e60690c72fd9946fb835ce43e6ddb77cf1089dfd14", func := "caesura/caesuralaw23.AtomsHold", spec := "atomsHold", unfollowed := true, recurses := true, named := ["caesura/lex.words", "strconv.ErrSyntax", "strconv.ErrRange", "internal/strconv.uint64pow10", "math/bits.deBruijn32tab", "math/bits.deBruijn64tab", "caesura/lex.signs"], plainKeys := false, apart := false, laid := [("math/bits.deBruijn32tab", laid_math_bits_deBruijn32tab), ("math/bits.deBruijn64tab", laid_math_bits_deBruijn64tab), ("internal/strconv.uint64pow10", laid_internal_strconv_uint64pow10), ("strconv.ErrRange", laid_strconv_ErrRange), ("strconv.ErrSyntax", laid_strconv_ErrSyntax), ("caesura/lex.signs", laid_caesura_lex_signs), ("caesura/lex.words", laid_caesura_lex_words)], narrowed := true }
def AtomsHoldUptoSaid : Prop := atomsHoldUptoRow.holds Tryz.pinned (OpenSpec.upto atomsHoldSpec)

/-- 'caesuralaw23.AtomsNames', WHERE WHAT IT READS IS OF BULK AT MOST 1048576: true; the input reads as it did. -/
def atomsNamesUptoRow : OpenClaim := { program := "ythknebhggdhhfaagreatdoor", sum := "e9de42835e2d8ac3c2ee24e60690c72fd9946fb835ce43e6ddb77cf1089dfd14", func := "caesura/caesuralaw23.AtomsNames", spec := "atomsNames", unfollowed := true, recurses := true, named := ["caesura/lex.words", "strconv.ErrSyntax", "strconv.ErrRange", "internal/strconv.uint64pow10", "math/bits.deBruijn32tab", "math/bits.deBruijn64tab", "caesura/lex.signs"], plainKeys := false, apart := false, laid := [("math/bits.deBruijn32tab", laid_math_bits_deBruijn32tab), ("math/bits.deBruijn64tab", laid_math_bits_deBruijn64tab), ("internal/strconv.uint64pow10", laid_internal_strconv_uint64pow10), ("strconv.ErrRange", laid_strconv_ErrRange), ("strconv.ErrSyntax", laid_strconv_ErrSyntax), ("caesura/lex.signs", laid_caesura_lex_signs), ("caesura/lex.words", laid_caesura_lex_words)], narrowed := true }
def AtomsNamesUptoSaid : Prop := atomsNamesUptoRow.holds Tryz.pinned (OpenSpec.upto atomsNamesSpec)

end Rows
end Go.Proofs.YthknebhggdhhfaaGreatDoor
