/-
  DERIVED. GIVEN WITH THE SEED: THE CARDS: each row of YthknebhggdhhfaaGreatDoorRows.lean that lists a variable, with what it lists TIED to the program's text (the seventh form; the later family's looks); each row that meets fmt, with fmt's text TOLD by the authors' own Lean function (tested against real Go, not proved from fmt's source: count such statements apart). THE CARD IS WHAT COUNTS. Prove the row's statement (the work); the ties are given (YthknebhggdhhfaaGreatDoorTie.lean); close each card by the builder's one call (the guide's Derived/Test/ToyasCard.lean, 'card_holds'). Laid BY PROGRAM, IN A SANDBOX (cutbox-door.mjs). By AI agents, Wed Nov 11 2026. No macro, syntax, notation, axiom, sorry.
-/
import Derived.Test.YthknebhggdhhfaaGreatDoorRows
import GoSem.ClaimSeven
namespace Go.Proofs.YthknebhggdhhfaaGreatDoor
namespace Rows

/-- THE TIED CARD OF 'caesuralaw17.MeansTell'. -/
def meansTellCard : Claim7 := { stood := { row := meansTellRow, standIns := [], harness := (true, "03d7397dacbe151c6901ac7fb37ca6eae1c800cb50ae4ba58010bb387b9ed773"), looks := true }, kinds := [], alts := [], laidByText := true, laidKinds := [.data, .data, .data, .sentinel, .sentinel, .data, .widerDeep], laidTests := true, laidLooks := .later }
def MeansTellCardSaid : Prop := Claim7.holds Tryz.pinned (.plain (OpenSpec.ofChange meansTellSpec)) meansTellCard

/-- THE TIED CARD OF 'caesuralaw17.MeansFirst'. -/
def meansFirstCard : Claim7 := { stood := { row := meansFirstRow, standIns := [], harness := (true, "03d7397dacbe151c6901ac7fb37ca6eae1c800cb50ae4ba58010bb387b9ed773"), looks := true }, kinds := [], alts := [], laidByText := true, laidKinds := [.data, .data, .data, .sentinel, .sentinel, .data, .widerDeep], laidTests := true, laidLooks := .later }
def MeansFirstCardSaid : Prop := Claim7.holds Tryz.pinned (.plain (OpenSpec.ofChange meansFirstSpec)) meansFirstCard

/-- THE TIED CARD OF 'caesuralaw17.MeansMore'. -/
def meansMoreCard : Claim7 := { stood := { row := meansMoreRow, standIns := [], harness := (true, "03d7397dacbe151c6901ac7fb37ca6eae1c800cb50ae4ba58010bb387b9ed773"), looks := true }, kinds := [], alts := [], laidByText := true, laidKinds := [.data, .data, .data, .sentinel, .sentinel, .data, .widerDeep], laidTests := true, laidLooks := .later }
def MeansMoreCardSaid : Prop := Claim7.holds Tryz.pinned (.plain (OpenSpec.ofChange meansMoreSpec)) meansMoreCard

/-- THE TIED CARD OF 'caesuralaw17.MeansSwap'. -/
def meansSwapCard : Claim7 := { stood := { row := meansSwapRow, standIns := [], harness := (true, "03d7397dacbe151c6901ac7fb37ca6eae1c800cb50ae4ba58010bb387b9ed773"), looks := true }, kinds := [], alts := [], laidByText := true, laidKinds := [.data, .data, .data, .sentinel, .sentinel, .data, .widerDeep], laidTests := true, laidLooks := .later }
def MeansSwapCardSaid : Prop := Claim7.holds Tryz.pinned (.plain (OpenSpec.ofChange meansSwapSpec)) meansSwapCard

/-- THE TIED CARD OF 'caesuralaw17.MeansPlaces'. -/
def meansPlacesCard : Claim7 := { stood := { row := meansPlacesRow, standIns := [], harness := (true, "03d7397dacbe151c6901ac7fb37ca6eae1c800cb50ae4ba58010bb387b9ed773"), looks := true }, kinds := [], alts := [], laidByText := true, laidKinds := [.data, .data, .data, .sentinel, .sentinel, .data, .widerDeep], laidTests := true, laidLooks := .later }
def MeansPlacesCardSaid : Prop := Claim7.holds Tryz.pinned (.plain (OpenSpec.ofChange meansPlacesSpec)) meansPlacesCard

/-- THE TIED CARD OF 'caesuralaw23.AtomsTell'. -/
def atomsTellCard : Claim7 := { stood := { row := atomsTellRow, standIns := [], harness := (true, "03d7397dacbe151c6901ac7fb37ca6eae1c800cb50ae4ba58010bb387b9ed773"), looks := true }, kinds := [], alts := [], laidByText := true, laidKinds := [.data, .data, .data, .sentinel, .sentinel, .data, .widerDeep], laidTests := true, laidLooks := .later }
def AtomsTellCardSaid : Prop := Claim7.holds Tryz.pinned (.plain (OpenSpec.ofChange atomsTellSpec)) atomsTellCard

/-- THE TIED CARD OF 'caesuralaw23.AtomsHold'. -/
def atomsHoldCard : Claim7 := { stood := { row := atomsHoldRow, standIns := [], harness := (true, "03d7397dacbe151c6901ac7fb37ca6eae1c800cb50ae4ba58010bb387b9ed773"), looks := true }, kinds := [], alts := [], laidByText := true, laidKinds := [.data, .data, .data, .sentinel, .sentinel, .data, .widerDeep], laidTests := true, laidLooks := .later }
def AtomsHoldCardSaid : Prop := Claim7.holds Tryz.pinned (.plain (OpenSpec.ofChange atomsHoldSpec)) atomsHoldCard

/-- THE TIED CARD OF 'caesuralaw23.AtomsNames'. -/
def atomsNamesCard : Claim7 := { stood := { row := atomsNamesRow, standIns := [], harness := (true, "03d7397dacbe151c6901ac7fb37ca6eae1c800cb50ae4ba58010bb387b9ed773"), looks := true }, kinds := [], alts := [], laidByText := true, laidKinds := [.data, .data, .data, .sentinel, .sentinel, .data, .widerDeep], laidTests := true, laidLooks := .later }
def AtomsNamesCardSaid : Prop := Claim7.holds Tryz.pinned (.plain (OpenSpec.ofChange atomsNamesSpec)) atomsNamesCard

/-- THE SECOND FORM's CARD OF 'caesuralaw17.MeansTell'. -/
def meansTellUptoCard : Claim7 := { stood := { row := meansTellUptoRow, standIns := [], harness := (true, "03d7397dacbe151c6901ac7fb37ca6eae1c800cb50ae4ba58010bb387b9ed773"), looks := true }, kinds := [], alts := [], laidByText := true, laidKinds := [.data, .data, .data, .sentinel, .sentinel, .data, .widerDeep], laidTests := true, laidLooks := .later }
def MeansTellUptoCardSaid : Prop := Claim7.holds Tryz.pinned (.plain (OpenSpec.upto meansTellSpec)) meansTellUptoCard

/-- THE SECOND FORM's CARD OF 'caesuralaw17.MeansFirst'. -/
def meansFirstUptoCard : Claim7 := { stood := { row := meansFirstUptoRow, standIns := [], harness := (true, "03d7397dacbe151c6901ac7fb37ca6eae1c800cb50ae4ba58010bb387b9ed773"), looks := true }, kinds := [], alts := [], laidByText := true, laidKinds := [.data, .data, .data, .sentinel, .sentinel, .data, .widerDeep], laidTests := true, laidLooks := .later }
def MeansFirstUptoCardSaid : Prop := Claim7.holds Tryz.pinned (.plain (OpenSpec.upto meansFirstSpec)) meansFirstUptoCard

/-- THE SECOND FORM's CARD OF 'caesuralaw17.MeansMore'. -/
def meansMoreUptoCard : Claim7 := { stood := { row := meansMoreUptoRow, standIns := [], harness := (true, "03d7397dacbe151c6901ac7fb37ca6eae1c800cb50ae4ba58010bb387b9ed773"), looks := true }, kinds := [], alts := [], laidByText := true, laidKinds := [.data, .data, .data, .sentinel, .sentinel, .data, .widerDeep], laidTests := true, laidLooks := .later }
def MeansMoreUptoCardSaid : Prop := Claim7.holds Tryz.pinned (.plain (OpenSpec.upto meansMoreSpec)) meansMoreUptoCard

/-- THE SECOND FORM's CARD OF 'caesuralaw17.MeansSwap'. -/
def meansSwapUptoCard : Claim7 := { stood := { row := meansSwapUptoRow, standIns := [], harness := (true, "03d7397dacbe151c6901ac7fb37ca6eae1c800cb50ae4ba58010bb387b9ed773"), looks := true }, kinds := [], alts := [], laidByText := true, laidKinds := [.data, .data, .data, .sentinel, .sentinel, .data, .widerDeep], laidTests := true, laidLooks := .later }
def MeansSwapUptoCardSaid : Prop := Claim7.holds Tryz.pinned (.plain (OpenSpec.upto meansSwapSpec)) meansSwapUptoCard

/-- THE SECOND FORM's CARD OF 'caesuralaw17.MeansPlaces'. -/
def meansPlacesUptoCard : Claim7 := { stood := { row := meansPlacesUptoRow, standIns := [], harness := (true, "03d7397dacbe151c6901ac7fb37ca6eae1c800cb50ae4ba58010bb387b9ed773"), looks := true }, kinds := [], alts := [], laidByText := true, laidKinds := [.data, .data, .data, .sentinel, .sentinel, .data, .widerDeep], laidTests := true, laidLooks := .later }
def MeansPlacesUptoCardSaid : Prop := Claim7.holds Tryz.pinned (.plain (OpenSpec.upto meansPlacesSpec)) meansPlacesUptoCard

/-- THE SECOND FORM's CARD OF 'caesuralaw23.AtomsTell'. -/
def atomsTellUptoCard : Claim7 := { stood := { row := atomsTellUptoRow, standIns := [], harness := (true, "03d7397dacbe151c6901ac7fb37ca6eae1c800cb50ae4ba58010bb387b9ed773"), looks := true }, kinds := [], alts := [], laidByText := true, laidKinds := [.data, .data, .data, .sentinel, .sentinel, .data, .widerDeep], laidTests := true, laidLooks := .later }
def AtomsTellUptoCardSaid : Prop := Claim7.holds Tryz.pinned (.plain (OpenSpec.upto atomsTellSpec)) atomsTellUptoCard

/-- THE SECOND FORM's CARD OF 'caesuralaw23.AtomsHold'. -/
def atomsHoldUptoCard : Claim7 := { stood := { row := atomsHoldUptoRow, standIns := [], harness := (true, "03d7397dacbe151c6901ac7fb37ca6eae1c800cb50ae4ba58010bb387b9ed773"), looks := true }, kinds := [], alts := [], laidByText := true, laidKinds := [.data, .data, .data, .sentinel, .sentinel, .data, .widerDeep], laidTests := true, laidLooks := .later }
def AtomsHoldUptoCardSaid : Prop := Claim7.holds Tryz.pinned (.plain (OpenSpec.upto atomsHoldSpec)) atomsHoldUptoCard

/-- THE SECOND FORM's CARD OF 'caesuralaw23.AtomsNames'. -/
def atomsNamesUptoCard : Claim7 := { stood := { row := atomsNamesUptoRow, standIns := [], harness := (true, "03d7397dacbe151c6901ac7fb37ca6eae1c800cb50ae4ba58010bb387b9ed773"), looks := true }, kinds := [], alts := [], laidByText := true, laidKinds := [.data, .data, .data, .sentinel, .sentinel, .data, .widerDeep], laidTests := true, laidLooks := .later }
def AtomsNamesUptoCardSaid : Prop := Claim7.holds Tryz.pinned (.plain (OpenSpec.upto atomsNamesSpec)) atomsNamesUptoCard
end Rows
end Go.Proofs.YthknebhggdhhfaaGreatDoor
