/-
  DERIVED. GIVEN WITH THE SEED: THE CARDS: each row of YtdmnnbmjhpoipaaGreatDoorRows.lean that lists a variable, with what it lists TIED to the program's text (the seventh form; the later family's looks); each row that meets fmt, with fmt's text TOLD by the authors' own Lean function (tested against real Go, not proved from fmt's source: count such statements apart). THE CARD IS WHAT COUNTS. Prove the row's statement (the work); the ties are given (YtdmnnbmjhpoipaaGreatDoorTie.lean); close each card by the builder's one call (the guide's Derived/Test/ToyasCard.lean, 'card_holds'). Laid BY PROGRAM, IN A SANDBOX (cutbox-door.mjs). By AI agents, Wed Nov 11 2026. No macro, syntax, notation, axiom, sorry.
-/
import Derived.Test.YtdmnnbmjhpoipaaGreatDoorRows
import GoSem.ClaimSeven
namespace Go.Proofs.YtdmnnbmjhpoipaaGreatDoor
namespace Rows

/-- THE TIED CARD OF 'caesuralaw18.DeriveTells'. -/
def deriveTellsCard : Claim7 := { stood := { row := deriveTellsRow, standIns := [], harness := (true, "1c338fd3ffebd1f47abc5e406f24e359fbdd747ae4ae45a30169df975391f1f7"), looks := true }, kinds := [], alts := [], laidByText := true, laidKinds := [.data, .data, .data, .sentinel, .sentinel, .data], laidTests := true, laidLooks := .later }
def DeriveTellsCardSaid : Prop := Claim7.holds Tryz.pinned (.plain (OpenSpec.ofChange deriveTellsSpec)) deriveTellsCard

/-- THE TIED CARD OF 'caesuralaw18.DeriveOnes'. -/
def deriveOnesCard : Claim7 := { stood := { row := deriveOnesRow, standIns := [], harness := (true, "1c338fd3ffebd1f47abc5e406f24e359fbdd747ae4ae45a30169df975391f1f7"), looks := true }, kinds := [], alts := [], laidByText := true, laidKinds := [.data, .data, .data, .sentinel, .sentinel, .data], laidTests := true, laidLooks := .later }
def DeriveOnesCardSaid : Prop := Claim7.holds Tryz.pinned (.plain (OpenSpec.ofChange deriveOnesSpec)) deriveOnesCard

/-- THE TIED CARD OF 'caesuralaw18.DeriveTakes'. -/
def deriveTakesCard : Claim7 := { stood := { row := deriveTakesRow, standIns := [], harness := (true, "1c338fd3ffebd1f47abc5e406f24e359fbdd747ae4ae45a30169df975391f1f7"), looks := true }, kinds := [], alts := [], laidByText := true, laidKinds := [.data, .data, .data, .sentinel, .sentinel, .data], laidTests := true, laidLooks := .later }
def DeriveTakesCardSaid : Prop := Claim7.holds Tryz.pinned (.plain (OpenSpec.ofChange deriveTakesSpec)) deriveTakesCard

/-- THE TIED CARD OF 'caesuralaw18.DeriveLaws'. -/
def deriveLawsCard : Claim7 := { stood := { row := deriveLawsRow, standIns := [], harness := (true, "1c338fd3ffebd1f47abc5e406f24e359fbdd747ae4ae45a30169df975391f1f7"), looks := true }, kinds := [], alts := [], laidByText := true, laidKinds := [.data, .data, .data, .sentinel, .sentinel, .data], laidTests := true, laidLooks := .later }
def DeriveLawsCardSaid : Prop := Claim7.holds Tryz.pinned (.plain (OpenSpec.ofChange deriveLawsSpec)) deriveLawsCard

/-- THE SECOND FORM's CARD OF 'caesuralaw18.DeriveTells'. -/
def deriveTellsUptoCard : Claim7 := { stood := { row := deriveTellsUptoRow, standIns := [], harness := (true, "1c338fd3ffebd1f47abc5e406f24e359fbdd747ae4ae45a30169df975391f1f7"), looks := true }, kinds := [], alts := [], laidByText := true, laidKinds := [.data, .data, .data, .sentinel, .sentinel, .data], laidTests := true, laidLooks := .later }
def DeriveTellsUptoCardSaid : Prop := Claim7.holds Tryz.pinned (.plain (OpenSpec.upto deriveTellsSpec)) deriveTellsUptoCard

/-- THE SECOND FORM's CARD OF 'caesuralaw18.DeriveOnes'. -/
def deriveOnesUptoCard : Claim7 := { stood := { row := deriveOnesUptoRow, standIns := [], harness := (true, "1c338fd3ffebd1f47abc5e406f24e359fbdd747ae4ae45a30169df975391f1f7"), looks := true }, kinds := [], alts := [], laidByText := true, laidKinds := [.data, .data, .data, .sentinel, .sentinel, .data], laidTests := true, laidLooks := .later }
def DeriveOnesUptoCardSaid : Prop := Claim7.holds Tryz.pinned (.plain (OpenSpec.upto deriveOnesSpec)) deriveOnesUptoCard

/-- THE SECOND FORM's CARD OF 'caesuralaw18.DeriveTakes'. -/
def deriveTakesUptoCard : Claim7 := { stood := { row := deriveTakesUptoRow, standIns := [], harness := (true, "1c338fd3ffebd1f47abc5e406f24e359fbdd747ae4ae45a30169df975391f1f7"), looks := true }, kinds := [], alts := [], laidByText := true, laidKinds := [.data, .data, .data, .sentinel, .sentinel, .data], laidTests := true, laidLooks := .later }
def DeriveTakesUptoCardSaid : Prop := Claim7.holds Tryz.pinned (.plain (OpenSpec.upto deriveTakesSpec)) deriveTakesUptoCard

/-- THE SECOND FORM's CARD OF 'caesuralaw18.DeriveLaws'. -/
def deriveLawsUptoCard : Claim7 := { stood := { row := deriveLawsUptoRow, standIns := [], harness := (true, "1c338fd3ffebd1f47abc5e406f24e359fbdd747ae4ae45a30169df975391f1f7"), looks := true }, kinds := [], alts := [], laidByText := true, laidKinds := [.data, .data, .data, .sentinel, .sentinel, .data], laidTests := true, laidLooks := .later }
def DeriveLawsUptoCardSaid : Prop := Claim7.holds Tryz.pinned (.plain (OpenSpec.upto deriveLawsSpec)) deriveLawsUptoCard
end Rows
end Go.Proofs.YtdmnnbmjhpoipaaGreatDoor
