/-
  DERIVED. GIVEN WITH THE SEED: THE CARDS: each row of YtifcigjminbllaaGreatDoorRows.lean that lists a variable, with what it lists TIED to the program's text (the seventh form; the later family's looks); each row that meets fmt, with fmt's text TOLD by the authors' own Lean function (tested against real Go, not proved from fmt's source: count such statements apart). THE CARD IS WHAT COUNTS. Prove the row's statement (the work); the ties are given (YtifcigjminbllaaGreatDoorTie.lean); close each card by the builder's one call (the guide's Derived/Test/ToyasCard.lean, 'card_holds'). Laid BY PROGRAM, IN A SANDBOX (cutbox-door.mjs). By AI agents, Wed Nov 11 2026. No macro, syntax, notation, axiom, sorry.
-/
import Derived.Test.YtifcigjminbllaaGreatDoorRows
import GoSem.ClaimSeven
namespace Go.Proofs.YtifcigjminbllaaGreatDoor
namespace Rows

/-- THE TIED CARD OF 'websterlaw18.ImageDecodes'. -/
def imageDecodesCard : Claim7 := { stood := { row := imageDecodesRow, standIns := [], harness := (true, "1e46f265f31cbd0f90b2859b7982659a38e60e297ea70e0252bb40ff17c003e6"), looks := false }, kinds := [], alts := [], laidByText := true, laidKinds := [.data, .data], laidTests := true, laidLooks := .later }
def ImageDecodesCardSaid : Prop := Claim7.holds Tryz.pinned (.plain (OpenSpec.ofChange imageDecodesSpec)) imageDecodesCard

/-- THE TIED CARD OF 'websterlaw18.ImageWrites'. -/
def imageWritesCard : Claim7 := { stood := { row := imageWritesRow, standIns := [], harness := (true, "1e46f265f31cbd0f90b2859b7982659a38e60e297ea70e0252bb40ff17c003e6"), looks := false }, kinds := [], alts := [], laidByText := true, laidKinds := [.data, .data], laidTests := true, laidLooks := .later }
def ImageWritesCardSaid : Prop := Claim7.holds Tryz.pinned (.plain (OpenSpec.ofChange imageWritesSpec)) imageWritesCard

/-- THE SECOND FORM's CARD OF 'websterlaw18.ImageDecodes'. -/
def imageDecodesUptoCard : Claim7 := { stood := { row := imageDecodesUptoRow, standIns := [], harness := (true, "1e46f265f31cbd0f90b2859b7982659a38e60e297ea70e0252bb40ff17c003e6"), looks := false }, kinds := [], alts := [], laidByText := true, laidKinds := [.data, .data], laidTests := true, laidLooks := .later }
def ImageDecodesUptoCardSaid : Prop := Claim7.holds Tryz.pinned (.plain (OpenSpec.upto imageDecodesSpec)) imageDecodesUptoCard

/-- THE SECOND FORM's CARD OF 'websterlaw18.ImageWrites'. -/
def imageWritesUptoCard : Claim7 := { stood := { row := imageWritesUptoRow, standIns := [], harness := (true, "1e46f265f31cbd0f90b2859b7982659a38e60e297ea70e0252bb40ff17c003e6"), looks := false }, kinds := [], alts := [], laidByText := true, laidKinds := [.data, .data], laidTests := true, laidLooks := .later }
def ImageWritesUptoCardSaid : Prop := Claim7.holds Tryz.pinned (.plain (OpenSpec.upto imageWritesSpec)) imageWritesUptoCard
end Rows
end Go.Proofs.YtifcigjminbllaaGreatDoor
