/-
  DERIVED. GIVEN WITH THE SEED: THE CARDS: each row of YtifcigjminbllaaDoorRows.lean that lists a variable, with what it lists TIED to the program's text (the seventh form; the later family's looks); each row that meets fmt, with fmt's text TOLD by the authors' own Lean function (tested against real Go, not proved from fmt's source: count such statements apart). THE CARD IS WHAT COUNTS. Prove the row's statement (the work); the ties are given (YtifcigjminbllaaDoorTie.lean); close each card by the builder's one call (the guide's Derived/Test/ToyasCard.lean, 'card_holds'). Laid BY PROGRAM, IN A SANDBOX (cutbox-door.mjs). By AI agents, Wed Nov 11 2026. No macro, syntax, notation, axiom, sorry.
-/
import Derived.Test.YtifcigjminbllaaDoorRows
import GoSem.ClaimSeven
namespace Go.Proofs.YtifcigjminbllaaDoor
namespace Rows

/-- THE TIED CARD OF 'websterlaw18.ImageBack'. -/
def imageBackCard : Claim7 := { stood := { row := imageBackRow, standIns := [], harness := (true, "97399634b2147b253037aea3d08caac0a3f1d48f11c70d85fc394b2a66b9ec92"), looks := false }, kinds := [], alts := [], laidByText := true, laidKinds := [.data, .data], laidTests := true, laidLooks := .later }
def ImageBackCardSaid : Prop := Claim7.holds Tryd.pinned (.plain (OpenSpec.ofChange imageBackSpec)) imageBackCard

/-- THE TIED CARD OF 'websterlaw18.ImageChecks'. -/
def imageChecksCard : Claim7 := { stood := { row := imageChecksRow, standIns := [], harness := (true, "97399634b2147b253037aea3d08caac0a3f1d48f11c70d85fc394b2a66b9ec92"), looks := false }, kinds := [], alts := [], laidByText := true, laidKinds := [.data, .data], laidTests := true, laidLooks := .later }
def ImageChecksCardSaid : Prop := Claim7.holds Tryd.pinned (.plain (OpenSpec.ofChange imageChecksSpec)) imageChecksCard

/-- THE TIED CARD OF 'websterlaw18.ImageFrames'. -/
def imageFramesCard : Claim7 := { stood := { row := imageFramesRow, standIns := [], harness := (true, "97399634b2147b253037aea3d08caac0a3f1d48f11c70d85fc394b2a66b9ec92"), looks := false }, kinds := [], alts := [], laidByText := true, laidKinds := [.data, .data], laidTests := true, laidLooks := .later }
def ImageFramesCardSaid : Prop := Claim7.holds Tryd.pinned (.plain (OpenSpec.ofChange imageFramesSpec)) imageFramesCard

/-- THE SECOND FORM's CARD OF 'websterlaw18.ImageBack'. -/
def imageBackUptoCard : Claim7 := { stood := { row := imageBackUptoRow, standIns := [], harness := (true, "97399634b2147b253037aea3d08caac0a3f1d48f11c70d85fc394b2a66b9ec92"), looks := false }, kinds := [], alts := [], laidByText := true, laidKinds := [.data, .data], laidTests := true, laidLooks := .later }
def ImageBackUptoCardSaid : Prop := Claim7.holds Tryd.pinned (.plain (OpenSpec.upto imageBackSpec)) imageBackUptoCard

/-- THE SECOND FORM's CARD OF 'websterlaw18.ImageChecks'. -/
def imageChecksUptoCard : Claim7 := { stood := { row := imageChecksUptoRow, standIns := [], harness := (true, "97399634b2147b253037aea3d08caac0a3f1d48f11c70d85fc394b2a66b9ec92"), looks := false }, kinds := [], alts := [], laidByText := true, laidKinds := [.data, .data], laidTests := true, laidLooks := .later }
def ImageChecksUptoCardSaid : Prop := Claim7.holds Tryd.pinned (.plain (OpenSpec.upto imageChecksSpec)) imageChecksUptoCard

/-- THE SECOND FORM's CARD OF 'websterlaw18.ImageFrames'. -/
def imageFramesUptoCard : Claim7 := { stood := { row := imageFramesUptoRow, standIns := [], harness := (true, "97399634b2147b253037aea3d08caac0a3f1d48f11c70d85fc394b2a66b9ec92"), looks := false }, kinds := [], alts := [], laidByText := true, laidKinds := [.data, .data], laidTests := true, laidLooks := .later }
def ImageFramesUptoCardSaid : Prop := Claim7.holds Tryd.pinned (.plain (OpenSpec.upto imageFramesSpec)) imageFramesUptoCard
end Rows
end Go.Proofs.YtifcigjminbllaaDoor
