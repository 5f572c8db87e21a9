/-
  DERIVED. GIVEN WITH THE SEED: THE CARDS: each row of YtncoanmgifgcbaaDoorRows.lean that lists a variable, with what it lists TIED to the program's text (the seventh form; the later family's looks); each row that meets fmt, with fmt's text TOLD by the authors' own Lean function (tested against real Go, not proved from fmt's source: count such statements apart). THE CARD IS WHAT COUNTS. Prove the row's statement (the work); the ties are given (YtncoanmgifgcbaaDoorTie.lean); close each card by the builder's one call (the guide's Derived/Test/ToyasCard.lean, 'card_holds'). Laid BY PROGRAM, IN A SANDBOX (cutbox-door.mjs). By AI agents, Wed Nov 11 2026. No macro, syntax, notation, axiom, sorry.
-/
import Derived.Test.YtncoanmgifgcbaaDoorRows
import GoSem.ClaimSeven
namespace Go.Proofs.YtncoanmgifgcbaaDoor
namespace Rows

/-- THE TIED CARD OF 'websterlaw18.ImageLoads'. -/
def imageLoadsCard : Claim7 := { stood := { row := imageLoadsRow, standIns := [], harness := (true, "736efd0172dee77972020734582f9fdde02ea8feb33a2752ea2779886e54d793"), looks := false }, kinds := [], alts := [], laidByText := true, laidKinds := [.data, .data], laidTests := true, laidLooks := .later }
def ImageLoadsCardSaid : Prop := Claim7.holds Tryd.pinned (.plain (OpenSpec.ofChange imageLoadsSpec)) imageLoadsCard

/-- THE TIED CARD OF 'websterlaw16.PrimPlaces'. -/
def primPlacesCard : Claim7 := { stood := { row := primPlacesRow, standIns := [], harness := (true, "736efd0172dee77972020734582f9fdde02ea8feb33a2752ea2779886e54d793"), looks := false }, kinds := [], alts := [], laidByText := true, laidKinds := [.data], laidTests := true, laidLooks := .later }
def PrimPlacesCardSaid : Prop := Claim7.holds Tryd.pinned (.plain (OpenSpec.ofChange primPlacesSpec)) primPlacesCard

/-- THE TIED CARD OF 'websterlaw16.PrimLarge'. -/
def primLargeCard : Claim7 := { stood := { row := primLargeRow, standIns := [], harness := (true, "736efd0172dee77972020734582f9fdde02ea8feb33a2752ea2779886e54d793"), looks := false }, kinds := [], alts := [], laidByText := true, laidKinds := [.data], laidTests := true, laidLooks := .later }
def PrimLargeCardSaid : Prop := Claim7.holds Tryd.pinned (.plain (OpenSpec.ofChange primLargeSpec)) primLargeCard

/-- THE TIED CARD OF 'websterlaw16.PrimFails'. -/
def primFailsCard : Claim7 := { stood := { row := primFailsRow, standIns := [], harness := (true, "736efd0172dee77972020734582f9fdde02ea8feb33a2752ea2779886e54d793"), looks := false }, kinds := [], alts := [], laidByText := true, laidKinds := [.data], laidTests := true, laidLooks := .later }
def PrimFailsCardSaid : Prop := Claim7.holds Tryd.pinned (.plain (OpenSpec.ofChange primFailsSpec)) primFailsCard

/-- THE SECOND FORM's CARD OF 'websterlaw18.ImageLoads'. -/
def imageLoadsUptoCard : Claim7 := { stood := { row := imageLoadsUptoRow, standIns := [], harness := (true, "736efd0172dee77972020734582f9fdde02ea8feb33a2752ea2779886e54d793"), looks := false }, kinds := [], alts := [], laidByText := true, laidKinds := [.data, .data], laidTests := true, laidLooks := .later }
def ImageLoadsUptoCardSaid : Prop := Claim7.holds Tryd.pinned (.plain (OpenSpec.upto imageLoadsSpec)) imageLoadsUptoCard

/-- THE SECOND FORM's CARD OF 'websterlaw16.PrimPlaces'. -/
def primPlacesUptoCard : Claim7 := { stood := { row := primPlacesUptoRow, standIns := [], harness := (true, "736efd0172dee77972020734582f9fdde02ea8feb33a2752ea2779886e54d793"), looks := false }, kinds := [], alts := [], laidByText := true, laidKinds := [.data], laidTests := true, laidLooks := .later }
def PrimPlacesUptoCardSaid : Prop := Claim7.holds Tryd.pinned (.plain (OpenSpec.upto primPlacesSpec)) primPlacesUptoCard

/-- THE SECOND FORM's CARD OF 'websterlaw16.PrimLarge'. -/
def primLargeUptoCard : Claim7 := { stood := { row := primLargeUptoRow, standIns := [], harness := (true, "736efd0172dee77972020734582f9fdde02ea8feb33a2752ea2779886e54d793"), looks := false }, kinds := [], alts := [], laidByText := true, laidKinds := [.data], laidTests := true, laidLooks := .later }
def PrimLargeUptoCardSaid : Prop := Claim7.holds Tryd.pinned (.plain (OpenSpec.upto primLargeSpec)) primLargeUptoCard

/-- THE SECOND FORM's CARD OF 'websterlaw16.PrimFails'. -/
def primFailsUptoCard : Claim7 := { stood := { row := primFailsUptoRow, standIns := [], harness := (true, "736efd0172dee77972020734582f9fdde02ea8feb33a2752ea2779886e54d793"), looks := false }, kinds := [], alts := [], laidByText := true, laidKinds := [.data], laidTests := true, laidLooks := .later }
def PrimFailsUptoCardSaid : Prop := Claim7.holds Tryd.pinned (.plain (OpenSpec.upto primFailsSpec)) primFailsUptoCard
end Rows
end Go.Proofs.YtncoanmgifgcbaaDoor
