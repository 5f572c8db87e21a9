/-
  DERIVED. GIVEN WITH THE SEED: THE CARDS: each row of YtdninandpkgfkaaDoorRows.lean that lists a variable, with what it lists TIED to the program's text (the seventh form; the later family's looks); each row that meets fmt, with fmt's text TOLD by the authors' own Lean function (tested against real Go, not proved from fmt's source: count such statements apart). THE CARD IS WHAT COUNTS. Prove the row's statement (the work); the ties are given (YtdninandpkgfkaaDoorTie.lean); close each card by the builder's one call (the guide's Derived/Test/ToyasCard.lean, 'card_holds'). Laid BY PROGRAM, IN A SANDBOX (cutbox-door.mjs). By AI agents, Wed Nov 11 2026. No macro, syntax, notation, axiom, sorry.
-/
import Derived.Test.YtdninandpkgfkaaDoorRows
import GoSem.ClaimSeven
namespace Go.Proofs.YtdninandpkgfkaaDoor
namespace Rows

/-- THE TIED CARD OF 'websterlaw16.PrimNumbers'. -/
def primNumbersCard : Claim7 := { stood := { row := primNumbersRow, standIns := [], harness := (true, "4c8d8f3bcba65234cb59014c7bd4a8f2cc8b11371069f3a365152e631df8ab1a"), looks := false }, kinds := [], alts := [], laidByText := true, laidKinds := [.data], laidTests := true, laidLooks := .later }
def PrimNumbersCardSaid : Prop := Claim7.holds Tryd.pinned (.plain (OpenSpec.ofChange primNumbersSpec)) primNumbersCard

/-- THE TIED CARD OF 'websterlaw16.PrimLaws'. -/
def primLawsCard : Claim7 := { stood := { row := primLawsRow, standIns := [], harness := (true, "4c8d8f3bcba65234cb59014c7bd4a8f2cc8b11371069f3a365152e631df8ab1a"), looks := false }, kinds := [], alts := [], laidByText := true, laidKinds := [.data], laidTests := true, laidLooks := .later }
def PrimLawsCardSaid : Prop := Claim7.holds Tryd.pinned (.plain (OpenSpec.ofChange primLawsSpec)) primLawsCard

/-- THE TIED CARD OF 'websterlaw16.PrimArith'. -/
def primArithCard : Claim7 := { stood := { row := primArithRow, standIns := [], harness := (true, "4c8d8f3bcba65234cb59014c7bd4a8f2cc8b11371069f3a365152e631df8ab1a"), looks := false }, kinds := [], alts := [], laidByText := true, laidKinds := [.data], laidTests := true, laidLooks := .later }
def PrimArithCardSaid : Prop := Claim7.holds Tryd.pinned (.plain (OpenSpec.ofChange primArithSpec)) primArithCard

/-- THE TIED CARD OF 'websterlaw16.PrimKnown'. -/
def primKnownCard : Claim7 := { stood := { row := primKnownRow, standIns := [], harness := (true, "4c8d8f3bcba65234cb59014c7bd4a8f2cc8b11371069f3a365152e631df8ab1a"), looks := false }, kinds := [], alts := [], laidByText := true, laidKinds := [.data], laidTests := true, laidLooks := .later }
def PrimKnownCardSaid : Prop := Claim7.holds Tryd.pinned (.plain (OpenSpec.ofChange primKnownSpec)) primKnownCard

/-- THE SECOND FORM's CARD OF 'websterlaw16.PrimNumbers'. -/
def primNumbersUptoCard : Claim7 := { stood := { row := primNumbersUptoRow, standIns := [], harness := (true, "4c8d8f3bcba65234cb59014c7bd4a8f2cc8b11371069f3a365152e631df8ab1a"), looks := false }, kinds := [], alts := [], laidByText := true, laidKinds := [.data], laidTests := true, laidLooks := .later }
def PrimNumbersUptoCardSaid : Prop := Claim7.holds Tryd.pinned (.plain (OpenSpec.upto primNumbersSpec)) primNumbersUptoCard

/-- THE SECOND FORM's CARD OF 'websterlaw16.PrimLaws'. -/
def primLawsUptoCard : Claim7 := { stood := { row := primLawsUptoRow, standIns := [], harness := (true, "4c8d8f3bcba65234cb59014c7bd4a8f2cc8b11371069f3a365152e631df8ab1a"), looks := false }, kinds := [], alts := [], laidByText := true, laidKinds := [.data], laidTests := true, laidLooks := .later }
def PrimLawsUptoCardSaid : Prop := Claim7.holds Tryd.pinned (.plain (OpenSpec.upto primLawsSpec)) primLawsUptoCard

/-- THE SECOND FORM's CARD OF 'websterlaw16.PrimArith'. -/
def primArithUptoCard : Claim7 := { stood := { row := primArithUptoRow, standIns := [], harness := (true, "4c8d8f3bcba65234cb59014c7bd4a8f2cc8b11371069f3a365152e631df8ab1a"), looks := false }, kinds := [], alts := [], laidByText := true, laidKinds := [.data], laidTests := true, laidLooks := .later }
def PrimArithUptoCardSaid : Prop := Claim7.holds Tryd.pinned (.plain (OpenSpec.upto primArithSpec)) primArithUptoCard

/-- THE SECOND FORM's CARD OF 'websterlaw16.PrimKnown'. -/
def primKnownUptoCard : Claim7 := { stood := { row := primKnownUptoRow, standIns := [], harness := (true, "4c8d8f3bcba65234cb59014c7bd4a8f2cc8b11371069f3a365152e631df8ab1a"), looks := false }, kinds := [], alts := [], laidByText := true, laidKinds := [.data], laidTests := true, laidLooks := .later }
def PrimKnownUptoCardSaid : Prop := Claim7.holds Tryd.pinned (.plain (OpenSpec.upto primKnownSpec)) primKnownUptoCard
end Rows
end Go.Proofs.YtdninandpkgfkaaDoor
