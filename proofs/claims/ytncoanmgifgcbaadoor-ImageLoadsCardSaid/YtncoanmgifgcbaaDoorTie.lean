/-
  DERIVED. GIVEN WITH THE SEED: THE PROGRAM's TIES (one call each: nine closed facts by the kernel) AND EACH ROW's TIE, after the 31st guide's Derived/Test/Toyas{Tie, Card}.lean. No idea stands in it: it is a product of the set-up. Laid BY PROGRAM, IN A SANDBOX (cutbox-door.mjs). By AI agents, Wed Nov 11 2026. No macro, syntax, notation, axiom, sorry.
-/
import Derived.Test.YtncoanmgifgcbaaDoorRows
import Derived.LaidByTextLater
import Derived.SevenTiedAt
import Derived.LaidSub
import Derived.LaidOnce
namespace Go.Proofs.YtncoanmgifgcbaaDoor
open Go
set_option maxRecDepth 100000
theorem seatTie1 : Tryd.prog.laidByTextLater [("webster/code.spans", Rows.laid_webster_code_spans), ("webster/code.stores", Rows.laid_webster_code_stores), ("webster/prim.counts", Rows.laid_webster_prim_counts)] [.data, .data, .data] true :=
  Program.laidByTextLater_by_one 64 8 59 (by kernel_rfl) (by kernel_rfl) (by kernel_rfl) (by kernel_rfl) (by kernel_rfl) (by kernel_rfl) (fun _ _ => by kernel_rfl)
theorem noOwnUnsafe : Tryd.pinned.checked.prog.headLifts.contains "ownunsafe" = false := by kernel_rfl
theorem tie : Tryd.prog.laidByTextLater [("webster/code.spans", Rows.laid_webster_code_spans), ("webster/code.stores", Rows.laid_webster_code_stores)] [.data, .data] true :=
  Program.laidByTextLater.sub seatTie1 ["webster/code.spans", "webster/code.stores"] (by kernel_rfl) (by kernel_rfl)
theorem imageLoads_row_tie : Rows.imageLoadsRow.laidByTextAt .later Tryd.pinned [.data, .data] true :=
  OpenClaim.laidByTextAt_later rfl rfl tie noOwnUnsafe
theorem tie2 : Tryd.prog.laidByTextLater [("webster/prim.counts", Rows.laid_webster_prim_counts)] [.data] true :=
  Program.laidByTextLater.sub seatTie1 ["webster/prim.counts"] (by kernel_rfl) (by kernel_rfl)
theorem primPlaces_row_tie : Rows.primPlacesRow.laidByTextAt .later Tryd.pinned [.data] true :=
  OpenClaim.laidByTextAt_later rfl rfl tie2 noOwnUnsafe
theorem primLarge_row_tie : Rows.primLargeRow.laidByTextAt .later Tryd.pinned [.data] true :=
  OpenClaim.laidByTextAt_later rfl rfl tie2 noOwnUnsafe
theorem primFails_row_tie : Rows.primFailsRow.laidByTextAt .later Tryd.pinned [.data] true :=
  OpenClaim.laidByTextAt_later rfl rfl tie2 noOwnUnsafe
theorem imageLoadsUpto_row_tie : Rows.imageLoadsUptoRow.laidByTextAt .later Tryd.pinned [.data, .data] true :=
  OpenClaim.laidByTextAt_later rfl rfl tie noOwnUnsafe
theorem primPlacesUpto_row_tie : Rows.primPlacesUptoRow.laidByTextAt .later Tryd.pinned [.data] true :=
  OpenClaim.laidByTextAt_later rfl rfl tie2 noOwnUnsafe
theorem primLargeUpto_row_tie : Rows.primLargeUptoRow.laidByTextAt .later Tryd.pinned [.data] true :=
  OpenClaim.laidByTextAt_later rfl rfl tie2 noOwnUnsafe
theorem primFailsUpto_row_tie : Rows.primFailsUptoRow.laidByTextAt .later Tryd.pinned [.data] true :=
  OpenClaim.laidByTextAt_later rfl rfl tie2 noOwnUnsafe
end Go.Proofs.YtncoanmgifgcbaaDoor
