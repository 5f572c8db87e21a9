/- The law SecondSteps, as the row wants it: nothing that was is changed. -/
import Derived.Test.YtdpmmafkomchaaaGreatLawSecondSteps
namespace Go.Proofs.YtdpmmafkomchaaaGreat
set_option linter.unusedVariables false
set_option linter.unusedSimpArgs false
open Go.RowKit

theorem SecondSteps_row (n0 : Int) (v rv : Value) (D : List D6) (R : List Int) (w : World) (h : DoR w (fun _ => True) v D) (hm : D.length ≤ maxLen) (hr : IntS w (fun _ => True) rv R) (lr : R.length ≤ 17592186044416) :
    Calls Tryz.prog 3 #[.int .i64 n0, v, rv] w fun e w' => e = .returned (.bool true) ∧ Below w.heap.size w w' :=
  (SecondSteps_any n0 v rv D R w h hm hr lr).mono fun _ _ h => ⟨h.1, h.2.below⟩

end Go.Proofs.YtdpmmafkomchaaaGreat
