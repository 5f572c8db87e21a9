/- The walk of KitMakes, joined. -/
import Derived.Test.YtjanojignaonfaaLawKitMakes2
import Derived.Test.YtjanojignaonfaaLawKitMakes3
namespace Go.Proofs.Ytjanojignaonfaa
set_option linter.unusedVariables false
set_option linter.unusedSimpArgs false
open Go.RowKit

theorem KitMakes_any (lv : Value) (L : List O) (o : Int) (o64 : In64 o) (nv : Value) (ns : List Int) (a t p d e5 : Int) (w : World) (h : RefL w (fun _ => True) lv L) (hm : L.length ≤ maxLen) (hns : IntS w (fun _ => True) nv ns) :
    Calls Try.prog 6 #[lv, .int .i64 o, nv, .agg #[.int .i64 a, .int .i64 t, .int .i64 p, .int .i64 d, .int .i64 e5]] w fun e w' => e = .returned (.bool true) ∧ Below w.heap.size w w' := by
  match ns, hns with
  | [], hns => exact KitMakes_none lv L o o64 nv a t p d e5 w h hm hns
  | [k], hns => exact KitMakes_one lv L o o64 nv k a t p d e5 w h hm hns
  | _ :: _ :: _, hns => exact KitMakes_many lv L o o64 nv _ a t p d e5 w h hm hns (by simp)

end Go.Proofs.Ytjanojignaonfaa
