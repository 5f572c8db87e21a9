/- Walks: the reference of prim. -/
import Derived.Test.YtncoanmgifgcbaaDoorPrimB
namespace Go.Proofs.YtncoanmgifgcbaaDoor
set_option linter.unusedVariables false
set_option linter.unusedSimpArgs false
open Go.RowKit

theorem floor_eq (x y : Int) (h0 : ¬ y = 0) : (x - (x.tmod y + y)).tdiv y = x.tdiv y - 1 := by
  have h1 := Int.mul_tdiv_add_tmod x y
  have h2 : x - (x.tmod y + y) = y * (x.tdiv y - 1) := by
    rw [Int.mul_sub]; omega
  rw [h2, Int.mul_tdiv_cancel_left _ h0]
theorem floor_eq' (x y : Int) (h0 : ¬ y = 0) : (x - x.tmod y).tdiv y = x.tdiv y := by
  have h1 := Int.mul_tdiv_add_tmod x y
  have h2 : x - x.tmod y = y * x.tdiv y := by omega
  rw [h2, Int.mul_tdiv_cancel_left _ h0]
theorem downC_true (x y : Int) (h0 : ¬ y = 0) (hC : downC x y = true) : x.tmod y < 0 ∧ 0 < y ∨ 0 < x.tmod y ∧ y < 0 := by
  simp [downC] at hC
  by_cases h : x.tmod y < 0 <;> by_cases h' : y < 0 <;> simp [h, h'] at hC <;> omega
theorem downC_false (x y : Int) (hC : downC x y = false) : ¬ (x.tmod y < 0 ∧ 0 < y) ∧ ¬ (0 < x.tmod y ∧ y < 0) := by
  by_cases hr : x.tmod y = 0
  · omega
  simp [downC, hr] at hC
  by_cases h : x.tmod y < 0 <;> by_cases h' : y < 0 <;> simp [h, h'] at hC <;> omega

end Go.Proofs.YtncoanmgifgcbaaDoor
