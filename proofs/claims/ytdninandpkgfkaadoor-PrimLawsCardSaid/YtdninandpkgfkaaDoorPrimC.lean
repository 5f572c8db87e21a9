/- Walks: the reference of prim. -/
import Derived.Test.YtdninandpkgfkaaDoorPrimB
namespace Go.Proofs.YtdninandpkgfkaaDoor
open Go.RowKit

set_option maxHeartbeats 400000 in
theorem refSmall_any (o : Int) (h : -9223372036854775808 ≤ o) (h' : o ≤ 9223372036854775807) (w : World) :
    Calls Tryd.prog 21 #[.int .i64 o] w fun e w' => e = .returned (.tuple #[.int .i64 (smallV o), .int .i64 (smallE o)]) ∧ w = w' := by
  by_cases hc : -1073741824 ≤ o ∧ o ≤ 1073741823
  · rw [show smallV o = o + o + 1 from (if_pos hc).trans (by omega), show smallE o = 0 from if_pos hc]
    obtain ⟨h1, h2⟩ := hc
    go_enter Tryd.func21, Tryd.ntmps21
    go_wp2
    all_goals (go_ret2; exact ⟨rfl, rfl⟩)
  · rw [show smallV o = 0 from if_neg hc, show smallE o = 2 from if_neg hc]
    go_enter Tryd.func21, Tryd.ntmps21
    go_wp2
    all_goals (go_ret2; first | exact ⟨rfl, rfl⟩ | (simp at *; omega))

set_option maxHeartbeats 400000 in
theorem refIs_any (b : Bool) (w : World) : Calls Tryd.prog 18 #[.bool b] w fun e w' => e = .returned (.int .i64 (tr b)) ∧ w = w' := by
  cases b
  all_goals
    go_enter Tryd.func18, Tryd.ntmps18
    go_wp2
    go_ret
    exact ⟨rfl, rfl⟩

theorem floor_eq (x y : Int) (h0 : ¬ y = 0) : (x - (x.tmod y + y)).tdiv y = x.tdiv y - 1 := by
  have h1 := Int.mul_tdiv_add_tmod x y
  have h2 : x - (x.tmod y + y) = y * (x.tdiv y - 1) := by
    rw [Int.mul_sub]; omega
  rw [h2, Int.mul_tdiv_cancel_left _ h0]
theorem floor_eq' (x y : Int) (h0 : ¬ y = 0) : (x - x.tmod y).tdiv y = x.tdiv y := by
  have h1 := Int.mul_tdiv_add_tmod x y
  have h2 : x - x.tmod y = y * x.tdiv y := by omega
  rw [h2, Int.mul_tdiv_cancel_left _ h0]
theorem downC_true (x y : Int) (h0 : ¬ y = 0) (hC : downC x y = true) : x.tmod y < 0 ∧ 0 < y ∨ 0 < x.tmod y ∧ y < 0 := by
  simp [downC] at hC
  by_cases h : x.tmod y < 0 <;> by_cases h' : y < 0 <;> simp [h, h'] at hC <;> omega
theorem downC_false (x y : Int) (hC : downC x y = false) : ¬ (x.tmod y < 0 ∧ 0 < y) ∧ ¬ (0 < x.tmod y ∧ y < 0) := by
  by_cases hr : x.tmod y = 0
  · omega
  simp [downC, hr] at hC
  by_cases h : x.tmod y < 0 <;> by_cases h' : y < 0 <;> simp [h, h'] at hC <;> omega

set_option maxHeartbeats 400000 in
theorem floor_any (x y : Int) (hx : -1073741824 ≤ x ∧ x ≤ 1073741823) (hy : -1073741824 ≤ y ∧ y ≤ 1073741823) (h0 : ¬ y = 0) (w : World) :
    Calls Tryd.prog 19 #[.int .i64 x, .int .i64 y] w fun e w' => e = .returned (.tuple #[.int .i64 (downQ x y), .int .i64 (downR x y)]) ∧ w = w' := by
  have b1 := tmod_bd x y hx
  cases hC : downC x y
  · rw [show downQ x y = (x - x.tmod y).tdiv y by rw [floor_eq' x y h0, downQ, if_neg (by rw [hC]; decide)], show downR x y = x.tmod y by rw [downR, if_neg (by rw [hC]; decide)]]
    obtain ⟨c1, c2⟩ := downC_false x y hC
    have b2 := tdiv_bd x y hx
    rw [← floor_eq' x y h0] at b2
    have hw : IntKind.i64.wrap ((x - x.tmod y).tdiv y) = (x - x.tmod y).tdiv y := IntWalk.i64_in _ (by omega)
    have hw2 : IntKind.i64.wrap (x - x.tmod y) = (x - x.tmod y) := IntWalk.i64_in _ (by omega)
    clear hC
    go_enter Tryd.func19, Tryd.ntmps19
    go_wp2
    all_goals first | (exfalso; omega) | skip
    all_goals (go_ret2; exact ⟨rfl, rfl⟩)
  · rw [show downQ x y = (x - (x.tmod y + y)).tdiv y by rw [floor_eq x y h0, downQ, if_pos hC], show downR x y = x.tmod y + y by rw [downR, if_pos hC]]
    have c1 := downC_true x y h0 hC
    have b2 := tdiv_bd x y hx
    have b3 := floor_eq x y h0
    have hw : IntKind.i64.wrap ((x - (x.tmod y + y)).tdiv y) = (x - (x.tmod y + y)).tdiv y := IntWalk.i64_in _ (by omega)
    have hw2 : IntKind.i64.wrap (x - (x.tmod y + y)) = (x - (x.tmod y + y)) := IntWalk.i64_in _ (by omega)
    clear hC b3
    go_enter Tryd.func19, Tryd.ntmps19
    go_wp2
    all_goals first | (exfalso; omega) | skip
    all_goals (go_ret2; exact ⟨rfl, rfl⟩)

set_option maxHeartbeats 400000 in
theorem refBits_any (n x y : Int) (hx : -1073741824 ≤ x ∧ x ≤ 1073741823) (hy : -1073741824 ≤ y ∧ y ≤ 1073741823) (w : World) :
    Calls Tryd.prog 20 #[.int .i64 n, .int .i64 x, .int .i64 y] w fun e w' => e = .returned (.int .i64 (if n = 14 then bits .and .i64 x y else bits .or .i64 x y)) ∧ w = w' := by
  by_cases hn : n = 14
  · subst hn
    rw [if_pos rfl]
    go_enter Tryd.func20, Tryd.ntmps20
    go_wp2
    go_ret
    exact ⟨rfl, rfl⟩
  · rw [if_neg hn, or_by_and]
    have hb := bits_or_bd x y
    rw [or_by_and] at hb
    have hb2 := bits_and_bd (-1 - x) (-1 - y)
    go_enter Tryd.func20, Tryd.ntmps20
    go_wp2
    all_goals go_ret
    exact ⟨rfl, rfl⟩

end Go.Proofs.YtdninandpkgfkaaDoor
