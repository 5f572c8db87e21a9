/- The document's numbers: websterref01.Number, Small. -/
import Derived.Test.YtjanojignaonfaaRef05
namespace Go.Proofs.Ytjanojignaonfaa
set_option linter.unusedVariables false
set_option linter.unusedSimpArgs false
open Go.RowKit

set_option maxHeartbeats 400000 in
theorem Number01_any (v : Int) (h64 : In64 v) (w : World) : Calls Try.prog 59 #[.int .i64 v] w fun e w' => e = .returned (.tuple #[.int .i64 (numV v), .bool (numOk v)]) ∧ w = w' := by
  obtain ⟨b1, b2⟩ := h64
  by_cases hm : v % 2 = 0
  · have q0 : (v.tmod 2 == 0) = true := by rw [tmod_two]; simp; split <;> omega
    have e1 : numV v = 0 := by unfold numV; rw [if_neg (by omega)]
    have e2 : numOk v = false := by unfold numOk; simp; omega
    rw [e1, e2]
    go_enter Try.func59, Try.ntmps59
    go_wp2
    go_ret2
    exact ⟨rfl, rfl⟩
  · have q0 : (v.tmod 2 == 0) = false := by rw [tmod_two]; simp; split <;> omega
    by_cases h1 : v < -2147483647
    · have t1 : decide (v < -2147483647) = true := decide_eq_true h1
      have e1 : numV v = 0 := by unfold numV; rw [if_neg (by omega)]
      have e2 : numOk v = false := by unfold numOk; simp; omega
      rw [e1, e2]
      go_enter Try.func59, Try.ntmps59
      go_wp2
      go_ret2
      exact ⟨rfl, rfl⟩
    · have t1 : decide (v < -2147483647) = false := decide_eq_false h1
      by_cases h2 : 2147483647 < v
      · have t2 : decide (2147483647 < v) = true := decide_eq_true h2
        have e1 : numV v = 0 := by unfold numV; rw [if_neg (by omega)]
        have e2 : numOk v = false := by unfold numOk; simp; omega
        rw [e1, e2]
        go_enter Try.func59, Try.ntmps59
        go_wp2
        go_ret2
        exact ⟨rfl, rfl⟩
      · have t2 : decide (2147483647 < v) = false := decide_eq_false h2
        have e1 : numV v = v / 2 := by unfold numV; rw [if_pos (by omega)]
        have e2 : numOk v = true := by unfold numOk; simp; omega
        have w1 : IntKind.i64.wrap (v - 1) = v - 1 := IntWalk.i64_in _ (by omega)
        have w2 : (v - 1).tdiv 2 = v / 2 := by rw [tdiv_two]; split <;> omega
        have w3 : IntKind.i64.wrap (v / 2) = v / 2 := IntWalk.i64_in _ (by omega)
        rw [e1, e2]
        go_enter Try.func59, Try.ntmps59
        go_wp2
        go_ret2
        exact ⟨rfl, rfl⟩

set_option maxHeartbeats 400000 in
theorem Small01_any (v : Int) (h64 : In64 v) (w : World) : Calls Try.prog 107 #[.int .i64 v] w fun e w' => e = .returned (.tuple #[.int .i64 (smallV v), .int .i64 (smallE v)]) ∧ w = w' := by
  obtain ⟨b1, b2⟩ := h64
  by_cases hc : -1073741824 ≤ v ∧ v ≤ 1073741823
  · rw [show smallV v = 2 * v + 1 from if_pos hc, show smallE v = 0 from if_pos hc]
    obtain ⟨h1, h2⟩ := hc
    have t1 : decide (v < -1073741824) = false := decide_eq_false (by omega)
    have t2 : decide (1073741823 < v) = false := decide_eq_false (by omega)
    have w1 : IntKind.i64.wrap (v + v) = v + v := IntWalk.i64_in _ (by omega)
    have w2 : IntKind.i64.wrap (v + v + 1) = 2 * v + 1 := (IntWalk.i64_in _ (by omega)).trans (by omega)
    go_enter Try.func107, Try.ntmps107
    go_wp2
    go_ret2
    exact ⟨rfl, rfl⟩
  · rw [show smallV v = 0 from if_neg hc, show smallE v = 2 from if_neg hc]
    by_cases h1 : v < -1073741824
    · have t1 : decide (v < -1073741824) = true := decide_eq_true h1
      go_enter Try.func107, Try.ntmps107
      go_wp2
      go_ret2
      exact ⟨rfl, rfl⟩
    · have t1 : decide (v < -1073741824) = false := decide_eq_false h1
      have t2 : decide (1073741823 < v) = true := decide_eq_true (by omega)
      go_enter Try.func107, Try.ntmps107
      go_wp2
      go_ret2
      exact ⟨rfl, rfl⟩

end Go.Proofs.Ytjanojignaonfaa
