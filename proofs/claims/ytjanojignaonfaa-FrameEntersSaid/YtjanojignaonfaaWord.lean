/- Walks of the functions of package word and its reference. -/
import Derived.Test.YtjanojignaonfaaProg
import Derived.Test.YtjanojignaonfaaMath
import Derived.WalkKit
import Derived.WalkSpells
import Derived.WalkLawsBesides
import Derived.Lib.Hide
namespace Go.Proofs.Ytjanojignaonfaa
set_option linter.unusedVariables false
set_option linter.unusedSimpArgs false
open Go.RowKit

set_option maxHeartbeats 400000 in
theorem Number_any (o : Int) (h : -9223372036854775808 ≤ o) (h' : o ≤ 9223372036854775807) (w : World) :
    Calls Try.prog 56 #[.int .i64 o] w fun e w' => e = .returned (.tuple #[.int .i64 (numV o), .bool (numOk o)]) ∧ w = w' := by
  have ha := and_one o
  by_cases hc : o % 2 = 1 ∧ -1073741824 ≤ o / 2 ∧ o / 2 ≤ 1073741823
  · rw [show numV o = o / 2 from if_pos hc, show numOk o = true from decide_eq_true hc]
    go_enter Try.func56, Try.ntmps56
    go_wp2
    all_goals (go_ret2; first | exact ⟨rfl, rfl⟩ | (exfalso; omega))
  · rw [show numV o = 0 from if_neg hc, show numOk o = false from decide_eq_false hc]
    go_enter Try.func56, Try.ntmps56
    go_wp2
    all_goals (go_ret2; first | exact ⟨rfl, rfl⟩ | (simp at *; omega))

set_option maxHeartbeats 400000 in
theorem Named_any (o : Int) (h : -9223372036854775808 ≤ o) (h' : o ≤ 9223372036854775807) (w : World) :
    Calls Try.prog 87 #[.int .i64 o] w fun e w' => e = .returned (.tuple #[.int .i64 (namedV o), .bool (namedOk o)]) ∧ w = w' := by
  have ha := and_one o
  by_cases hc : o % 2 = 0 ∧ 2 ≤ o ∧ o ≤ 2147483646
  · rw [show namedV o = o / 2 from if_pos hc, show namedOk o = true from decide_eq_true hc]
    go_enter Try.func87, Try.ntmps87
    go_wp2
    all_goals (go_ret2; first | exact ⟨rfl, rfl⟩ | (exfalso; omega))
  · rw [show namedV o = 0 from if_neg hc, show namedOk o = false from decide_eq_false hc]
    go_enter Try.func87, Try.ntmps87
    go_wp2
    all_goals (go_ret2; first | exact ⟨rfl, rfl⟩ | (simp at *; omega))

set_option maxHeartbeats 400000 in
theorem Small_any (o : Int) (h : -9223372036854775808 ≤ o) (h' : o ≤ 9223372036854775807) (w : World) :
    Calls Try.prog 52 #[.int .i64 o] w fun e w' => e = .returned (.tuple #[.int .i64 (smallV o), .int .i64 (smallE o)]) ∧ w = w' := by
  by_cases hc : -1073741824 ≤ o ∧ o ≤ 1073741823
  · rw [show smallV o = 2 * o + 1 from if_pos hc, show smallE o = 0 from if_pos hc]
    obtain ⟨h1, h2⟩ := hc
    go_enter Try.func52, Try.ntmps52
    go_wp2
    all_goals (go_ret2; exact ⟨rfl, rfl⟩)
  · rw [show smallV o = 0 from if_neg hc, show smallE o = 2 from if_neg hc]
    go_enter Try.func52, Try.ntmps52
    go_wp2
    all_goals (go_ret2; first | exact ⟨rfl, rfl⟩ | (simp at *; omega))

end Go.Proofs.Ytjanojignaonfaa
