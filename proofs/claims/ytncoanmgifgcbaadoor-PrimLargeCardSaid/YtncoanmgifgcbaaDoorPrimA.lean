/- Walks: numbers of prim and of its reference. -/
import Derived.Test.YtncoanmgifgcbaaDoorProg
import Derived.Test.YtncoanmgifgcbaaDoorMath
import Derived.WalkKit
import Derived.WalkSpells
import Derived.WalkLawsBesides
import Derived.BigQuiet
import Derived.Deep.QuietTactic
import Derived.Lib.Hide
namespace Go.Proofs.YtncoanmgifgcbaaDoor
set_option linter.unusedVariables false
set_option linter.unusedSimpArgs false
open Go.RowKit

/-- THE NUMBER OF A REFERENCE, by the reference. -/
theorem refNumber_eq (o : Int) : (numV o, numOk o) = if o % 2 = 0 ∨ o < -2147483647 ∨ 2147483647 < o then (0, false) else ((o - 1) / 2, true) := by
  unfold numV numOk
  split <;> split <;> simp <;> omega

/-- 'down', as it is written -/
def downC (x y : Int) : Bool := (x.tmod y != 0) && (decide (x.tmod y < 0) != decide (y < 0))
def downQ (x y : Int) : Int := if downC x y = true then x.tdiv y - 1 else x.tdiv y
def downR (x y : Int) : Int := if downC x y = true then x.tmod y + y else x.tmod y

theorem tdiv_bd (x y : Int) (hx : -1073741824 ≤ x ∧ x ≤ 1073741823) : -1073741824 ≤ x.tdiv y ∧ x.tdiv y ≤ 1073741824 := by
  have h : (x.tdiv y).natAbs ≤ x.natAbs := by rw [Int.natAbs_tdiv]; exact Nat.div_le_self _ _
  omega
theorem tmod_bd (x y : Int) (hx : -1073741824 ≤ x ∧ x ≤ 1073741823) : -1073741824 ≤ x.tmod y ∧ x.tmod y ≤ 1073741824 := by
  have h : (x.tmod y).natAbs ≤ x.natAbs := by rw [Int.natAbs_tmod]; exact Nat.mod_le _ _
  omega

set_option maxHeartbeats 400000 in
theorem down_any (x y : Int) (hx : -1073741824 ≤ x ∧ x ≤ 1073741823) (hy : -1073741824 ≤ y ∧ y ≤ 1073741823) (h0 : ¬ y = 0) (w : World) :
    Calls Tryd.prog 95 #[.int .i64 x, .int .i64 y] w fun e w' => e = .returned (.tuple #[.int .i64 (downQ x y), .int .i64 (downR x y)]) ∧ ∃ n, w' = w.drewN n := by
  have b1 := tdiv_bd x y hx
  have b2 := tmod_bd x y hx
  have hw : IntKind.i64.wrap (x.tdiv y) = x.tdiv y := IntWalk.i64_in _ (by omega)
  go_enter Tryd.func95, Tryd.ntmps95
  go_wp2
  go_quiet (fail)
  go_wp2
  all_goals (go_ret2; refine ⟨?_, _, rfl⟩)
  all_goals (simp_all [downQ, downR, downC])

/-- what a comparison answers -/
def tr (b : Bool) : Int := if b = true then 4 else 6
theorem tr_true : tr true = 4 := rfl
theorem tr_false : tr false = 6 := rfl
set_option maxHeartbeats 400000 in
theorem truth_any (b : Bool) (w : World) : Calls Tryd.prog 83 #[.bool b] w fun e w' => e = .returned (.int .i64 (tr b)) ∧ w = w' := by
  cases b
  all_goals
    go_enter Tryd.func83, Tryd.ntmps83
    go_wp2
    go_ret
    exact ⟨rfl, rfl⟩

def compOk (n : Int) : Bool := decide (2 ≤ n ∧ n ≤ 7)
def compV (n x y : Int) : Int :=
  if n = 2 then tr (decide (x < y)) else if n = 3 then tr (decide (y < x)) else if n = 4 then tr (decide (x ≤ y)) else if n = 5 then tr (decide (y ≤ x)) else if n = 6 then tr (x == y) else if n = 7 then tr (x != y) else 0
set_option maxHeartbeats 400000 in
theorem compared_any (n x y : Int) (w : World) :
    Calls Tryd.prog 67 #[.int .i64 n, .int .i64 x, .int .i64 y] w fun e w' => e = .returned (.tuple #[.int .i64 (compV n x y), .bool (compOk n)]) ∧ w = w' := by
  by_cases h2 : n = 2
  · subst h2
    go_enter Tryd.func67, Tryd.ntmps67
    go_wp2_with (go_at_call 83; refine (truth_any _ _).mono ?_; rintro e w' ⟨rfl, rfl⟩)
    go_ret2
    exact ⟨rfl, rfl⟩
  by_cases h3 : n = 3
  · subst h3
    go_enter Tryd.func67, Tryd.ntmps67
    go_wp2_with (go_at_call 83; refine (truth_any _ _).mono ?_; rintro e w' ⟨rfl, rfl⟩)
    go_ret2
    exact ⟨rfl, rfl⟩
  by_cases h4 : n = 4
  · subst h4
    go_enter Tryd.func67, Tryd.ntmps67
    go_wp2_with (go_at_call 83; refine (truth_any _ _).mono ?_; rintro e w' ⟨rfl, rfl⟩)
    go_ret2
    exact ⟨rfl, rfl⟩
  by_cases h5 : n = 5
  · subst h5
    go_enter Tryd.func67, Tryd.ntmps67
    go_wp2_with (go_at_call 83; refine (truth_any _ _).mono ?_; rintro e w' ⟨rfl, rfl⟩)
    go_ret2
    exact ⟨rfl, rfl⟩
  by_cases h6 : n = 6
  · subst h6
    go_enter Tryd.func67, Tryd.ntmps67
    go_wp2_with (go_at_call 83; refine (truth_any _ _).mono ?_; rintro e w' ⟨rfl, rfl⟩)
    go_ret2
    exact ⟨rfl, rfl⟩
  by_cases h7 : n = 7
  · subst h7
    go_enter Tryd.func67, Tryd.ntmps67
    go_wp2_with (go_at_call 83; refine (truth_any _ _).mono ?_; rintro e w' ⟨rfl, rfl⟩)
    go_ret2
    exact ⟨rfl, rfl⟩
  rw [show compV n x y = 0 by simp [compV, *], show compOk n = false by simp [compOk]; omega]
  go_enter Tryd.func67, Tryd.ntmps67
  go_wp2
  go_ret2
  exact ⟨rfl, rfl⟩

end Go.Proofs.YtncoanmgifgcbaaDoor
