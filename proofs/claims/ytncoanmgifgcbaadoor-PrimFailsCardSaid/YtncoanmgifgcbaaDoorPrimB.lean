/- Walks: numbers of prim and of its reference. · Walks: prim.number, prim.Arith. -/
import Derived.Test.YtncoanmgifgcbaaDoorProg
import Derived.Test.YtncoanmgifgcbaaDoorMath
import Derived.WalkKit
import Derived.WalkSpells
import Derived.WalkLawsBesides
import Derived.BigQuiet
import Derived.Deep.QuietTactic
import Derived.Lib.Hide
namespace Go.Proofs.YtncoanmgifgcbaaDoor
set_option linter.unusedVariables false
set_option linter.unusedSimpArgs false
open Go.RowKit

/-- THE NUMBER OF A REFERENCE, by the reference. -/
theorem refNumber_eq (o : Int) : (numV o, numOk o) = if o % 2 = 0 ∨ o < -2147483647 ∨ 2147483647 < o then (0, false) else ((o - 1) / 2, true) := by
  unfold numV numOk
  split <;> split <;> simp <;> omega

/-- 'down', as it is written -/
def downC (x y : Int) : Bool := (x.tmod y != 0) && (decide (x.tmod y < 0) != decide (y < 0))
def downQ (x y : Int) : Int := if downC x y = true then x.tdiv y - 1 else x.tdiv y
def downR (x y : Int) : Int := if downC x y = true then x.tmod y + y else x.tmod y

theorem tdiv_bd (x y : Int) (hx : -1073741824 ≤ x ∧ x ≤ 1073741823) : -1073741824 ≤ x.tdiv y ∧ x.tdiv y ≤ 1073741824 := by
  have h : (x.tdiv y).natAbs ≤ x.natAbs := by rw [Int.natAbs_tdiv]; exact Nat.div_le_self _ _
  omega
theorem tmod_bd (x y : Int) (hx : -1073741824 ≤ x ∧ x ≤ 1073741823) : -1073741824 ≤ x.tmod y ∧ x.tmod y ≤ 1073741824 := by
  have h : (x.tmod y).natAbs ≤ x.natAbs := by rw [Int.natAbs_tmod]; exact Nat.mod_le _ _
  omega

set_option maxHeartbeats 400000 in
theorem down_any (x y : Int) (hx : -1073741824 ≤ x ∧ x ≤ 1073741823) (hy : -1073741824 ≤ y ∧ y ≤ 1073741823) (h0 : ¬ y = 0) (w : World) :
    Calls Tryd.prog 95 #[.int .i64 x, .int .i64 y] w fun e w' => e = .returned (.tuple #[.int .i64 (downQ x y), .int .i64 (downR x y)]) ∧ ∃ n, w' = w.drewN n := by
  have b1 := tdiv_bd x y hx
  have b2 := tmod_bd x y hx
  have hw : IntKind.i64.wrap (x.tdiv y) = x.tdiv y := IntWalk.i64_in _ (by omega)
  go_enter Tryd.func95, Tryd.ntmps95
  go_wp2
  go_quiet (fail)
  go_wp2
  all_goals (go_ret2; refine ⟨?_, _, rfl⟩)
  all_goals (simp_all [downQ, downR, downC])

/-- what a comparison answers -/
def tr (b : Bool) : Int := if b = true then 4 else 6
theorem tr_true : tr true = 4 := rfl
theorem tr_false : tr false = 6 := rfl
set_option maxHeartbeats 400000 in
theorem truth_any (b : Bool) (w : World) : Calls Tryd.prog 83 #[.bool b] w fun e w' => e = .returned (.int .i64 (tr b)) ∧ w = w' := by
  cases b
  all_goals
    go_enter Tryd.func83, Tryd.ntmps83
    go_wp2
    go_ret
    exact ⟨rfl, rfl⟩

def compOk (n : Int) : Bool := decide (2 ≤ n ∧ n ≤ 7)
def compV (n x y : Int) : Int :=
  if n = 2 then tr (decide (x < y)) else if n = 3 then tr (decide (y < x)) else if n = 4 then tr (decide (x ≤ y)) else if n = 5 then tr (decide (y ≤ x)) else if n = 6 then tr (x == y) else if n = 7 then tr (x != y) else 0
set_option maxHeartbeats 400000 in
theorem compared_any (n x y : Int) (w : World) :
    Calls Tryd.prog 67 #[.int .i64 n, .int .i64 x, .int .i64 y] w fun e w' => e = .returned (.tuple #[.int .i64 (compV n x y), .bool (compOk n)]) ∧ w = w' := by
  by_cases h2 : n = 2
  · subst h2
    go_enter Tryd.func67, Tryd.ntmps67
    go_wp2_with (go_at_call 83; refine (truth_any _ _).mono ?_; rintro e w' ⟨rfl, rfl⟩)
    go_ret2
    exact ⟨rfl, rfl⟩
  by_cases h3 : n = 3
  · subst h3
    go_enter Tryd.func67, Tryd.ntmps67
    go_wp2_with (go_at_call 83; refine (truth_any _ _).mono ?_; rintro e w' ⟨rfl, rfl⟩)
    go_ret2
    exact ⟨rfl, rfl⟩
  by_cases h4 : n = 4
  · subst h4
    go_enter Tryd.func67, Tryd.ntmps67
    go_wp2_with (go_at_call 83; refine (truth_any _ _).mono ?_; rintro e w' ⟨rfl, rfl⟩)
    go_ret2
    exact ⟨rfl, rfl⟩
  by_cases h5 : n = 5
  · subst h5
    go_enter Tryd.func67, Tryd.ntmps67
    go_wp2_with (go_at_call 83; refine (truth_any _ _).mono ?_; rintro e w' ⟨rfl, rfl⟩)
    go_ret2
    exact ⟨rfl, rfl⟩
  by_cases h6 : n = 6
  · subst h6
    go_enter Tryd.func67, Tryd.ntmps67
    go_wp2_with (go_at_call 83; refine (truth_any _ _).mono ?_; rintro e w' ⟨rfl, rfl⟩)
    go_ret2
    exact ⟨rfl, rfl⟩
  by_cases h7 : n = 7
  · subst h7
    go_enter Tryd.func67, Tryd.ntmps67
    go_wp2_with (go_at_call 83; refine (truth_any _ _).mono ?_; rintro e w' ⟨rfl, rfl⟩)
    go_ret2
    exact ⟨rfl, rfl⟩
  rw [show compV n x y = 0 by simp [compV, *], show compOk n = false by simp [compOk]; omega]
  go_enter Tryd.func67, Tryd.ntmps67
  go_wp2
  go_ret2
  exact ⟨rfl, rfl⟩

def numDiv (n y : Int) : Bool := !(y == 0) && (n == 9 || n == 10 || n == 13)
def numZ (n x y : Int) : Int :=
  if n = 0 then x + y else if n = 1 then x - y else if n = 8 then x * y else if n = 14 then bits .and .i64 x y else if n = 15 then bits .or .i64 x y
  else if numDiv n y = true then (if n = 10 then downR x y else downQ x y) else 0
def numB (n x y : Int) : Bool :=
  if n = 0 ∨ n = 1 ∨ n = 8 ∨ n = 14 ∨ n = 15 then true else if numDiv n y = true then (if n = 9 then downR x y == 0 else true) else false

theorem mul_bd (x y : Int) (hx : -1073741824 ≤ x ∧ x ≤ 1073741823) (hy : -1073741824 ≤ y ∧ y ≤ 1073741823) : -1152921504606846976 ≤ x * y ∧ x * y ≤ 1152921504606846976 := by
  have h : (x * y).natAbs ≤ 1073741824 * 1073741824 := by rw [Int.natAbs_mul]; exact Nat.mul_le_mul (by omega) (by omega)
  omega

set_option maxHeartbeats 400000 in
theorem number_any (n x y : Int) (hx : -1073741824 ≤ x ∧ x ≤ 1073741823) (hy : -1073741824 ≤ y ∧ y ≤ 1073741823) (w : World) :
    Calls Tryd.prog 68 #[.int .i64 n, .int .i64 x, .int .i64 y] w fun e w' => e = .returned (.tuple #[.int .i64 (numZ n x y), .bool (numB n x y)]) ∧ ∃ n, w' = w.drewN n := by
  by_cases h0 : n = 0
  · subst h0
    go_enter Tryd.func68, Tryd.ntmps68
    go_wp2
    go_ret2
    exact ⟨rfl, 0, rfl⟩
  by_cases h1 : n = 1
  · subst h1
    go_enter Tryd.func68, Tryd.ntmps68
    go_wp2
    go_ret2
    exact ⟨rfl, 0, rfl⟩
  by_cases h8 : n = 8
  · subst h8
    have hm := mul_bd x y hx hy
    go_enter Tryd.func68, Tryd.ntmps68
    go_wp2
    go_ret2
    exact ⟨rfl, 0, rfl⟩
  by_cases h14 : n = 14
  · subst h14
    go_enter Tryd.func68, Tryd.ntmps68
    go_wp2
    go_ret2
    exact ⟨rfl, 0, rfl⟩
  by_cases h15 : n = 15
  · subst h15
    go_enter Tryd.func68, Tryd.ntmps68
    go_wp2
    go_ret2
    exact ⟨rfl, 0, rfl⟩
  by_cases hy0 : y = 0
  · subst hy0
    rw [show numZ n x 0 = 0 by simp [numZ, numDiv, *], show numB n x 0 = false by simp [numB, numDiv, *]]
    go_enter Tryd.func68, Tryd.ntmps68
    go_wp2
    go_ret2
    exact ⟨rfl, 0, rfl⟩
  by_cases h9 : n = 9
  · subst h9
    rw [show numZ 9 x y = downQ x y by simp [numZ, numDiv, *], show numB 9 x y = (downR x y == 0) by simp [numB, numDiv, *]]
    go_enter Tryd.func68, Tryd.ntmps68
    go_wp2_with (go_at_call 95; refine (down_any _ _ (by assumption) (by assumption) (by assumption) _).mono ?_; rintro e w' ⟨rfl, nq, rfl⟩)
    go_ret2
    exact ⟨rfl, _, rfl⟩
  by_cases h10 : n = 10
  · subst h10
    rw [show numZ 10 x y = downR x y by simp [numZ, numDiv, *], show numB 10 x y = true by simp [numB, numDiv, *]]
    go_enter Tryd.func68, Tryd.ntmps68
    go_wp2_with (go_at_call 95; refine (down_any _ _ (by assumption) (by assumption) (by assumption) _).mono ?_; rintro e w' ⟨rfl, nq, rfl⟩)
    go_ret2
    exact ⟨rfl, _, rfl⟩
  by_cases h13 : n = 13
  · subst h13
    rw [show numZ 13 x y = downQ x y by simp [numZ, numDiv, *], show numB 13 x y = true by simp [numB, numDiv, *]]
    go_enter Tryd.func68, Tryd.ntmps68
    go_wp2_with (go_at_call 95; refine (down_any _ _ (by assumption) (by assumption) (by assumption) _).mono ?_; rintro e w' ⟨rfl, nq, rfl⟩)
    go_ret2
    exact ⟨rfl, _, rfl⟩
  rw [show numZ n x y = 0 by simp [numZ, numDiv, *], show numB n x y = false by simp [numB, numDiv, *]]
  have e9 : (n != 9) = true := by simp [h9]
  have e10 : (n != 10) = true := by simp [h10]
  have e13 : (n != 13) = true := by simp [h13]
  go_enter Tryd.func68, Tryd.ntmps68
  go_wp2
  go_ret2
  exact ⟨rfl, 0, rfl⟩

/-- the result of prim.Arith: what it tells, and whether -/
def arB (n a b : Int) : Bool := numOk a && numOk b && (compOk n || numB n (numV a) (numV b) && smallOk (numZ n (numV a) (numV b)))
def arV (n a b : Int) : Int := if arB n a b = true then (if compOk n = true then compV n (numV a) (numV b) else 2 * numZ n (numV a) (numV b) + 1) else 0
theorem smallE_eq (z : Int) : smallE z = if smallOk z = true then 0 else 2 := by
  unfold smallE smallOk; split <;> simp [*]
theorem smallV_eq (z : Int) : smallV z = if smallOk z = true then 2 * z + 1 else 0 := by
  unfold smallV smallOk; split <;> simp [*]
theorem downQ_bd (x y : Int) (hx : -1073741824 ≤ x ∧ x ≤ 1073741823) : -1073741825 ≤ downQ x y ∧ downQ x y ≤ 1073741824 := by
  have := tdiv_bd x y hx
  unfold downQ; split <;> omega
theorem downR_bd (x y : Int) (hx : -1073741824 ≤ x ∧ x ≤ 1073741823) (hy : -1073741824 ≤ y ∧ y ≤ 1073741823) : -2147483648 ≤ downR x y ∧ downR x y ≤ 2147483648 := by
  have := tmod_bd x y hx
  unfold downR; split <;> omega
theorem numZ_bd (n x y : Int) (hx : -1073741824 ≤ x ∧ x ≤ 1073741823) (hy : -1073741824 ≤ y ∧ y ≤ 1073741823) : -9223372036854775808 ≤ numZ n x y ∧ numZ n x y ≤ 9223372036854775807 := by
  have h1 := mul_bd x y hx hy
  have h2 := bits_and_bd x y
  have h3 := bits_or_bd x y
  have h4 := downQ_bd x y hx
  have h5 := downR_bd x y hx hy
  unfold numZ
  repeat' split
  all_goals omega

set_option maxHeartbeats 400000 in
theorem Arith_any (n a b : Int) (ha : -9223372036854775808 ≤ a) (ha' : a ≤ 9223372036854775807) (hb : -9223372036854775808 ≤ b) (hb' : b ≤ 9223372036854775807) (w : World) :
    Calls Tryd.prog 44 #[.int .i64 n, .int .i64 a, .int .i64 b] w fun e w' => e = .returned (.tuple #[.int .i64 (arV n a b), .bool (arB n a b)]) ∧ ∃ n, w' = w.drewN n := by
  have hx := numV_bd a
  have hy := numV_bd b
  have hz := numZ_bd n _ _ hx hy
  cases hA : numOk a
  · rw [show arB n a b = false by simp [arB, hA], show arV n a b = 0 by simp [arV, arB, hA]]
    go_enter Tryd.func44, Tryd.ntmps44
    go_wp2_with (go_at_call 35; refine (Number_any _ (by omega) (by omega) _).mono ?_; rintro e w' ⟨rfl, rfl⟩)
    all_goals (go_ret2; exact ⟨rfl, 0, rfl⟩)
  cases hB : numOk b
  · rw [show arB n a b = false by simp [arB, hB], show arV n a b = 0 by simp [arV, arB, hB]]
    go_enter Tryd.func44, Tryd.ntmps44
    go_wp2_with (go_at_call 35; refine (Number_any _ (by omega) (by omega) _).mono ?_; rintro e w' ⟨rfl, rfl⟩)
    all_goals (go_ret2; exact ⟨rfl, 0, rfl⟩)
  have eV : ∀ z, compOk n = true → z = compV n (numV a) (numV b) → arV n a b = z := fun z hc hz => by simp [arV, arB, hA, hB, hc, hz]
  have eB : compOk n = true → arB n a b = true := fun hc => by simp [arB, hA, hB, hc]
  have fB : compOk n = false → arB n a b = (numB n (numV a) (numV b) && smallOk (numZ n (numV a) (numV b))) := fun hc => by simp [arB, hA, hB, hc]
  have fV : compOk n = false → arV n a b = if arB n a b = true then 2 * numZ n (numV a) (numV b) + 1 else 0 := fun hc => by simp [arV, hc]
  have hE := smallE_eq (numZ n (numV a) (numV b))
  have hS := smallV_eq (numZ n (numV a) (numV b))
  cases hC : compOk n
  · rw [fV hC, fB hC]
    clear eV eB fV fB
    cases hN : numB n (numV a) (numV b)
    · rw [show (if (false && smallOk (numZ n (numV a) (numV b))) = true then 2 * numZ n (numV a) (numV b) + 1 else 0) = 0 by simp, Bool.false_and]
      clear hE hS
      go_enter Tryd.func44, Tryd.ntmps44
      go_wp2_with (first
        | (go_at_call 35; refine (Number_any _ (by omega) (by omega) _).mono ?_; rintro e w' ⟨rfl, rfl⟩)
        | (go_at_call 67; refine (compared_any _ _ _ _).mono ?_; rintro e w' ⟨rfl, rfl⟩)
        | (go_at_call 68; refine (number_any _ _ _ (by omega) (by omega) _).mono ?_; rintro e w' ⟨rfl, nq, rfl⟩)
        | (go_at_call 69; refine (Small_any _ (by omega) (by omega) _).mono ?_; rintro e w' ⟨rfl, rfl⟩))
      all_goals (go_ret2; exact ⟨rfl, _, rfl⟩)
    · cases hO : smallOk (numZ n (numV a) (numV b))
      · rw [show (if (true && false) = true then 2 * numZ n (numV a) (numV b) + 1 else 0) = 0 by simp, Bool.and_false]
        rw [hO, if_neg (by decide)] at hE
        clear hS
        go_enter Tryd.func44, Tryd.ntmps44
        go_wp2_with (first
          | (go_at_call 35; refine (Number_any _ (by omega) (by omega) _).mono ?_; rintro e w' ⟨rfl, rfl⟩)
          | (go_at_call 67; refine (compared_any _ _ _ _).mono ?_; rintro e w' ⟨rfl, rfl⟩)
          | (go_at_call 68; refine (number_any _ _ _ (by omega) (by omega) _).mono ?_; rintro e w' ⟨rfl, nq, rfl⟩)
          | (go_at_call 69; refine (Small_any _ (by omega) (by omega) _).mono ?_; rintro e w' ⟨rfl, rfl⟩))
        all_goals (go_ret2; exact ⟨rfl, _, rfl⟩)
      · rw [show (if (true && true) = true then 2 * numZ n (numV a) (numV b) + 1 else 0) = 2 * numZ n (numV a) (numV b) + 1 by simp, Bool.and_true]
        rw [hO, if_pos (by decide)] at hE hS
        go_enter Tryd.func44, Tryd.ntmps44
        go_wp2_with (first
          | (go_at_call 35; refine (Number_any _ (by omega) (by omega) _).mono ?_; rintro e w' ⟨rfl, rfl⟩)
          | (go_at_call 67; refine (compared_any _ _ _ _).mono ?_; rintro e w' ⟨rfl, rfl⟩)
          | (go_at_call 68; refine (number_any _ _ _ (by omega) (by omega) _).mono ?_; rintro e w' ⟨rfl, nq, rfl⟩)
          | (go_at_call 69; refine (Small_any _ (by omega) (by omega) _).mono ?_; rintro e w' ⟨rfl, rfl⟩))
        all_goals (go_ret2; exact ⟨rfl, _, rfl⟩)
  · rw [eV _ hC rfl, eB hC]
    clear eV eB fV fB hE hS
    go_enter Tryd.func44, Tryd.ntmps44
    go_wp2_with (first
      | (go_at_call 35; refine (Number_any _ (by omega) (by omega) _).mono ?_; rintro e w' ⟨rfl, rfl⟩)
      | (go_at_call 67; refine (compared_any _ _ _ _).mono ?_; rintro e w' ⟨rfl, rfl⟩))
    all_goals (go_ret2; exact ⟨rfl, 0, rfl⟩)

end Go.Proofs.YtncoanmgifgcbaaDoor
