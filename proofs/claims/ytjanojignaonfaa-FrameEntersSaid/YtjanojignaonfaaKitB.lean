/- Methods over a flat memory: right, Header, Read (package kit); the document's header. -/
import Derived.Test.YtjanojignaonfaaKitA
namespace Go.Proofs.Ytjanojignaonfaa
set_option linter.unusedVariables false
set_option linter.unusedSimpArgs false
open Go.RowKit

def rightB (a t p : Int) : Bool := decide (0 ≤ a) && decide (a < 16) && decide (a ≤ t) && decide (t ≤ 20) && decide (0 ≤ p) && decide (p < 1024)
def headV (a t p : Int) : Int := if rightB a t p = true then 2 * (a + 16 * t + 512 * p) + 1 else 0
def headE (a t p : Int) : Int := if rightB a t p = true then 0 else 2

set_option maxRecDepth 100000 in
set_option maxHeartbeats 1000000 in
theorem right_any (a t p c l : Int) (w : World) : Calls Try.prog 51 #[.agg #[.int .i64 a, .int .i64 t, .int .i64 p, .int .i64 c, .int .i64 l]] w fun e w' => e = .returned (.bool (rightB a t p)) ∧ Chg No w w' := by
  unfold rightB
  cases h1 : decide (0 ≤ a)
  · simp only [Bool.false_and]
    go_enter Try.func51, Try.ntmps51
    go_wp2_with fail
    go_ret
    exact ⟨rfl, (by repeat (with_reducible first | exact Chg.refl _ _ | refine Chg.drew ?_ | refine Chg.alloc ?_ _))⟩
  cases h2 : decide (a < 16)
  · simp only [Bool.false_and, Bool.and_false]
    go_enter Try.func51, Try.ntmps51
    go_wp2_with fail
    go_ret
    exact ⟨rfl, (by repeat (with_reducible first | exact Chg.refl _ _ | refine Chg.drew ?_ | refine Chg.alloc ?_ _))⟩
  cases h3 : decide (a ≤ t)
  · simp only [Bool.false_and, Bool.and_false]
    go_enter Try.func51, Try.ntmps51
    go_wp2_with fail
    go_ret
    exact ⟨rfl, (by repeat (with_reducible first | exact Chg.refl _ _ | refine Chg.drew ?_ | refine Chg.alloc ?_ _))⟩
  cases h4 : decide (t ≤ 20)
  · simp only [Bool.false_and, Bool.and_false]
    go_enter Try.func51, Try.ntmps51
    go_wp2_with fail
    go_ret
    exact ⟨rfl, (by repeat (with_reducible first | exact Chg.refl _ _ | refine Chg.drew ?_ | refine Chg.alloc ?_ _))⟩
  cases h5 : decide (0 ≤ p)
  · simp only [Bool.false_and, Bool.and_false]
    go_enter Try.func51, Try.ntmps51
    go_wp2_with fail
    go_ret
    exact ⟨rfl, (by repeat (with_reducible first | exact Chg.refl _ _ | refine Chg.drew ?_ | refine Chg.alloc ?_ _))⟩
  cases h6 : decide (p < 1024)
  · simp only [Bool.and_false]
    go_enter Try.func51, Try.ntmps51
    go_wp2_with fail
    go_ret
    exact ⟨rfl, (by repeat (with_reducible first | exact Chg.refl _ _ | refine Chg.drew ?_ | refine Chg.alloc ?_ _))⟩
  simp only [Bool.true_and]
  go_enter Try.func51, Try.ntmps51
  go_wp2_with fail
  go_ret
  exact ⟨rfl, (by repeat (with_reducible first | exact Chg.refl _ _ | refine Chg.drew ?_ | refine Chg.alloc ?_ _))⟩

set_option maxRecDepth 100000 in
set_option maxHeartbeats 1000000 in
theorem Header_any (a t p c l : Int) (w : World) : Calls Try.prog 13 #[.agg #[.int .i64 a, .int .i64 t, .int .i64 p, .int .i64 c, .int .i64 l]] w fun e w' => e = .returned (.tuple #[.int .i64 (headV a t p), .int .i64 (headE a t p)]) ∧ Chg No w w' := by
  have HR := fun w => right_any a t p c l w
  cases hr : rightB a t p
  · have e1 : headV a t p = 0 := by simp [headV, hr]
    have e2 : headE a t p = 2 := by simp [headE, hr]
    rw [hr] at HR
    rw [e1, e2]
    go_enter Try.func13, Try.ntmps13
    go_wp2_with (go_at_call 51; refine (HR _).mono ?_; rintro e w1 ⟨rfl, c1⟩)
    go_ret2
    exact ⟨rfl, ((Chg.refl _ _).alloc _).trans c1⟩
  · have e1 : headV a t p = 2 * (a + 16 * t + 512 * p) + 1 := by simp [headV, hr]
    have e2 : headE a t p = 0 := by simp [headE, hr]
    have hb : 0 ≤ a ∧ a < 16 ∧ a ≤ t ∧ t ≤ 20 ∧ 0 ≤ p ∧ p < 1024 := by
      unfold rightB at hr
      simp only [Bool.and_eq_true, decide_eq_true_eq] at hr
      omega
    have o1 : bits .or .i64 a (t * 16) = a + t * 16 := or_add a t 4 (by decide) (by omega) (by omega) (by omega) (by omega)
    have o2 : bits .or .i64 (a + t * 16) (p * 512) = a + t * 16 + p * 512 := or_add (a + t * 16) p 9 (by decide) (by omega) (by omega) (by omega) (by omega)
    have s1 : smallV (a + t * 16 + p * 512) = 2 * (a + 16 * t + 512 * p) + 1 := by unfold smallV; rw [if_pos (by omega)]; omega
    have s2 : smallE (a + t * 16 + p * 512) = 0 := by unfold smallE; rw [if_pos (by omega)]
    have HS := fun w => Small_any (a + t * 16 + p * 512) (by omega) (by omega) w
    rw [s1, s2] at HS
    rw [hr] at HR
    rw [e1, e2]
    clear e1 e2 hr s1 s2
    go_enter Try.func13, Try.ntmps13
    go_wp2_with (first
      | (go_at_call 51; refine (HR _).mono ?_; rintro e w1 ⟨rfl, c1⟩; have r1 := (Row.new w 23 #[.int .i64 a, .int .i64 t, .int .i64 p, .int .i64 c, .int .i64 l]).keep c1 (fun f => f); have x0 : w1.cell? ⟨w.heap.size, 0, none⟩ = some (.int .i64 a) := r1.cell 0; have x1 : w1.cell? ⟨w.heap.size, 1, none⟩ = some (.int .i64 t) := r1.cell 1; have x2 : w1.cell? ⟨w.heap.size, 2, none⟩ = some (.int .i64 p) := r1.cell 2)
      | (go_at_call 52; refine (HS _).mono ?_; rintro e w' ⟨rfl, rfl⟩))
    go_ret2
    exact ⟨rfl, ((Chg.refl _ _).alloc _).trans c1⟩

set_option maxRecDepth 100000 in
set_option maxHeartbeats 1000000 in
theorem Header14_any (a t p c l : Int) (w : World) : Calls Try.prog 14 #[.agg #[.int .i64 a, .int .i64 t, .int .i64 p, .int .i64 c, .int .i64 l]] w fun e w' => e = .returned (.tuple #[.int .i64 (headV a t p), .int .i64 (headE a t p)]) ∧ Chg No w w' := by
  by_cases hr : rightB a t p = true
  · have e1 : headV a t p = 2 * (a + 16 * t + 512 * p) + 1 := by simp [headV, hr]
    have e2 : headE a t p = 0 := by simp [headE, hr]
    have hb : 0 ≤ a ∧ a < 16 ∧ a ≤ t ∧ t ≤ 20 ∧ 0 ≤ p ∧ p < 1024 := by
      unfold rightB at hr
      simp only [Bool.and_eq_true, decide_eq_true_eq] at hr
      omega
    have t1 : decide (a < 0) = false := decide_eq_false (by omega)
    have t2 : decide (15 < a) = false := decide_eq_false (by omega)
    have t3 : decide (t < a) = false := decide_eq_false (by omega)
    have t4 : decide (20 < t) = false := decide_eq_false (by omega)
    have t5 : decide (p < 0) = false := decide_eq_false (by omega)
    have t6 : decide (1023 < p) = false := decide_eq_false (by omega)
    have w1 : IntKind.i64.wrap (16 * t) = 16 * t := IntWalk.i64_in _ (by omega)
    have w2 : IntKind.i64.wrap (a + 16 * t) = a + 16 * t := IntWalk.i64_in _ (by omega)
    have w3 : IntKind.i64.wrap (512 * p) = 512 * p := IntWalk.i64_in _ (by omega)
    have w4 : IntKind.i64.wrap (a + 16 * t + 512 * p) = a + 16 * t + 512 * p := IntWalk.i64_in _ (by omega)
    have w5 : IntKind.i64.wrap (2 * (a + 16 * t + 512 * p)) = 2 * (a + 16 * t + 512 * p) := IntWalk.i64_in _ (by omega)
    have w6 : IntKind.i64.wrap (2 * (a + 16 * t + 512 * p) + 1) = 2 * (a + 16 * t + 512 * p) + 1 := IntWalk.i64_in _ (by omega)
    rw [e1, e2]
    clear e1 e2 hr hb
    go_enter Try.func14, Try.ntmps14
    go_wp2_with fail
    go_ret2
    exact ⟨rfl, (by repeat (with_reducible first | exact Chg.refl _ _ | refine Chg.drew ?_ | refine Chg.alloc ?_ _))⟩
  · have e1 : headV a t p = 0 := by simp [headV, hr]
    have e2 : headE a t p = 2 := by simp [headE, hr]
    rw [e1, e2]
    have hr' : ¬ (0 ≤ a ∧ a < 16 ∧ a ≤ t ∧ t ≤ 20 ∧ 0 ≤ p ∧ p < 1024) := fun h => hr (by
      unfold rightB
      simp only [Bool.and_eq_true, decide_eq_true_eq]
      omega)
    clear e1 e2 hr
    cases t1 : decide (a < 0)
    · cases t2 : decide (15 < a)
      · cases t3 : decide (t < a)
        · cases t4 : decide (20 < t)
          · cases t5 : decide (p < 0)
            · have t6 : decide (1023 < p) = true := by
                simp at t1 t2 t3 t4 t5
                exact decide_eq_true (by omega)
              clear hr'
              go_enter Try.func14, Try.ntmps14
              go_wp2_with fail
              go_ret2
              exact ⟨rfl, (by repeat (with_reducible first | exact Chg.refl _ _ | refine Chg.drew ?_ | refine Chg.alloc ?_ _))⟩
            · clear hr'
              go_enter Try.func14, Try.ntmps14
              go_wp2_with fail
              go_ret2
              exact ⟨rfl, (by repeat (with_reducible first | exact Chg.refl _ _ | refine Chg.drew ?_ | refine Chg.alloc ?_ _))⟩
          · clear hr'
            go_enter Try.func14, Try.ntmps14
            go_wp2_with fail
            go_ret2
            exact ⟨rfl, (by repeat (with_reducible first | exact Chg.refl _ _ | refine Chg.drew ?_ | refine Chg.alloc ?_ _))⟩
        · clear hr'
          go_enter Try.func14, Try.ntmps14
          go_wp2_with fail
          go_ret2
          exact ⟨rfl, (by repeat (with_reducible first | exact Chg.refl _ _ | refine Chg.drew ?_ | refine Chg.alloc ?_ _))⟩
      · clear hr'
        go_enter Try.func14, Try.ntmps14
        go_wp2_with fail
        go_ret2
        exact ⟨rfl, (by repeat (with_reducible first | exact Chg.refl _ _ | refine Chg.drew ?_ | refine Chg.alloc ?_ _))⟩
    · clear hr'
      go_enter Try.func14, Try.ntmps14
      go_wp2_with fail
      go_ret2
      exact ⟨rfl, (by repeat (with_reducible first | exact Chg.refl _ _ | refine Chg.drew ?_ | refine Chg.alloc ?_ _))⟩

end Go.Proofs.Ytjanojignaonfaa
