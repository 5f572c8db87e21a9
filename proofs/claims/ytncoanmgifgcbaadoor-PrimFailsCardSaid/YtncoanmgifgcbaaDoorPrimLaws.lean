/- Walks: the laws PrimKnown, PrimArith, PrimNumbers. -/
import Derived.Test.YtncoanmgifgcbaaDoorPrimD
namespace Go.Proofs.YtncoanmgifgcbaaDoor
set_option linter.unusedVariables false
set_option linter.unusedSimpArgs false
open Go.RowKit

theorem Tab.drewN {w : World} (h : Tab w) (n : Nat) : Tab (w.drewN n) := h

set_option maxHeartbeats 400000 in
theorem known_law (w : World) (ht : Tab w) : Calls Tryd.prog 19 #[] w fun e w' => e = .returned (.bool true) ∧ Below w.heap.size w w' := by
  have e1 : arV 13 (-13) 5 = -7 := by decide
  have e2 : arB 13 (-13) 5 = true := by decide
  have e3 : arV 10 (-13) 5 = 3 := by decide
  have e4 : arB 10 (-13) 5 = true := by decide
  have e5 : arB 0 2147483647 3 = false := by decide
  have e6 : knV 61 = 2 := by decide
  have e7 : knOk 61 = true := by decide
  go_enter Tryd.func19, Tryd.ntmps19
  go_wp2_with (first | (go_at_call 44; refine (Arith_any _ _ _ (by omega) (by omega) (by omega) (by omega) _).mono ?_; rintro e w' ⟨rfl, nq, rfl⟩) | (go_at_call 23; refine (Known_any _ _ (by exact ht)).mono ?_; rintro e w' ⟨rfl, hb⟩))
  go_ret
  exact ⟨rfl, ⟨hb.os, hb.tape, hb.output, hb.size, hb.block⟩⟩

theorem refOk_small (z : Int) (h : smallOk z = true) : refOk (2 * z + 1) = true := by
  simp [smallOk] at h
  simp [refOk, numOk, namedOk]; omega
theorem arB_ref {n a b : Int} (h : arB n a b = true) : refOk (arV n a b) = true := by
  rw [arV, if_pos h]
  simp only [arB, Bool.and_eq_true, Bool.or_eq_true] at h
  cases hC : compOk n
  · rw [hC] at h
    rw [if_neg (by decide)]
    have h2 : numB n (numV a) (numV b) = true ∧ smallOk (numZ n (numV a) (numV b)) = true := by simpa using h.2
    exact refOk_small _ h2.2
  · rw [if_pos rfl]
    have h7 : n = 2 ∨ n = 3 ∨ n = 4 ∨ n = 5 ∨ n = 6 ∨ n = 7 := by simp [compOk] at hC; omega
    have ht : ∀ t, refOk (tr t) = true := by intro t; cases t <;> decide
    rcases h7 with rfl | rfl | rfl | rfl | rfl | rfl <;> exact ht _
theorem arV_no {n a b : Int} (h : arB n a b = false) : arV n a b = 0 := by
  rw [arV, if_neg (by rw [h]; decide)]
theorem arV_bd (n a b : Int) : -2147483648 ≤ arV n a b ∧ arV n a b ≤ 2147483648 := by
  cases h : arB n a b
  · rw [arV_no h]; omega
  · have h1 := arB_ref h
    simp [refOk, numOk, namedOk] at h1
    omega

end Go.Proofs.YtncoanmgifgcbaaDoor
