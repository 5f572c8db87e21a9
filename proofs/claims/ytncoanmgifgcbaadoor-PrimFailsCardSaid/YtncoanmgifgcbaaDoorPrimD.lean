/- Walks: the reference's Arith; the reference's Known; the reference's Ref. -/
import Derived.Test.YtncoanmgifgcbaaDoorPrimC
import Derived.Test.YtncoanmgifgcbaaDoorPrimK
namespace Go.Proofs.YtncoanmgifgcbaaDoor
set_option linter.unusedVariables false
set_option linter.unusedSimpArgs false
open Go.RowKit

theorem ar_comp {n a b : Int} (hA : numOk a = true) (hB : numOk b = true) (hC : compOk n = true) : arV n a b = compV n (numV a) (numV b) ∧ arB n a b = true := by
  simp [arV, arB, hA, hB, hC]
theorem ar_num {n a b : Int} (hA : numOk a = true) (hB : numOk b = true) (hC : compOk n = false) (hN : numB n (numV a) (numV b) = true) :
    arV n a b = smallV (numZ n (numV a) (numV b)) ∧ arB n a b = (smallE (numZ n (numV a) (numV b)) == 0) := by
  rw [smallV_eq, smallE_eq]
  cases h : smallOk (numZ n (numV a) (numV b)) <;> simp [arV, arB, hA, hB, hC, hN, h]
theorem ar_no {n a b : Int} (hC : compOk n = false) (hN : numB n (numV a) (numV b) = false) : arV n a b = 0 ∧ arB n a b = false := by
  simp [arV, arB, hC, hN]
theorem num_two {a : Int} (hA : numOk a = true) : a = 2 * numV a + 1 := by
  simp [numOk] at hA
  unfold numV
  rw [if_pos hA]; omega
theorem num_eq {a b : Int} (hA : numOk a = true) (hB : numOk b = true) : (numV a == numV b) = (a == b) := by
  have h1 := num_two hA
  have h2 := num_two hB
  rw [Bool.eq_iff_iff]; simp; omega

set_option maxHeartbeats 1000000 in
theorem refRef_any (o : Int) (h : -9223372036854775808 ≤ o) (h' : o ≤ 9223372036854775807) (w : World) : Calls Tryd.prog 18 #[.int .i64 o] w fun e w' => e = .returned (.bool (refOk o)) ∧ w = w' := by
  by_cases h1 : o % 2 = 1 ∧ -2147483647 ≤ o ∧ o ≤ 2147483647
  · rw [show refOk o = true by simp [refOk, numOk, namedOk]; omega]
    have q : (o.tmod 2 != 0) = true := by simp [tmod_two]; split <;> omega
    obtain ⟨h1, h2, h3⟩ := h1
    go_enter Tryd.func18, Tryd.ntmps18
    go_wp2
    go_ret
    exact ⟨rfl, rfl⟩
  by_cases h2 : o % 2 = 0 ∧ 0 < o ∧ o < 2147483648
  · rw [show refOk o = true by simp [refOk, numOk, namedOk]; omega]
    have q : (o.tmod 2 != 0) = false := by simp [tmod_two]; omega
    have q' : (o.tmod 2 == 0) = true := by simp [tmod_two]; omega
    obtain ⟨h2, h3, h4⟩ := h2
    clear h1
    go_enter Tryd.func18, Tryd.ntmps18
    go_wp2
    go_ret
    exact ⟨rfl, rfl⟩
  rw [show refOk o = false by simp [refOk, numOk, namedOk]; omega]
  have q : (o.tmod 2 != 0) = decide (o % 2 = 1) := by rw [Bool.eq_iff_iff]; simp [tmod_two]; split <;> omega
  have q' : (o.tmod 2 == 0) = decide (o % 2 = 0) := by rw [Bool.eq_iff_iff]; simp [tmod_two]; split <;> omega
  go_enter Tryd.func18, Tryd.ntmps18
  go_wp2
  all_goals go_ret
  all_goals first | exact ⟨rfl, rfl⟩ | (refine ⟨?_, rfl⟩; simp at *; omega)

end Go.Proofs.YtncoanmgifgcbaaDoor
