/- Walks: the laws PrimKnown, PrimArith, PrimNumbers. -/
import Derived.Test.YtdninandpkgfkaaDoorPrimD
namespace Go.Proofs.YtdninandpkgfkaaDoor
open Go.RowKit

theorem Tab.drewN {w : World} (h : Tab w) (n : Nat) : Tab (w.drewN n) := h

set_option maxHeartbeats 400000 in
theorem known_law (w : World) (ht : Tab w) : Calls Tryd.prog 11 #[] w fun e w' => e = .returned (.bool true) ∧ Below w.heap.size w w' := by
  have e1 : arV 13 (-13) 5 = -7 := by decide
  have e2 : arB 13 (-13) 5 = true := by decide
  have e3 : arV 10 (-13) 5 = 3 := by decide
  have e4 : arB 10 (-13) 5 = true := by decide
  have e5 : arB 0 2147483647 3 = false := by decide
  have e6 : knV 61 = 2 := by decide
  have e7 : knOk 61 = true := by decide
  go_enter Tryd.func11, Tryd.ntmps11
  go_wp2_with (first | (go_at_call 7; refine (Arith_any _ _ _ (by omega) (by omega) (by omega) (by omega) _).mono ?_; rintro e w' ⟨rfl, nq, rfl⟩) | (go_at_call 9; refine (Known_any _ _ (by exact ht)).mono ?_; rintro e w' ⟨rfl, hb⟩))
  go_ret
  exact ⟨rfl, ⟨hb.os, hb.tape, hb.output, hb.size, hb.block⟩⟩

set_option maxHeartbeats 400000 in
theorem PrimKnown_law (n : Int) (w : World) (ht : Tab w) : Calls Tryd.prog 6 #[.int .i64 n] w fun e w' => e = .returned (.bool true) ∧ Below w.heap.size w w' := by
  by_cases hk : 0 ≤ kn n
  · have h1 : knV n = kn n := if_pos hk
    have h2 : knOk n = true := decide_eq_true hk
    go_enter Tryd.func6, Tryd.ntmps6
    go_wp2_with (first | (go_at_call 9; refine (Known_any _ _ ht).mono ?_; rintro e w' ⟨rfl, hb⟩) | (go_at_call 10; refine (refKnown_any _ _).mono ?_; rintro e w' ⟨rfl, rfl⟩) | (go_at_call 11; refine (known_law _ (ht.below hb)).mono ?_; rintro e w' ⟨rfl, hb'⟩))
    all_goals (go_ret; exact ⟨rfl, hb.trans (hb'.mono hb.size)⟩)
  · have h1 : knV n = 0 := if_neg hk
    have h2 : knOk n = false := decide_eq_false hk
    have h3 : kn n < 0 := by omega
    have h4 : decide (0 ≤ kn n) = false := decide_eq_false hk
    clear hk
    go_enter Tryd.func6, Tryd.ntmps6
    go_wp2_with (first | (go_at_call 9; refine (Known_any _ _ ht).mono ?_; rintro e w' ⟨rfl, hb⟩) | (go_at_call 10; refine (refKnown_any _ _).mono ?_; rintro e w' ⟨rfl, rfl⟩) | (go_at_call 11; refine (known_law _ (ht.below hb)).mono ?_; rintro e w' ⟨rfl, hb'⟩))
    all_goals (go_ret; exact ⟨rfl, hb.trans (hb'.mono hb.size)⟩)

theorem refOk_small (z : Int) (h : smallOk z = true) : refOk (2 * z + 1) = true := by
  simp [smallOk] at h
  simp [refOk, numOk, namedOk]; omega
theorem arB_ref {n a b : Int} (h : arB n a b = true) : refOk (arV n a b) = true := by
  rw [arV, if_pos h]
  simp only [arB, Bool.and_eq_true, Bool.or_eq_true] at h
  cases hC : compOk n
  · rw [hC] at h
    rw [if_neg (by decide)]
    have h2 : numB n (numV a) (numV b) = true ∧ smallOk (numZ n (numV a) (numV b)) = true := by simpa using h.2
    exact refOk_small _ h2.2
  · rw [if_pos rfl]
    have h7 : n = 2 ∨ n = 3 ∨ n = 4 ∨ n = 5 ∨ n = 6 ∨ n = 7 := by simp [compOk] at hC; omega
    have ht : ∀ t, refOk (tr t) = true := by intro t; cases t <;> decide
    rcases h7 with rfl | rfl | rfl | rfl | rfl | rfl <;> exact ht _
theorem arV_no {n a b : Int} (h : arB n a b = false) : arV n a b = 0 := by
  rw [arV, if_neg (by rw [h]; decide)]
theorem arV_bd (n a b : Int) : -2147483648 ≤ arV n a b ∧ arV n a b ≤ 2147483648 := by
  cases h : arB n a b
  · rw [arV_no h]; omega
  · have h1 := arB_ref h
    simp [refOk, numOk, namedOk] at h1
    omega

set_option maxHeartbeats 400000 in
theorem PrimArith_law (n a b : Int) (ha : -9223372036854775808 ≤ a) (ha' : a ≤ 9223372036854775807) (hb : -9223372036854775808 ≤ b) (hb' : b ≤ 9223372036854775807) (w : World) (ht : Tab w) :
    Calls Tryd.prog 5 #[.int .i64 n, .int .i64 a, .int .i64 b] w fun e w' => e = .returned (.bool true) ∧ Below w.heap.size w w' := by
  have hbd := arV_bd n a b
  cases hB : arB n a b
  · have h1 := arV_no hB
    go_enter Tryd.func5, Tryd.ntmps5
    go_wp2_with (first | (go_at_call 7; refine (Arith_any _ _ _ (by omega) (by omega) (by omega) (by omega) _).mono ?_; rintro e w' ⟨rfl, nq, rfl⟩) | (go_at_call 8; refine (refArith_any _ _ _ (by omega) (by omega) (by omega) (by omega) _).mono ?_; rintro e w' ⟨rfl, nq', rfl⟩) | (go_at_call 11; refine (known_law _ (by exact ht)).mono ?_; rintro e w' ⟨rfl, hb'⟩))
    all_goals (go_ret; exact ⟨rfl, ⟨hb'.os, hb'.tape, hb'.output, hb'.size, hb'.block⟩⟩)
  · have h1 := arB_ref hB
    go_enter Tryd.func5, Tryd.ntmps5
    go_wp2_with (first | (go_at_call 7; refine (Arith_any _ _ _ (by omega) (by omega) (by omega) (by omega) _).mono ?_; rintro e w' ⟨rfl, nq, rfl⟩) | (go_at_call 8; refine (refArith_any _ _ _ (by omega) (by omega) (by omega) (by omega) _).mono ?_; rintro e w' ⟨rfl, nq', rfl⟩) | (go_at_call 11; refine (known_law _ (by exact ht)).mono ?_; rintro e w' ⟨rfl, hb'⟩) | (go_at_call 12; refine (refRef_any _ (by omega) (by omega) _).mono ?_; rintro e w' ⟨rfl, rfl⟩))
    all_goals (go_ret; exact ⟨rfl, ⟨hb'.os, hb'.tape, hb'.output, hb'.size, hb'.block⟩⟩)

set_option maxHeartbeats 400000 in
theorem PrimNumbers_law (n a b : Int) (ha : -9223372036854775808 ≤ a) (ha' : a ≤ 9223372036854775807) (hb : -9223372036854775808 ≤ b) (hb' : b ≤ 9223372036854775807) (w : World) (ht : Tab w) :
    Calls Tryd.prog 3 #[.int .i64 n, .int .i64 a, .int .i64 b] w fun e w' => e = .returned (.bool true) ∧ Below w.heap.size w w' := by
  have key : ∀ h0 : arB n a b = true ∨ (arB n a b = false ∧ arV n a b = 0), Calls Tryd.prog 3 #[.int .i64 n, .int .i64 a, .int .i64 b] w fun e w' => e = .returned (.bool true) ∧ Below w.heap.size w w' := by
    intro h0
    by_cases hk : 0 ≤ kn n
    · have h1 : knV n = kn n := if_pos hk
      have h2 : knOk n = true := decide_eq_true hk
      rcases h0 with h0 | ⟨h0, h0'⟩
      all_goals
        go_enter Tryd.func3, Tryd.ntmps3
        go_wp2_with (first | (go_at_call 7; refine (Arith_any _ _ _ (by omega) (by omega) (by omega) (by omega) _).mono ?_; rintro e w' ⟨rfl, nq, rfl⟩) | (go_at_call 8; refine (refArith_any _ _ _ (by omega) (by omega) (by omega) (by omega) _).mono ?_; rintro e w' ⟨rfl, nq', rfl⟩) | (go_at_call 9; refine (Known_any _ _ (by exact ht)).mono ?_; rintro e w' ⟨rfl, hb⟩) | (go_at_call 10; refine (refKnown_any _ _).mono ?_; rintro e w' ⟨rfl, rfl⟩) | (go_at_call 11; refine (known_law _ (Tab.below (w := w.drewN _) (by exact ht) hb)).mono ?_; rintro e w' ⟨rfl, hb'⟩))
        all_goals (go_ret; have hc := hb.trans (hb'.mono hb.size); exact ⟨rfl, ⟨hc.os, hc.tape, hc.output, hc.size, hc.block⟩⟩)
    · have h1 : knV n = 0 := if_neg hk
      have h2 : knOk n = false := decide_eq_false hk
      have h3 : kn n < 0 := by omega
      have h4 : decide (0 ≤ kn n) = false := decide_eq_false hk
      clear hk
      rcases h0 with h0 | ⟨h0, h0'⟩
      all_goals
        go_enter Tryd.func3, Tryd.ntmps3
        go_wp2_with (first | (go_at_call 7; refine (Arith_any _ _ _ (by omega) (by omega) (by omega) (by omega) _).mono ?_; rintro e w' ⟨rfl, nq, rfl⟩) | (go_at_call 8; refine (refArith_any _ _ _ (by omega) (by omega) (by omega) (by omega) _).mono ?_; rintro e w' ⟨rfl, nq', rfl⟩) | (go_at_call 9; refine (Known_any _ _ (by exact ht)).mono ?_; rintro e w' ⟨rfl, hb⟩) | (go_at_call 10; refine (refKnown_any _ _).mono ?_; rintro e w' ⟨rfl, rfl⟩) | (go_at_call 11; refine (known_law _ (Tab.below (w := w.drewN _) (by exact ht) hb)).mono ?_; rintro e w' ⟨rfl, hb'⟩))
        all_goals (go_ret; have hc := hb.trans (hb'.mono hb.size); exact ⟨rfl, ⟨hc.os, hc.tape, hc.output, hc.size, hc.block⟩⟩)
  cases h : arB n a b
  · exact key (.inr ⟨h, arV_no h⟩)
  · exact key (.inl h)

end Go.Proofs.YtdninandpkgfkaaDoor
