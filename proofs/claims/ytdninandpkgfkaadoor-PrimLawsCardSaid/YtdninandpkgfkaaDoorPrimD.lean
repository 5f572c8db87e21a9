/- Walks: the reference's Arith; the reference's Known; the reference's Ref. -/
import Derived.Test.YtdninandpkgfkaaDoorPrimC
import Derived.Test.YtdninandpkgfkaaDoorPrimK
namespace Go.Proofs.YtdninandpkgfkaaDoor
open Go.RowKit

theorem ar_comp {n a b : Int} (hA : numOk a = true) (hB : numOk b = true) (hC : compOk n = true) : arV n a b = compV n (numV a) (numV b) ∧ arB n a b = true := by
  simp [arV, arB, hA, hB, hC]
theorem ar_num {n a b : Int} (hA : numOk a = true) (hB : numOk b = true) (hC : compOk n = false) (hN : numB n (numV a) (numV b) = true) :
    arV n a b = smallV (numZ n (numV a) (numV b)) ∧ arB n a b = (smallE (numZ n (numV a) (numV b)) == 0) := by
  rw [smallV_eq, smallE_eq]
  cases h : smallOk (numZ n (numV a) (numV b)) <;> simp [arV, arB, hA, hB, hC, hN, h]
theorem ar_no {n a b : Int} (hC : compOk n = false) (hN : numB n (numV a) (numV b) = false) : arV n a b = 0 ∧ arB n a b = false := by
  simp [arV, arB, hC, hN]
theorem num_two {a : Int} (hA : numOk a = true) : a = 2 * numV a + 1 := by
  simp [numOk] at hA
  unfold numV
  rw [if_pos hA]; omega
theorem num_eq {a b : Int} (hA : numOk a = true) (hB : numOk b = true) : (numV a == numV b) = (a == b) := by
  have h1 := num_two hA
  have h2 := num_two hB
  rw [Bool.eq_iff_iff]; simp; omega

set_option maxHeartbeats 1000000 in
theorem refArith_any (n a b : Int) (ha : -9223372036854775808 ≤ a) (ha' : a ≤ 9223372036854775807) (hb : -9223372036854775808 ≤ b) (hb' : b ≤ 9223372036854775807) (w : World) :
    Calls Tryd.prog 8 #[.int .i64 n, .int .i64 a, .int .i64 b] w fun e w' => e = .returned (.tuple #[.int .i64 (arV n a b), .bool (arB n a b)]) ∧ ∃ n, w' = w.drewN n := by
  have hx := numV_bd a
  have hy := numV_bd b
  have hz := numZ_bd n _ _ hx hy
  cases hA : numOk a
  · rw [show arB n a b = false by simp [arB, hA], show arV n a b = 0 by simp [arV, arB, hA]]
    go_enter Tryd.func8, Tryd.ntmps8
    go_wp2_with (go_at_call 17; refine (refNumber_any _ (by omega) (by omega) _).mono ?_; rintro e w' ⟨rfl, rfl⟩)
    all_goals (go_ret2; exact ⟨rfl, 0, rfl⟩)
  cases hB : numOk b
  · rw [show arB n a b = false by simp [arB, hB], show arV n a b = 0 by simp [arV, arB, hB]]
    go_enter Tryd.func8, Tryd.ntmps8
    go_wp2_with (go_at_call 17; refine (refNumber_any _ (by omega) (by omega) _).mono ?_; rintro e w' ⟨rfl, rfl⟩)
    all_goals (go_ret2; exact ⟨rfl, 0, rfl⟩)
  by_cases hC : compOk n = true
  · have hab := num_eq hA hB
    have hab' : (numV a != numV b) = (a != b) := by simp [bne, hab]
    obtain ⟨e1, e2⟩ := ar_comp hA hB hC
    rw [e1, e2]
    clear e1 e2 hz
    have h7 : n = 2 ∨ n = 3 ∨ n = 4 ∨ n = 5 ∨ n = 6 ∨ n = 7 := by simp [compOk] at hC; omega
    clear hC
    rcases h7 with rfl | rfl | rfl | rfl | rfl | rfl
    · rw [show compV 2 (numV a) (numV b) = tr (decide (numV a < numV b)) from rfl]
      clear hab hab'
      go_enter Tryd.func8, Tryd.ntmps8
      go_wp2_with (first | (go_at_call 17; refine (refNumber_any _ (by omega) (by omega) _).mono ?_; rintro e w' ⟨rfl, rfl⟩) | (go_at_call 18; refine (refIs_any _ _).mono ?_; rintro e w' ⟨rfl, rfl⟩))
      go_ret2
      exact ⟨rfl, 0, rfl⟩
    · rw [show compV 3 (numV a) (numV b) = tr (decide (numV b < numV a)) from rfl]
      clear hab hab'
      go_enter Tryd.func8, Tryd.ntmps8
      go_wp2_with (first | (go_at_call 17; refine (refNumber_any _ (by omega) (by omega) _).mono ?_; rintro e w' ⟨rfl, rfl⟩) | (go_at_call 18; refine (refIs_any _ _).mono ?_; rintro e w' ⟨rfl, rfl⟩))
      go_ret2
      exact ⟨rfl, 0, rfl⟩
    · rw [show compV 4 (numV a) (numV b) = tr (decide (numV a ≤ numV b)) from rfl]
      clear hab hab'
      go_enter Tryd.func8, Tryd.ntmps8
      go_wp2_with (first | (go_at_call 17; refine (refNumber_any _ (by omega) (by omega) _).mono ?_; rintro e w' ⟨rfl, rfl⟩) | (go_at_call 18; refine (refIs_any _ _).mono ?_; rintro e w' ⟨rfl, rfl⟩))
      go_ret2
      exact ⟨ret_ib (congrArg tr (by rw [Bool.eq_iff_iff]; simp)) rfl, 0, rfl⟩
    · rw [show compV 5 (numV a) (numV b) = tr (decide (numV b ≤ numV a)) from rfl]
      clear hab hab'
      go_enter Tryd.func8, Tryd.ntmps8
      go_wp2_with (first | (go_at_call 17; refine (refNumber_any _ (by omega) (by omega) _).mono ?_; rintro e w' ⟨rfl, rfl⟩) | (go_at_call 18; refine (refIs_any _ _).mono ?_; rintro e w' ⟨rfl, rfl⟩))
      go_ret2
      exact ⟨ret_ib (congrArg tr (by rw [Bool.eq_iff_iff]; simp)) rfl, 0, rfl⟩
    · rw [show compV 6 (numV a) (numV b) = tr (a == b) from congrArg tr hab]
      clear hab hab'
      go_enter Tryd.func8, Tryd.ntmps8
      go_wp2_with (first | (go_at_call 17; refine (refNumber_any _ (by omega) (by omega) _).mono ?_; rintro e w' ⟨rfl, rfl⟩) | (go_at_call 18; refine (refIs_any _ _).mono ?_; rintro e w' ⟨rfl, rfl⟩))
      go_ret2
      exact ⟨rfl, 0, rfl⟩
    · rw [show compV 7 (numV a) (numV b) = tr (a != b) from congrArg tr hab']
      clear hab hab'
      go_enter Tryd.func8, Tryd.ntmps8
      go_wp2_with (first | (go_at_call 17; refine (refNumber_any _ (by omega) (by omega) _).mono ?_; rintro e w' ⟨rfl, rfl⟩) | (go_at_call 18; refine (refIs_any _ _).mono ?_; rintro e w' ⟨rfl, rfl⟩))
      go_ret2
      exact ⟨rfl, 0, rfl⟩
  have hC' : compOk n = false := by simpa using hC
  by_cases h0 : n = 0 ∨ n = 1 ∨ n = 8 ∨ n = 14 ∨ n = 15
  · have hN : numB n (numV a) (numV b) = true := by simp [numB]; omega
    obtain ⟨e1, e2⟩ := ar_num hA hB hC' hN
    rw [e1, e2]
    clear e1 e2 hN hC hC'
    have hm := mul_bd _ _ hx hy
    rcases h0 with rfl | rfl | rfl | rfl | rfl
    all_goals
      simp only [show numZ 0 (numV a) (numV b) = numV a + numV b from rfl, show numZ 1 (numV a) (numV b) = numV a - numV b from rfl, show numZ 8 (numV a) (numV b) = numV a * numV b from rfl, show numZ 14 (numV a) (numV b) = bits .and .i64 (numV a) (numV b) from rfl, show numZ 15 (numV a) (numV b) = bits .or .i64 (numV a) (numV b) from rfl] at hz ⊢
      go_enter Tryd.func8, Tryd.ntmps8
      go_wp2_with (first | (go_at_call 17; refine (refNumber_any _ (by omega) (by omega) _).mono ?_; rintro e w' ⟨rfl, rfl⟩) | (go_at_call 20; refine (refBits_any _ _ _ (by assumption) (by assumption) _).mono ?_; rintro e w' ⟨rfl, rfl⟩) | (go_at_call 21; refine (refSmall_any _ (by omega) (by omega) _).mono ?_; rintro e w' ⟨rfl, rfl⟩))
      go_ret2
      exact ⟨rfl, 0, rfl⟩
  by_cases hD : numDiv n (numV b) = true
  · have hy0 : ¬ numV b = 0 := by intro h; simp [numDiv, h] at hD
    have h9 : n = 9 ∨ n = 10 ∨ n = 13 := by simp [numDiv] at hD; omega
    have hq := downQ_bd (numV a) (numV b) hx
    have hr := downR_bd _ _ hx hy
    clear hC h0
    rcases h9 with rfl | rfl | rfl
    · by_cases hr0 : downR (numV a) (numV b) = 0
      · have hN : numB 9 (numV a) (numV b) = true := by simp [numB, hD, hr0]
        obtain ⟨e1, e2⟩ := ar_num hA hB hC' hN
        rw [e1, e2, show numZ 9 (numV a) (numV b) = downQ (numV a) (numV b) by simp [numZ, hD]]
        clear e1 e2 hN hC' hD hz
        go_enter Tryd.func8, Tryd.ntmps8
        go_wp2_with (first | (go_at_call 17; refine (refNumber_any _ (by omega) (by omega) _).mono ?_; rintro e w' ⟨rfl, rfl⟩) | (go_at_call 19; refine (floor_any _ _ (by assumption) (by assumption) (by assumption) _).mono ?_; rintro e w' ⟨rfl, rfl⟩) | (go_at_call 21; refine (refSmall_any _ (by omega) (by omega) _).mono ?_; rintro e w' ⟨rfl, rfl⟩))
        go_ret2
        exact ⟨rfl, 0, rfl⟩
      · have hN : numB 9 (numV a) (numV b) = false := by simp [numB, hD, hr0]
        obtain ⟨e1, e2⟩ := ar_no (a := a) (b := b) hC' hN
        rw [e1, e2]
        clear e1 e2 hN hC' hD hz
        have hr1 : (downR (numV a) (numV b) != 0) = true := by simp [hr0]
        go_enter Tryd.func8, Tryd.ntmps8
        go_wp2_with (first | (go_at_call 17; refine (refNumber_any _ (by omega) (by omega) _).mono ?_; rintro e w' ⟨rfl, rfl⟩) | (go_at_call 19; refine (floor_any _ _ (by assumption) (by assumption) (by assumption) _).mono ?_; rintro e w' ⟨rfl, rfl⟩))
        go_ret2
        exact ⟨rfl, 0, rfl⟩
    · have hN : numB 10 (numV a) (numV b) = true := by simp [numB, hD]
      obtain ⟨e1, e2⟩ := ar_num hA hB hC' hN
      rw [e1, e2, show numZ 10 (numV a) (numV b) = downR (numV a) (numV b) by simp [numZ, hD]]
      clear e1 e2 hN hC' hD hz
      go_enter Tryd.func8, Tryd.ntmps8
      go_wp2_with (first | (go_at_call 17; refine (refNumber_any _ (by omega) (by omega) _).mono ?_; rintro e w' ⟨rfl, rfl⟩) | (go_at_call 19; refine (floor_any _ _ (by assumption) (by assumption) (by assumption) _).mono ?_; rintro e w' ⟨rfl, rfl⟩) | (go_at_call 21; refine (refSmall_any _ (by omega) (by omega) _).mono ?_; rintro e w' ⟨rfl, rfl⟩))
      go_ret2
      exact ⟨rfl, 0, rfl⟩
    · have hN : numB 13 (numV a) (numV b) = true := by simp [numB, hD]
      obtain ⟨e1, e2⟩ := ar_num hA hB hC' hN
      rw [e1, e2, show numZ 13 (numV a) (numV b) = downQ (numV a) (numV b) by simp [numZ, hD]]
      clear e1 e2 hN hC' hD hz
      go_enter Tryd.func8, Tryd.ntmps8
      go_wp2_with (first | (go_at_call 17; refine (refNumber_any _ (by omega) (by omega) _).mono ?_; rintro e w' ⟨rfl, rfl⟩) | (go_at_call 19; refine (floor_any _ _ (by assumption) (by assumption) (by assumption) _).mono ?_; rintro e w' ⟨rfl, rfl⟩) | (go_at_call 21; refine (refSmall_any _ (by omega) (by omega) _).mono ?_; rintro e w' ⟨rfl, rfl⟩))
      go_ret2
      exact ⟨rfl, 0, rfl⟩
  have hN : numB n (numV a) (numV b) = false := by simp [numB, hD]; omega
  obtain ⟨e1, e2⟩ := ar_no (a := a) (b := b) hC' hN
  rw [e1, e2]
  clear e1 e2 hN hz
  have hc : ¬ (2 ≤ n ∧ n ≤ 7) := by simpa [compOk] using hC'
  clear hC hC'
  by_cases h9 : n = 9 ∨ n = 10 ∨ n = 13
  · have hy0 : numV b = 0 := by simp [numDiv] at hD; omega
    clear hD h0 hc
    rcases h9 with rfl | rfl | rfl
    all_goals
      go_enter Tryd.func8, Tryd.ntmps8
      go_wp2_with (go_at_call 17; refine (refNumber_any _ (by omega) (by omega) _).mono ?_; rintro e w' ⟨rfl, rfl⟩)
      go_ret2
      exact ⟨rfl, 0, rfl⟩
  · clear hD
    have f0 : (n == 0) = false := by simp; omega
    have f1 : (n == 1) = false := by simp; omega
    have f2 : (n == 2) = false := by simp; omega
    have f3 : (n == 3) = false := by simp; omega
    have f4 : (n == 4) = false := by simp; omega
    have f5 : (n == 5) = false := by simp; omega
    have f6 : (n == 6) = false := by simp; omega
    have f7 : (n == 7) = false := by simp; omega
    have f8 : (n == 8) = false := by simp; omega
    have f9 : (n == 9) = false := by simp; omega
    have f10 : (n == 10) = false := by simp; omega
    have f13 : (n == 13) = false := by simp; omega
    have f14 : (n == 14) = false := by simp; omega
    have f15 : (n == 15) = false := by simp; omega
    clear h0 hc h9
    go_enter Tryd.func8, Tryd.ntmps8
    go_wp2_with (go_at_call 17; refine (refNumber_any _ (by omega) (by omega) _).mono ?_; rintro e w' ⟨rfl, rfl⟩)
    go_ret2
    exact ⟨rfl, 0, rfl⟩

set_option maxHeartbeats 1000000 in
theorem refKnown_any (n : Int) (w : World) : Calls Tryd.prog 10 #[.int .i64 n] w fun e w' => e = .returned (.int .i64 (kn n)) ∧ w = w' := by
  by_cases c1 : 1 ≤ n ∧ n ≤ 12
  · rw [show kn n = 1 by simp [kn, c1]]
    obtain ⟨c1, c2⟩ := c1
    go_enter Tryd.func10, Tryd.ntmps10
    go_wp2
    go_ret
    exact ⟨rfl, rfl⟩
  by_cases c2 : n = 14 ∨ n = 15 ∨ n = 21 ∨ n = 22 ∨ n = 29 ∨ n = 60 ∨ n = 71 ∨ n = 72 ∨ n = 73 ∨ n = 110 ∨ n = 61 ∨ n = 74 ∨ n = 62 ∨ n = 70 ∨ n = 75 ∨ n = 76 ∨ n = 111
  · clear c1
    rcases c2 with rfl | rfl | rfl | rfl | rfl | rfl | rfl | rfl | rfl | rfl | rfl | rfl | rfl | rfl | rfl | rfl | rfl
    all_goals
      go_enter Tryd.func10, Tryd.ntmps10
      go_wp2
      go_ret
      exact ⟨rfl, rfl⟩
  rw [show kn n = -1 by simp [kn]; omega]
  have c3 : n ≤ 0 ∨ 13 ≤ n := by omega
  have g14 : (n == 14) = false := by simp; omega
  have g15 : (n == 15) = false := by simp; omega
  have g21 : (n == 21) = false := by simp; omega
  have g22 : (n == 22) = false := by simp; omega
  have g29 : (n == 29) = false := by simp; omega
  have g60 : (n == 60) = false := by simp; omega
  have g71 : (n == 71) = false := by simp; omega
  have g72 : (n == 72) = false := by simp; omega
  have g73 : (n == 73) = false := by simp; omega
  have g110 : (n == 110) = false := by simp; omega
  have g61 : (n == 61) = false := by simp; omega
  have g74 : (n == 74) = false := by simp; omega
  have g62 : (n == 62) = false := by simp; omega
  have g70 : (n == 70) = false := by simp; omega
  have g75 : (n == 75) = false := by simp; omega
  have g76 : (n == 76) = false := by simp; omega
  have g111 : (n == 111) = false := by simp; omega
  clear c1 c2
  rcases c3 with c3 | c3
  all_goals
    go_enter Tryd.func10, Tryd.ntmps10
    go_wp2
    go_ret
    exact ⟨rfl, rfl⟩

set_option maxHeartbeats 1000000 in
theorem refRef_any (o : Int) (h : -9223372036854775808 ≤ o) (h' : o ≤ 9223372036854775807) (w : World) : Calls Tryd.prog 12 #[.int .i64 o] w fun e w' => e = .returned (.bool (refOk o)) ∧ w = w' := by
  by_cases h1 : o % 2 = 1 ∧ -2147483647 ≤ o ∧ o ≤ 2147483647
  · rw [show refOk o = true by simp [refOk, numOk, namedOk]; omega]
    have q : (o.tmod 2 != 0) = true := by simp [tmod_two]; split <;> omega
    obtain ⟨h1, h2, h3⟩ := h1
    go_enter Tryd.func12, Tryd.ntmps12
    go_wp2
    go_ret
    exact ⟨rfl, rfl⟩
  by_cases h2 : o % 2 = 0 ∧ 0 < o ∧ o < 2147483648
  · rw [show refOk o = true by simp [refOk, numOk, namedOk]; omega]
    have q : (o.tmod 2 != 0) = false := by simp [tmod_two]; omega
    have q' : (o.tmod 2 == 0) = true := by simp [tmod_two]; omega
    obtain ⟨h2, h3, h4⟩ := h2
    clear h1
    go_enter Tryd.func12, Tryd.ntmps12
    go_wp2
    go_ret
    exact ⟨rfl, rfl⟩
  rw [show refOk o = false by simp [refOk, numOk, namedOk]; omega]
  have q : (o.tmod 2 != 0) = decide (o % 2 = 1) := by rw [Bool.eq_iff_iff]; simp [tmod_two]; split <;> omega
  have q' : (o.tmod 2 == 0) = decide (o % 2 = 0) := by rw [Bool.eq_iff_iff]; simp [tmod_two]; split <;> omega
  go_enter Tryd.func12, Tryd.ntmps12
  go_wp2
  all_goals go_ret
  all_goals first | exact ⟨rfl, rfl⟩ | (refine ⟨?_, rfl⟩; simp at *; omega)

end Go.Proofs.YtdninandpkgfkaaDoor
