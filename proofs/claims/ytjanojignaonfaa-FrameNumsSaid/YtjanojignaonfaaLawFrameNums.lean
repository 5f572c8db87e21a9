/- The walk of FrameNums. -/
import Derived.Test.YtjanojignaonfaaFrameH
import Derived.Test.YtjanojignaonfaaFrameP
namespace Go.Proofs.Ytjanojignaonfaa
set_option linter.unusedVariables false
set_option linter.unusedSimpArgs false
open Go.RowKit

theorem frame_place (k : Int) (h : 0 ≤ k ∧ k < 32) : placeE frameL 16 1 k = 0 := by
  have hf : fnd frameL 16 = some 7 := by kernel_rfl
  unfold placeE
  rw [hf]
  simp only []
  rw [if_pos (by kernel_rfl), if_pos ⟨h.1, by rw [show szO (ob frameL 7) = 32 by kernel_rfl]; exact h.2⟩]
theorem frame_place32 : placeE frameL 16 1 32 = 21 := by kernel_rfl
theorem refOk_small {n : Int} (h : -1073741824 ≤ n ∧ n ≤ 1073741823) : refOk (2 * n + 1) = true := by
  have : numOk (2 * n + 1) = true := by unfold numOk; rw [decide_eq_true_eq]; omega
  simp [refOk, this]
theorem num_small {n : Int} (h : -1073741824 ≤ n ∧ n ≤ 1073741823) : numOk (2 * n + 1) = true ∧ numV (2 * n + 1) = n := by
  refine ⟨by unfold numOk; rw [decide_eq_true_eq]; omega, ?_⟩
  unfold numV
  rw [if_pos (by omega)]
  omega
theorem nums_bad {k n : Int} (hn : ¬ (-1073741824 ≤ n ∧ n ≤ 1073741823)) : setNumE frameL 16 k n = 2 ∧ setNumL frameL 16 k n = frameL := by
  have h2 : smallE n = 2 := if_neg hn
  unfold setNumE setNumL
  rw [h2]
  exact ⟨rfl, rfl⟩
theorem nums_ok {k n : Int} (hk : 0 ≤ k ∧ k < 32) (hn : -1073741824 ≤ n ∧ n ≤ 1073741823) : setNumE frameL 16 k n = 0 ∧ numR (setNumL frameL 16 k n) 16 k = (n, 0) ∧ (numR (setNumL frameL 16 k n) 16 32).2 = 21 := by
  have h0 : smallE n = 0 := if_pos hn
  have hv : smallV n = 2 * n + 1 := if_pos hn
  have hp := frame_place k hk
  have hr := refOk_small hn
  have hs := num_small hn
  unfold setNumE setNumL
  rw [h0, if_pos rfl, if_pos rfl, hv]
  refine ⟨by unfold setE; rw [if_pos hp, if_pos hr], ?_, ?_⟩
  · have hF : fetchV (setL frameL 16 k (2 * n + 1)) 16 k = 2 * n + 1 := by rw [fetch_setL hp hr, if_pos ⟨rfl, rfl⟩]
    unfold numR
    rw [place_setL, if_pos hp, hF, if_pos hs.1, hs.2]
  · unfold numR
    rw [place_setL, frame_place32]
    rfl

set_option maxRecDepth 100000 in
set_option maxHeartbeats 2000000 in
theorem FrameNums_any (i n : Int) (hi0 : 0 ≤ i) (hi1 : i ≤ 255) (hn : In64 n) (w : World) :
    Calls Try.prog 8 #[.int .u8 i, .int .i64 n] w fun e w' => e = .returned (.bool true) ∧ Below w.heap.size w w' := by
  obtain ⟨k, hk⟩ : ∃ k, i.tmod 32 = k := ⟨_, rfl⟩
  have hk32 : 0 ≤ k ∧ k < 32 := by rw [← hk, Int.tmod_eq_emod_of_nonneg hi0]; omega
  have wi : IntKind.i64.wrap i = i := IntWalk.i64_in _ (by omega)
  have tok : True := trivial
  obtain ⟨x, hx⟩ : ∃ x, fetchV frameL 16 k = x := ⟨_, rfl⟩
  have HP := Lib.hid (And.intro hx (frame_place k hk32))
  by_cases hr : -1073741824 ≤ n ∧ n ≤ 1073741823
  · have t1 : decide (-1073741824 ≤ n) = true := decide_eq_true hr.1
    have t2 : decide (n < 1073741824) = true := decide_eq_true (by omega)
    have HN := Lib.hid (nums_ok hk32 hr)
    obtain ⟨y, hy⟩ : ∃ y, (numR (setNumL frameL 16 k n) 16 32).1 = y := ⟨_, rfl⟩
    have HY := Lib.hid hy
    have tok2 : True := trivial
    clear hx hr hy
    go_enter Try.func8, Try.ntmps8
    go_wp2_with (first
      | (go_at_call 32; refine (made15_any _).mono ?_; rintro e w1 ⟨m, rfl, g1⟩; have H1 := Lib.hid g1; clear g1)
        | (go_at_call 33
           have _t := tok
           clear tok
           refine (k_FetchC H1.out 16 k in16).mono ?_
           rw [HP.out.1, HP.out.2]
           rintro e w2 ⟨rfl, g2, -⟩
           have H2 := Lib.hid g2
           clear g2)
        | (go_at_call 34
           refine (k_SetNum H2.out 16 k n in16 hn).mono ?_
           rw [HN.out.1]
           rintro e w3 ⟨rfl, g3⟩
           have H3 := Lib.hid g3
           clear g3)
      | (go_at_call 35
         have _t := tok2
         clear tok2
         refine (k_Num H3.out 16 k in16).mono ?_
         rw [HN.out.2.1]
         rintro e w4 ⟨rfl, g4, -⟩
         have H4 := Lib.hid g4
         clear g4)
      | (go_at_call 35
         refine (k_Num H4.out 16 32 in16).mono ?_
         rw [HN.out.2.2, HY.out]
         rintro e w5 ⟨rfl, g5, -⟩
         have H5 := Lib.hid g5
         clear g5)
      | (go_at_call 36; refine (known15_any _).mono ?_; rintro e w9 ⟨rfl, c9⟩)
      | fail)
    go_ret
    exact ⟨rfl, (H5.out.chg.trans c9).below⟩
  · have HN := Lib.hid (nums_bad (k := k) hr)
    have t1 : (decide (-1073741824 ≤ n) && decide (n < 1073741824)) = false := by
      by_cases h1 : -1073741824 ≤ n
      · rw [decide_eq_false (show ¬ n < 1073741824 by omega), Bool.and_false]
      · rw [decide_eq_false h1, Bool.false_and]
    cases t3 : decide (-1073741824 ≤ n)
    · clear hx hr t1
      go_enter Try.func8, Try.ntmps8
      go_wp2_with (first
        | (go_at_call 32; refine (made15_any _).mono ?_; rintro e w1 ⟨m, rfl, g1⟩; have H1 := Lib.hid g1; clear g1)
          | (go_at_call 33
             have _t := tok
             clear tok
             refine (k_FetchC H1.out 16 k in16).mono ?_
             rw [HP.out.1, HP.out.2]
             rintro e w2 ⟨rfl, g2, -⟩
             have H2 := Lib.hid g2
             clear g2)
          | (go_at_call 34
             refine (k_SetNum H2.out 16 k n in16 hn).mono ?_
             rw [HN.out.1]
             rintro e w3 ⟨rfl, g3⟩
             have H3 := Lib.hid g3
             clear g3)
        | (go_at_call 35
           refine (k_Num H3.out 16 k in16).mono ?_
           rintro e w4 ⟨rfl, g4, -⟩
           rw [HN.out.2] at g4
           have H4 := Lib.hid g4
           clear g4)
          | (go_at_call 33
             refine (k_FetchC H4.out 16 k in16).mono ?_
             rw [HP.out.1]
             rintro e w5 ⟨rfl, g5, -⟩
             have H5 := Lib.hid g5
             clear g5)
          | (go_at_call 36; refine (known15_any _).mono ?_; rintro e w9 ⟨rfl, c9⟩)
        | fail)
      go_ret
      exact ⟨rfl, (H5.out.chg.trans c9).below⟩
    · have t2 : decide (n < 1073741824) = false := by rwa [t3, Bool.true_and] at t1
      clear hx hr t1
      go_enter Try.func8, Try.ntmps8
      go_wp2_with (first
        | (go_at_call 32; refine (made15_any _).mono ?_; rintro e w1 ⟨m, rfl, g1⟩; have H1 := Lib.hid g1; clear g1)
          | (go_at_call 33
             have _t := tok
             clear tok
             refine (k_FetchC H1.out 16 k in16).mono ?_
             rw [HP.out.1, HP.out.2]
             rintro e w2 ⟨rfl, g2, -⟩
             have H2 := Lib.hid g2
             clear g2)
          | (go_at_call 34
             refine (k_SetNum H2.out 16 k n in16 hn).mono ?_
             rw [HN.out.1]
             rintro e w3 ⟨rfl, g3⟩
             have H3 := Lib.hid g3
             clear g3)
        | (go_at_call 35
           refine (k_Num H3.out 16 k in16).mono ?_
           rintro e w4 ⟨rfl, g4, -⟩
           rw [HN.out.2] at g4
           have H4 := Lib.hid g4
           clear g4)
          | (go_at_call 33
             refine (k_FetchC H4.out 16 k in16).mono ?_
             rw [HP.out.1]
             rintro e w5 ⟨rfl, g5, -⟩
             have H5 := Lib.hid g5
             clear g5)
          | (go_at_call 36; refine (known15_any _).mono ?_; rintro e w9 ⟨rfl, c9⟩)
        | fail)
      go_ret
      exact ⟨rfl, (H5.out.chg.trans c9).below⟩

end Go.Proofs.Ytjanojignaonfaa
