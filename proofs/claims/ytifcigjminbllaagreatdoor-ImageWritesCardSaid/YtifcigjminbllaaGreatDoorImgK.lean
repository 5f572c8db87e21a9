/- The document on what bytes tell (websterref12): op, short, wide, long. -/
import Derived.Test.YtifcigjminbllaaGreatDoorImgJ
namespace Go.Proofs.YtifcigjminbllaaGreatDoor
set_option linter.unusedVariables false
set_option linter.unusedSimpArgs false
open Go.RowKit

def P4.noLen (x : P4) : P4 := { x with l := 0 }
set_option maxRecDepth 100000 in
theorem op_any (k n m : Int) (w : World) : Calls Tryz.prog 88 #[.int .i64 k, .int .i64 n, .int .i64 m] w fun e w' => e = .returned (.agg #[.int .i64 k, .int .i64 n, .int .i64 m, .int .i64 0]) ∧ Chg No w w' := by
  have z4 := (Row.new w 113 #[.int .i64 0, .int .i64 0, .int .i64 0, .int .i64 0]).four
  go_enter Tryz.func88, Tryz.ntmps88
  go_wp2_with fail
  refine bodyPost_ret (v := .agg #[.int .i64 k, .int .i64 n, .int .i64 m, .int .i64 0]) (by simp [results, Tryz.results88, go_sem, z4]) rfl ⟨rfl, ?_⟩
  repeat (with_reducible first | exact Chg.refl _ _ | refine Chg.alloc ?_ _ | refine Chg.setCell ?_ (.inr (by first | exact Nat.le_refl _ | (simp; done) | (simp; omega))) _)

set_option maxRecDepth 100000 in
set_option maxHeartbeats 8000000 in
theorem short_any (c : Int) (hc0 : 0 ≤ c) (hc1 : c ≤ 255) (w : World) : Calls Tryz.prog 84 #[.int .i64 c] w fun e w' => e = .returned (.agg (oneP c).1.noLen.cells) ∧ Chg No w w' := by
  obtain ⟨Pr, hP⟩ : ∃ r, (oneP c).1.noLen = r := ⟨_, rfl⟩
  rw [hP]
  have HP := Lib.hid hP
  clear hP
  have row := (Row.new w 113 #[.int .i64 0, .int .i64 0, .int .i64 0, .int .i64 0]).alloc (.cells #[.int .i64 0, .int .i64 4, .int .i64 6, .int .i64 2, .int .i64 (-1), .int .i64 1, .int .i64 3, .int .i64 5] 3)
  have cA : Chg No w ((w.alloc (.cells #[.int .i64 0, .int .i64 0, .int .i64 0, .int .i64 0] 113)).alloc (.cells #[.int .i64 0, .int .i64 4, .int .i64 6, .int .i64 2, .int .i64 (-1), .int .i64 1, .int .i64 3, .int .i64 5] 3)) := ((Chg.refl _ _).alloc _).alloc _
  have HA := Lib.hid (And.intro row cA)
  clear row cA
  rcases (show (0 ≤ c ∧ c ≤ 15) ∨ (16 ≤ c ∧ c ≤ 31) ∨ (32 ≤ c ∧ c ≤ 63) ∨ (64 ≤ c ∧ c ≤ 95) ∨ (96 ≤ c ∧ c ≤ 103) ∨ (104 ≤ c ∧ c ≤ 111) ∨ c = 112 ∨ c = 113 ∨ c = 114 ∨ c = 115 ∨ c = 116 ∨ c = 117 ∨ c = 118 ∨ c = 119 ∨ c = 120 ∨ c = 121 ∨ c = 122 ∨ c = 123 ∨ (124 ≤ c ∧ c ≤ 125) ∨ (126 ≤ c ∧ c ≤ 134) ∨ (135 ≤ c ∧ c ≤ 137) ∨ (138 ≤ c ∧ c ≤ 143) ∨ (144 ≤ c ∧ c ≤ 151) ∨ (152 ≤ c ∧ c ≤ 159) ∨ (160 ≤ c ∧ c ≤ 175) ∨ (176 ≤ c ∧ c ≤ 191) ∨ (192 ≤ c ∧ c ≤ 207) ∨ (208 ≤ c ∧ c ≤ 255) by omega) with hin | hin | hin | hin | hin | hin | hin | hin | hin | hin | hin | hin | hin | hin | hin | hin | hin | hin | hin | hin | hin | hin | hin | hin | hin | hin | hin | hin
  · obtain rfl : Pr = ⟨1, c, 0, 0⟩ := by
      rw [← HP.out]
      have e : (oneP c).1 = ⟨1, c, 0, 1⟩ := by
        rcases (show (0 ≤ c ∧ c ≤ 0) ∨ (1 ≤ c ∧ c ≤ 15) by omega) with hin | hin
        all_goals
          unfold oneP
          repeat (first | rw [if_pos (by omega)] | rw [if_neg (by omega)])
      rw [e]
      rfl
    have q0 : decide (c < 16) = true := decide_eq_true (by omega)
    have q1 : decide (c < 32) = true := decide_eq_true (by omega)
    have q2 : decide (c < 64) = true := decide_eq_true (by omega)
    have q3 : decide (c < 96) = true := decide_eq_true (by omega)
    have q4 : decide (c < 104) = true := decide_eq_true (by omega)
    have q5 : decide (c < 112) = true := decide_eq_true (by omega)
    have q6 : (c == 112) = false := beq_eq_false_iff_ne.2 (by omega)
    have q7 : decide (c < 120) = true := decide_eq_true (by omega)
    have q8 : (c == 120) = false := beq_eq_false_iff_ne.2 (by omega)
    have q9 : decide (c < 124) = true := decide_eq_true (by omega)
    have q10 : decide (c < 126) = true := decide_eq_true (by omega)
    have q11 : decide (135 ≤ c) = false := decide_eq_false (by omega)
    have q12 : decide (c ≤ 137) = true := decide_eq_true (by omega)
    have q13 : decide (144 ≤ c) = false := decide_eq_false (by omega)
    have q14 : decide (c ≤ 151) = true := decide_eq_true (by omega)
    have q15 : decide (152 ≤ c) = false := decide_eq_false (by omega)
    have q16 : decide (c ≤ 159) = true := decide_eq_true (by omega)
    have q17 : decide (176 ≤ c) = false := decide_eq_false (by omega)
    have q18 : decide (c ≤ 191) = true := decide_eq_true (by omega)
    have q19 : decide (192 ≤ c) = false := decide_eq_false (by omega)
    have q20 : decide (c ≤ 207) = true := decide_eq_true (by omega)
    have q21 : decide (208 ≤ c) = false := decide_eq_false (by omega)
    go_enter Tryz.func84, Tryz.ntmps84
    go_wp2_with (first
      | (go_at_call 88
         refine (op_any _ _ _ _).mono ?_
         rintro e w1 ⟨rfl, c1⟩
         have z4 := (HA.out.1.keep c1 (fun f => f)).four
         have H1 := Lib.hid (HA.out.2.trans c1)
         clear c1)
      | fail)
    refine bodyPost_ret (v := .agg #[.int .i64 (1), .int .i64 (c), .int .i64 (0), .int .i64 0]) (by simp [results, Tryz.results84, go_sem, z4]) rfl ⟨rfl, ?_⟩
    repeat (with_reducible first | exact H1.out | refine Chg.setCell ?_ (.inr (by first | exact Nat.le_refl _ | (simp; done))) _)
  · obtain rfl : Pr = ⟨2, c - 16, 0, 0⟩ := by
      rw [← HP.out]
      have e : (oneP c).1 = ⟨2, c - 16, 0, 1⟩ := by
        rcases (show (16 ≤ c ∧ c ≤ 16) ∨ (17 ≤ c ∧ c ≤ 31) by omega) with hin | hin
        all_goals
          unfold oneP
          repeat (first | rw [if_pos (by omega)] | rw [if_neg (by omega)])
      rw [e]
      rfl
    have q0 : decide (c < 16) = false := decide_eq_false (by omega)
    have q1 : decide (c < 32) = true := decide_eq_true (by omega)
    have q2 : decide (c < 64) = true := decide_eq_true (by omega)
    have q3 : decide (c < 96) = true := decide_eq_true (by omega)
    have q4 : decide (c < 104) = true := decide_eq_true (by omega)
    have q5 : decide (c < 112) = true := decide_eq_true (by omega)
    have q6 : (c == 112) = false := beq_eq_false_iff_ne.2 (by omega)
    have q7 : decide (c < 120) = true := decide_eq_true (by omega)
    have q8 : (c == 120) = false := beq_eq_false_iff_ne.2 (by omega)
    have q9 : decide (c < 124) = true := decide_eq_true (by omega)
    have q10 : decide (c < 126) = true := decide_eq_true (by omega)
    have q11 : decide (135 ≤ c) = false := decide_eq_false (by omega)
    have q12 : decide (c ≤ 137) = true := decide_eq_true (by omega)
    have q13 : decide (144 ≤ c) = false := decide_eq_false (by omega)
    have q14 : decide (c ≤ 151) = true := decide_eq_true (by omega)
    have q15 : decide (152 ≤ c) = false := decide_eq_false (by omega)
    have q16 : decide (c ≤ 159) = true := decide_eq_true (by omega)
    have q17 : decide (176 ≤ c) = false := decide_eq_false (by omega)
    have q18 : decide (c ≤ 191) = true := decide_eq_true (by omega)
    have q19 : decide (192 ≤ c) = false := decide_eq_false (by omega)
    have q20 : decide (c ≤ 207) = true := decide_eq_true (by omega)
    have q21 : decide (208 ≤ c) = false := decide_eq_false (by omega)
    have w1 : IntKind.i64.wrap (c - 16) = c - 16 := IntWalk.i64_in _ (by omega)
    go_enter Tryz.func84, Tryz.ntmps84
    go_wp2_with (first
      | (go_at_call 88
         refine (op_any _ _ _ _).mono ?_
         rintro e w1 ⟨rfl, c1⟩
         have z4 := (HA.out.1.keep c1 (fun f => f)).four
         have H1 := Lib.hid (HA.out.2.trans c1)
         clear c1)
      | fail)
    refine bodyPost_ret (v := .agg #[.int .i64 (2), .int .i64 (c - 16), .int .i64 (0), .int .i64 0]) (by simp [results, Tryz.results84, go_sem, z4]) rfl ⟨rfl, ?_⟩
    repeat (with_reducible first | exact H1.out | refine Chg.setCell ?_ (.inr (by first | exact Nat.le_refl _ | (simp; done))) _)
  · obtain rfl : Pr = ⟨3, c - 32, 0, 0⟩ := by
      rw [← HP.out]
      have e : (oneP c).1 = ⟨3, c - 32, 0, 1⟩ := by
        rcases (show (32 ≤ c ∧ c ≤ 32) ∨ (33 ≤ c ∧ c ≤ 63) by omega) with hin | hin
        all_goals
          unfold oneP
          repeat (first | rw [if_pos (by omega)] | rw [if_neg (by omega)])
      rw [e]
      rfl
    have q0 : decide (c < 16) = false := decide_eq_false (by omega)
    have q1 : decide (c < 32) = false := decide_eq_false (by omega)
    have q2 : decide (c < 64) = true := decide_eq_true (by omega)
    have q3 : decide (c < 96) = true := decide_eq_true (by omega)
    have q4 : decide (c < 104) = true := decide_eq_true (by omega)
    have q5 : decide (c < 112) = true := decide_eq_true (by omega)
    have q6 : (c == 112) = false := beq_eq_false_iff_ne.2 (by omega)
    have q7 : decide (c < 120) = true := decide_eq_true (by omega)
    have q8 : (c == 120) = false := beq_eq_false_iff_ne.2 (by omega)
    have q9 : decide (c < 124) = true := decide_eq_true (by omega)
    have q10 : decide (c < 126) = true := decide_eq_true (by omega)
    have q11 : decide (135 ≤ c) = false := decide_eq_false (by omega)
    have q12 : decide (c ≤ 137) = true := decide_eq_true (by omega)
    have q13 : decide (144 ≤ c) = false := decide_eq_false (by omega)
    have q14 : decide (c ≤ 151) = true := decide_eq_true (by omega)
    have q15 : decide (152 ≤ c) = false := decide_eq_false (by omega)
    have q16 : decide (c ≤ 159) = true := decide_eq_true (by omega)
    have q17 : decide (176 ≤ c) = false := decide_eq_false (by omega)
    have q18 : decide (c ≤ 191) = true := decide_eq_true (by omega)
    have q19 : decide (192 ≤ c) = false := decide_eq_false (by omega)
    have q20 : decide (c ≤ 207) = true := decide_eq_true (by omega)
    have q21 : decide (208 ≤ c) = false := decide_eq_false (by omega)
    have w1 : IntKind.i64.wrap (c - 32) = c - 32 := IntWalk.i64_in _ (by omega)
    go_enter Tryz.func84, Tryz.ntmps84
    go_wp2_with (first
      | (go_at_call 88
         refine (op_any _ _ _ _).mono ?_
         rintro e w1 ⟨rfl, c1⟩
         have z4 := (HA.out.1.keep c1 (fun f => f)).four
         have H1 := Lib.hid (HA.out.2.trans c1)
         clear c1)
      | fail)
    refine bodyPost_ret (v := .agg #[.int .i64 (3), .int .i64 (c - 32), .int .i64 (0), .int .i64 0]) (by simp [results, Tryz.results84, go_sem, z4]) rfl ⟨rfl, ?_⟩
    repeat (with_reducible first | exact H1.out | refine Chg.setCell ?_ (.inr (by first | exact Nat.le_refl _ | (simp; done))) _)
  · obtain rfl : Pr = ⟨4, c - 64, 0, 0⟩ := by
      rw [← HP.out]
      have e : (oneP c).1 = ⟨4, c - 64, 0, 1⟩ := by
        rcases (show (64 ≤ c ∧ c ≤ 64) ∨ (65 ≤ c ∧ c ≤ 95) by omega) with hin | hin
        all_goals
          unfold oneP
          repeat (first | rw [if_pos (by omega)] | rw [if_neg (by omega)])
      rw [e]
      rfl
    have q0 : decide (c < 16) = false := decide_eq_false (by omega)
    have q1 : decide (c < 32) = false := decide_eq_false (by omega)
    have q2 : decide (c < 64) = false := decide_eq_false (by omega)
    have q3 : decide (c < 96) = true := decide_eq_true (by omega)
    have q4 : decide (c < 104) = true := decide_eq_true (by omega)
    have q5 : decide (c < 112) = true := decide_eq_true (by omega)
    have q6 : (c == 112) = false := beq_eq_false_iff_ne.2 (by omega)
    have q7 : decide (c < 120) = true := decide_eq_true (by omega)
    have q8 : (c == 120) = false := beq_eq_false_iff_ne.2 (by omega)
    have q9 : decide (c < 124) = true := decide_eq_true (by omega)
    have q10 : decide (c < 126) = true := decide_eq_true (by omega)
    have q11 : decide (135 ≤ c) = false := decide_eq_false (by omega)
    have q12 : decide (c ≤ 137) = true := decide_eq_true (by omega)
    have q13 : decide (144 ≤ c) = false := decide_eq_false (by omega)
    have q14 : decide (c ≤ 151) = true := decide_eq_true (by omega)
    have q15 : decide (152 ≤ c) = false := decide_eq_false (by omega)
    have q16 : decide (c ≤ 159) = true := decide_eq_true (by omega)
    have q17 : decide (176 ≤ c) = false := decide_eq_false (by omega)
    have q18 : decide (c ≤ 191) = true := decide_eq_true (by omega)
    have q19 : decide (192 ≤ c) = false := decide_eq_false (by omega)
    have q20 : decide (c ≤ 207) = true := decide_eq_true (by omega)
    have q21 : decide (208 ≤ c) = false := decide_eq_false (by omega)
    have w1 : IntKind.i64.wrap (c - 64) = c - 64 := IntWalk.i64_in _ (by omega)
    go_enter Tryz.func84, Tryz.ntmps84
    go_wp2_with (first
      | (go_at_call 88
         refine (op_any _ _ _ _).mono ?_
         rintro e w1 ⟨rfl, c1⟩
         have z4 := (HA.out.1.keep c1 (fun f => f)).four
         have H1 := Lib.hid (HA.out.2.trans c1)
         clear c1)
      | fail)
    refine bodyPost_ret (v := .agg #[.int .i64 (4), .int .i64 (c - 64), .int .i64 (0), .int .i64 0]) (by simp [results, Tryz.results84, go_sem, z4]) rfl ⟨rfl, ?_⟩
    repeat (with_reducible first | exact H1.out | refine Chg.setCell ?_ (.inr (by first | exact Nat.le_refl _ | (simp; done))) _)
  · obtain rfl : Pr = ⟨8, c - 96, 0, 0⟩ := by
      rw [← HP.out]
      have e : (oneP c).1 = ⟨8, c - 96, 0, 1⟩ := by
        rcases (show (96 ≤ c ∧ c ≤ 96) ∨ (97 ≤ c ∧ c ≤ 103) by omega) with hin | hin
        all_goals
          unfold oneP
          repeat (first | rw [if_pos (by omega)] | rw [if_neg (by omega)])
      rw [e]
      rfl
    have q0 : decide (c < 16) = false := decide_eq_false (by omega)
    have q1 : decide (c < 32) = false := decide_eq_false (by omega)
    have q2 : decide (c < 64) = false := decide_eq_false (by omega)
    have q3 : decide (c < 96) = false := decide_eq_false (by omega)
    have q4 : decide (c < 104) = true := decide_eq_true (by omega)
    have q5 : decide (c < 112) = true := decide_eq_true (by omega)
    have q6 : (c == 112) = false := beq_eq_false_iff_ne.2 (by omega)
    have q7 : decide (c < 120) = true := decide_eq_true (by omega)
    have q8 : (c == 120) = false := beq_eq_false_iff_ne.2 (by omega)
    have q9 : decide (c < 124) = true := decide_eq_true (by omega)
    have q10 : decide (c < 126) = true := decide_eq_true (by omega)
    have q11 : decide (135 ≤ c) = false := decide_eq_false (by omega)
    have q12 : decide (c ≤ 137) = true := decide_eq_true (by omega)
    have q13 : decide (144 ≤ c) = false := decide_eq_false (by omega)
    have q14 : decide (c ≤ 151) = true := decide_eq_true (by omega)
    have q15 : decide (152 ≤ c) = false := decide_eq_false (by omega)
    have q16 : decide (c ≤ 159) = true := decide_eq_true (by omega)
    have q17 : decide (176 ≤ c) = false := decide_eq_false (by omega)
    have q18 : decide (c ≤ 191) = true := decide_eq_true (by omega)
    have q19 : decide (192 ≤ c) = false := decide_eq_false (by omega)
    have q20 : decide (c ≤ 207) = true := decide_eq_true (by omega)
    have q21 : decide (208 ≤ c) = false := decide_eq_false (by omega)
    have w1 : IntKind.i64.wrap (c - 96) = c - 96 := IntWalk.i64_in _ (by omega)
    go_enter Tryz.func84, Tryz.ntmps84
    go_wp2_with (first
      | (go_at_call 88
         refine (op_any _ _ _ _).mono ?_
         rintro e w1 ⟨rfl, c1⟩
         have z4 := (HA.out.1.keep c1 (fun f => f)).four
         have H1 := Lib.hid (HA.out.2.trans c1)
         clear c1)
      | fail)
    refine bodyPost_ret (v := .agg #[.int .i64 (8), .int .i64 (c - 96), .int .i64 (0), .int .i64 0]) (by simp [results, Tryz.results84, go_sem, z4]) rfl ⟨rfl, ?_⟩
    repeat (with_reducible first | exact H1.out | refine Chg.setCell ?_ (.inr (by first | exact Nat.le_refl _ | (simp; done))) _)
  · obtain rfl : Pr = ⟨9, c - 104, 0, 0⟩ := by
      rw [← HP.out]
      have e : (oneP c).1 = ⟨9, c - 104, 0, 1⟩ := by
        rcases (show (104 ≤ c ∧ c ≤ 104) ∨ (105 ≤ c ∧ c ≤ 111) by omega) with hin | hin
        all_goals
          unfold oneP
          repeat (first | rw [if_pos (by omega)] | rw [if_neg (by omega)])
      rw [e]
      rfl
    have q0 : decide (c < 16) = false := decide_eq_false (by omega)
    have q1 : decide (c < 32) = false := decide_eq_false (by omega)
    have q2 : decide (c < 64) = false := decide_eq_false (by omega)
    have q3 : decide (c < 96) = false := decide_eq_false (by omega)
    have q4 : decide (c < 104) = false := decide_eq_false (by omega)
    have q5 : decide (c < 112) = true := decide_eq_true (by omega)
    have q6 : (c == 112) = false := beq_eq_false_iff_ne.2 (by omega)
    have q7 : decide (c < 120) = true := decide_eq_true (by omega)
    have q8 : (c == 120) = false := beq_eq_false_iff_ne.2 (by omega)
    have q9 : decide (c < 124) = true := decide_eq_true (by omega)
    have q10 : decide (c < 126) = true := decide_eq_true (by omega)
    have q11 : decide (135 ≤ c) = false := decide_eq_false (by omega)
    have q12 : decide (c ≤ 137) = true := decide_eq_true (by omega)
    have q13 : decide (144 ≤ c) = false := decide_eq_false (by omega)
    have q14 : decide (c ≤ 151) = true := decide_eq_true (by omega)
    have q15 : decide (152 ≤ c) = false := decide_eq_false (by omega)
    have q16 : decide (c ≤ 159) = true := decide_eq_true (by omega)
    have q17 : decide (176 ≤ c) = false := decide_eq_false (by omega)
    have q18 : decide (c ≤ 191) = true := decide_eq_true (by omega)
    have q19 : decide (192 ≤ c) = false := decide_eq_false (by omega)
    have q20 : decide (c ≤ 207) = true := decide_eq_true (by omega)
    have q21 : decide (208 ≤ c) = false := decide_eq_false (by omega)
    have w1 : IntKind.i64.wrap (c - 104) = c - 104 := IntWalk.i64_in _ (by omega)
    go_enter Tryz.func84, Tryz.ntmps84
    go_wp2_with (first
      | (go_at_call 88
         refine (op_any _ _ _ _).mono ?_
         rintro e w1 ⟨rfl, c1⟩
         have z4 := (HA.out.1.keep c1 (fun f => f)).four
         have H1 := Lib.hid (HA.out.2.trans c1)
         clear c1)
      | fail)
    refine bodyPost_ret (v := .agg #[.int .i64 (9), .int .i64 (c - 104), .int .i64 (0), .int .i64 0]) (by simp [results, Tryz.results84, go_sem, z4]) rfl ⟨rfl, ?_⟩
    repeat (with_reducible first | exact H1.out | refine Chg.setCell ?_ (.inr (by first | exact Nat.le_refl _ | (simp; done))) _)
  · subst hin
    obtain rfl : Pr = ⟨11, 0, 0, 0⟩ := HP.out.symm.trans rfl
    go_enter Tryz.func84, Tryz.ntmps84
    go_wp2_with (first
      | (go_at_call 88
         refine (op_any _ _ _ _).mono ?_
         rintro e w1 ⟨rfl, c1⟩
         have z4 := (HA.out.1.keep c1 (fun f => f)).four
         have H1 := Lib.hid (HA.out.2.trans c1)
         clear c1)
      | fail)
    refine bodyPost_ret (v := .agg #[.int .i64 (11), .int .i64 (0), .int .i64 (0), .int .i64 0]) (by simp [results, Tryz.results84, go_sem, z4]) rfl ⟨rfl, ?_⟩
    repeat (with_reducible first | exact H1.out | refine Chg.setCell ?_ (.inr (by first | exact Nat.le_refl _ | (simp; done))) _)
  · subst hin
    obtain rfl : Pr = ⟨12, 4, 0, 0⟩ := HP.out.symm.trans rfl
    go_enter Tryz.func84, Tryz.ntmps84
    go_wp2_with (first
      | (go_at_call 88
         refine (op_any _ _ _ _).mono ?_
         rintro e w1 ⟨rfl, c1⟩
         have z4 := (HA.out.1.keep c1 (fun f => f)).four
         have H1 := Lib.hid (HA.out.2.trans c1)
         clear c1)
      | fail)
    refine bodyPost_ret (v := .agg #[.int .i64 (12), .int .i64 (4), .int .i64 (0), .int .i64 0]) (by simp [results, Tryz.results84, go_sem, z4]) rfl ⟨rfl, ?_⟩
    repeat (with_reducible first | exact H1.out | refine Chg.setCell ?_ (.inr (by first | exact Nat.le_refl _ | (simp; done))) _)
  · subst hin
    obtain rfl : Pr = ⟨12, 6, 0, 0⟩ := HP.out.symm.trans rfl
    go_enter Tryz.func84, Tryz.ntmps84
    go_wp2_with (first
      | (go_at_call 88
         refine (op_any _ _ _ _).mono ?_
         rintro e w1 ⟨rfl, c1⟩
         have z4 := (HA.out.1.keep c1 (fun f => f)).four
         have H1 := Lib.hid (HA.out.2.trans c1)
         clear c1)
      | fail)
    refine bodyPost_ret (v := .agg #[.int .i64 (12), .int .i64 (6), .int .i64 (0), .int .i64 0]) (by simp [results, Tryz.results84, go_sem, z4]) rfl ⟨rfl, ?_⟩
    repeat (with_reducible first | exact H1.out | refine Chg.setCell ?_ (.inr (by first | exact Nat.le_refl _ | (simp; done))) _)
  · subst hin
    obtain rfl : Pr = ⟨12, 2, 0, 0⟩ := HP.out.symm.trans rfl
    go_enter Tryz.func84, Tryz.ntmps84
    go_wp2_with (first
      | (go_at_call 88
         refine (op_any _ _ _ _).mono ?_
         rintro e w1 ⟨rfl, c1⟩
         have z4 := (HA.out.1.keep c1 (fun f => f)).four
         have H1 := Lib.hid (HA.out.2.trans c1)
         clear c1)
      | fail)
    refine bodyPost_ret (v := .agg #[.int .i64 (12), .int .i64 (2), .int .i64 (0), .int .i64 0]) (by simp [results, Tryz.results84, go_sem, z4]) rfl ⟨rfl, ?_⟩
    repeat (with_reducible first | exact H1.out | refine Chg.setCell ?_ (.inr (by first | exact Nat.le_refl _ | (simp; done))) _)
  · subst hin
    obtain rfl : Pr = ⟨12, -1, 0, 0⟩ := HP.out.symm.trans rfl
    go_enter Tryz.func84, Tryz.ntmps84
    go_wp2_with (first
      | (go_at_call 88
         refine (op_any _ _ _ _).mono ?_
         rintro e w1 ⟨rfl, c1⟩
         have z4 := (HA.out.1.keep c1 (fun f => f)).four
         have H1 := Lib.hid (HA.out.2.trans c1)
         clear c1)
      | fail)
    refine bodyPost_ret (v := .agg #[.int .i64 (12), .int .i64 (-1), .int .i64 (0), .int .i64 0]) (by simp [results, Tryz.results84, go_sem, z4]) rfl ⟨rfl, ?_⟩
    repeat (with_reducible first | exact H1.out | refine Chg.setCell ?_ (.inr (by first | exact Nat.le_refl _ | (simp; done))) _)
  · subst hin
    obtain rfl : Pr = ⟨12, 1, 0, 0⟩ := HP.out.symm.trans rfl
    go_enter Tryz.func84, Tryz.ntmps84
    go_wp2_with (first
      | (go_at_call 88
         refine (op_any _ _ _ _).mono ?_
         rintro e w1 ⟨rfl, c1⟩
         have z4 := (HA.out.1.keep c1 (fun f => f)).four
         have H1 := Lib.hid (HA.out.2.trans c1)
         clear c1)
      | fail)
    refine bodyPost_ret (v := .agg #[.int .i64 (12), .int .i64 (1), .int .i64 (0), .int .i64 0]) (by simp [results, Tryz.results84, go_sem, z4]) rfl ⟨rfl, ?_⟩
    repeat (with_reducible first | exact H1.out | refine Chg.setCell ?_ (.inr (by first | exact Nat.le_refl _ | (simp; done))) _)
  · subst hin
    obtain rfl : Pr = ⟨12, 3, 0, 0⟩ := HP.out.symm.trans rfl
    go_enter Tryz.func84, Tryz.ntmps84
    go_wp2_with (first
      | (go_at_call 88
         refine (op_any _ _ _ _).mono ?_
         rintro e w1 ⟨rfl, c1⟩
         have z4 := (HA.out.1.keep c1 (fun f => f)).four
         have H1 := Lib.hid (HA.out.2.trans c1)
         clear c1)
      | fail)
    refine bodyPost_ret (v := .agg #[.int .i64 (12), .int .i64 (3), .int .i64 (0), .int .i64 0]) (by simp [results, Tryz.results84, go_sem, z4]) rfl ⟨rfl, ?_⟩
    repeat (with_reducible first | exact H1.out | refine Chg.setCell ?_ (.inr (by first | exact Nat.le_refl _ | (simp; done))) _)
  · subst hin
    obtain rfl : Pr = ⟨12, 5, 0, 0⟩ := HP.out.symm.trans rfl
    go_enter Tryz.func84, Tryz.ntmps84
    go_wp2_with (first
      | (go_at_call 88
         refine (op_any _ _ _ _).mono ?_
         rintro e w1 ⟨rfl, c1⟩
         have z4 := (HA.out.1.keep c1 (fun f => f)).four
         have H1 := Lib.hid (HA.out.2.trans c1)
         clear c1)
      | fail)
    refine bodyPost_ret (v := .agg #[.int .i64 (12), .int .i64 (5), .int .i64 (0), .int .i64 0]) (by simp [results, Tryz.results84, go_sem, z4]) rfl ⟨rfl, ?_⟩
    repeat (with_reducible first | exact H1.out | refine Chg.setCell ?_ (.inr (by first | exact Nat.le_refl _ | (simp; done))) _)
  · subst hin
    obtain rfl : Pr = ⟨13, 0, 0, 0⟩ := HP.out.symm.trans rfl
    go_enter Tryz.func84, Tryz.ntmps84
    go_wp2_with (first
      | (go_at_call 88
         refine (op_any _ _ _ _).mono ?_
         rintro e w1 ⟨rfl, c1⟩
         have z4 := (HA.out.1.keep c1 (fun f => f)).four
         have H1 := Lib.hid (HA.out.2.trans c1)
         clear c1)
      | fail)
    refine bodyPost_ret (v := .agg #[.int .i64 (13), .int .i64 (0), .int .i64 (0), .int .i64 0]) (by simp [results, Tryz.results84, go_sem, z4]) rfl ⟨rfl, ?_⟩
    repeat (with_reducible first | exact H1.out | refine Chg.setCell ?_ (.inr (by first | exact Nat.le_refl _ | (simp; done))) _)
  · subst hin
    obtain rfl : Pr = ⟨14, 4, 0, 0⟩ := HP.out.symm.trans rfl
    go_enter Tryz.func84, Tryz.ntmps84
    go_wp2_with (first
      | (go_at_call 88
         refine (op_any _ _ _ _).mono ?_
         rintro e w1 ⟨rfl, c1⟩
         have z4 := (HA.out.1.keep c1 (fun f => f)).four
         have H1 := Lib.hid (HA.out.2.trans c1)
         clear c1)
      | fail)
    refine bodyPost_ret (v := .agg #[.int .i64 (14), .int .i64 (4), .int .i64 (0), .int .i64 0]) (by simp [results, Tryz.results84, go_sem, z4]) rfl ⟨rfl, ?_⟩
    repeat (with_reducible first | exact H1.out | refine Chg.setCell ?_ (.inr (by first | exact Nat.le_refl _ | (simp; done))) _)
  · subst hin
    obtain rfl : Pr = ⟨14, 6, 0, 0⟩ := HP.out.symm.trans rfl
    go_enter Tryz.func84, Tryz.ntmps84
    go_wp2_with (first
      | (go_at_call 88
         refine (op_any _ _ _ _).mono ?_
         rintro e w1 ⟨rfl, c1⟩
         have z4 := (HA.out.1.keep c1 (fun f => f)).four
         have H1 := Lib.hid (HA.out.2.trans c1)
         clear c1)
      | fail)
    refine bodyPost_ret (v := .agg #[.int .i64 (14), .int .i64 (6), .int .i64 (0), .int .i64 0]) (by simp [results, Tryz.results84, go_sem, z4]) rfl ⟨rfl, ?_⟩
    repeat (with_reducible first | exact H1.out | refine Chg.setCell ?_ (.inr (by first | exact Nat.le_refl _ | (simp; done))) _)
  · subst hin
    obtain rfl : Pr = ⟨14, 2, 0, 0⟩ := HP.out.symm.trans rfl
    go_enter Tryz.func84, Tryz.ntmps84
    go_wp2_with (first
      | (go_at_call 88
         refine (op_any _ _ _ _).mono ?_
         rintro e w1 ⟨rfl, c1⟩
         have z4 := (HA.out.1.keep c1 (fun f => f)).four
         have H1 := Lib.hid (HA.out.2.trans c1)
         clear c1)
      | fail)
    refine bodyPost_ret (v := .agg #[.int .i64 (14), .int .i64 (2), .int .i64 (0), .int .i64 0]) (by simp [results, Tryz.results84, go_sem, z4]) rfl ⟨rfl, ?_⟩
    repeat (with_reducible first | exact H1.out | refine Chg.setCell ?_ (.inr (by first | exact Nat.le_refl _ | (simp; done))) _)
  · obtain rfl : Pr = ⟨c - 109, 0, 0, 0⟩ := by
      rw [← HP.out]
      have e : (oneP c).1 = ⟨c - 109, 0, 0, 1⟩ := by
        rcases (show (124 ≤ c ∧ c ≤ 124) ∨ (125 ≤ c ∧ c ≤ 125) by omega) with hin | hin
        all_goals
          unfold oneP
          repeat (first | rw [if_pos (by omega)] | rw [if_neg (by omega)])
      rw [e]
      rfl
    have q0 : decide (c < 16) = false := decide_eq_false (by omega)
    have q1 : decide (c < 32) = false := decide_eq_false (by omega)
    have q2 : decide (c < 64) = false := decide_eq_false (by omega)
    have q3 : decide (c < 96) = false := decide_eq_false (by omega)
    have q4 : decide (c < 104) = false := decide_eq_false (by omega)
    have q5 : decide (c < 112) = false := decide_eq_false (by omega)
    have q6 : (c == 112) = false := beq_eq_false_iff_ne.2 (by omega)
    have q7 : decide (c < 120) = false := decide_eq_false (by omega)
    have q8 : (c == 120) = false := beq_eq_false_iff_ne.2 (by omega)
    have q9 : decide (c < 124) = false := decide_eq_false (by omega)
    have q10 : decide (c < 126) = true := decide_eq_true (by omega)
    have q11 : decide (135 ≤ c) = false := decide_eq_false (by omega)
    have q12 : decide (c ≤ 137) = true := decide_eq_true (by omega)
    have q13 : decide (144 ≤ c) = false := decide_eq_false (by omega)
    have q14 : decide (c ≤ 151) = true := decide_eq_true (by omega)
    have q15 : decide (152 ≤ c) = false := decide_eq_false (by omega)
    have q16 : decide (c ≤ 159) = true := decide_eq_true (by omega)
    have q17 : decide (176 ≤ c) = false := decide_eq_false (by omega)
    have q18 : decide (c ≤ 191) = true := decide_eq_true (by omega)
    have q19 : decide (192 ≤ c) = false := decide_eq_false (by omega)
    have q20 : decide (c ≤ 207) = true := decide_eq_true (by omega)
    have q21 : decide (208 ≤ c) = false := decide_eq_false (by omega)
    have w1 : IntKind.i64.wrap (c - 109) = c - 109 := IntWalk.i64_in _ (by omega)
    go_enter Tryz.func84, Tryz.ntmps84
    go_wp2_with (first
      | (go_at_call 88
         refine (op_any _ _ _ _).mono ?_
         rintro e w1 ⟨rfl, c1⟩
         have z4 := (HA.out.1.keep c1 (fun f => f)).four
         have H1 := Lib.hid (HA.out.2.trans c1)
         clear c1)
      | fail)
    refine bodyPost_ret (v := .agg #[.int .i64 (c - 109), .int .i64 (0), .int .i64 (0), .int .i64 0]) (by simp [results, Tryz.results84, go_sem, z4]) rfl ⟨rfl, ?_⟩
    repeat (with_reducible first | exact H1.out | refine Chg.setCell ?_ (.inr (by first | exact Nat.le_refl _ | (simp; done))) _)
  · obtain rfl : Pr = ⟨0, 0, 0, 0⟩ := by
      rw [← HP.out]
      have e : (oneP c).1 = ⟨0, 0, 0, 1⟩ := by
        rcases (show (126 ≤ c ∧ c ≤ 127) ∨ (128 ≤ c ∧ c ≤ 134) by omega) with hin | hin
        all_goals
          unfold oneP
          repeat (first | rw [if_pos (by omega)] | rw [if_neg (by omega)])
      rw [e]
      rfl
    have q0 : decide (c < 16) = false := decide_eq_false (by omega)
    have q1 : decide (c < 32) = false := decide_eq_false (by omega)
    have q2 : decide (c < 64) = false := decide_eq_false (by omega)
    have q3 : decide (c < 96) = false := decide_eq_false (by omega)
    have q4 : decide (c < 104) = false := decide_eq_false (by omega)
    have q5 : decide (c < 112) = false := decide_eq_false (by omega)
    have q6 : (c == 112) = false := beq_eq_false_iff_ne.2 (by omega)
    have q7 : decide (c < 120) = false := decide_eq_false (by omega)
    have q8 : (c == 120) = false := beq_eq_false_iff_ne.2 (by omega)
    have q9 : decide (c < 124) = false := decide_eq_false (by omega)
    have q10 : decide (c < 126) = false := decide_eq_false (by omega)
    have q11 : decide (135 ≤ c) = false := decide_eq_false (by omega)
    have q12 : decide (c ≤ 137) = true := decide_eq_true (by omega)
    have q13 : decide (144 ≤ c) = false := decide_eq_false (by omega)
    have q14 : decide (c ≤ 151) = true := decide_eq_true (by omega)
    have q15 : decide (152 ≤ c) = false := decide_eq_false (by omega)
    have q16 : decide (c ≤ 159) = true := decide_eq_true (by omega)
    have q17 : decide (176 ≤ c) = false := decide_eq_false (by omega)
    have q18 : decide (c ≤ 191) = true := decide_eq_true (by omega)
    have q19 : decide (192 ≤ c) = false := decide_eq_false (by omega)
    have q20 : decide (c ≤ 207) = true := decide_eq_true (by omega)
    have q21 : decide (208 ≤ c) = false := decide_eq_false (by omega)
    go_enter Tryz.func84, Tryz.ntmps84
    go_wp2_with (first
      | (go_at_call 88
         refine (op_any _ _ _ _).mono ?_
         rintro e w1 ⟨rfl, c1⟩
         have z4 := (HA.out.1.keep c1 (fun f => f)).four
         have H1 := Lib.hid (HA.out.2.trans c1)
         clear c1)
      | fail)
    refine bodyPost_ret (v := .agg #[.int .i64 (0), .int .i64 (0), .int .i64 (0), .int .i64 0]) (by simp [results, Tryz.results84, go_sem, z4]) rfl ⟨rfl, ?_⟩
    repeat (with_reducible first | exact H1.out | refine Chg.setCell ?_ (.inr (by first | exact Nat.le_refl _ | (simp; done))) _)
  · obtain rfl : Pr = ⟨c - 116, 0, 0, 0⟩ := by
      rw [← HP.out]
      have e : (oneP c).1 = ⟨c - 116, 0, 0, 1⟩ := by
        rcases (show (135 ≤ c ∧ c ≤ 135) ∨ (136 ≤ c ∧ c ≤ 137) by omega) with hin | hin
        all_goals
          unfold oneP
          repeat (first | rw [if_pos (by omega)] | rw [if_neg (by omega)])
      rw [e]
      rfl
    have q0 : decide (c < 16) = false := decide_eq_false (by omega)
    have q1 : decide (c < 32) = false := decide_eq_false (by omega)
    have q2 : decide (c < 64) = false := decide_eq_false (by omega)
    have q3 : decide (c < 96) = false := decide_eq_false (by omega)
    have q4 : decide (c < 104) = false := decide_eq_false (by omega)
    have q5 : decide (c < 112) = false := decide_eq_false (by omega)
    have q6 : (c == 112) = false := beq_eq_false_iff_ne.2 (by omega)
    have q7 : decide (c < 120) = false := decide_eq_false (by omega)
    have q8 : (c == 120) = false := beq_eq_false_iff_ne.2 (by omega)
    have q9 : decide (c < 124) = false := decide_eq_false (by omega)
    have q10 : decide (c < 126) = false := decide_eq_false (by omega)
    have q11 : decide (135 ≤ c) = true := decide_eq_true (by omega)
    have q12 : decide (c ≤ 137) = true := decide_eq_true (by omega)
    have q13 : decide (144 ≤ c) = false := decide_eq_false (by omega)
    have q14 : decide (c ≤ 151) = true := decide_eq_true (by omega)
    have q15 : decide (152 ≤ c) = false := decide_eq_false (by omega)
    have q16 : decide (c ≤ 159) = true := decide_eq_true (by omega)
    have q17 : decide (176 ≤ c) = false := decide_eq_false (by omega)
    have q18 : decide (c ≤ 191) = true := decide_eq_true (by omega)
    have q19 : decide (192 ≤ c) = false := decide_eq_false (by omega)
    have q20 : decide (c ≤ 207) = true := decide_eq_true (by omega)
    have q21 : decide (208 ≤ c) = false := decide_eq_false (by omega)
    have w1 : IntKind.i64.wrap (c - 116) = c - 116 := IntWalk.i64_in _ (by omega)
    go_enter Tryz.func84, Tryz.ntmps84
    go_wp2_with (first
      | (go_at_call 88
         refine (op_any _ _ _ _).mono ?_
         rintro e w1 ⟨rfl, c1⟩
         have z4 := (HA.out.1.keep c1 (fun f => f)).four
         have H1 := Lib.hid (HA.out.2.trans c1)
         clear c1)
      | fail)
    refine bodyPost_ret (v := .agg #[.int .i64 (c - 116), .int .i64 (0), .int .i64 (0), .int .i64 0]) (by simp [results, Tryz.results84, go_sem, z4]) rfl ⟨rfl, ?_⟩
    repeat (with_reducible first | exact H1.out | refine Chg.setCell ?_ (.inr (by first | exact Nat.le_refl _ | (simp; done))) _)
  · obtain rfl : Pr = ⟨0, 0, 0, 0⟩ := by
      rw [← HP.out]
      have e : (oneP c).1 = ⟨0, 0, 0, 1⟩ := by
        rcases (show (138 ≤ c ∧ c ≤ 138) ∨ (139 ≤ c ∧ c ≤ 143) by omega) with hin | hin
        all_goals
          unfold oneP
          repeat (first | rw [if_pos (by omega)] | rw [if_neg (by omega)])
      rw [e]
      rfl
    have q0 : decide (c < 16) = false := decide_eq_false (by omega)
    have q1 : decide (c < 32) = false := decide_eq_false (by omega)
    have q2 : decide (c < 64) = false := decide_eq_false (by omega)
    have q3 : decide (c < 96) = false := decide_eq_false (by omega)
    have q4 : decide (c < 104) = false := decide_eq_false (by omega)
    have q5 : decide (c < 112) = false := decide_eq_false (by omega)
    have q6 : (c == 112) = false := beq_eq_false_iff_ne.2 (by omega)
    have q7 : decide (c < 120) = false := decide_eq_false (by omega)
    have q8 : (c == 120) = false := beq_eq_false_iff_ne.2 (by omega)
    have q9 : decide (c < 124) = false := decide_eq_false (by omega)
    have q10 : decide (c < 126) = false := decide_eq_false (by omega)
    have q11 : decide (135 ≤ c) = true := decide_eq_true (by omega)
    have q12 : decide (c ≤ 137) = false := decide_eq_false (by omega)
    have q13 : decide (144 ≤ c) = false := decide_eq_false (by omega)
    have q14 : decide (c ≤ 151) = true := decide_eq_true (by omega)
    have q15 : decide (152 ≤ c) = false := decide_eq_false (by omega)
    have q16 : decide (c ≤ 159) = true := decide_eq_true (by omega)
    have q17 : decide (176 ≤ c) = false := decide_eq_false (by omega)
    have q18 : decide (c ≤ 191) = true := decide_eq_true (by omega)
    have q19 : decide (192 ≤ c) = false := decide_eq_false (by omega)
    have q20 : decide (c ≤ 207) = true := decide_eq_true (by omega)
    have q21 : decide (208 ≤ c) = false := decide_eq_false (by omega)
    go_enter Tryz.func84, Tryz.ntmps84
    go_wp2_with (first
      | (go_at_call 88
         refine (op_any _ _ _ _).mono ?_
         rintro e w1 ⟨rfl, c1⟩
         have z4 := (HA.out.1.keep c1 (fun f => f)).four
         have H1 := Lib.hid (HA.out.2.trans c1)
         clear c1)
      | fail)
    refine bodyPost_ret (v := .agg #[.int .i64 (0), .int .i64 (0), .int .i64 (0), .int .i64 0]) (by simp [results, Tryz.results84, go_sem, z4]) rfl ⟨rfl, ?_⟩
    repeat (with_reducible first | exact H1.out | refine Chg.setCell ?_ (.inr (by first | exact Nat.le_refl _ | (simp; done))) _)
  · obtain rfl : Pr = ⟨22, c - 143, 0, 0⟩ := by
      rw [← HP.out]
      have e : (oneP c).1 = ⟨22, c - 143, 0, 1⟩ := by
        rcases (show (144 ≤ c ∧ c ≤ 144) ∨ (145 ≤ c ∧ c ≤ 151) by omega) with hin | hin
        all_goals
          unfold oneP
          repeat (first | rw [if_pos (by omega)] | rw [if_neg (by omega)])
      rw [e]
      rfl
    have q0 : decide (c < 16) = false := decide_eq_false (by omega)
    have q1 : decide (c < 32) = false := decide_eq_false (by omega)
    have q2 : decide (c < 64) = false := decide_eq_false (by omega)
    have q3 : decide (c < 96) = false := decide_eq_false (by omega)
    have q4 : decide (c < 104) = false := decide_eq_false (by omega)
    have q5 : decide (c < 112) = false := decide_eq_false (by omega)
    have q6 : (c == 112) = false := beq_eq_false_iff_ne.2 (by omega)
    have q7 : decide (c < 120) = false := decide_eq_false (by omega)
    have q8 : (c == 120) = false := beq_eq_false_iff_ne.2 (by omega)
    have q9 : decide (c < 124) = false := decide_eq_false (by omega)
    have q10 : decide (c < 126) = false := decide_eq_false (by omega)
    have q11 : decide (135 ≤ c) = true := decide_eq_true (by omega)
    have q12 : decide (c ≤ 137) = false := decide_eq_false (by omega)
    have q13 : decide (144 ≤ c) = true := decide_eq_true (by omega)
    have q14 : decide (c ≤ 151) = true := decide_eq_true (by omega)
    have q15 : decide (152 ≤ c) = false := decide_eq_false (by omega)
    have q16 : decide (c ≤ 159) = true := decide_eq_true (by omega)
    have q17 : decide (176 ≤ c) = false := decide_eq_false (by omega)
    have q18 : decide (c ≤ 191) = true := decide_eq_true (by omega)
    have q19 : decide (192 ≤ c) = false := decide_eq_false (by omega)
    have q20 : decide (c ≤ 207) = true := decide_eq_true (by omega)
    have q21 : decide (208 ≤ c) = false := decide_eq_false (by omega)
    have w1 : IntKind.i64.wrap (c - 143) = c - 143 := IntWalk.i64_in _ (by omega)
    go_enter Tryz.func84, Tryz.ntmps84
    go_wp2_with (first
      | (go_at_call 88
         refine (op_any _ _ _ _).mono ?_
         rintro e w1 ⟨rfl, c1⟩
         have z4 := (HA.out.1.keep c1 (fun f => f)).four
         have H1 := Lib.hid (HA.out.2.trans c1)
         clear c1)
      | fail)
    refine bodyPost_ret (v := .agg #[.int .i64 (22), .int .i64 (c - 143), .int .i64 (0), .int .i64 0]) (by simp [results, Tryz.results84, go_sem, z4]) rfl ⟨rfl, ?_⟩
    repeat (with_reducible first | exact H1.out | refine Chg.setCell ?_ (.inr (by first | exact Nat.le_refl _ | (simp; done))) _)
  · obtain rfl : Pr = ⟨24, c - 151, 0, 0⟩ := by
      rw [← HP.out]
      have e : (oneP c).1 = ⟨24, c - 151, 0, 1⟩ := by
        rcases (show (152 ≤ c ∧ c ≤ 152) ∨ (153 ≤ c ∧ c ≤ 159) by omega) with hin | hin
        all_goals
          unfold oneP
          repeat (first | rw [if_pos (by omega)] | rw [if_neg (by omega)])
      rw [e]
      rfl
    have q0 : decide (c < 16) = false := decide_eq_false (by omega)
    have q1 : decide (c < 32) = false := decide_eq_false (by omega)
    have q2 : decide (c < 64) = false := decide_eq_false (by omega)
    have q3 : decide (c < 96) = false := decide_eq_false (by omega)
    have q4 : decide (c < 104) = false := decide_eq_false (by omega)
    have q5 : decide (c < 112) = false := decide_eq_false (by omega)
    have q6 : (c == 112) = false := beq_eq_false_iff_ne.2 (by omega)
    have q7 : decide (c < 120) = false := decide_eq_false (by omega)
    have q8 : (c == 120) = false := beq_eq_false_iff_ne.2 (by omega)
    have q9 : decide (c < 124) = false := decide_eq_false (by omega)
    have q10 : decide (c < 126) = false := decide_eq_false (by omega)
    have q11 : decide (135 ≤ c) = true := decide_eq_true (by omega)
    have q12 : decide (c ≤ 137) = false := decide_eq_false (by omega)
    have q13 : decide (144 ≤ c) = true := decide_eq_true (by omega)
    have q14 : decide (c ≤ 151) = false := decide_eq_false (by omega)
    have q15 : decide (152 ≤ c) = true := decide_eq_true (by omega)
    have q16 : decide (c ≤ 159) = true := decide_eq_true (by omega)
    have q17 : decide (176 ≤ c) = false := decide_eq_false (by omega)
    have q18 : decide (c ≤ 191) = true := decide_eq_true (by omega)
    have q19 : decide (192 ≤ c) = false := decide_eq_false (by omega)
    have q20 : decide (c ≤ 207) = true := decide_eq_true (by omega)
    have q21 : decide (208 ≤ c) = false := decide_eq_false (by omega)
    have w1 : IntKind.i64.wrap (c - 151) = c - 151 := IntWalk.i64_in _ (by omega)
    go_enter Tryz.func84, Tryz.ntmps84
    go_wp2_with (first
      | (go_at_call 88
         refine (op_any _ _ _ _).mono ?_
         rintro e w1 ⟨rfl, c1⟩
         have z4 := (HA.out.1.keep c1 (fun f => f)).four
         have H1 := Lib.hid (HA.out.2.trans c1)
         clear c1)
      | fail)
    refine bodyPost_ret (v := .agg #[.int .i64 (24), .int .i64 (c - 151), .int .i64 (0), .int .i64 0]) (by simp [results, Tryz.results84, go_sem, z4]) rfl ⟨rfl, ?_⟩
    repeat (with_reducible first | exact H1.out | refine Chg.setCell ?_ (.inr (by first | exact Nat.le_refl _ | (simp; done))) _)
  · obtain rfl : Pr = ⟨0, 0, 0, 0⟩ := by
      rw [← HP.out]
      have e : (oneP c).1 = ⟨0, 0, 0, 1⟩ := by
        rcases (show (160 ≤ c ∧ c ≤ 160) ∨ (161 ≤ c ∧ c ≤ 175) by omega) with hin | hin
        all_goals
          unfold oneP
          repeat (first | rw [if_pos (by omega)] | rw [if_neg (by omega)])
      rw [e]
      rfl
    have q0 : decide (c < 16) = false := decide_eq_false (by omega)
    have q1 : decide (c < 32) = false := decide_eq_false (by omega)
    have q2 : decide (c < 64) = false := decide_eq_false (by omega)
    have q3 : decide (c < 96) = false := decide_eq_false (by omega)
    have q4 : decide (c < 104) = false := decide_eq_false (by omega)
    have q5 : decide (c < 112) = false := decide_eq_false (by omega)
    have q6 : (c == 112) = false := beq_eq_false_iff_ne.2 (by omega)
    have q7 : decide (c < 120) = false := decide_eq_false (by omega)
    have q8 : (c == 120) = false := beq_eq_false_iff_ne.2 (by omega)
    have q9 : decide (c < 124) = false := decide_eq_false (by omega)
    have q10 : decide (c < 126) = false := decide_eq_false (by omega)
    have q11 : decide (135 ≤ c) = true := decide_eq_true (by omega)
    have q12 : decide (c ≤ 137) = false := decide_eq_false (by omega)
    have q13 : decide (144 ≤ c) = true := decide_eq_true (by omega)
    have q14 : decide (c ≤ 151) = false := decide_eq_false (by omega)
    have q15 : decide (152 ≤ c) = true := decide_eq_true (by omega)
    have q16 : decide (c ≤ 159) = false := decide_eq_false (by omega)
    have q17 : decide (176 ≤ c) = false := decide_eq_false (by omega)
    have q18 : decide (c ≤ 191) = true := decide_eq_true (by omega)
    have q19 : decide (192 ≤ c) = false := decide_eq_false (by omega)
    have q20 : decide (c ≤ 207) = true := decide_eq_true (by omega)
    have q21 : decide (208 ≤ c) = false := decide_eq_false (by omega)
    go_enter Tryz.func84, Tryz.ntmps84
    go_wp2_with (first
      | (go_at_call 88
         refine (op_any _ _ _ _).mono ?_
         rintro e w1 ⟨rfl, c1⟩
         have z4 := (HA.out.1.keep c1 (fun f => f)).four
         have H1 := Lib.hid (HA.out.2.trans c1)
         clear c1)
      | fail)
    refine bodyPost_ret (v := .agg #[.int .i64 (0), .int .i64 (0), .int .i64 (0), .int .i64 0]) (by simp [results, Tryz.results84, go_sem, z4]) rfl ⟨rfl, ?_⟩
    repeat (with_reducible first | exact H1.out | refine Chg.setCell ?_ (.inr (by first | exact Nat.le_refl _ | (simp; done))) _)
  · obtain rfl : Pr = ⟨25, c - 176, 0, 0⟩ := by
      rw [← HP.out]
      have e : (oneP c).1 = ⟨25, c - 176, 0, 1⟩ := by
        rcases (show (176 ≤ c ∧ c ≤ 176) ∨ (177 ≤ c ∧ c ≤ 191) by omega) with hin | hin
        all_goals
          unfold oneP
          repeat (first | rw [if_pos (by omega)] | rw [if_neg (by omega)])
      rw [e]
      rfl
    have q0 : decide (c < 16) = false := decide_eq_false (by omega)
    have q1 : decide (c < 32) = false := decide_eq_false (by omega)
    have q2 : decide (c < 64) = false := decide_eq_false (by omega)
    have q3 : decide (c < 96) = false := decide_eq_false (by omega)
    have q4 : decide (c < 104) = false := decide_eq_false (by omega)
    have q5 : decide (c < 112) = false := decide_eq_false (by omega)
    have q6 : (c == 112) = false := beq_eq_false_iff_ne.2 (by omega)
    have q7 : decide (c < 120) = false := decide_eq_false (by omega)
    have q8 : (c == 120) = false := beq_eq_false_iff_ne.2 (by omega)
    have q9 : decide (c < 124) = false := decide_eq_false (by omega)
    have q10 : decide (c < 126) = false := decide_eq_false (by omega)
    have q11 : decide (135 ≤ c) = true := decide_eq_true (by omega)
    have q12 : decide (c ≤ 137) = false := decide_eq_false (by omega)
    have q13 : decide (144 ≤ c) = true := decide_eq_true (by omega)
    have q14 : decide (c ≤ 151) = false := decide_eq_false (by omega)
    have q15 : decide (152 ≤ c) = true := decide_eq_true (by omega)
    have q16 : decide (c ≤ 159) = false := decide_eq_false (by omega)
    have q17 : decide (176 ≤ c) = true := decide_eq_true (by omega)
    have q18 : decide (c ≤ 191) = true := decide_eq_true (by omega)
    have q19 : decide (192 ≤ c) = false := decide_eq_false (by omega)
    have q20 : decide (c ≤ 207) = true := decide_eq_true (by omega)
    have q21 : decide (208 ≤ c) = false := decide_eq_false (by omega)
    have w1 : IntKind.i64.wrap (c - 176) = c - 176 := IntWalk.i64_in _ (by omega)
    go_enter Tryz.func84, Tryz.ntmps84
    go_wp2_with (first
      | (go_at_call 88
         refine (op_any _ _ _ _).mono ?_
         rintro e w1 ⟨rfl, c1⟩
         have z4 := (HA.out.1.keep c1 (fun f => f)).four
         have H1 := Lib.hid (HA.out.2.trans c1)
         clear c1)
      | fail)
    refine bodyPost_ret (v := .agg #[.int .i64 (25), .int .i64 (c - 176), .int .i64 (0), .int .i64 0]) (by simp [results, Tryz.results84, go_sem, z4]) rfl ⟨rfl, ?_⟩
    repeat (with_reducible first | exact H1.out | refine Chg.setCell ?_ (.inr (by first | exact Nat.le_refl _ | (simp; done))) _)
  · obtain rfl : Pr = ⟨26, c - 192, 0, 0⟩ := by
      rw [← HP.out]
      have e : (oneP c).1 = ⟨26, c - 192, 0, 1⟩ := by
        rcases (show (192 ≤ c ∧ c ≤ 192) ∨ (193 ≤ c ∧ c ≤ 207) by omega) with hin | hin
        all_goals
          unfold oneP
          repeat (first | rw [if_pos (by omega)] | rw [if_neg (by omega)])
      rw [e]
      rfl
    have q0 : decide (c < 16) = false := decide_eq_false (by omega)
    have q1 : decide (c < 32) = false := decide_eq_false (by omega)
    have q2 : decide (c < 64) = false := decide_eq_false (by omega)
    have q3 : decide (c < 96) = false := decide_eq_false (by omega)
    have q4 : decide (c < 104) = false := decide_eq_false (by omega)
    have q5 : decide (c < 112) = false := decide_eq_false (by omega)
    have q6 : (c == 112) = false := beq_eq_false_iff_ne.2 (by omega)
    have q7 : decide (c < 120) = false := decide_eq_false (by omega)
    have q8 : (c == 120) = false := beq_eq_false_iff_ne.2 (by omega)
    have q9 : decide (c < 124) = false := decide_eq_false (by omega)
    have q10 : decide (c < 126) = false := decide_eq_false (by omega)
    have q11 : decide (135 ≤ c) = true := decide_eq_true (by omega)
    have q12 : decide (c ≤ 137) = false := decide_eq_false (by omega)
    have q13 : decide (144 ≤ c) = true := decide_eq_true (by omega)
    have q14 : decide (c ≤ 151) = false := decide_eq_false (by omega)
    have q15 : decide (152 ≤ c) = true := decide_eq_true (by omega)
    have q16 : decide (c ≤ 159) = false := decide_eq_false (by omega)
    have q17 : decide (176 ≤ c) = true := decide_eq_true (by omega)
    have q18 : decide (c ≤ 191) = false := decide_eq_false (by omega)
    have q19 : decide (192 ≤ c) = true := decide_eq_true (by omega)
    have q20 : decide (c ≤ 207) = true := decide_eq_true (by omega)
    have q21 : decide (208 ≤ c) = false := decide_eq_false (by omega)
    have w1 : IntKind.i64.wrap (c - 192) = c - 192 := IntWalk.i64_in _ (by omega)
    go_enter Tryz.func84, Tryz.ntmps84
    go_wp2_with (first
      | (go_at_call 88
         refine (op_any _ _ _ _).mono ?_
         rintro e w1 ⟨rfl, c1⟩
         have z4 := (HA.out.1.keep c1 (fun f => f)).four
         have H1 := Lib.hid (HA.out.2.trans c1)
         clear c1)
      | fail)
    refine bodyPost_ret (v := .agg #[.int .i64 (26), .int .i64 (c - 192), .int .i64 (0), .int .i64 0]) (by simp [results, Tryz.results84, go_sem, z4]) rfl ⟨rfl, ?_⟩
    repeat (with_reducible first | exact H1.out | refine Chg.setCell ?_ (.inr (by first | exact Nat.le_refl _ | (simp; done))) _)
  · obtain rfl : Pr = ⟨17, c % 16, (c - 208) / 16, 0⟩ := by
      rw [← HP.out]
      have e : (oneP c).1 = ⟨17, c % 16, (c - 208) / 16, 1⟩ := by
        rcases (show (208 ≤ c ∧ c ≤ 208) ∨ (209 ≤ c ∧ c ≤ 255) by omega) with hin | hin
        all_goals
          unfold oneP
          repeat (first | rw [if_pos (by omega)] | rw [if_neg (by omega)])
      rw [e]
      rfl
    have q0 : decide (c < 16) = false := decide_eq_false (by omega)
    have q1 : decide (c < 32) = false := decide_eq_false (by omega)
    have q2 : decide (c < 64) = false := decide_eq_false (by omega)
    have q3 : decide (c < 96) = false := decide_eq_false (by omega)
    have q4 : decide (c < 104) = false := decide_eq_false (by omega)
    have q5 : decide (c < 112) = false := decide_eq_false (by omega)
    have q6 : (c == 112) = false := beq_eq_false_iff_ne.2 (by omega)
    have q7 : decide (c < 120) = false := decide_eq_false (by omega)
    have q8 : (c == 120) = false := beq_eq_false_iff_ne.2 (by omega)
    have q9 : decide (c < 124) = false := decide_eq_false (by omega)
    have q10 : decide (c < 126) = false := decide_eq_false (by omega)
    have q11 : decide (135 ≤ c) = true := decide_eq_true (by omega)
    have q12 : decide (c ≤ 137) = false := decide_eq_false (by omega)
    have q13 : decide (144 ≤ c) = true := decide_eq_true (by omega)
    have q14 : decide (c ≤ 151) = false := decide_eq_false (by omega)
    have q15 : decide (152 ≤ c) = true := decide_eq_true (by omega)
    have q16 : decide (c ≤ 159) = false := decide_eq_false (by omega)
    have q17 : decide (176 ≤ c) = true := decide_eq_true (by omega)
    have q18 : decide (c ≤ 191) = false := decide_eq_false (by omega)
    have q19 : decide (192 ≤ c) = true := decide_eq_true (by omega)
    have q20 : decide (c ≤ 207) = false := decide_eq_false (by omega)
    have q21 : decide (208 ≤ c) = true := decide_eq_true (by omega)
    have w2 : c.tmod 16 = c % 16 := Int.tmod_eq_emod_of_nonneg (by omega)
    have w3 : c.tdiv 16 = c / 16 := Int.tdiv_eq_ediv_of_nonneg (by omega)
    have w4 : IntKind.i64.wrap (c % 16) = c % 16 := IntWalk.i64_in _ (by omega)
    have w5 : IntKind.i64.wrap (c / 16) = c / 16 := IntWalk.i64_in _ (by omega)
    have w6 : IntKind.i64.wrap (c / 16 - 13) = (c - 208) / 16 := (IntWalk.i64_in _ (by omega)).trans (by omega)
    go_enter Tryz.func84, Tryz.ntmps84
    go_wp2_with (first
      | (go_at_call 88
         refine (op_any _ _ _ _).mono ?_
         rintro e w1 ⟨rfl, c1⟩
         have z4 := (HA.out.1.keep c1 (fun f => f)).four
         have H1 := Lib.hid (HA.out.2.trans c1)
         clear c1)
      | fail)
    refine bodyPost_ret (v := .agg #[.int .i64 (17), .int .i64 (c % 16), .int .i64 ((c - 208) / 16), .int .i64 0]) (by simp [results, Tryz.results84, go_sem, z4]) rfl ⟨rfl, ?_⟩
    repeat (with_reducible first | exact H1.out | refine Chg.setCell ?_ (.inr (by first | exact Nat.le_refl _ | (simp; done))) _)

set_option maxRecDepth 100000 in
set_option maxHeartbeats 8000000 in
theorem wide_any (c n m : Int) (hc : (128 ≤ c ∧ c ≤ 134) ∨ (160 ≤ c ∧ c ≤ 175)) (hn : 0 ≤ n ∧ n ≤ 255) (hm : 0 ≤ m ∧ m ≤ 255) (w : World) : Calls Tryz.prog 85 #[.int .i64 c, .int .i64 n, .int .i64 m] w fun e w' => e = .returned (.agg (moreP c n m).noLen.cells) ∧ Chg No w w' := by
  obtain ⟨Pr, hP⟩ : ∃ r, (moreP c n m).noLen = r := ⟨_, rfl⟩
  rw [hP]
  have HP := Lib.hid hP
  clear hP
  have row := Row.new w 113 #[.int .i64 0, .int .i64 0, .int .i64 0, .int .i64 0]
  have cA : Chg No w (w.alloc (.cells #[.int .i64 0, .int .i64 0, .int .i64 0, .int .i64 0] 113)) := (Chg.refl _ _).alloc _
  have HA := Lib.hid (And.intro row cA)
  clear row cA
  have d64 : n.tdiv 64 = n / 64 := Int.tdiv_eq_ediv_of_nonneg (by omega)
  have m64 : n.tmod 64 = n % 64 := Int.tmod_eq_emod_of_nonneg (by omega)
  have d32 : n.tdiv 32 = n / 32 := Int.tdiv_eq_ediv_of_nonneg (by omega)
  have m32 : n.tmod 32 = n % 32 := Int.tmod_eq_emod_of_nonneg (by omega)
  have v1 : IntKind.i64.wrap (n / 64) = n / 64 := IntWalk.i64_in _ (by omega)
  have v2 : IntKind.i64.wrap (n % 64) = n % 64 := IntWalk.i64_in _ (by omega)
  have v3 : IntKind.i64.wrap (n / 32) = n / 32 := IntWalk.i64_in _ (by omega)
  have v4 : IntKind.i64.wrap (n % 32) = n % 32 := IntWalk.i64_in _ (by omega)
  rcases (show c = 128 ∨ c = 129 ∨ c = 130 ∨ c = 131 ∨ c = 132 ∨ c = 133 ∨ c = 134 ∨ (160 ≤ c ∧ c ≤ 167) ∨ (168 ≤ c ∧ c ≤ 171) ∨ (172 ≤ c ∧ c ≤ 175) by omega) with rfl | rfl | rfl | rfl | rfl | rfl | rfl | hc2 | hc2 | hc2
  · rcases (show n / 64 = 0 ∨ n / 64 = 1 ∨ n / 64 = 2 ∨ n / 64 = 3 by omega) with hq | hq | hq | hq
    · obtain rfl : Pr = ⟨1, n % 64, 0, 0⟩ := by
        rw [← HP.out]
        unfold moreP storeV
        rw [hq]
        rfl
      rw [hq] at d64 v1
      go_enter Tryz.func85, Tryz.ntmps85
      go_wp2_with (first
        | (go_at_call 88
           refine (op_any _ _ _ _).mono ?_
           rintro e w1 ⟨rfl, c1⟩
           have z4 := (HA.out.1.keep c1 (fun f => f)).four
           have H1 := Lib.hid (HA.out.2.trans c1)
           clear c1)
        | fail)
      refine bodyPost_ret (v := .agg #[.int .i64 (1), .int .i64 (n % 64), .int .i64 (0), .int .i64 0]) (by simp [results, Tryz.results85, go_sem, z4]) rfl ⟨rfl, ?_⟩
      repeat (with_reducible first | exact H1.out | refine Chg.setCell ?_ (.inr (by first | exact Nat.le_refl _ | (simp; done))) _)
    · obtain rfl : Pr = ⟨2, n % 64, 0, 0⟩ := by
        rw [← HP.out]
        unfold moreP storeV
        rw [hq]
        rfl
      rw [hq] at d64 v1
      go_enter Tryz.func85, Tryz.ntmps85
      go_wp2_with (first
        | (go_at_call 88
           refine (op_any _ _ _ _).mono ?_
           rintro e w1 ⟨rfl, c1⟩
           have z4 := (HA.out.1.keep c1 (fun f => f)).four
           have H1 := Lib.hid (HA.out.2.trans c1)
           clear c1)
        | fail)
      refine bodyPost_ret (v := .agg #[.int .i64 (2), .int .i64 (n % 64), .int .i64 (0), .int .i64 0]) (by simp [results, Tryz.results85, go_sem, z4]) rfl ⟨rfl, ?_⟩
      repeat (with_reducible first | exact H1.out | refine Chg.setCell ?_ (.inr (by first | exact Nat.le_refl _ | (simp; done))) _)
    · obtain rfl : Pr = ⟨3, n % 64, 0, 0⟩ := by
        rw [← HP.out]
        unfold moreP storeV
        rw [hq]
        rfl
      rw [hq] at d64 v1
      go_enter Tryz.func85, Tryz.ntmps85
      go_wp2_with (first
        | (go_at_call 88
           refine (op_any _ _ _ _).mono ?_
           rintro e w1 ⟨rfl, c1⟩
           have z4 := (HA.out.1.keep c1 (fun f => f)).four
           have H1 := Lib.hid (HA.out.2.trans c1)
           clear c1)
        | fail)
      refine bodyPost_ret (v := .agg #[.int .i64 (3), .int .i64 (n % 64), .int .i64 (0), .int .i64 0]) (by simp [results, Tryz.results85, go_sem, z4]) rfl ⟨rfl, ?_⟩
      repeat (with_reducible first | exact H1.out | refine Chg.setCell ?_ (.inr (by first | exact Nat.le_refl _ | (simp; done))) _)
    · obtain rfl : Pr = ⟨4, n % 64, 0, 0⟩ := by
        rw [← HP.out]
        unfold moreP storeV
        rw [hq]
        rfl
      rw [hq] at d64 v1
      go_enter Tryz.func85, Tryz.ntmps85
      go_wp2_with (first
        | (go_at_call 88
           refine (op_any _ _ _ _).mono ?_
           rintro e w1 ⟨rfl, c1⟩
           have z4 := (HA.out.1.keep c1 (fun f => f)).four
           have H1 := Lib.hid (HA.out.2.trans c1)
           clear c1)
        | fail)
      refine bodyPost_ret (v := .agg #[.int .i64 (4), .int .i64 (n % 64), .int .i64 (0), .int .i64 0]) (by simp [results, Tryz.results85, go_sem, z4]) rfl ⟨rfl, ?_⟩
      repeat (with_reducible first | exact H1.out | refine Chg.setCell ?_ (.inr (by first | exact Nat.le_refl _ | (simp; done))) _)
  · rcases (show n / 64 = 0 ∨ n / 64 = 1 ∨ n / 64 = 2 ∨ n / 64 = 3 by omega) with hq | hq | hq | hq
    · obtain rfl : Pr = ⟨5, n % 64, 0, 0⟩ := by
        rw [← HP.out]
        unfold moreP storeV
        rw [hq]
        rfl
      rw [hq] at d64 v1
      go_enter Tryz.func85, Tryz.ntmps85
      go_wp2_with (first
        | (go_at_call 88
           refine (op_any _ _ _ _).mono ?_
           rintro e w1 ⟨rfl, c1⟩
           have z4 := (HA.out.1.keep c1 (fun f => f)).four
           have H1 := Lib.hid (HA.out.2.trans c1)
           clear c1)
        | fail)
      refine bodyPost_ret (v := .agg #[.int .i64 (5), .int .i64 (n % 64), .int .i64 (0), .int .i64 0]) (by simp [results, Tryz.results85, go_sem, z4]) rfl ⟨rfl, ?_⟩
      repeat (with_reducible first | exact H1.out | refine Chg.setCell ?_ (.inr (by first | exact Nat.le_refl _ | (simp; done))) _)
    · obtain rfl : Pr = ⟨6, n % 64, 0, 0⟩ := by
        rw [← HP.out]
        unfold moreP storeV
        rw [hq]
        rfl
      rw [hq] at d64 v1
      go_enter Tryz.func85, Tryz.ntmps85
      go_wp2_with (first
        | (go_at_call 88
           refine (op_any _ _ _ _).mono ?_
           rintro e w1 ⟨rfl, c1⟩
           have z4 := (HA.out.1.keep c1 (fun f => f)).four
           have H1 := Lib.hid (HA.out.2.trans c1)
           clear c1)
        | fail)
      refine bodyPost_ret (v := .agg #[.int .i64 (6), .int .i64 (n % 64), .int .i64 (0), .int .i64 0]) (by simp [results, Tryz.results85, go_sem, z4]) rfl ⟨rfl, ?_⟩
      repeat (with_reducible first | exact H1.out | refine Chg.setCell ?_ (.inr (by first | exact Nat.le_refl _ | (simp; done))) _)
    · obtain rfl : Pr = ⟨0, 0, 0, 0⟩ := by
        rw [← HP.out]
        unfold moreP storeV
        rw [hq]
        rfl
      rw [hq] at d64 v1
      go_enter Tryz.func85, Tryz.ntmps85
      go_wp2_with (first
        | (go_at_call 88
           refine (op_any _ _ _ _).mono ?_
           rintro e w1 ⟨rfl, c1⟩
           have z4 := (HA.out.1.keep c1 (fun f => f)).four
           have H1 := Lib.hid (HA.out.2.trans c1)
           clear c1)
        | fail)
      refine bodyPost_ret (v := .agg #[.int .i64 (0), .int .i64 (0), .int .i64 (0), .int .i64 0]) (by simp [results, Tryz.results85, go_sem, z4]) rfl ⟨rfl, ?_⟩
      repeat (with_reducible first | exact H1.out | refine Chg.setCell ?_ (.inr (by first | exact Nat.le_refl _ | (simp; done))) _)
    · obtain rfl : Pr = ⟨7, n % 64, 0, 0⟩ := by
        rw [← HP.out]
        unfold moreP storeV
        rw [hq]
        rfl
      rw [hq] at d64 v1
      go_enter Tryz.func85, Tryz.ntmps85
      go_wp2_with (first
        | (go_at_call 88
           refine (op_any _ _ _ _).mono ?_
           rintro e w1 ⟨rfl, c1⟩
           have z4 := (HA.out.1.keep c1 (fun f => f)).four
           have H1 := Lib.hid (HA.out.2.trans c1)
           clear c1)
        | fail)
      refine bodyPost_ret (v := .agg #[.int .i64 (7), .int .i64 (n % 64), .int .i64 (0), .int .i64 0]) (by simp [results, Tryz.results85, go_sem, z4]) rfl ⟨rfl, ?_⟩
      repeat (with_reducible first | exact H1.out | refine Chg.setCell ?_ (.inr (by first | exact Nat.le_refl _ | (simp; done))) _)
  · rcases (show n / 64 = 0 ∨ n / 64 = 1 ∨ n / 64 = 2 ∨ n / 64 = 3 by omega) with hq | hq | hq | hq
    · obtain rfl : Pr = ⟨8, n % 64, 0, 0⟩ := by
        rw [← HP.out]
        unfold moreP storeV
        rw [hq]
        rfl
      rw [hq] at d64 v1
      go_enter Tryz.func85, Tryz.ntmps85
      go_wp2_with (first
        | (go_at_call 88
           refine (op_any _ _ _ _).mono ?_
           rintro e w1 ⟨rfl, c1⟩
           have z4 := (HA.out.1.keep c1 (fun f => f)).four
           have H1 := Lib.hid (HA.out.2.trans c1)
           clear c1)
        | fail)
      refine bodyPost_ret (v := .agg #[.int .i64 (8), .int .i64 (n % 64), .int .i64 (0), .int .i64 0]) (by simp [results, Tryz.results85, go_sem, z4]) rfl ⟨rfl, ?_⟩
      repeat (with_reducible first | exact H1.out | refine Chg.setCell ?_ (.inr (by first | exact Nat.le_refl _ | (simp; done))) _)
    · obtain rfl : Pr = ⟨9, n % 64, 0, 0⟩ := by
        rw [← HP.out]
        unfold moreP storeV
        rw [hq]
        rfl
      rw [hq] at d64 v1
      go_enter Tryz.func85, Tryz.ntmps85
      go_wp2_with (first
        | (go_at_call 88
           refine (op_any _ _ _ _).mono ?_
           rintro e w1 ⟨rfl, c1⟩
           have z4 := (HA.out.1.keep c1 (fun f => f)).four
           have H1 := Lib.hid (HA.out.2.trans c1)
           clear c1)
        | fail)
      refine bodyPost_ret (v := .agg #[.int .i64 (9), .int .i64 (n % 64), .int .i64 (0), .int .i64 0]) (by simp [results, Tryz.results85, go_sem, z4]) rfl ⟨rfl, ?_⟩
      repeat (with_reducible first | exact H1.out | refine Chg.setCell ?_ (.inr (by first | exact Nat.le_refl _ | (simp; done))) _)
    · obtain rfl : Pr = ⟨0, 0, 0, 0⟩ := by
        rw [← HP.out]
        unfold moreP storeV
        rw [hq]
        rfl
      rw [hq] at d64 v1
      go_enter Tryz.func85, Tryz.ntmps85
      go_wp2_with (first
        | (go_at_call 88
           refine (op_any _ _ _ _).mono ?_
           rintro e w1 ⟨rfl, c1⟩
           have z4 := (HA.out.1.keep c1 (fun f => f)).four
           have H1 := Lib.hid (HA.out.2.trans c1)
           clear c1)
        | fail)
      refine bodyPost_ret (v := .agg #[.int .i64 (0), .int .i64 (0), .int .i64 (0), .int .i64 0]) (by simp [results, Tryz.results85, go_sem, z4]) rfl ⟨rfl, ?_⟩
      repeat (with_reducible first | exact H1.out | refine Chg.setCell ?_ (.inr (by first | exact Nat.le_refl _ | (simp; done))) _)
    · obtain rfl : Pr = ⟨10, n % 64, 0, 0⟩ := by
        rw [← HP.out]
        unfold moreP storeV
        rw [hq]
        rfl
      rw [hq] at d64 v1
      go_enter Tryz.func85, Tryz.ntmps85
      go_wp2_with (first
        | (go_at_call 88
           refine (op_any _ _ _ _).mono ?_
           rintro e w1 ⟨rfl, c1⟩
           have z4 := (HA.out.1.keep c1 (fun f => f)).four
           have H1 := Lib.hid (HA.out.2.trans c1)
           clear c1)
        | fail)
      refine bodyPost_ret (v := .agg #[.int .i64 (10), .int .i64 (n % 64), .int .i64 (0), .int .i64 0]) (by simp [results, Tryz.results85, go_sem, z4]) rfl ⟨rfl, ?_⟩
      repeat (with_reducible first | exact H1.out | refine Chg.setCell ?_ (.inr (by first | exact Nat.le_refl _ | (simp; done))) _)
  · obtain rfl : Pr = ⟨17, n % 32, n / 32, 0⟩ := by
      rw [← HP.out]
      rfl
    go_enter Tryz.func85, Tryz.ntmps85
    go_wp2_with (first
      | (go_at_call 88
         refine (op_any _ _ _ _).mono ?_
         rintro e w1 ⟨rfl, c1⟩
         have z4 := (HA.out.1.keep c1 (fun f => f)).four
         have H1 := Lib.hid (HA.out.2.trans c1)
         clear c1)
      | fail)
    refine bodyPost_ret (v := .agg #[.int .i64 (17), .int .i64 (n % 32), .int .i64 (n / 32), .int .i64 0]) (by simp [results, Tryz.results85, go_sem, z4]) rfl ⟨rfl, ?_⟩
    repeat (with_reducible first | exact H1.out | refine Chg.setCell ?_ (.inr (by first | exact Nat.le_refl _ | (simp; done))) _)
  · obtain rfl : Pr = ⟨17, m, n, 0⟩ := by
      rw [← HP.out]
      rfl
    go_enter Tryz.func85, Tryz.ntmps85
    go_wp2_with (first
      | (go_at_call 88
         refine (op_any _ _ _ _).mono ?_
         rintro e w1 ⟨rfl, c1⟩
         have z4 := (HA.out.1.keep c1 (fun f => f)).four
         have H1 := Lib.hid (HA.out.2.trans c1)
         clear c1)
      | fail)
    refine bodyPost_ret (v := .agg #[.int .i64 (17), .int .i64 (m), .int .i64 (n), .int .i64 0]) (by simp [results, Tryz.results85, go_sem, z4]) rfl ⟨rfl, ?_⟩
    repeat (with_reducible first | exact H1.out | refine Chg.setCell ?_ (.inr (by first | exact Nat.le_refl _ | (simp; done))) _)
  · obtain rfl : Pr = ⟨18, n % 32, n / 32, 0⟩ := by
      rw [← HP.out]
      rfl
    go_enter Tryz.func85, Tryz.ntmps85
    go_wp2_with (first
      | (go_at_call 88
         refine (op_any _ _ _ _).mono ?_
         rintro e w1 ⟨rfl, c1⟩
         have z4 := (HA.out.1.keep c1 (fun f => f)).four
         have H1 := Lib.hid (HA.out.2.trans c1)
         clear c1)
      | fail)
    refine bodyPost_ret (v := .agg #[.int .i64 (18), .int .i64 (n % 32), .int .i64 (n / 32), .int .i64 0]) (by simp [results, Tryz.results85, go_sem, z4]) rfl ⟨rfl, ?_⟩
    repeat (with_reducible first | exact H1.out | refine Chg.setCell ?_ (.inr (by first | exact Nat.le_refl _ | (simp; done))) _)
  · obtain rfl : Pr = ⟨18, m, n, 0⟩ := by
      rw [← HP.out]
      rfl
    go_enter Tryz.func85, Tryz.ntmps85
    go_wp2_with (first
      | (go_at_call 88
         refine (op_any _ _ _ _).mono ?_
         rintro e w1 ⟨rfl, c1⟩
         have z4 := (HA.out.1.keep c1 (fun f => f)).four
         have H1 := Lib.hid (HA.out.2.trans c1)
         clear c1)
      | fail)
    refine bodyPost_ret (v := .agg #[.int .i64 (18), .int .i64 (m), .int .i64 (n), .int .i64 0]) (by simp [results, Tryz.results85, go_sem, z4]) rfl ⟨rfl, ?_⟩
    repeat (with_reducible first | exact H1.out | refine Chg.setCell ?_ (.inr (by first | exact Nat.le_refl _ | (simp; done))) _)
  · obtain rfl : Pr = ⟨22, (c - 164) * 256 + n, 0, 0⟩ := by
      rw [← HP.out]
      unfold moreP
      rw [if_neg (by omega), if_neg (by omega), if_neg (by omega), if_pos (by omega)]
      show (⟨22, 256 * (c - 164) + n, 0, 0⟩ : P4) = _
      rw [Int.mul_comm]
    have e128 : (c == 128) = false := beq_eq_false_iff_ne.2 (by omega)
    have e129 : (c == 129) = false := beq_eq_false_iff_ne.2 (by omega)
    have e130 : (c == 130) = false := beq_eq_false_iff_ne.2 (by omega)
    have e131 : (c == 131) = false := beq_eq_false_iff_ne.2 (by omega)
    have e132 : (c == 132) = false := beq_eq_false_iff_ne.2 (by omega)
    have e133 : (c == 133) = false := beq_eq_false_iff_ne.2 (by omega)
    have e134 : (c == 134) = false := beq_eq_false_iff_ne.2 (by omega)
    have l130 : decide (c ≤ 130) = false := decide_eq_false (by omega)
    have l168 : decide (c < 168) = true := decide_eq_true (by omega)
    have l172 : decide (c < 172) = true := decide_eq_true (by omega)
    have w1 : IntKind.i64.wrap (c - 164) = c - 164 := IntWalk.i64_in _ (by omega)
    have w2 : IntKind.i64.wrap ((c - 164) * 256) = (c - 164) * 256 := IntWalk.i64_in _ (by omega)
    have w3 : IntKind.i64.wrap ((c - 164) * 256 + n) = (c - 164) * 256 + n := IntWalk.i64_in _ (by omega)
    go_enter Tryz.func85, Tryz.ntmps85
    go_wp2_with (first
      | (go_at_call 88
         refine (op_any _ _ _ _).mono ?_
         rintro e w1 ⟨rfl, c1⟩
         have z4 := (HA.out.1.keep c1 (fun f => f)).four
         have H1 := Lib.hid (HA.out.2.trans c1)
         clear c1)
      | fail)
    refine bodyPost_ret (v := .agg #[.int .i64 (22), .int .i64 ((c - 164) * 256 + n), .int .i64 (0), .int .i64 0]) (by simp [results, Tryz.results85, go_sem, z4]) rfl ⟨rfl, ?_⟩
    repeat (with_reducible first | exact H1.out | refine Chg.setCell ?_ (.inr (by first | exact Nat.le_refl _ | (simp; done))) _)
  · obtain rfl : Pr = ⟨23, (c - 168) * 256 + n, 0, 0⟩ := by
      rw [← HP.out]
      unfold moreP
      rw [if_neg (by omega), if_neg (by omega), if_neg (by omega), if_neg (by omega)]
      show (⟨23 + (c - 168) / 4, 256 * (c % 4) + n, 0, 0⟩ : P4) = _
      rw [show 23 + (c - 168) / 4 = 23 by omega, show 256 * (c % 4) = (c - 168) * 256 by omega]
    have e128 : (c == 128) = false := beq_eq_false_iff_ne.2 (by omega)
    have e129 : (c == 129) = false := beq_eq_false_iff_ne.2 (by omega)
    have e130 : (c == 130) = false := beq_eq_false_iff_ne.2 (by omega)
    have e131 : (c == 131) = false := beq_eq_false_iff_ne.2 (by omega)
    have e132 : (c == 132) = false := beq_eq_false_iff_ne.2 (by omega)
    have e133 : (c == 133) = false := beq_eq_false_iff_ne.2 (by omega)
    have e134 : (c == 134) = false := beq_eq_false_iff_ne.2 (by omega)
    have l130 : decide (c ≤ 130) = false := decide_eq_false (by omega)
    have l168 : decide (c < 168) = false := decide_eq_false (by omega)
    have l172 : decide (c < 172) = true := decide_eq_true (by omega)
    have w1 : IntKind.i64.wrap (c - 168) = c - 168 := IntWalk.i64_in _ (by omega)
    have w2 : IntKind.i64.wrap ((c - 168) * 256) = (c - 168) * 256 := IntWalk.i64_in _ (by omega)
    have w3 : IntKind.i64.wrap ((c - 168) * 256 + n) = (c - 168) * 256 + n := IntWalk.i64_in _ (by omega)
    go_enter Tryz.func85, Tryz.ntmps85
    go_wp2_with (first
      | (go_at_call 88
         refine (op_any _ _ _ _).mono ?_
         rintro e w1 ⟨rfl, c1⟩
         have z4 := (HA.out.1.keep c1 (fun f => f)).four
         have H1 := Lib.hid (HA.out.2.trans c1)
         clear c1)
      | fail)
    refine bodyPost_ret (v := .agg #[.int .i64 (23), .int .i64 ((c - 168) * 256 + n), .int .i64 (0), .int .i64 0]) (by simp [results, Tryz.results85, go_sem, z4]) rfl ⟨rfl, ?_⟩
    repeat (with_reducible first | exact H1.out | refine Chg.setCell ?_ (.inr (by first | exact Nat.le_refl _ | (simp; done))) _)
  · obtain rfl : Pr = ⟨24, (c - 172) * 256 + n, 0, 0⟩ := by
      rw [← HP.out]
      unfold moreP
      rw [if_neg (by omega), if_neg (by omega), if_neg (by omega), if_neg (by omega)]
      show (⟨23 + (c - 168) / 4, 256 * (c % 4) + n, 0, 0⟩ : P4) = _
      rw [show 23 + (c - 168) / 4 = 24 by omega, show 256 * (c % 4) = (c - 172) * 256 by omega]
    have e128 : (c == 128) = false := beq_eq_false_iff_ne.2 (by omega)
    have e129 : (c == 129) = false := beq_eq_false_iff_ne.2 (by omega)
    have e130 : (c == 130) = false := beq_eq_false_iff_ne.2 (by omega)
    have e131 : (c == 131) = false := beq_eq_false_iff_ne.2 (by omega)
    have e132 : (c == 132) = false := beq_eq_false_iff_ne.2 (by omega)
    have e133 : (c == 133) = false := beq_eq_false_iff_ne.2 (by omega)
    have e134 : (c == 134) = false := beq_eq_false_iff_ne.2 (by omega)
    have l130 : decide (c ≤ 130) = false := decide_eq_false (by omega)
    have l168 : decide (c < 168) = false := decide_eq_false (by omega)
    have l172 : decide (c < 172) = false := decide_eq_false (by omega)
    have w1 : IntKind.i64.wrap (c - 172) = c - 172 := IntWalk.i64_in _ (by omega)
    have w2 : IntKind.i64.wrap ((c - 172) * 256) = (c - 172) * 256 := IntWalk.i64_in _ (by omega)
    have w3 : IntKind.i64.wrap ((c - 172) * 256 + n) = (c - 172) * 256 + n := IntWalk.i64_in _ (by omega)
    go_enter Tryz.func85, Tryz.ntmps85
    go_wp2_with (first
      | (go_at_call 88
         refine (op_any _ _ _ _).mono ?_
         rintro e w1 ⟨rfl, c1⟩
         have z4 := (HA.out.1.keep c1 (fun f => f)).four
         have H1 := Lib.hid (HA.out.2.trans c1)
         clear c1)
      | fail)
    refine bodyPost_ret (v := .agg #[.int .i64 (24), .int .i64 ((c - 172) * 256 + n), .int .i64 (0), .int .i64 0]) (by simp [results, Tryz.results85, go_sem, z4]) rfl ⟨rfl, ?_⟩
    repeat (with_reducible first | exact H1.out | refine Chg.setCell ?_ (.inr (by first | exact Nat.le_refl _ | (simp; done))) _)

/-- how many bytes -/
def longV (c : Int) : Int := if (oneP c).2 = true then 1 else (lenC c : Int)
set_option maxRecDepth 100000 in
set_option maxHeartbeats 2000000 in
theorem long_any (c : Int) (hc0 : 0 ≤ c) (hc1 : c ≤ 255) (w : World) : Calls Tryz.prog 83 #[.int .i64 c] w fun e w' => e = .returned (.int .i64 (longV c)) ∧ w = w' := by
  obtain ⟨r, hr⟩ : ∃ r, longV c = r := ⟨_, rfl⟩
  rw [hr]
  cases ho : (oneP c).2
  · have hcc := oneP_no ho
    unfold longV at hr
    rw [ho, if_neg (by decide)] at hr
    unfold lenC at hr
    rcases (show c = 132 ∨ c = 134 ∨ (128 ≤ c ∧ c ≤ 131) ∨ c = 133 ∨ (160 ≤ c ∧ c ≤ 175) by omega) with rfl | rfl | q | rfl | q
    · obtain rfl := hr
      go_enter Tryz.func83, Tryz.ntmps83
      go_wp2_with fail
      go_ret
      exact ⟨rfl, rfl⟩
    · obtain rfl := hr
      go_enter Tryz.func83, Tryz.ntmps83
      go_wp2_with fail
      go_ret
      exact ⟨rfl, rfl⟩
    · rw [if_neg (by omega)] at hr
      obtain rfl := hr
      have e1 : (c == 132) = false := beq_eq_false_iff_ne.2 (by omega)
      have e2 : (c == 134) = false := beq_eq_false_iff_ne.2 (by omega)
      have e3 : decide (128 ≤ c) = true := decide_eq_true (by omega)
      have e4 : decide (c ≤ 133) = true := decide_eq_true (by omega)
      have e5 : decide (160 ≤ c) = false := decide_eq_false (by omega)
      have e6 : decide (c ≤ 175) = true := decide_eq_true (by omega)
      go_enter Tryz.func83, Tryz.ntmps83
      go_wp2_with fail
      go_ret
      exact ⟨rfl, rfl⟩
    · obtain rfl := hr
      go_enter Tryz.func83, Tryz.ntmps83
      go_wp2_with fail
      go_ret
      exact ⟨rfl, rfl⟩
    · rw [if_neg (by omega)] at hr
      obtain rfl := hr
      have e1 : (c == 132) = false := beq_eq_false_iff_ne.2 (by omega)
      have e2 : (c == 134) = false := beq_eq_false_iff_ne.2 (by omega)
      have e3 : decide (128 ≤ c) = true := decide_eq_true (by omega)
      have e4 : decide (c ≤ 133) = false := decide_eq_false (by omega)
      have e5 : decide (160 ≤ c) = true := decide_eq_true (by omega)
      have e6 : decide (c ≤ 175) = true := decide_eq_true (by omega)
      go_enter Tryz.func83, Tryz.ntmps83
      go_wp2_with fail
      go_ret
      exact ⟨rfl, rfl⟩
  · have hno : ¬ ((128 ≤ c ∧ c ≤ 134) ∨ (160 ≤ c ∧ c ≤ 175)) := fun h => by
      have : (oneP c).2 = false := by
        rcases h with h | h
        all_goals
          unfold oneP
          repeat (first | rw [if_pos (by omega)] | rw [if_neg (by omega)])
      rw [this] at ho
      cases ho
    unfold longV at hr
    rw [ho, if_pos rfl] at hr
    obtain rfl := hr
    have e1 : (c == 132) = false := beq_eq_false_iff_ne.2 (by omega)
    have e2 : (c == 134) = false := beq_eq_false_iff_ne.2 (by omega)
    rcases (show c ≤ 127 ∨ (135 ≤ c ∧ c ≤ 159) ∨ 176 ≤ c by omega) with q | q | q
    · have gge128 : decide (128 ≤ c) = false := decide_eq_false (by omega)
      have gle133 : decide (c ≤ 133) = true := decide_eq_true (by omega)
      have gge160 : decide (160 ≤ c) = false := decide_eq_false (by omega)
      have gle175 : decide (c ≤ 175) = true := decide_eq_true (by omega)
      go_enter Tryz.func83, Tryz.ntmps83
      go_wp2_with fail
      go_ret
      exact ⟨rfl, rfl⟩
    · have gge128 : decide (128 ≤ c) = true := decide_eq_true (by omega)
      have gle133 : decide (c ≤ 133) = false := decide_eq_false (by omega)
      have gge160 : decide (160 ≤ c) = false := decide_eq_false (by omega)
      have gle175 : decide (c ≤ 175) = true := decide_eq_true (by omega)
      go_enter Tryz.func83, Tryz.ntmps83
      go_wp2_with fail
      go_ret
      exact ⟨rfl, rfl⟩
    · have gge128 : decide (128 ≤ c) = true := decide_eq_true (by omega)
      have gle133 : decide (c ≤ 133) = false := decide_eq_false (by omega)
      have gge160 : decide (160 ≤ c) = true := decide_eq_true (by omega)
      have gle175 : decide (c ≤ 175) = false := decide_eq_false (by omega)
      go_enter Tryz.func83, Tryz.ntmps83
      go_wp2_with fail
      go_ret
      exact ⟨rfl, rfl⟩

end Go.Proofs.YtifcigjminbllaaGreatDoor
