/- Walk: the law PrimLaws. -/
import Derived.Test.YtdninandpkgfkaaDoorPrimLaws
namespace Go.Proofs.YtdninandpkgfkaaDoor
open Go.RowKit

theorem numOk_two (X : Int) (h : -1073741824 ≤ X ∧ X ≤ 1073741823) : numOk (2 * X + 1) = true := by simp [numOk]; omega
theorem numV_two (X : Int) (h : -1073741824 ≤ X ∧ X ≤ 1073741823) : numV (2 * X + 1) = X := by unfold numV; rw [if_pos (by omega)]; omega

theorem ar2_comp (n X Y : Int) (hX : -1073741824 ≤ X ∧ X ≤ 1073741823) (hY : -1073741824 ≤ Y ∧ Y ≤ 1073741823) (hn : 2 ≤ n ∧ n ≤ 7) :
    arV n (2 * X + 1) (2 * Y + 1) = compV n X Y ∧ arB n (2 * X + 1) (2 * Y + 1) = true := by
  have h := ar_comp (n := n) (numOk_two X hX) (numOk_two Y hY) (by simp [compOk]; omega)
  rw [numV_two X hX, numV_two Y hY] at h
  exact h
theorem ar2_num (n X Y : Int) (hX : -1073741824 ≤ X ∧ X ≤ 1073741823) (hY : -1073741824 ≤ Y ∧ Y ≤ 1073741823) (hn : compOk n = false) (hN : numB n X Y = true) (hz : -1073741824 ≤ numZ n X Y ∧ numZ n X Y ≤ 1073741823) :
    arV n (2 * X + 1) (2 * Y + 1) = 2 * numZ n X Y + 1 ∧ arB n (2 * X + 1) (2 * Y + 1) = true := by
  have h := ar_num (n := n) (numOk_two X hX) (numOk_two Y hY) hn (by rw [numV_two X hX, numV_two Y hY]; exact hN)
  rw [numV_two X hX, numV_two Y hY, show smallV (numZ n X Y) = 2 * numZ n X Y + 1 from if_pos hz, show smallE (numZ n X Y) = 0 from if_pos hz] at h
  exact h
theorem ar2_zero (X Y : Int) (hY : Y = 0) : arB 13 (2 * X + 1) (2 * Y + 1) = false ∧ arV 13 (2 * X + 1) (2 * Y + 1) = 0 := by
  subst hY
  have h : arB 13 (2 * X + 1) (2 * 0 + 1) = false := by
    simp [arB, show numV 1 = 0 from rfl, numB, numDiv, compOk]
  exact ⟨h, arV_no h⟩

theorem down_back (X Y : Int) : downQ X Y * Y + downR X Y = X := by
  have h := Int.mul_tdiv_add_tmod X Y
  have h2 : X.tdiv Y * Y = Y * X.tdiv Y := Int.mul_comm _ _
  unfold downQ downR
  split
  · rw [Int.sub_mul, Int.one_mul, h2]; omega
  · omega
theorem tmod_28 (a : Int) : -268435456 < a.tmod 268435456 ∧ a.tmod 268435456 < 268435456 := by
  have h : (a.tmod 268435456).natAbs = a.natAbs % 268435456 := by rw [Int.natAbs_tmod]; rfl
  have := Nat.mod_lt a.natAbs (show 0 < 268435456 by decide)
  omega
theorem tdiv_28 (X Y : Int) (hX : -268435456 < X ∧ X < 268435456) : -268435456 < X.tdiv Y ∧ X.tdiv Y < 268435456 := by
  have h : (X.tdiv Y).natAbs ≤ X.natAbs := by rw [Int.natAbs_tdiv]; exact Nat.div_le_self _ _
  omega
theorem tmod_28' (X Y : Int) (hX : -268435456 < X ∧ X < 268435456) : -268435456 < X.tmod Y ∧ X.tmod Y < 268435456 := by
  have h : (X.tmod Y).natAbs ≤ X.natAbs := by rw [Int.natAbs_tmod]; exact Nat.mod_le _ _
  omega
theorem downQ_28 (X Y : Int) (hX : -268435456 < X ∧ X < 268435456) : -268435457 < downQ X Y ∧ downQ X Y < 268435456 := by
  have := tdiv_28 X Y hX
  unfold downQ; split <;> omega
theorem downR_28 (X Y : Int) (hX : -268435456 < X ∧ X < 268435456) (hY : -268435456 < Y ∧ Y < 268435456) : -536870912 < downR X Y ∧ downR X Y < 536870912 := by
  have := tmod_28' X Y hX
  unfold downR; split <;> omega

theorem numB13 {x y : Int} (h : ¬ y = 0) : numB 13 x y = true ∧ numZ 13 x y = downQ x y := by simp [numB, numZ, numDiv, h]
theorem numB10 {x y : Int} (h : ¬ y = 0) : numB 10 x y = true ∧ numZ 10 x y = downR x y := by simp [numB, numZ, numDiv, h]

set_option maxHeartbeats 1000000 in
theorem PrimLaws_law (a b : Int) (w : World) (ht : Tab w) :
    Calls Tryd.prog 4 #[.int .i64 a, .int .i64 b] w fun e w' => e = .returned (.bool true) ∧ Below w.heap.size w w' := by
  obtain ⟨x1, x2⟩ := tmod_28 a
  obtain ⟨y1, y2⟩ := tmod_28 b
  have hX : -1073741824 ≤ a.tmod 268435456 ∧ a.tmod 268435456 ≤ 1073741823 := by omega
  have hY : -1073741824 ≤ b.tmod 268435456 ∧ b.tmod 268435456 ≤ 1073741823 := by omega
  obtain ⟨s1, s2⟩ := ar2_num 0 _ _ hX hY rfl rfl (by show _ ≤ _ + _ ∧ _ + _ ≤ _; omega)
  rw [show numZ 0 (a.tmod 268435456) (b.tmod 268435456) = a.tmod 268435456 + b.tmod 268435456 from rfl] at s1
  obtain ⟨d1, d2⟩ := ar2_num 1 (a.tmod 268435456 + b.tmod 268435456) _ (by omega) hY rfl rfl (by show _ ≤ _ - _ ∧ _ - _ ≤ _; omega)
  rw [show numZ 1 (a.tmod 268435456 + b.tmod 268435456) (b.tmod 268435456) = a.tmod 268435456 from by show _ + _ - _ = _; omega] at d1
  obtain ⟨c1, c1'⟩ := ar2_comp 2 _ _ hX hY (by omega)
  obtain ⟨c2, c2'⟩ := ar2_comp 3 _ _ hX hY (by omega)
  obtain ⟨c3, c3'⟩ := ar2_comp 4 _ _ hX hY (by omega)
  obtain ⟨c4, c4'⟩ := ar2_comp 5 _ _ hX hY (by omega)
  obtain ⟨c5, c5'⟩ := ar2_comp 6 _ _ hX hY (by omega)
  have g1 : compV 2 (a.tmod 268435456) (b.tmod 268435456) = tr (decide (a.tmod 268435456 < b.tmod 268435456)) := rfl
  have g2 : compV 3 (a.tmod 268435456) (b.tmod 268435456) = tr (decide (b.tmod 268435456 < a.tmod 268435456)) := rfl
  have g3 : compV 4 (a.tmod 268435456) (b.tmod 268435456) = tr (decide (a.tmod 268435456 ≤ b.tmod 268435456)) := rfl
  have g4 : compV 5 (a.tmod 268435456) (b.tmod 268435456) = tr (decide (b.tmod 268435456 ≤ a.tmod 268435456)) := rfl
  have g5 : compV 6 (a.tmod 268435456) (b.tmod 268435456) = tr (a.tmod 268435456 == b.tmod 268435456) := rfl
  rw [g1] at c1
  rw [g2] at c2
  rw [g3] at c3
  rw [g4] at c4
  rw [g5] at c5
  clear g1 g2 g3 g4 g5
  have tri : (arV 2 (2 * a.tmod 268435456 + 1) (2 * b.tmod 268435456 + 1) = 4 ∧ arV 3 (2 * a.tmod 268435456 + 1) (2 * b.tmod 268435456 + 1) = 6 ∧ arV 4 (2 * a.tmod 268435456 + 1) (2 * b.tmod 268435456 + 1) = 4 ∧ arV 5 (2 * a.tmod 268435456 + 1) (2 * b.tmod 268435456 + 1) = 6 ∧ arV 6 (2 * a.tmod 268435456 + 1) (2 * b.tmod 268435456 + 1) = 6)
      ∨ (arV 2 (2 * a.tmod 268435456 + 1) (2 * b.tmod 268435456 + 1) = 6 ∧ arV 3 (2 * a.tmod 268435456 + 1) (2 * b.tmod 268435456 + 1) = 4 ∧ arV 4 (2 * a.tmod 268435456 + 1) (2 * b.tmod 268435456 + 1) = 6 ∧ arV 5 (2 * a.tmod 268435456 + 1) (2 * b.tmod 268435456 + 1) = 4 ∧ arV 6 (2 * a.tmod 268435456 + 1) (2 * b.tmod 268435456 + 1) = 6)
      ∨ (arV 2 (2 * a.tmod 268435456 + 1) (2 * b.tmod 268435456 + 1) = 6 ∧ arV 3 (2 * a.tmod 268435456 + 1) (2 * b.tmod 268435456 + 1) = 6 ∧ arV 4 (2 * a.tmod 268435456 + 1) (2 * b.tmod 268435456 + 1) = 4 ∧ arV 5 (2 * a.tmod 268435456 + 1) (2 * b.tmod 268435456 + 1) = 4 ∧ arV 6 (2 * a.tmod 268435456 + 1) (2 * b.tmod 268435456 + 1) = 4) := by
    rw [c1, c2, c3, c4, c5]
    by_cases hlt : a.tmod 268435456 < b.tmod 268435456
    · refine .inl ?_
      rw [decide_eq_true hlt, decide_eq_false (by omega : ¬ b.tmod 268435456 < a.tmod 268435456), decide_eq_true (by omega : a.tmod 268435456 ≤ b.tmod 268435456), decide_eq_false (by omega : ¬ b.tmod 268435456 ≤ a.tmod 268435456), show (a.tmod 268435456 == b.tmod 268435456) = false by simp; omega]
      exact ⟨rfl, rfl, rfl, rfl, rfl⟩
    by_cases hgt : b.tmod 268435456 < a.tmod 268435456
    · refine .inr (.inl ?_)
      rw [decide_eq_false hlt, decide_eq_true hgt, decide_eq_false (by omega : ¬ a.tmod 268435456 ≤ b.tmod 268435456), decide_eq_true (by omega : b.tmod 268435456 ≤ a.tmod 268435456), show (a.tmod 268435456 == b.tmod 268435456) = false by simp; omega]
      exact ⟨rfl, rfl, rfl, rfl, rfl⟩
    · refine .inr (.inr ?_)
      rw [decide_eq_false hlt, decide_eq_false hgt, decide_eq_true (by omega : a.tmod 268435456 ≤ b.tmod 268435456), decide_eq_true (by omega : b.tmod 268435456 ≤ a.tmod 268435456), show (a.tmod 268435456 == b.tmod 268435456) = true by simp; omega]
      exact ⟨rfl, rfl, rfl, rfl, rfl⟩
  clear c1 c2 c3 c4 c5
  by_cases h0 : b.tmod 268435456 = 0
  · obtain ⟨z1, z2⟩ := ar2_zero (a.tmod 268435456) _ h0
    have heq : (2 * b.tmod 268435456 + 1 == 1) = true := beq_iff_eq.2 (by omega)
    clear h0
    rcases tri with ⟨e1, e2, e3, e4, e5⟩ | ⟨e1, e2, e3, e4, e5⟩ | ⟨e1, e2, e3, e4, e5⟩
    all_goals
      go_enter Tryd.func4, Tryd.ntmps4
      go_wp2_with (first | (go_at_call 7; refine (Arith_any _ _ _ (by omega) (by omega) (by omega) (by omega) _).mono ?_; rintro e w' ⟨rfl, nq, rfl⟩) | (go_at_call 11; refine (known_law _ (by exact ht)).mono ?_; rintro e w' ⟨rfl, hb'⟩))
      refine wp_loop_rounds 6 ?_
      iterate 6 (rw [rounds_succ]; go_wp2_with (first | (go_at_call 7; refine (Arith_any _ _ _ (by omega) (by omega) (by omega) (by omega) _).mono ?_; rintro e w' ⟨rfl, nq, rfl⟩) | (go_at_call 11; refine (known_law _ (by exact ht)).mono ?_; rintro e w' ⟨rfl, hb'⟩)))
      go_ret
      exact ⟨rfl, ⟨hb'.os, hb'.tape, hb'.output, hb'.size, hb'.block⟩⟩
  · have hQ := downQ_28 (a.tmod 268435456) (b.tmod 268435456) ⟨x1, x2⟩
    have hR := downR_28 (a.tmod 268435456) (b.tmod 268435456) ⟨x1, x2⟩ ⟨y1, y2⟩
    obtain ⟨q1, q2⟩ := ar2_num 13 _ _ hX hY rfl (numB13 h0).1 (by rw [(numB13 h0).2]; omega)
    obtain ⟨r1, r2⟩ := ar2_num 10 _ _ hX hY rfl (numB10 h0).1 (by rw [(numB10 h0).2]; omega)
    rw [(numB13 h0).2] at q1
    rw [(numB10 h0).2] at r1
    have hback := down_back (a.tmod 268435456) (b.tmod 268435456)
    have hm : -1073741824 ≤ downQ (a.tmod 268435456) (b.tmod 268435456) * b.tmod 268435456 ∧ downQ (a.tmod 268435456) (b.tmod 268435456) * b.tmod 268435456 ≤ 1073741824 := by omega
    have hne : (2 * b.tmod 268435456 + 1 == 1) = false := beq_eq_false_iff_ne.2 (by omega)
    have t1 : (2 * downQ (a.tmod 268435456) (b.tmod 268435456)).tdiv 2 = downQ (a.tmod 268435456) (b.tmod 268435456) := Int.mul_tdiv_cancel_left _ (by decide)
    have t2 : (2 * downR (a.tmod 268435456) (b.tmod 268435456)).tdiv 2 = downR (a.tmod 268435456) (b.tmod 268435456) := Int.mul_tdiv_cancel_left _ (by decide)
    have t3 : (2 * b.tmod 268435456).tdiv 2 = b.tmod 268435456 := Int.mul_tdiv_cancel_left _ (by decide)
    rcases tri with ⟨e1, e2, e3, e4, e5⟩ | ⟨e1, e2, e3, e4, e5⟩ | ⟨e1, e2, e3, e4, e5⟩
    all_goals
      go_enter Tryd.func4, Tryd.ntmps4
      go_wp2_with (first | (go_at_call 7; refine (Arith_any _ _ _ (by omega) (by omega) (by omega) (by omega) _).mono ?_; rintro e w' ⟨rfl, nq, rfl⟩) | (go_at_call 11; refine (known_law _ (by exact ht)).mono ?_; rintro e w' ⟨rfl, hb'⟩))
      refine wp_loop_rounds 6 ?_
      iterate 6 (rw [rounds_succ]; go_wp2_with (first | (go_at_call 7; refine (Arith_any _ _ _ (by omega) (by omega) (by omega) (by omega) _).mono ?_; rintro e w' ⟨rfl, nq, rfl⟩) | (go_at_call 11; refine (known_law _ (by exact ht)).mono ?_; rintro e w' ⟨rfl, hb'⟩)))
      go_ret
      exact ⟨rfl, ⟨hb'.os, hb'.tape, hb'.output, hb'.size, hb'.block⟩⟩

end Go.Proofs.YtdninandpkgfkaaDoor
