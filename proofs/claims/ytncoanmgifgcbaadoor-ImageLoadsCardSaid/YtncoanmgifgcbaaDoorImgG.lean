/- What two bytes, or three, tell: code.more. -/
import Derived.Test.YtncoanmgifgcbaaDoorImgF
namespace Go.Proofs.YtncoanmgifgcbaaDoor
set_option linter.unusedVariables false
set_option linter.unusedSimpArgs false
open Go.RowKit

def storeV (c n : Int) : Int := storeL[((c - 128) * 4 + n / 64).toNat]?.getD 0
/-- what more bytes tell -/
def moreP (c n m : Int) : P4 :=
  if c < 131 then (if storeV c n = 0 then ⟨0, 0, 0, 2⟩ else ⟨storeV c n, n % 64, 0, 2⟩)
  else if c = 131 ∨ c = 133 then ⟨17 + (c - 131) / 2, n % 32, n / 32, 2⟩
  else if c = 132 ∨ c = 134 then ⟨17 + (c - 132) / 2, m, n, 3⟩
  else if c < 168 then ⟨22, 256 * (c - 164) + n, 0, 2⟩
  else ⟨23 + (c - 168) / 4, 256 * (c % 4) + n, 0, 2⟩

set_option maxRecDepth 100000 in
set_option maxHeartbeats 8000000 in
theorem more_any (c n m : Int) (hc : (128 ≤ c ∧ c ≤ 134) ∨ (160 ≤ c ∧ c ≤ 175)) (hn : 0 ≤ n ∧ n ≤ 255) (hm : 0 ≤ m ∧ m ≤ 255) (w : World) (ht : Tabs w) : Calls Tryd.prog 128 #[.int .i64 c, .int .i64 n, .int .i64 m] w fun e w' => e = .returned (.agg (moreP c n m).cells) ∧ Chg No w w' := by
  obtain ⟨Pr, hP⟩ : ∃ r, moreP c n m = r := ⟨_, rfl⟩
  rw [hP]
  have HP := Lib.hid hP
  clear hP
  have row := Row.new w 138 #[.int .i64 0, .int .i64 0, .int .i64 0, .int .i64 0]
  have z4 := row.four
  have hsz : w.heap.size < w.heap.size + 1 := by omega
  have HTT := Lib.hid ht
  have d64 : n.tdiv 64 = n / 64 := Int.tdiv_eq_ediv_of_nonneg (by omega)
  have m64 : n.tmod 64 = n % 64 := Int.tmod_eq_emod_of_nonneg (by omega)
  have d32 : n.tdiv 32 = n / 32 := Int.tdiv_eq_ediv_of_nonneg (by omega)
  have m32 : n.tmod 32 = n % 32 := Int.tmod_eq_emod_of_nonneg (by omega)
  have v1 : IntKind.i64.wrap (n / 64) = n / 64 := IntWalk.i64_in _ (by omega)
  have v2 : IntKind.i64.wrap (n % 64) = n % 64 := IntWalk.i64_in _ (by omega)
  have v3 : IntKind.i64.wrap (n / 32) = n / 32 := IntWalk.i64_in _ (by omega)
  have v4 : IntKind.i64.wrap (n % 32) = n % 32 := IntWalk.i64_in _ (by omega)
  have ht2 : ∀ t2 cs2 t3 cs3, Tabs ((w.alloc (.cells cs2 t2)).alloc (.cells cs3 t3)) := fun t2 cs2 t3 cs3 => (ht.keep ((Chg.refl _ _).alloc _)).keep ((Chg.refl _ _).alloc _)
  have HT2 := Lib.hid ht2
  clear ht ht2 row
  rcases (show c = 128 ∨ c = 129 ∨ c = 130 ∨ c = 131 ∨ c = 132 ∨ c = 133 ∨ c = 134 ∨ (160 ≤ c ∧ c ≤ 167) ∨ (168 ≤ c ∧ c ≤ 175) by omega) with rfl | rfl | rfl | rfl | rfl | rfl | rfl | hc2 | hc2
  · rcases (show n / 64 = 0 ∨ n / 64 = 1 ∨ n / 64 = 2 ∨ n / 64 = 3 by omega) with hq | hq | hq | hq
    · obtain rfl : Pr = ⟨1, n % 64, 0, 2⟩ := by
        rw [← HP.out]
        unfold moreP storeV
        rw [hq]
        rfl
      rw [hq] at d64 v1
      have x0 : ∀ t2 cs2 t3 cs3, ((w.alloc (.cells cs2 t2)).alloc (.cells cs3 t3)).cell? ⟨2, 0, none⟩ = some (.int .i64 1) := fun t2 cs2 t3 cs3 => (HT2.out t2 cs2 t3 cs3).store 0
      go_enter Tryd.func128, Tryd.ntmps128
      go_wp2_with fail
      refine bodyPost_ret (v := .agg #[.int .i64 (1), .int .i64 (n % 64), .int .i64 (0), .int .i64 2]) (by simp [results, Tryd.results128, go_sem, z4]) rfl ⟨rfl, ?_⟩
      repeat (with_reducible first | exact Chg.refl _ _ | refine Chg.alloc ?_ _ | refine Chg.setCell ?_ (.inr (by first | exact Nat.le_refl _ | (simp; done) | (simp; omega))) _)
    · obtain rfl : Pr = ⟨2, n % 64, 0, 2⟩ := by
        rw [← HP.out]
        unfold moreP storeV
        rw [hq]
        rfl
      rw [hq] at d64 v1
      have x0 : ∀ t2 cs2 t3 cs3, ((w.alloc (.cells cs2 t2)).alloc (.cells cs3 t3)).cell? ⟨2, 1, none⟩ = some (.int .i64 2) := fun t2 cs2 t3 cs3 => (HT2.out t2 cs2 t3 cs3).store 1
      go_enter Tryd.func128, Tryd.ntmps128
      go_wp2_with fail
      refine bodyPost_ret (v := .agg #[.int .i64 (2), .int .i64 (n % 64), .int .i64 (0), .int .i64 2]) (by simp [results, Tryd.results128, go_sem, z4]) rfl ⟨rfl, ?_⟩
      repeat (with_reducible first | exact Chg.refl _ _ | refine Chg.alloc ?_ _ | refine Chg.setCell ?_ (.inr (by first | exact Nat.le_refl _ | (simp; done) | (simp; omega))) _)
    · obtain rfl : Pr = ⟨3, n % 64, 0, 2⟩ := by
        rw [← HP.out]
        unfold moreP storeV
        rw [hq]
        rfl
      rw [hq] at d64 v1
      have x0 : ∀ t2 cs2 t3 cs3, ((w.alloc (.cells cs2 t2)).alloc (.cells cs3 t3)).cell? ⟨2, 2, none⟩ = some (.int .i64 3) := fun t2 cs2 t3 cs3 => (HT2.out t2 cs2 t3 cs3).store 2
      go_enter Tryd.func128, Tryd.ntmps128
      go_wp2_with fail
      refine bodyPost_ret (v := .agg #[.int .i64 (3), .int .i64 (n % 64), .int .i64 (0), .int .i64 2]) (by simp [results, Tryd.results128, go_sem, z4]) rfl ⟨rfl, ?_⟩
      repeat (with_reducible first | exact Chg.refl _ _ | refine Chg.alloc ?_ _ | refine Chg.setCell ?_ (.inr (by first | exact Nat.le_refl _ | (simp; done) | (simp; omega))) _)
    · obtain rfl : Pr = ⟨4, n % 64, 0, 2⟩ := by
        rw [← HP.out]
        unfold moreP storeV
        rw [hq]
        rfl
      rw [hq] at d64 v1
      have x0 : ∀ t2 cs2 t3 cs3, ((w.alloc (.cells cs2 t2)).alloc (.cells cs3 t3)).cell? ⟨2, 3, none⟩ = some (.int .i64 4) := fun t2 cs2 t3 cs3 => (HT2.out t2 cs2 t3 cs3).store 3
      go_enter Tryd.func128, Tryd.ntmps128
      go_wp2_with fail
      refine bodyPost_ret (v := .agg #[.int .i64 (4), .int .i64 (n % 64), .int .i64 (0), .int .i64 2]) (by simp [results, Tryd.results128, go_sem, z4]) rfl ⟨rfl, ?_⟩
      repeat (with_reducible first | exact Chg.refl _ _ | refine Chg.alloc ?_ _ | refine Chg.setCell ?_ (.inr (by first | exact Nat.le_refl _ | (simp; done) | (simp; omega))) _)
  · rcases (show n / 64 = 0 ∨ n / 64 = 1 ∨ n / 64 = 2 ∨ n / 64 = 3 by omega) with hq | hq | hq | hq
    · obtain rfl : Pr = ⟨5, n % 64, 0, 2⟩ := by
        rw [← HP.out]
        unfold moreP storeV
        rw [hq]
        rfl
      rw [hq] at d64 v1
      have x0 : ∀ t2 cs2 t3 cs3, ((w.alloc (.cells cs2 t2)).alloc (.cells cs3 t3)).cell? ⟨2, 4, none⟩ = some (.int .i64 5) := fun t2 cs2 t3 cs3 => (HT2.out t2 cs2 t3 cs3).store 4
      go_enter Tryd.func128, Tryd.ntmps128
      go_wp2_with fail
      refine bodyPost_ret (v := .agg #[.int .i64 (5), .int .i64 (n % 64), .int .i64 (0), .int .i64 2]) (by simp [results, Tryd.results128, go_sem, z4]) rfl ⟨rfl, ?_⟩
      repeat (with_reducible first | exact Chg.refl _ _ | refine Chg.alloc ?_ _ | refine Chg.setCell ?_ (.inr (by first | exact Nat.le_refl _ | (simp; done) | (simp; omega))) _)
    · obtain rfl : Pr = ⟨6, n % 64, 0, 2⟩ := by
        rw [← HP.out]
        unfold moreP storeV
        rw [hq]
        rfl
      rw [hq] at d64 v1
      have x0 : ∀ t2 cs2 t3 cs3, ((w.alloc (.cells cs2 t2)).alloc (.cells cs3 t3)).cell? ⟨2, 5, none⟩ = some (.int .i64 6) := fun t2 cs2 t3 cs3 => (HT2.out t2 cs2 t3 cs3).store 5
      go_enter Tryd.func128, Tryd.ntmps128
      go_wp2_with fail
      refine bodyPost_ret (v := .agg #[.int .i64 (6), .int .i64 (n % 64), .int .i64 (0), .int .i64 2]) (by simp [results, Tryd.results128, go_sem, z4]) rfl ⟨rfl, ?_⟩
      repeat (with_reducible first | exact Chg.refl _ _ | refine Chg.alloc ?_ _ | refine Chg.setCell ?_ (.inr (by first | exact Nat.le_refl _ | (simp; done) | (simp; omega))) _)
    · obtain rfl : Pr = ⟨0, 0, 0, 2⟩ := by
        rw [← HP.out]
        unfold moreP storeV
        rw [hq]
        rfl
      rw [hq] at d64 v1
      have x0 : ∀ t2 cs2 t3 cs3, ((w.alloc (.cells cs2 t2)).alloc (.cells cs3 t3)).cell? ⟨2, 6, none⟩ = some (.int .i64 0) := fun t2 cs2 t3 cs3 => (HT2.out t2 cs2 t3 cs3).store 6
      go_enter Tryd.func128, Tryd.ntmps128
      go_wp2_with fail
      refine bodyPost_ret (v := .agg #[.int .i64 (0), .int .i64 (0), .int .i64 (0), .int .i64 2]) (by simp [results, Tryd.results128, go_sem, z4]) rfl ⟨rfl, ?_⟩
      repeat (with_reducible first | exact Chg.refl _ _ | refine Chg.alloc ?_ _ | refine Chg.setCell ?_ (.inr (by first | exact Nat.le_refl _ | (simp; done) | (simp; omega))) _)
    · obtain rfl : Pr = ⟨7, n % 64, 0, 2⟩ := by
        rw [← HP.out]
        unfold moreP storeV
        rw [hq]
        rfl
      rw [hq] at d64 v1
      have x0 : ∀ t2 cs2 t3 cs3, ((w.alloc (.cells cs2 t2)).alloc (.cells cs3 t3)).cell? ⟨2, 7, none⟩ = some (.int .i64 7) := fun t2 cs2 t3 cs3 => (HT2.out t2 cs2 t3 cs3).store 7
      go_enter Tryd.func128, Tryd.ntmps128
      go_wp2_with fail
      refine bodyPost_ret (v := .agg #[.int .i64 (7), .int .i64 (n % 64), .int .i64 (0), .int .i64 2]) (by simp [results, Tryd.results128, go_sem, z4]) rfl ⟨rfl, ?_⟩
      repeat (with_reducible first | exact Chg.refl _ _ | refine Chg.alloc ?_ _ | refine Chg.setCell ?_ (.inr (by first | exact Nat.le_refl _ | (simp; done) | (simp; omega))) _)
  · rcases (show n / 64 = 0 ∨ n / 64 = 1 ∨ n / 64 = 2 ∨ n / 64 = 3 by omega) with hq | hq | hq | hq
    · obtain rfl : Pr = ⟨8, n % 64, 0, 2⟩ := by
        rw [← HP.out]
        unfold moreP storeV
        rw [hq]
        rfl
      rw [hq] at d64 v1
      have x0 : ∀ t2 cs2 t3 cs3, ((w.alloc (.cells cs2 t2)).alloc (.cells cs3 t3)).cell? ⟨2, 8, none⟩ = some (.int .i64 8) := fun t2 cs2 t3 cs3 => (HT2.out t2 cs2 t3 cs3).store 8
      go_enter Tryd.func128, Tryd.ntmps128
      go_wp2_with fail
      refine bodyPost_ret (v := .agg #[.int .i64 (8), .int .i64 (n % 64), .int .i64 (0), .int .i64 2]) (by simp [results, Tryd.results128, go_sem, z4]) rfl ⟨rfl, ?_⟩
      repeat (with_reducible first | exact Chg.refl _ _ | refine Chg.alloc ?_ _ | refine Chg.setCell ?_ (.inr (by first | exact Nat.le_refl _ | (simp; done) | (simp; omega))) _)
    · obtain rfl : Pr = ⟨9, n % 64, 0, 2⟩ := by
        rw [← HP.out]
        unfold moreP storeV
        rw [hq]
        rfl
      rw [hq] at d64 v1
      have x0 : ∀ t2 cs2 t3 cs3, ((w.alloc (.cells cs2 t2)).alloc (.cells cs3 t3)).cell? ⟨2, 9, none⟩ = some (.int .i64 9) := fun t2 cs2 t3 cs3 => (HT2.out t2 cs2 t3 cs3).store 9
      go_enter Tryd.func128, Tryd.ntmps128
      go_wp2_with fail
      refine bodyPost_ret (v := .agg #[.int .i64 (9), .int .i64 (n % 64), .int .i64 (0), .int .i64 2]) (by simp [results, Tryd.results128, go_sem, z4]) rfl ⟨rfl, ?_⟩
      repeat (with_reducible first | exact Chg.refl _ _ | refine Chg.alloc ?_ _ | refine Chg.setCell ?_ (.inr (by first | exact Nat.le_refl _ | (simp; done) | (simp; omega))) _)
    · obtain rfl : Pr = ⟨0, 0, 0, 2⟩ := by
        rw [← HP.out]
        unfold moreP storeV
        rw [hq]
        rfl
      rw [hq] at d64 v1
      have x0 : ∀ t2 cs2 t3 cs3, ((w.alloc (.cells cs2 t2)).alloc (.cells cs3 t3)).cell? ⟨2, 10, none⟩ = some (.int .i64 0) := fun t2 cs2 t3 cs3 => (HT2.out t2 cs2 t3 cs3).store 10
      go_enter Tryd.func128, Tryd.ntmps128
      go_wp2_with fail
      refine bodyPost_ret (v := .agg #[.int .i64 (0), .int .i64 (0), .int .i64 (0), .int .i64 2]) (by simp [results, Tryd.results128, go_sem, z4]) rfl ⟨rfl, ?_⟩
      repeat (with_reducible first | exact Chg.refl _ _ | refine Chg.alloc ?_ _ | refine Chg.setCell ?_ (.inr (by first | exact Nat.le_refl _ | (simp; done) | (simp; omega))) _)
    · obtain rfl : Pr = ⟨10, n % 64, 0, 2⟩ := by
        rw [← HP.out]
        unfold moreP storeV
        rw [hq]
        rfl
      rw [hq] at d64 v1
      have x0 : ∀ t2 cs2 t3 cs3, ((w.alloc (.cells cs2 t2)).alloc (.cells cs3 t3)).cell? ⟨2, 11, none⟩ = some (.int .i64 10) := fun t2 cs2 t3 cs3 => (HT2.out t2 cs2 t3 cs3).store 11
      go_enter Tryd.func128, Tryd.ntmps128
      go_wp2_with fail
      refine bodyPost_ret (v := .agg #[.int .i64 (10), .int .i64 (n % 64), .int .i64 (0), .int .i64 2]) (by simp [results, Tryd.results128, go_sem, z4]) rfl ⟨rfl, ?_⟩
      repeat (with_reducible first | exact Chg.refl _ _ | refine Chg.alloc ?_ _ | refine Chg.setCell ?_ (.inr (by first | exact Nat.le_refl _ | (simp; done) | (simp; omega))) _)
  · obtain rfl : Pr = ⟨17, n % 32, n / 32, 2⟩ := by
      rw [← HP.out]
      rfl
    go_enter Tryd.func128, Tryd.ntmps128
    go_wp2_with fail
    refine bodyPost_ret (v := .agg #[.int .i64 (17), .int .i64 (n % 32), .int .i64 (n / 32), .int .i64 2]) (by simp [results, Tryd.results128, go_sem, z4]) rfl ⟨rfl, ?_⟩
    repeat (with_reducible first | exact Chg.refl _ _ | refine Chg.alloc ?_ _ | refine Chg.setCell ?_ (.inr (by first | exact Nat.le_refl _ | (simp; done) | (simp; omega))) _)
  · obtain rfl : Pr = ⟨17, m, n, 3⟩ := by
      rw [← HP.out]
      rfl
    go_enter Tryd.func128, Tryd.ntmps128
    go_wp2_with fail
    refine bodyPost_ret (v := .agg #[.int .i64 (17), .int .i64 (m), .int .i64 (n), .int .i64 3]) (by simp [results, Tryd.results128, go_sem, z4]) rfl ⟨rfl, ?_⟩
    repeat (with_reducible first | exact Chg.refl _ _ | refine Chg.alloc ?_ _ | refine Chg.setCell ?_ (.inr (by first | exact Nat.le_refl _ | (simp; done) | (simp; omega))) _)
  · obtain rfl : Pr = ⟨18, n % 32, n / 32, 2⟩ := by
      rw [← HP.out]
      rfl
    go_enter Tryd.func128, Tryd.ntmps128
    go_wp2_with fail
    refine bodyPost_ret (v := .agg #[.int .i64 (18), .int .i64 (n % 32), .int .i64 (n / 32), .int .i64 2]) (by simp [results, Tryd.results128, go_sem, z4]) rfl ⟨rfl, ?_⟩
    repeat (with_reducible first | exact Chg.refl _ _ | refine Chg.alloc ?_ _ | refine Chg.setCell ?_ (.inr (by first | exact Nat.le_refl _ | (simp; done) | (simp; omega))) _)
  · obtain rfl : Pr = ⟨18, m, n, 3⟩ := by
      rw [← HP.out]
      rfl
    go_enter Tryd.func128, Tryd.ntmps128
    go_wp2_with fail
    refine bodyPost_ret (v := .agg #[.int .i64 (18), .int .i64 (m), .int .i64 (n), .int .i64 3]) (by simp [results, Tryd.results128, go_sem, z4]) rfl ⟨rfl, ?_⟩
    repeat (with_reducible first | exact Chg.refl _ _ | refine Chg.alloc ?_ _ | refine Chg.setCell ?_ (.inr (by first | exact Nat.le_refl _ | (simp; done) | (simp; omega))) _)
  · obtain rfl : Pr = ⟨22, 256 * (c - 164) + n, 0, 2⟩ := by
      rw [← HP.out]
      unfold moreP
      rw [if_neg (by omega), if_neg (by omega), if_neg (by omega), if_pos (by omega)]
    have l131 : decide (c < 131) = false := decide_eq_false (by omega)
    have q131 : (c == 131) = false := beq_eq_false_iff_ne.2 (by omega)
    have q133 : (c == 133) = false := beq_eq_false_iff_ne.2 (by omega)
    have q132 : (c == 132) = false := beq_eq_false_iff_ne.2 (by omega)
    have q134 : (c == 134) = false := beq_eq_false_iff_ne.2 (by omega)
    have l168 : decide (c < 168) = true := decide_eq_true (by omega)
    have w1 : IntKind.i64.wrap (c - 164) = c - 164 := IntWalk.i64_in _ (by omega)
    have w2 : IntKind.i64.wrap (256 * (c - 164)) = 256 * (c - 164) := IntWalk.i64_in _ (by omega)
    have w3 : IntKind.i64.wrap (256 * (c - 164) + n) = 256 * (c - 164) + n := IntWalk.i64_in _ (by omega)
    go_enter Tryd.func128, Tryd.ntmps128
    go_wp2_with fail
    refine bodyPost_ret (v := .agg #[.int .i64 (22), .int .i64 (256 * (c - 164) + n), .int .i64 (0), .int .i64 2]) (by simp [results, Tryd.results128, go_sem, z4]) rfl ⟨rfl, ?_⟩
    repeat (with_reducible first | exact Chg.refl _ _ | refine Chg.alloc ?_ _ | refine Chg.setCell ?_ (.inr (by first | exact Nat.le_refl _ | (simp; done) | (simp; omega))) _)
  · obtain rfl : Pr = ⟨23 + (c - 168) / 4, 256 * (c % 4) + n, 0, 2⟩ := by
      rw [← HP.out]
      unfold moreP
      rw [if_neg (by omega), if_neg (by omega), if_neg (by omega), if_neg (by omega)]
    have l131 : decide (c < 131) = false := decide_eq_false (by omega)
    have q131 : (c == 131) = false := beq_eq_false_iff_ne.2 (by omega)
    have q133 : (c == 133) = false := beq_eq_false_iff_ne.2 (by omega)
    have q132 : (c == 132) = false := beq_eq_false_iff_ne.2 (by omega)
    have q134 : (c == 134) = false := beq_eq_false_iff_ne.2 (by omega)
    have l168 : decide (c < 168) = false := decide_eq_false (by omega)
    have w1 : IntKind.i64.wrap (c - 168) = c - 168 := IntWalk.i64_in _ (by omega)
    have w2 : (c - 168).tdiv 4 = (c - 168) / 4 := Int.tdiv_eq_ediv_of_nonneg (by omega)
    have w3 : IntKind.i64.wrap ((c - 168) / 4) = (c - 168) / 4 := IntWalk.i64_in _ (by omega)
    have w4 : IntKind.i64.wrap (23 + (c - 168) / 4) = 23 + (c - 168) / 4 := IntWalk.i64_in _ (by omega)
    have w5 : c.tmod 4 = c % 4 := Int.tmod_eq_emod_of_nonneg (by omega)
    have w6 : IntKind.i64.wrap (c % 4) = c % 4 := IntWalk.i64_in _ (by omega)
    have w7 : IntKind.i64.wrap (256 * (c % 4)) = 256 * (c % 4) := IntWalk.i64_in _ (by omega)
    have w8 : IntKind.i64.wrap (256 * (c % 4) + n) = 256 * (c % 4) + n := IntWalk.i64_in _ (by omega)
    go_enter Tryd.func128, Tryd.ntmps128
    go_wp2_with fail
    refine bodyPost_ret (v := .agg #[.int .i64 (23 + (c - 168) / 4), .int .i64 (256 * (c % 4) + n), .int .i64 (0), .int .i64 2]) (by simp [results, Tryd.results128, go_sem, z4]) rfl ⟨rfl, ?_⟩
    repeat (with_reducible first | exact Chg.refl _ _ | refine Chg.alloc ?_ _ | refine Chg.setCell ?_ (.inr (by first | exact Nat.le_refl _ | (simp; done) | (simp; omega))) _)

end Go.Proofs.YtncoanmgifgcbaaDoor
