/- What is told at a place: code.At, code.All. · All that bytes tell, one behind the other: code.All. -/
import Derived.Test.YtncoanmgifgcbaaDoorImgG
import Derived.Test.YtncoanmgifgcbaaDoorImgB
import Derived.Test.YtncoanmgifgcbaaDoorImgC
namespace Go.Proofs.YtncoanmgifgcbaaDoor
set_option linter.unusedVariables false
set_option linter.unusedSimpArgs false
open Go.RowKit

def lenC (c : Int) : Nat := if c = 132 ∨ c = 134 then 3 else 2
def P4.zero : P4 := ⟨0, 0, 0, 0⟩
/-- what is told at a place (of one that there is) -/
def atP (b : List Int) (k : Nat) : P4 × Int :=
  if (oneP (b[k]?.getD 0)).2 = true then ((oneP (b[k]?.getD 0)).1, 0)
  else if b.length < k + lenC (b[k]?.getD 0) then (P4.zero, 5)
  else (moreP (b[k]?.getD 0) (b[k + 1]?.getD 0) (b[k + 2]?.getD 0), 0)
theorem oneP_no {c : Int} (h : (oneP c).2 = false) : (128 ≤ c ∧ c ≤ 134) ∨ (160 ≤ c ∧ c ≤ 175) := by
  by_cases hr : (128 ≤ c ∧ c ≤ 134) ∨ (160 ≤ c ∧ c ≤ 175)
  · exact hr
  · exfalso
    have : (oneP c).2 = true := by
      rcases (show c ≤ 15 ∨ (16 ≤ c ∧ c ≤ 31) ∨ (32 ≤ c ∧ c ≤ 63) ∨ (64 ≤ c ∧ c ≤ 95) ∨ (96 ≤ c ∧ c ≤ 103) ∨ (104 ≤ c ∧ c ≤ 111) ∨ (112 ≤ c ∧ c ≤ 112) ∨ (113 ≤ c ∧ c ≤ 119) ∨ (120 ≤ c ∧ c ≤ 120) ∨ (121 ≤ c ∧ c ≤ 123) ∨ (124 ≤ c ∧ c ≤ 125) ∨ (126 ≤ c ∧ c ≤ 127) ∨ (135 ≤ c ∧ c ≤ 137) ∨ (138 ≤ c ∧ c ≤ 143) ∨ (144 ≤ c ∧ c ≤ 151) ∨ (152 ≤ c ∧ c ≤ 159) ∨ (176 ≤ c ∧ c ≤ 191) ∨ (192 ≤ c ∧ c ≤ 207) ∨ 208 ≤ c by omega) with q | q | q | q | q | q | q | q | q | q | q | q | q | q | q | q | q | q | q
      all_goals
        unfold oneP
        repeat (first | rw [if_pos (by omega)] | rw [if_neg (by omega)])
    rw [this] at h
    cases h

set_option maxRecDepth 100000 in
set_option maxHeartbeats 1000000 in
theorem At_any (bv : Value) (l : List Int) (S : Nat → Prop) (w : World) (h : ByteS w S bv l) (k : Nat) (hk : k < l.length) (ht : Tabs w) : Calls Tryd.prog 112 #[bv, .int .i64 (k : Int)] w fun e w' => e = .returned (.tuple #[.agg (atP l k).1.cells, .int .i64 (atP l k).2]) ∧ Chg No w w' := by
  obtain ⟨A, cp, rfl, hlc, hcm, -⟩ := h.form
  have hcm' : cp ≤ 9223372036854775807 := by unfold maxLen at hcm; simp at hcm; omega
  obtain ⟨b, off, rfl⟩ := h.some (by omega)
  obtain ⟨y0, z0⟩ := h.lay (i := k) hk
  have HX := Lib.hid h
  obtain ⟨Pr, hP⟩ : ∃ r, atP l k = r := ⟨_, rfl⟩
  rw [hP]
  obtain ⟨c, hc⟩ : ∃ c, l[k]?.getD 0 = c := ⟨_, rfl⟩
  unfold atP at hP
  rw [hc] at y0 z0 hP
  have HP := Lib.hid hP
  clear hP hc hcm h
  generalize hn : l.length = n at *
  have HN := Lib.hid hn
  clear hn
  have t1 : decide ((k : Int) < 0) = false := decide_eq_false (by omega)
  have t2 : decide ((n : Int) ≤ (k : Int)) = false := decide_eq_false (by omega)
  have lk : (k : Int) < (n : Int) := by omega
  have row := Row.new w 138 #[.int .i64 0, .int .i64 0, .int .i64 0, .int .i64 0]
  have cA : Chg No w (w.alloc (.cells #[.int .i64 0, .int .i64 0, .int .i64 0, .int .i64 0] 138)) := (Chg.refl _ _).alloc _
  have y1 := (cA.cell (p := ⟨b, off + k, none⟩) (World.block_lt_of_cell? w _ y0) (fun f => f)).trans y0
  have HB := Lib.hid (And.intro (ht.keep cA) (And.intro row cA))
  have wk : IntKind.i64.wrap ((k : Int) + 1) = (k : Int) + 1 := IntWalk.i64_in _ (by omega)
  clear row cA ht
  by_cases ho : (oneP c).2 = true
  · obtain rfl : Pr = ((oneP c).1, 0) := by rw [← HP.out, if_pos ho]
    obtain ⟨O1, hO⟩ : ∃ r, oneP c = r := ⟨_, rfl⟩
    rw [hO] at ho
    obtain ⟨⟨ok, on, om, ol⟩, ob⟩ := O1
    dsimp only at ho
    subst ho
    have HO := Lib.hid hO
    rw [hO]
    clear hO
    go_enter Tryd.func112, Tryd.ntmps112
    go_wp2_with (first
      | (go_at_call 127
         refine (one_any c z0.1 z0.2 _ HB.out.1).mono ?_
         rw [HO.out]
         simp only [P4.cells]
         rintro e w1 ⟨rfl, c1⟩
         have zR := (HB.out.2.1.keep c1 (fun f => f)).four
         have xR := zR
         have hsz := Nat.lt_of_lt_of_le HB.out.2.1.lt c1.size
         have H1 := Lib.hid (And.intro (HB.out.1.keep c1) (And.intro (HB.out.2.2.trans c1) (HB.out.2.1.keep c1 (fun f => f))))
         clear c1)
      | fail)
    show bodyPost Tryd.prog Tryd.f112 _ _ _ _
    refine bodyPost_ret (v := .tuple #[.agg #[.int .i64 (ok), .int .i64 (on), .int .i64 (om), .int .i64 (ol)], .int .i64 0]) (by simp [results, Tryd.results112, go_sem, zR, hsz]) rfl ⟨rfl, ?_⟩
    repeat (with_reducible first | exact H1.out.2.1 | refine Chg.alloc ?_ _ | refine Chg.setCell ?_ (.inr (by first | exact Nat.le_refl _ | (simp; done) | (simp; omega) | omega)) _)
  · have ho' : (oneP c).2 = false := by simpa using ho
    have hcc := oneP_no ho'
    rw [if_neg ho] at HP
    obtain ⟨O1, hO⟩ : ∃ r, oneP c = r := ⟨_, rfl⟩
    rw [hO] at ho'
    obtain ⟨⟨ok, on, om, ol⟩, ob⟩ := O1
    dsimp only at ho'
    subst ho'
    have HO := Lib.hid hO
    clear hO ho
    have wl : IntKind.i64.wrap ((n : Int) - ((k : Int) + 1)) = (n : Int) - ((k : Int) + 1) := IntWalk.i64_in _ (by omega)
    have hle : k + 1 ≤ n := by omega
    obtain ⟨m, hm⟩ : ∃ m, l[k + 2]?.getD 0 = m := ⟨_, rfl⟩
    obtain ⟨q, hq⟩ : ∃ q, l[k + 1]?.getD 0 = q := ⟨_, rfl⟩
    rw [hm, hq] at HP
    have HMQ := Lib.hid (And.intro hm hq)
    clear hm hq
    rcases (show c = 132 ∨ c = 134 ∨ ¬ (c = 132 ∨ c = 134) by omega) with rfl | rfl | h3
    · have hl3 : lenC 132 = 3 := if_pos (by simp)
      rw [hl3] at HP
      rcases (show n = k + 1 ∨ n = k + 2 ∨ k + 3 ≤ n by omega) with hn | hn | hn
      · obtain rfl : Pr = (P4.zero, 5) := by rw [← HP.out, if_pos (by omega)]
        subst hn
        have e0 : k + 1 - (k + 1) = 0 := by omega
        go_enter Tryd.func112, Tryd.ntmps112
        go_wp2_with (first
          | (go_at_call 127
             refine (one_any 132 z0.1 z0.2 _ HB.out.1).mono ?_
             rw [HO.out]
             simp only [P4.cells]
             rintro e w1 ⟨rfl, c1⟩
             have zR := (HB.out.2.1.keep c1 (fun f => f)).four
             have xR := zR
             have hsz := Nat.lt_of_lt_of_le HB.out.2.1.lt c1.size
             have H1 := Lib.hid (And.intro (HB.out.1.keep c1) (And.intro (HB.out.2.2.trans c1) (HB.out.2.1.keep c1 (fun f => f))))
             clear c1)
          | fail)
        all_goals
          show bodyPost Tryd.prog Tryd.f112 _ _ _ _
          refine bodyPost_ret (v := .tuple #[.agg #[.int .i64 (0), .int .i64 (0), .int .i64 (0), .int .i64 (0)], .int .i64 5]) (by simp [results, Tryd.results112, go_sem, zR, hsz]) rfl ⟨rfl, ?_⟩
          repeat (with_reducible first | exact H1.out.2.1 | refine Chg.alloc ?_ _ | refine Chg.setCell ?_ (.inr (by first | exact Nat.le_refl _ | (simp; done) | (simp; omega) | omega)) _)
      · obtain rfl : Pr = (P4.zero, 5) := by rw [← HP.out, if_pos (by omega)]
        subst hn
        have e0 : k + 2 - (k + 1) = 1 := by omega
        have hcp : ¬ cp = k + 1 := by omega
        go_enter Tryd.func112, Tryd.ntmps112
        go_wp2_with (first
          | (go_at_call 127
             refine (one_any 132 z0.1 z0.2 _ HB.out.1).mono ?_
             rw [HO.out]
             simp only [P4.cells]
             rintro e w1 ⟨rfl, c1⟩
             have zR := (HB.out.2.1.keep c1 (fun f => f)).four
             have xR := zR
             have hsz := Nat.lt_of_lt_of_le HB.out.2.1.lt c1.size
             have H1 := Lib.hid (And.intro (HB.out.1.keep c1) (And.intro (HB.out.2.2.trans c1) (HB.out.2.1.keep c1 (fun f => f))))
             clear c1)
          | fail)
        all_goals
          show bodyPost Tryd.prog Tryd.f112 _ _ _ _
          refine bodyPost_ret (v := .tuple #[.agg #[.int .i64 (0), .int .i64 (0), .int .i64 (0), .int .i64 (0)], .int .i64 5]) (by simp [results, Tryd.results112, go_sem, zR, hsz]) rfl ⟨rfl, ?_⟩
          repeat (with_reducible first | exact H1.out.2.1 | refine Chg.alloc ?_ _ | refine Chg.setCell ?_ (.inr (by first | exact Nat.le_refl _ | (simp; done) | (simp; omega) | omega)) _)
      · obtain rfl : Pr = (moreP 132 q m, 0) := by rw [← HP.out, if_neg (by omega)]
        have l1 : decide ((n : Int) - ((k : Int) + 1) < 1) = false := decide_eq_false (by omega)
        have l2 : decide ((n : Int) - ((k : Int) + 1) < 2) = false := decide_eq_false (by omega)
        have l3 : decide (1 < (n : Int) - ((k : Int) + 1)) = true := decide_eq_true (by omega)
        have e1 : ((n - (k + 1) : Nat) : Int) = (n : Int) - ((k : Int) + 1) := by omega
        have l4 : (1 : Int) < (n : Int) - ((k : Int) + 1) := by omega
        have l5 : 1 < n - (k + 1) := by omega
        have hcp : ¬ cp = k + 1 := by omega
        obtain ⟨y2, z2⟩ := HX.out.lay (i := k + 1) (by rw [HN.out]; omega)
        rw [HMQ.out.2] at y2 z2
        obtain ⟨y5, z5⟩ := HX.out.lay (i := k + 2) (by rw [HN.out]; omega)
        rw [HMQ.out.1] at y5 z5
        have y4 : w.cell? ⟨b, off + (k + 1) + 1, none⟩ = some (.int .u8 m) := y5
        obtain ⟨M, hM⟩ : ∃ r, moreP 132 q m = r := ⟨_, rfl⟩
        obtain ⟨mk, mn, mm, ml⟩ := M
        rw [hM]
        have HM := Lib.hid hM
        clear hM
        have hb := World.block_lt_of_cell? w _ y2
        go_enter Tryd.func112, Tryd.ntmps112
        go_wp2_with (first
          | (go_at_call 127
             refine (one_any 132 z0.1 z0.2 _ HB.out.1).mono ?_
             rw [HO.out]
             simp only [P4.cells]
             rintro e w1 ⟨rfl, c1⟩
             have zR := (HB.out.2.1.keep c1 (fun f => f)).four
             have hsz := Nat.lt_of_lt_of_le HB.out.2.1.lt c1.size
             have y3 := ((HB.out.2.2.trans c1).cell (p := ⟨b, off + (k + 1), none⟩) hb (fun f => f)).trans y2
             have y6 := ((HB.out.2.2.trans c1).cell (p := ⟨b, off + (k + 1) + 1, none⟩) hb (fun f => f)).trans y4
             have hb3 := World.block_lt_of_cell? w1 _ y3
             have H1 := Lib.hid (And.intro (HB.out.1.keep c1) (And.intro (HB.out.2.2.trans c1) (HB.out.2.1.keep c1 (fun f => f))))
             clear c1)
          | (go_at_call 128
             refine (Calls.heldC (F := No) (W := w1) (by
               repeat (with_reducible first | exact Chg.refl _ _ | refine Chg.alloc ?_ _ | refine Chg.setCell ?_ (.inr (by first | exact Nat.le_refl _ | (simp; done) | (simp; omega) | omega)) _)) (more_any 132 q m (by omega) z2 z5 _ (H1.out.1.keep (by
               repeat (with_reducible first | exact Chg.refl _ _ | refine Chg.alloc ?_ _ | refine Chg.setCell ?_ (.inr (by first | exact Nat.le_refl _ | (simp; done) | (simp; omega) | omega)) _))))).mono ?_
             rw [HM.out]
             simp only [P4.cells]
             rintro e w2 ⟨⟨rfl, c2⟩, hh⟩
             have zR2 := (H1.out.2.2.keep (hh.trans c2) (fun f => f)).four
             have H2 := Lib.hid (H1.out.2.1.trans (hh.trans c2))
             clear c2 hh)
          | fail)
        all_goals
          show bodyPost Tryd.prog Tryd.f112 _ _ _ _
          refine bodyPost_ret (v := .tuple #[.agg #[.int .i64 (mk), .int .i64 (mn), .int .i64 (mm), .int .i64 (ml)], .int .i64 0]) (by simp [results, Tryd.results112, go_sem, zR2, zR2]) rfl ⟨rfl, ?_⟩
          repeat (with_reducible first | exact H2.out | refine Chg.alloc ?_ _ | refine Chg.setCell ?_ (.inr (by first | exact Nat.le_refl _ | (simp; done) | (simp; omega) | omega)) _)
    · have hl3 : lenC 134 = 3 := if_pos (by simp)
      rw [hl3] at HP
      rcases (show n = k + 1 ∨ n = k + 2 ∨ k + 3 ≤ n by omega) with hn | hn | hn
      · obtain rfl : Pr = (P4.zero, 5) := by rw [← HP.out, if_pos (by omega)]
        subst hn
        have e0 : k + 1 - (k + 1) = 0 := by omega
        go_enter Tryd.func112, Tryd.ntmps112
        go_wp2_with (first
          | (go_at_call 127
             refine (one_any 134 z0.1 z0.2 _ HB.out.1).mono ?_
             rw [HO.out]
             simp only [P4.cells]
             rintro e w1 ⟨rfl, c1⟩
             have zR := (HB.out.2.1.keep c1 (fun f => f)).four
             have xR := zR
             have hsz := Nat.lt_of_lt_of_le HB.out.2.1.lt c1.size
             have H1 := Lib.hid (And.intro (HB.out.1.keep c1) (And.intro (HB.out.2.2.trans c1) (HB.out.2.1.keep c1 (fun f => f))))
             clear c1)
          | fail)
        all_goals
          show bodyPost Tryd.prog Tryd.f112 _ _ _ _
          refine bodyPost_ret (v := .tuple #[.agg #[.int .i64 (0), .int .i64 (0), .int .i64 (0), .int .i64 (0)], .int .i64 5]) (by simp [results, Tryd.results112, go_sem, zR, hsz]) rfl ⟨rfl, ?_⟩
          repeat (with_reducible first | exact H1.out.2.1 | refine Chg.alloc ?_ _ | refine Chg.setCell ?_ (.inr (by first | exact Nat.le_refl _ | (simp; done) | (simp; omega) | omega)) _)
      · obtain rfl : Pr = (P4.zero, 5) := by rw [← HP.out, if_pos (by omega)]
        subst hn
        have e0 : k + 2 - (k + 1) = 1 := by omega
        have hcp : ¬ cp = k + 1 := by omega
        go_enter Tryd.func112, Tryd.ntmps112
        go_wp2_with (first
          | (go_at_call 127
             refine (one_any 134 z0.1 z0.2 _ HB.out.1).mono ?_
             rw [HO.out]
             simp only [P4.cells]
             rintro e w1 ⟨rfl, c1⟩
             have zR := (HB.out.2.1.keep c1 (fun f => f)).four
             have xR := zR
             have hsz := Nat.lt_of_lt_of_le HB.out.2.1.lt c1.size
             have H1 := Lib.hid (And.intro (HB.out.1.keep c1) (And.intro (HB.out.2.2.trans c1) (HB.out.2.1.keep c1 (fun f => f))))
             clear c1)
          | fail)
        all_goals
          show bodyPost Tryd.prog Tryd.f112 _ _ _ _
          refine bodyPost_ret (v := .tuple #[.agg #[.int .i64 (0), .int .i64 (0), .int .i64 (0), .int .i64 (0)], .int .i64 5]) (by simp [results, Tryd.results112, go_sem, zR, hsz]) rfl ⟨rfl, ?_⟩
          repeat (with_reducible first | exact H1.out.2.1 | refine Chg.alloc ?_ _ | refine Chg.setCell ?_ (.inr (by first | exact Nat.le_refl _ | (simp; done) | (simp; omega) | omega)) _)
      · obtain rfl : Pr = (moreP 134 q m, 0) := by rw [← HP.out, if_neg (by omega)]
        have l1 : decide ((n : Int) - ((k : Int) + 1) < 1) = false := decide_eq_false (by omega)
        have l2 : decide ((n : Int) - ((k : Int) + 1) < 2) = false := decide_eq_false (by omega)
        have l3 : decide (1 < (n : Int) - ((k : Int) + 1)) = true := decide_eq_true (by omega)
        have e1 : ((n - (k + 1) : Nat) : Int) = (n : Int) - ((k : Int) + 1) := by omega
        have l4 : (1 : Int) < (n : Int) - ((k : Int) + 1) := by omega
        have l5 : 1 < n - (k + 1) := by omega
        have hcp : ¬ cp = k + 1 := by omega
        obtain ⟨y2, z2⟩ := HX.out.lay (i := k + 1) (by rw [HN.out]; omega)
        rw [HMQ.out.2] at y2 z2
        obtain ⟨y5, z5⟩ := HX.out.lay (i := k + 2) (by rw [HN.out]; omega)
        rw [HMQ.out.1] at y5 z5
        have y4 : w.cell? ⟨b, off + (k + 1) + 1, none⟩ = some (.int .u8 m) := y5
        obtain ⟨M, hM⟩ : ∃ r, moreP 134 q m = r := ⟨_, rfl⟩
        obtain ⟨mk, mn, mm, ml⟩ := M
        rw [hM]
        have HM := Lib.hid hM
        clear hM
        have hb := World.block_lt_of_cell? w _ y2
        go_enter Tryd.func112, Tryd.ntmps112
        go_wp2_with (first
          | (go_at_call 127
             refine (one_any 134 z0.1 z0.2 _ HB.out.1).mono ?_
             rw [HO.out]
             simp only [P4.cells]
             rintro e w1 ⟨rfl, c1⟩
             have zR := (HB.out.2.1.keep c1 (fun f => f)).four
             have hsz := Nat.lt_of_lt_of_le HB.out.2.1.lt c1.size
             have y3 := ((HB.out.2.2.trans c1).cell (p := ⟨b, off + (k + 1), none⟩) hb (fun f => f)).trans y2
             have y6 := ((HB.out.2.2.trans c1).cell (p := ⟨b, off + (k + 1) + 1, none⟩) hb (fun f => f)).trans y4
             have hb3 := World.block_lt_of_cell? w1 _ y3
             have H1 := Lib.hid (And.intro (HB.out.1.keep c1) (And.intro (HB.out.2.2.trans c1) (HB.out.2.1.keep c1 (fun f => f))))
             clear c1)
          | (go_at_call 128
             refine (Calls.heldC (F := No) (W := w1) (by
               repeat (with_reducible first | exact Chg.refl _ _ | refine Chg.alloc ?_ _ | refine Chg.setCell ?_ (.inr (by first | exact Nat.le_refl _ | (simp; done) | (simp; omega) | omega)) _)) (more_any 134 q m (by omega) z2 z5 _ (H1.out.1.keep (by
               repeat (with_reducible first | exact Chg.refl _ _ | refine Chg.alloc ?_ _ | refine Chg.setCell ?_ (.inr (by first | exact Nat.le_refl _ | (simp; done) | (simp; omega) | omega)) _))))).mono ?_
             rw [HM.out]
             simp only [P4.cells]
             rintro e w2 ⟨⟨rfl, c2⟩, hh⟩
             have zR2 := (H1.out.2.2.keep (hh.trans c2) (fun f => f)).four
             have H2 := Lib.hid (H1.out.2.1.trans (hh.trans c2))
             clear c2 hh)
          | fail)
        all_goals
          show bodyPost Tryd.prog Tryd.f112 _ _ _ _
          refine bodyPost_ret (v := .tuple #[.agg #[.int .i64 (mk), .int .i64 (mn), .int .i64 (mm), .int .i64 (ml)], .int .i64 0]) (by simp [results, Tryd.results112, go_sem, zR2, zR2]) rfl ⟨rfl, ?_⟩
          repeat (with_reducible first | exact H2.out | refine Chg.alloc ?_ _ | refine Chg.setCell ?_ (.inr (by first | exact Nat.le_refl _ | (simp; done) | (simp; omega) | omega)) _)
    · have hl3 : lenC c = 2 := if_neg h3
      rw [hl3] at HP
      have q1 : (c == 132) = false := beq_eq_false_iff_ne.2 (by omega)
      have q2 : (c == 134) = false := beq_eq_false_iff_ne.2 (by omega)
      rcases (show n = k + 1 ∨ n = k + 2 ∨ k + 3 ≤ n by omega) with hn | hn | hn
      · obtain rfl : Pr = (P4.zero, 5) := by rw [← HP.out, if_pos (by omega)]
        subst hn
        have e0 : k + 1 - (k + 1) = 0 := by omega
        go_enter Tryd.func112, Tryd.ntmps112
        go_wp2_with (first
          | (go_at_call 127
             refine (one_any c z0.1 z0.2 _ HB.out.1).mono ?_
             rw [HO.out]
             simp only [P4.cells]
             rintro e w1 ⟨rfl, c1⟩
             have zR := (HB.out.2.1.keep c1 (fun f => f)).four
             have xR := zR
             have hsz := Nat.lt_of_lt_of_le HB.out.2.1.lt c1.size
             have H1 := Lib.hid (And.intro (HB.out.1.keep c1) (And.intro (HB.out.2.2.trans c1) (HB.out.2.1.keep c1 (fun f => f))))
             clear c1)
          | fail)
        all_goals
          show bodyPost Tryd.prog Tryd.f112 _ _ _ _
          refine bodyPost_ret (v := .tuple #[.agg #[.int .i64 (0), .int .i64 (0), .int .i64 (0), .int .i64 (0)], .int .i64 5]) (by simp [results, Tryd.results112, go_sem, zR, hsz]) rfl ⟨rfl, ?_⟩
          repeat (with_reducible first | exact H1.out.2.1 | refine Chg.alloc ?_ _ | refine Chg.setCell ?_ (.inr (by first | exact Nat.le_refl _ | (simp; done) | (simp; omega) | omega)) _)
      · obtain rfl : Pr = (moreP c q m, 0) := by rw [← HP.out, if_neg (by omega)]
        subst hn
        have e0 : k + 2 - (k + 1) = 1 := by omega
        have hcp : ¬ cp = k + 1 := by omega
        obtain ⟨y2, z2⟩ := HX.out.lay (i := k + 1) (by rw [HN.out]; omega)
        rw [HMQ.out.2] at y2
        rw [HMQ.out.2] at z2
        have hmp : moreP c q m = moreP c q 0 := by unfold moreP; rw [if_neg h3, if_neg h3]
        rw [hmp]
        obtain ⟨M, hM⟩ : ∃ r, moreP c q 0 = r := ⟨_, rfl⟩
        obtain ⟨mk, mn, mm, ml⟩ := M
        rw [hM]
        have HM := Lib.hid hM
        clear hM hmp
        have hb := World.block_lt_of_cell? w _ y2
        go_enter Tryd.func112, Tryd.ntmps112
        go_wp2_with (first
          | (go_at_call 127
             refine (one_any c z0.1 z0.2 _ HB.out.1).mono ?_
             rw [HO.out]
             simp only [P4.cells]
             rintro e w1 ⟨rfl, c1⟩
             have zR := (HB.out.2.1.keep c1 (fun f => f)).four
             have hsz := Nat.lt_of_lt_of_le HB.out.2.1.lt c1.size
             have y3 := ((HB.out.2.2.trans c1).cell (p := ⟨b, off + (k + 1), none⟩) hb (fun f => f)).trans y2
             have hb3 := World.block_lt_of_cell? w1 _ y3
             have H1 := Lib.hid (And.intro (HB.out.1.keep c1) (And.intro (HB.out.2.2.trans c1) (HB.out.2.1.keep c1 (fun f => f))))
             clear c1)
          | (go_at_call 128
             refine (Calls.heldC (F := No) (W := w1) (by
               repeat (with_reducible first | exact Chg.refl _ _ | refine Chg.alloc ?_ _ | refine Chg.setCell ?_ (.inr (by first | exact Nat.le_refl _ | (simp; done) | (simp; omega) | omega)) _)) (more_any c q 0 hcc z2 ⟨by decide, by decide⟩ _ (H1.out.1.keep (by
               repeat (with_reducible first | exact Chg.refl _ _ | refine Chg.alloc ?_ _ | refine Chg.setCell ?_ (.inr (by first | exact Nat.le_refl _ | (simp; done) | (simp; omega) | omega)) _))))).mono ?_
             rw [HM.out]
             simp only [P4.cells]
             rintro e w2 ⟨⟨rfl, c2⟩, hh⟩
             have zR2 := (H1.out.2.2.keep (hh.trans c2) (fun f => f)).four
             have H2 := Lib.hid (H1.out.2.1.trans (hh.trans c2))
             clear c2 hh)
          | fail)
        all_goals
          show bodyPost Tryd.prog Tryd.f112 _ _ _ _
          refine bodyPost_ret (v := .tuple #[.agg #[.int .i64 (mk), .int .i64 (mn), .int .i64 (mm), .int .i64 (ml)], .int .i64 0]) (by simp [results, Tryd.results112, go_sem, zR2, zR2]) rfl ⟨rfl, ?_⟩
          repeat (with_reducible first | exact H2.out | refine Chg.alloc ?_ _ | refine Chg.setCell ?_ (.inr (by first | exact Nat.le_refl _ | (simp; done) | (simp; omega) | omega)) _)
      · obtain rfl : Pr = (moreP c q m, 0) := by rw [← HP.out, if_neg (by omega)]
        have l1 : decide ((n : Int) - ((k : Int) + 1) < 1) = false := decide_eq_false (by omega)
        have l2 : decide ((n : Int) - ((k : Int) + 1) < 2) = false := decide_eq_false (by omega)
        have l3 : decide (1 < (n : Int) - ((k : Int) + 1)) = true := decide_eq_true (by omega)
        have e1 : ((n - (k + 1) : Nat) : Int) = (n : Int) - ((k : Int) + 1) := by omega
        have l4 : (1 : Int) < (n : Int) - ((k : Int) + 1) := by omega
        have l5 : 1 < n - (k + 1) := by omega
        have hcp : ¬ cp = k + 1 := by omega
        obtain ⟨y2, z2⟩ := HX.out.lay (i := k + 1) (by rw [HN.out]; omega)
        rw [HMQ.out.2] at y2 z2
        obtain ⟨y5, z5⟩ := HX.out.lay (i := k + 2) (by rw [HN.out]; omega)
        rw [HMQ.out.1] at y5 z5
        have y4 : w.cell? ⟨b, off + (k + 1) + 1, none⟩ = some (.int .u8 m) := y5
        have hmp : moreP c q m = moreP c q m := rfl
        obtain ⟨M, hM⟩ : ∃ r, moreP c q m = r := ⟨_, rfl⟩
        obtain ⟨mk, mn, mm, ml⟩ := M
        rw [hM]
        have HM := Lib.hid hM
        clear hM
        have hb := World.block_lt_of_cell? w _ y2
        go_enter Tryd.func112, Tryd.ntmps112
        go_wp2_with (first
          | (go_at_call 127
             refine (one_any c z0.1 z0.2 _ HB.out.1).mono ?_
             rw [HO.out]
             simp only [P4.cells]
             rintro e w1 ⟨rfl, c1⟩
             have zR := (HB.out.2.1.keep c1 (fun f => f)).four
             have hsz := Nat.lt_of_lt_of_le HB.out.2.1.lt c1.size
             have y3 := ((HB.out.2.2.trans c1).cell (p := ⟨b, off + (k + 1), none⟩) hb (fun f => f)).trans y2
             have y6 := ((HB.out.2.2.trans c1).cell (p := ⟨b, off + (k + 1) + 1, none⟩) hb (fun f => f)).trans y4
             have hb3 := World.block_lt_of_cell? w1 _ y3
             have H1 := Lib.hid (And.intro (HB.out.1.keep c1) (And.intro (HB.out.2.2.trans c1) (HB.out.2.1.keep c1 (fun f => f))))
             clear c1)
          | (go_at_call 128
             refine (Calls.heldC (F := No) (W := w1) (by
               repeat (with_reducible first | exact Chg.refl _ _ | refine Chg.alloc ?_ _ | refine Chg.setCell ?_ (.inr (by first | exact Nat.le_refl _ | (simp; done) | (simp; omega) | omega)) _)) (more_any c q m hcc z2 z5 _ (H1.out.1.keep (by
               repeat (with_reducible first | exact Chg.refl _ _ | refine Chg.alloc ?_ _ | refine Chg.setCell ?_ (.inr (by first | exact Nat.le_refl _ | (simp; done) | (simp; omega) | omega)) _))))).mono ?_
             rw [HM.out]
             simp only [P4.cells]
             rintro e w2 ⟨⟨rfl, c2⟩, hh⟩
             have zR2 := (H1.out.2.2.keep (hh.trans c2) (fun f => f)).four
             have H2 := Lib.hid (H1.out.2.1.trans (hh.trans c2))
             clear c2 hh)
          | fail)
        all_goals
          show bodyPost Tryd.prog Tryd.f112 _ _ _ _
          refine bodyPost_ret (v := .tuple #[.agg #[.int .i64 (mk), .int .i64 (mn), .int .i64 (mm), .int .i64 (ml)], .int .i64 0]) (by simp [results, Tryd.results112, go_sem, zR2, zR2]) rfl ⟨rfl, ?_⟩
          repeat (with_reducible first | exact H2.out | refine Chg.alloc ?_ _ | refine Chg.setCell ?_ (.inr (by first | exact Nat.le_refl _ | (simp; done) | (simp; omega) | omega)) _)

theorem oneP_l (c : Int) : (oneP c).1.l = 1 := by
  rcases (show c ≤ 15 ∨ (16 ≤ c ∧ c ≤ 31) ∨ (32 ≤ c ∧ c ≤ 63) ∨ (64 ≤ c ∧ c ≤ 95) ∨ (96 ≤ c ∧ c ≤ 103) ∨ (104 ≤ c ∧ c ≤ 111) ∨ (112 ≤ c ∧ c ≤ 112) ∨ (113 ≤ c ∧ c ≤ 119) ∨ (120 ≤ c ∧ c ≤ 120) ∨ (121 ≤ c ∧ c ≤ 123) ∨ (124 ≤ c ∧ c ≤ 125) ∨ (126 ≤ c ∧ c ≤ 127) ∨ (128 ≤ c ∧ c ≤ 134) ∨ (135 ≤ c ∧ c ≤ 137) ∨ (138 ≤ c ∧ c ≤ 143) ∨ (144 ≤ c ∧ c ≤ 151) ∨ (152 ≤ c ∧ c ≤ 159) ∨ (160 ≤ c ∧ c ≤ 175) ∨ (176 ≤ c ∧ c ≤ 191) ∨ (192 ≤ c ∧ c ≤ 207) ∨ 208 ≤ c by omega) with q | q | q | q | q | q | q | q | q | q | q | q | q | q | q | q | q | q | q | q | q
  all_goals
    unfold oneP
    repeat (first | rw [if_pos (by omega)] | rw [if_neg (by omega)])
theorem moreP_l (c n m : Int) : (moreP c n m).l = lenC c := by
  unfold moreP lenC
  by_cases h3 : c = 132 ∨ c = 134
  · rw [if_pos h3, if_neg (by omega), if_neg (by omega), if_pos h3]
    rfl
  · rw [if_neg h3, if_neg h3]
    repeat' split
    all_goals rfl
/-- how far it goes -/
theorem atP_fits {b : List Int} {k : Nat} (hk : k < b.length) (h : (atP b k).2 = 0) : ∃ l : Nat, (atP b k).1.l = l ∧ 1 ≤ l ∧ k + l ≤ b.length := by
  unfold atP at h ⊢
  split
  · exact ⟨1, oneP_l _, by omega, by omega⟩
  · rename_i h1
    rw [if_neg h1] at h
    split
    · rename_i h2
      rw [if_pos h2] at h
      cases h
    · rename_i h2
      exact ⟨_, moreP_l _ _ _, by unfold lenC; split <;> omega, by omega⟩
/-- all from a place on -/
def opsR (b : List Int) : Nat → Nat → List P4 × Int
  | 0, _ => ([], 0)
  | f + 1, k => if b.length ≤ k then ([], 0) else if (atP b k).2 = 0 then ((atP b k).1 :: (opsR b f (k + (atP b k).1.l.toNat)).1, (opsR b f (k + (atP b k).1.l.toNat)).2) else ([], (atP b k).2)
theorem opsR_end {b : List Int} {f k : Nat} (h : b.length ≤ k) : opsR b f k = ([], 0) := by
  cases f with
  | zero => rfl
  | succ f => rw [opsR, if_pos h]
def opsP (b : List Int) : List P4 × Int := if (opsR b b.length 0).2 = 0 then opsR b b.length 0 else ([], (opsR b b.length 0).2)

def opCells (l : List P4) : List Value := l.flatMap fun x => [.int .i64 x.k, .int .i64 x.n, .int .i64 x.m, .int .i64 x.l]
theorem opCells_len (l : List P4) : (opCells l).length = l.length * 4 := by
  induction l with
  | nil => rfl
  | cons x r ih => simp [opCells] at ih ⊢; omega
theorem opCells_at : ∀ (l : List P4) (i : Nat) (x : P4), l[i]? = some x → (opCells l)[i * 4]? = some (.int .i64 x.k) ∧ (opCells l)[i * 4 + 1]? = some (.int .i64 x.n) ∧ (opCells l)[i * 4 + 2]? = some (.int .i64 x.m) ∧ (opCells l)[i * 4 + 3]? = some (.int .i64 x.l)
  | [], i, x, h => by cases h
  | y :: r, 0, x, h => by
    cases h
    exact ⟨rfl, rfl, rfl, rfl⟩
  | y :: r, i + 1, x, h => by
    have ih := opCells_at r i x h
    have e : ∀ j, (opCells (y :: r))[(i + 1) * 4 + j]? = (opCells r)[i * 4 + j]? := fun j => by
      rw [show (i + 1) * 4 + j = (i * 4 + j) + 4 by omega]
      rfl
    exact ⟨(e 0).trans ih.1, (e 1).trans ih.2.1, (e 2).trans ih.2.2.1, (e 3).trans ih.2.2.2⟩
theorem elem_op : ElemInfo Tryd.prog 133 138 4 32 := .of Tryd.underlying133 (show (Tryd.prog.info? 138).map (fun i => (i.zero, i.size, i.bytes)) = some (some (.agg #[.int .i64 0, .int .i64 0, .int .i64 0, .int .i64 0]), 4, 32) by kernel_rfl) rfl
/-- a slice of what bytes tell, the call's own -/
def OwnP (w : World) (base : Nat) (v : Value) (l : List P4) : Prop := w.ownsRow base 138 4 v l.length (opCells l)
theorem OwnP.form {w : World} {base : Nat} {v : Value} {l : List P4} (h : OwnP w base v l) : ∃ A c, v = .slice A l.length c := own_form h
theorem OwnP.keep {w w' : World} {base : Nat} {v : Value} {l : List P4} {F : Nat → Prop} (h : OwnP w base v l) (c : Chg F w w') (hF : ∀ b, base ≤ b → ¬ F b) : OwnP w' base v l := own_keep h c fun b hb => hF b (own_ge h hb)
theorem OwnP.nil (w : World) (base : Nat) : OwnP w base (.slice none 0 0) [] := World.ownsRow_nil _ _ _ _
theorem app_op {w : World} {base : Nat} {v : Value} {l : List P4} (h : OwnP w base v l) (hl : l.length < 200000000) (hB : base ≤ w.heap.size) (x : P4) (ty : TypeId) :
    ∃ A c w', (Builtin.append_ #[133, 133] ty #[v, .slice (some ⟨w.heap.size, 0, none⟩) 1 1]).run Tryd.prog (w.alloc (.cells #[.int .i64 x.k, .int .i64 x.n, .int .i64 x.m, .int .i64 x.l] 138)) = .ok (.slice A (l.length + 1) c) w' ∧ OwnP w' base (.slice A (l.length + 1) c) (l ++ [x]) ∧ Chg (fun k => v.ownBlock = some k) w w' := by
  obtain ⟨v', w4, hr, ho, hg⟩ := run_app elem_op (by decide) (own_keep (F := No) h ((Chg.refl _ _).alloc (.cells #[.int .i64 x.k, .int .i64 x.n, .int .i64 x.m, .int .i64 x.l] 138)) (fun _ _ f => f)) (Slc.row (S := fun _ => True) (Row.new w 138 #[.int .i64 x.k, .int .i64 x.n, .int .i64 x.m, .int .i64 x.l]) 1 4 rfl (by unfold maxLen; omega) trivial) (by simp [Value.oneCell']) (by unfold maxLen; omega) (by omega) (by simp; omega) ty
  obtain ⟨A, c, rfl⟩ := own_form ho
  refine ⟨A, c, w4, hr, ?_, ?_⟩
  · unfold OwnP
    rw [List.length_append, show opCells (l ++ [x]) = opCells l ++ [.int .i64 x.k, .int .i64 x.n, .int .i64 x.m, .int .i64 x.l] by simp [opCells]]
    exact ho
  · exact ((Chg.refl _ _).alloc _).grown hg (fun k hk => .inl hk)

/-- what All gives -/
def Opsd (w : World) (r : List P4 × Int) (v : Value) (w' : World) : Prop := ∃ u, v = .tuple #[u, .int .i64 r.2] ∧ OwnP w' w.heap.size u r.1 ∧ Chg No w w'
set_option maxRecDepth 100000 in
set_option maxHeartbeats 1000000 in
theorem AllOps_any (bv : Value) (l : List Int) (S : Nat → Prop) (w : World) (h : ByteS w S bv l) (hm : l.length ≤ 100000000) (ht : Tabs w) : Calls Tryd.prog 92 #[bv] w (Ret (Opsd w (opsP l))) := by
  obtain ⟨A, cp, rfl, -⟩ := h.form
  have HX := Lib.hid h
  have HT := Lib.hid ht
  obtain ⟨R, hR⟩ : ∃ r, opsP l = r := ⟨_, rfl⟩
  rw [hR]
  have HR := Lib.hid hR
  clear h ht hR
  generalize hn : l.length = n at *
  have HN := Lib.hid hn
  clear hn
  go_enter Tryd.func92, Tryd.ntmps92
  go_wp2_with fail
  go_loopg [4, 5] (n + 1) (fun j v4 v5 wr => ∃ (k f : Nat) (acc : List P4), v5 = .int .i64 (k : Int) ∧ k ≤ n ∧ n - k < j ∧ n - k ≤ f ∧ acc.length ≤ k ∧ OwnP wr w.heap.size v4 acc ∧ Chg No w wr ∧ opsR l n 0 = (acc ++ (opsR l f k).1, (opsR l f k).2))
  case atStart => exact ⟨0, n, [], rfl, by omega, by omega, by omega, by simp, OwnP.nil _ _, Chg.refl _ _, rfl⟩
  case round =>
    obtain ⟨k, f, acc, rfl, k1, k2, k3, k4, own, cw, hop⟩ := hrel
    obtain ⟨A3, c3, rfl⟩ := own.form
    by_cases hk : k < n
    · have t1 : decide ((k : Int) < (n : Int)) = true := decide_eq_true (by omega)
      have l1 : (k : Int) < (n : Int) := by omega
      obtain ⟨f, rfl⟩ : ∃ f', f = f' + 1 := ⟨f - 1, by omega⟩
      rw [opsR, if_neg (by rw [HN.out]; omega)] at hop
      obtain ⟨P, hP⟩ : ∃ r, atP l k = r := ⟨_, rfl⟩
      obtain ⟨⟨pk, pn, pm, pl⟩, pe⟩ := P
      rw [hP] at hop
      have hf := atP_fits (b := l) (k := k) (by rw [HN.out]; exact hk)
      rw [hP] at hf
      dsimp only at hop hf
      have HP := Lib.hid hP
      clear hP
      have hwr : w.heap.size ≤ wr.heap.size := cw.size
      generalize hna : acc.length = na at *
      have HNA := Lib.hid hna
      clear hna
      by_cases he : pe = 0
      · subst he
        rw [if_pos rfl] at hop
        obtain ⟨q, rfl, q1, q2⟩ := hf rfl
        rw [HN.out] at q2
        have HOP := Lib.hid hop
        have HC := Lib.hid (And.intro own cw)
        have wq : IntKind.i64.wrap ((k : Int) + (q : Int)) = ((k + q : Nat) : Int) := (IntWalk.i64_in _ (by omega)).trans (by omega)
        clear hop own cw hf
        go_wp2_with (first
          | (go_at_call 112
             refine (At_any _ l S _ (HX.out.keep HC.out.2 (fun _ _ f => f)) k (by rw [HN.out]; exact hk) (HT.out.keep HC.out.2)).mono ?_
             rw [HP.out]
             simp only [P4.cells]
             rintro e w4 ⟨rfl, c4⟩
             have cA : Chg No w4 (w4.alloc (.cells #[.int .i64 pk, .int .i64 pn, .int .i64 pm, .int .i64 (q : Int)] 138)) := (Chg.refl _ _).alloc _
             have rA := Row.new w4 138 #[.int .i64 pk, .int .i64 pn, .int .i64 pm, .int .i64 (q : Int)]
             obtain ⟨W5, hW5⟩ : ∃ W, w4.alloc (.cells #[.int .i64 pk, .int .i64 pn, .int .i64 pm, .int .i64 (q : Int)] 138) = W := ⟨_, rfl⟩
             rw [hW5] at cA rA
             have c45 := c4.trans cA
             obtain ⟨A6, c6, w6, hr6, ho6, cg6⟩ := app_op (HC.out.1.keep c45 (fun _ _ f => f)) (by rw [HNA.out]; omega) (Nat.le_trans hwr c45.size) ⟨pk, pn, pm, (q : Int)⟩ 133
             rw [HNA.out] at hr6 ho6
             have r6 := rA.keep cg6 (fun h => by have := (HC.out.1.lt _ h).2; have := c4.size; omega)
             have x4 := rA.four
             have x6 := r6.cell 3
             simp at x6
             have H6 := Lib.hid (And.intro ho6 (Chg.then (HC.out.2.trans c45) cg6 (fun k hk h => absurd (HC.out.1.lt _ h).1 (by omega))))
             have HW5 := Lib.hid hW5
             have HR6 := Lib.hid hr6
             clear c4 cA rA c45 hr6 ho6 cg6 hW5 r6)
          | (rw [HW5.out])
          | (at_builtin; refine wpList_append_run rfl _ _ _ rfl rfl rfl HR6.out ?_)
          | fail)
        go_roundg (n - k)
        case measure => omega
        case rel =>
          refine ⟨k + q, f, acc ++ [⟨pk, pn, pm, (q : Int)⟩], by go_num, by omega, by omega, by omega, by rw [List.length_append, HNA.out]; simp; omega, ?_, H6.out.2, ?_⟩
          · exact H6.out.1
          · have := HOP.out
            rw [Int.toNat_natCast] at this
            rw [this]
            simp
      · rw [if_neg he] at hop
        have t3 : (pe != 0) = true := by simpa using he
        obtain rfl : R = ([], pe) := by
          rw [← HR.out]
          unfold opsP
          rw [HN.out, hop, if_neg he]
        have HC := Lib.hid cw
        clear hop own cw hf he
        go_wp2_with (first
          | (go_at_call 112
             refine (At_any _ l S _ (HX.out.keep HC.out (fun _ _ f => f)) k (by rw [HN.out]; exact hk) (HT.out.keep HC.out)).mono ?_
             rw [HP.out]
             simp only [P4.cells]
             rintro e w4 ⟨rfl, c4⟩)
          | fail)
        go_ret2
        exact Ret.mk ⟨_, rfl, OwnP.nil _ _, by repeat (with_reducible first | exact HC.out.trans c4 | refine Chg.alloc ?_ _ | refine Chg.setCell ?_ (.inr (by first | (simp; done) | (simp; omega) | omega)) _)⟩
    · have t1 : decide ((k : Int) < (n : Int)) = false := decide_eq_false (by omega)
      rw [opsR_end (b := l) (f := f) (k := k) (by rw [HN.out]; omega), List.append_nil] at hop
      obtain rfl : R = (acc, 0) := by
        rw [← HR.out]
        unfold opsP
        rw [HN.out, hop, if_pos rfl]
      have HC := Lib.hid (And.intro own cw)
      clear hop own cw
      go_wp2_with fail
      go_ret2
      exact Ret.mk ⟨_, rfl, HC.out.1, HC.out.2⟩

end Go.Proofs.YtncoanmgifgcbaaDoor
