/- The document on what bytes tell (websterref12): At, All. · The document on what bytes tell (websterref12): All, Jumps. -/
import Derived.Test.YtifcigjminbllaaGreatDoorImgK
import Derived.Test.YtifcigjminbllaaGreatDoorRegion
import Derived.Test.YtifcigjminbllaaGreatDoorImgI
namespace Go.Proofs.YtifcigjminbllaaGreatDoor
set_option linter.unusedVariables false
set_option linter.unusedSimpArgs false
open Go.RowKit

set_option maxRecDepth 100000 in
set_option maxHeartbeats 1000000 in
theorem At12_any (bv : Value) (l : List Int) (S : Nat → Prop) (w : World) (h : ByteS w S bv l) (k : Nat) (hk : k < l.length) (hm9 : l.length ≤ 100000000) : Calls Tryz.prog 79 #[bv, .int .i64 (k : Int)] w fun e w' => e = .returned (.tuple #[.agg (atP l k).1.cells, .int .i64 (atP l k).2]) ∧ Chg No w w' := by
  obtain ⟨A, cp, rfl, hlc, hcm, -⟩ := h.form
  have hcm' : cp ≤ 9223372036854775807 := by unfold maxLen at hcm; simp at hcm; omega
  obtain ⟨b, off, rfl⟩ := h.some (by omega)
  obtain ⟨y0, z0⟩ := h.lay (i := k) hk
  have HX := Lib.hid h
  obtain ⟨Pr, hP⟩ : ∃ r, atP l k = r := ⟨_, rfl⟩
  rw [hP]
  obtain ⟨c, hc⟩ : ∃ c, l[k]?.getD 0 = c := ⟨_, rfl⟩
  obtain ⟨m, hm⟩ : ∃ m, l[k + 2]?.getD 0 = m := ⟨_, rfl⟩
  obtain ⟨q, hq⟩ : ∃ q, l[k + 1]?.getD 0 = q := ⟨_, rfl⟩
  have HMQ := Lib.hid (And.intro hm hq)
  unfold atP at hP
  rw [hc] at y0 z0 hP
  rw [hm, hq] at hP
  have HP := Lib.hid hP
  have hb0 := World.block_lt_of_cell? w _ y0
  clear hP hc hcm h hm hq
  generalize hn : l.length = n at *
  have HN := Lib.hid hn
  clear hn
  have t1 : decide ((k : Int) < 0) = false := decide_eq_false (by omega)
  have t2 : decide ((n : Int) ≤ (k : Int)) = false := decide_eq_false (by omega)
  have lk : (k : Int) < (n : Int) := by omega
  have row := Row.new w 113 #[.int .i64 0, .int .i64 0, .int .i64 0, .int .i64 0]
  have cA : Chg No w (w.alloc (.cells #[.int .i64 0, .int .i64 0, .int .i64 0, .int .i64 0] 113)) := (Chg.refl _ _).alloc _
  have hb1 : b < (w.alloc (.cells #[.int .i64 0, .int .i64 0, .int .i64 0, .int .i64 0] 113)).heap.size := Nat.lt_of_lt_of_le hb0 cA.size
  have y1 := (cA.cell (p := ⟨b, off + k, none⟩) hb0 (fun f => f)).trans y0
  have HB := Lib.hid (And.intro row cA)
  have wk : IntKind.i64.wrap ((k : Int) + 1) = ((k + 1 : Nat) : Int) := (IntWalk.i64_in _ (by omega)).trans (by omega)
  have wk2 : IntKind.i64.wrap ((k : Int) + 2) = ((k + 2 : Nat) : Int) := (IntWalk.i64_in _ (by omega)).trans (by omega)
  have wl : IntKind.i64.wrap ((n : Int) - (k : Int)) = (n : Int) - (k : Int) := IntWalk.i64_in _ (by omega)
  obtain ⟨lv, hlv⟩ : ∃ x, longV c = x := ⟨_, rfl⟩
  have HLV := Lib.hid hlv
  unfold longV at hlv
  obtain ⟨O1, hO⟩ : ∃ r, oneP c = r := ⟨_, rfl⟩
  rw [hO] at hlv
  obtain ⟨⟨ok, on, om, ol⟩, ob⟩ := O1
  have HO := Lib.hid hO
  dsimp only at hlv
  clear row cA
  cases ob
  · have hcc := oneP_no (show (oneP c).2 = false by rw [hO])
    rw [if_neg (by decide)] at hlv
    rw [if_neg (by rw [hO]; simp)] at HP
    clear hO
    have hL : lenC c = 2 ∨ lenC c = 3 := by unfold lenC; split <;> simp
    by_cases hlt : n < k + lenC c
    · obtain rfl : Pr = (P4.zero, 5) := by rw [← HP.out, if_pos hlt]
      have t3 : decide ((n : Int) - (k : Int) < lv) = true := decide_eq_true (by omega)
      have zR := HB.out.1.four
      go_enter Tryz.func79, Tryz.ntmps79
      go_wp2_with (first
        | (go_at_call 83
           refine (long_any c z0.1 z0.2 _).mono ?_
           rw [HLV.out]
           rintro e w' ⟨rfl, rfl⟩)
        | fail)
      show bodyPost Tryz.prog Tryz.f79 _ _ _ _
      refine bodyPost_ret (v := .tuple #[.agg #[.int .i64 (0), .int .i64 (0), .int .i64 (0), .int .i64 (0)], .int .i64 5]) (by simp [results, Tryz.results79, go_sem, zR, zR]) rfl ⟨rfl, ?_⟩
      repeat (with_reducible first | exact HB.out.2 | refine Chg.drew ?_ | refine Chg.alloc ?_ _ | refine Chg.setCell ?_ (.inr (by first | exact Nat.le_refl _ | (simp; done) | (simp; omega) | omega)) _)
    · obtain rfl : Pr = (moreP c q m, 0) := by rw [← HP.out, if_neg hlt]
      have t3 : decide ((n : Int) - (k : Int) < lv) = false := decide_eq_false (by omega)
      obtain ⟨y2, z2⟩ := HX.out.lay (i := k + 1) (by rw [HN.out]; omega)
      rw [HMQ.out.2] at y2 z2
      replace y2 := ((HB.out.2).cell (p := ⟨b, off + (k + 1), none⟩) hb0 (fun f => f)).trans y2
      have lk1 : ((k + 1 : Nat) : Int) < (n : Int) := by omega
      have lk3 : k + 1 < n := by omega
      obtain ⟨M, hM⟩ : ∃ r, moreP c q m = r := ⟨_, rfl⟩
      have hml := moreP_l c q m
      rw [hM] at hml
      obtain ⟨mk, mn, mm, ml⟩ := M
      dsimp only at hml
      have HM := Lib.hid hM
      rw [hM]
      clear hM
      rcases hL with hL | hL
      · rw [hL] at hlv hml
        obtain rfl : lv = 2 := by omega
        obtain rfl : ml = 2 := by omega
        clear hlv hml
        have hmp : (moreP c q 0).noLen = ⟨mk, mn, mm, 0⟩ := by
          have h3 : ¬ (c = 132 ∨ c = 134) := fun h => by unfold lenC at hL; rw [if_pos h] at hL; cases hL
          have : moreP c q 0 = moreP c q m := by unfold moreP; rw [if_neg h3, if_neg h3]
          rw [this, HM.out]
          rfl
        have HMP := Lib.hid hmp
        clear hmp
        go_enter Tryz.func79, Tryz.ntmps79
        go_wp2_with (first
          | (go_at_call 83
             refine (long_any c z0.1 z0.2 _).mono ?_
             rw [HLV.out]
             rintro e w' ⟨rfl, rfl⟩)
          | (go_at_call 84
             refine (short_any c z0.1 z0.2 _).mono ?_
             rw [HO.out]
             simp only [P4.noLen, P4.cells]
             rintro e w1 ⟨rfl, c1⟩
             have zR := (HB.out.1.keep c1 (fun f => f)).four
             have hsz := Nat.lt_of_lt_of_le HB.out.1.lt c1.size
             have y3 := (c1.cell (p := ⟨b, off + (k + 1), none⟩) hb1 (fun f => f)).trans y2
             have hb3 := Nat.lt_of_lt_of_le hb1 c1.size
             have rO := Row.new w1 113 #[.int .i64 ok, .int .i64 on, .int .i64 om, .int .i64 0]
             obtain ⟨W1, hW1⟩ : ∃ W, w1.alloc (.cells #[.int .i64 ok, .int .i64 on, .int .i64 om, .int .i64 0] 113) = W := ⟨_, rfl⟩
             rw [hW1] at rO
             have cW1 : Chg No w1 W1 := by rw [← hW1]; exact (Chg.refl _ _).alloc _
             have y7 := (cW1.cell (p := ⟨b, off + (k + 1), none⟩) hb3 (fun f => f)).trans y3
             have HW1 := Lib.hid hW1
             have H1 := Lib.hid (And.intro (HB.out.2.trans (c1.trans cW1)) (And.intro (HB.out.1.keep (c1.trans cW1) (fun f => f)) rO))
             clear c1 rO hW1 cW1)
          | (rw [HW1.out])
          | (go_at_call 85
             refine (wide_any c q 0 hcc z2 ⟨by decide, by decide⟩ _).mono ?_
             rw [HMP.out]
             simp only [P4.cells]
             rintro e w2 ⟨rfl, c2⟩
             have rO2 := H1.out.2.2.keep c2 (fun f => f)
             have rZ2 := H1.out.2.1.keep c2 (fun f => f)
             have zO2 := rO2.four
             have hlt2 := rO2.lt
             obtain ⟨W5, h5⟩ : ∃ W, (((w2.setCell ⟨w1.heap.size, 0, none⟩ (.int .i64 mk)).setCell ⟨w1.heap.size, 1, none⟩ (.int .i64 mn)).setCell ⟨w1.heap.size, 2, none⟩ (.int .i64 mm)).setCell ⟨w1.heap.size, 3, none⟩ (.int .i64 0) = W := ⟨_, rfl⟩
             have c25 : Chg (fun b => b = w1.heap.size) w2 W5 := by
               rw [← h5]
               repeat (with_reducible first | exact Chg.refl _ _ | refine Chg.setCell ?_ (.inl (by simp)) _)
             have r5 : Row W5 w1.heap.size 113 #[.int .i64 mk, .int .i64 mn, .int .i64 mm, .int .i64 0] := by rw [← h5]; exact (((rO2.set 0 _).set 1 _).set 2 _).set 3 _
             have z5 := r5.four
             obtain ⟨W6, h6⟩ : ∃ W, W5.setCell ⟨w1.heap.size, 3, none⟩ (.int .i64 2) = W := ⟨_, rfl⟩
             have c26 : Chg (fun b => b = w1.heap.size) w2 W6 := by
               rw [← h6]
               exact Chg.setCell c25 (.inl (by simp)) _
             have r6 : Row W6 w1.heap.size 113 #[.int .i64 mk, .int .i64 mn, .int .i64 mm, .int .i64 2] := by rw [← h6]; exact r5.set 3 _
             have z6 := r6.four
             have zR2 := (rZ2.keep c26 (by omega)).four
             have HW5 := Lib.hid h5
             have HW6 := Lib.hid h6
             have H2 := Lib.hid ((H1.out.1.trans c2).then c26 (fun k hk h => by omega))
             clear h5 h6 c25 c26 r5 r6 rO2 rZ2
             clear c2)
          | (rw [HW5.out])
          | (rw [HW6.out])
          | fail)
        show bodyPost Tryz.prog Tryz.f79 _ _ _ _
        refine bodyPost_ret (v := .tuple #[.agg #[.int .i64 (mk), .int .i64 (mn), .int .i64 (mm), .int .i64 (2)], .int .i64 0]) (by simp [results, Tryz.results79, go_sem, zR2, zR2]) rfl ⟨rfl, ?_⟩
        repeat (with_reducible first | exact H2.out | refine Chg.drew ?_ | refine Chg.alloc ?_ _ | refine Chg.setCell ?_ (.inr (by first | exact Nat.le_refl _ | (simp; done) | (simp; omega) | omega)) _)
      · rw [hL] at hlv hml
        obtain rfl : lv = 3 := by omega
        obtain rfl : ml = 3 := by omega
        clear hlv hml
        obtain ⟨y4, z4⟩ := HX.out.lay (i := k + 2) (by rw [HN.out]; omega)
        rw [HMQ.out.1] at y4 z4
        replace y4 := ((HB.out.2).cell (p := ⟨b, off + (k + 2), none⟩) hb0 (fun f => f)).trans y4
        have lk5 : ((k + 2 : Nat) : Int) < (n : Int) := by omega
        have lk4 : k + 2 < n := by omega
        have hmp : (moreP c q m).noLen = ⟨mk, mn, mm, 0⟩ := by rw [HM.out]; rfl
        have wk' : IntKind.i64.wrap ((k : Int) + 1) = (k : Int) + 1 := IntWalk.i64_in _ (by omega)
        have wk2' : IntKind.i64.wrap ((k : Int) + 2) = (k : Int) + 2 := IntWalk.i64_in _ (by omega)
        have b1 : (k : Int) + 1 < (n : Int) := by omega
        have b2 : (k : Int) + 2 < (n : Int) := by omega
        have p1 : (0 : Int) ≤ (k : Int) + 1 := by omega
        have p2 : (0 : Int) ≤ (k : Int) + 2 := by omega
        have n1 : ((k : Int) + 1).toNat = k + 1 := by omega
        have n2 : ((k : Int) + 2).toNat = k + 2 := by omega
        clear wk wk2 lk1 lk5
        have HMP := Lib.hid hmp
        clear hmp
        go_enter Tryz.func79, Tryz.ntmps79
        go_wp2_with (first
          | (go_at_call 83
             refine (long_any c z0.1 z0.2 _).mono ?_
             rw [HLV.out]
             rintro e w' ⟨rfl, rfl⟩)
          | (go_at_call 84
             refine (short_any c z0.1 z0.2 _).mono ?_
             rw [HO.out]
             simp only [P4.noLen, P4.cells]
             rintro e w1 ⟨rfl, c1⟩
             have hsz := Nat.lt_of_lt_of_le HB.out.1.lt c1.size
             have y3 := (c1.cell (p := ⟨b, off + (k + 1), none⟩) hb1 (fun f => f)).trans y2
             have y6 := (c1.cell (p := ⟨b, off + (k + 2), none⟩) hb1 (fun f => f)).trans y4
             have hb3 := Nat.lt_of_lt_of_le hb1 c1.size
             have rO := Row.new w1 113 #[.int .i64 ok, .int .i64 on, .int .i64 om, .int .i64 0]
             obtain ⟨W1, hW1⟩ : ∃ W, w1.alloc (.cells #[.int .i64 ok, .int .i64 on, .int .i64 om, .int .i64 0] 113) = W := ⟨_, rfl⟩
             rw [hW1] at rO
             have cW1 : Chg No w1 W1 := by rw [← hW1]; exact (Chg.refl _ _).alloc _
             have hb4 := Nat.lt_of_lt_of_le hb3 cW1.size
             have y7 := (cW1.cell (p := ⟨b, off + (k + 1), none⟩) hb3 (fun f => f)).trans y3
             have y8 := (cW1.cell (p := ⟨b, off + (k + 2), none⟩) hb3 (fun f => f)).trans y6
             have u7 : ∀ v, Chg No W1 v → v.cell? ⟨b, off + (k + 1), none⟩ = some (.int .u8 q) := fun v hv => (hv.cell (p := ⟨b, off + (k + 1), none⟩) hb4 (fun f => f)).trans y7
             have u8 : ∀ v, Chg No W1 v → v.cell? ⟨b, off + (k + 2), none⟩ = some (.int .u8 m) := fun v hv => (hv.cell (p := ⟨b, off + (k + 2), none⟩) hb4 (fun f => f)).trans y8
             have HW1 := Lib.hid hW1
             have H1 := Lib.hid (And.intro (HB.out.2.trans (c1.trans cW1)) (And.intro (HB.out.1.keep (c1.trans cW1) (fun f => f)) rO))
             clear c1 rO hW1 cW1 y7 y8 y3 y6)
          | (rw [HW1.out])
          | fail)
        refine rem_start (by kernel_rfl) (by kernel_rfl) ?_
        refine rem_quiet 13 (C := (Chg No W1)) (by kernel_rfl) (by simp only [List.toList_toArray, List.drop_succ_cons, List.drop_zero, List.take_succ_cons, List.take_zero, Nat.reduceSub, Nat.reduceAdd]; rfl) ?_ ?_
        · exact (Chg.refl _ _).drew
        repeat
          refine q_step (fun K hK => ?_)
          go_simp
          first
            | ((with_reducible refine hK _ ?_); clear hK K)
            | (refine (if_neg (by simp [undef])).mpr ?_; (with_reducible refine hK _ ?_); clear hK K)
            | (apply Exists.intro
               with_reducible refine ⟨fun v hv => ?_, hK _ ?_⟩
               · first
                   | with_reducible exact rfl
                   | with_reducible exact ⟨rfl, rfl⟩
                   | (go_simp
                      first
                        | done
                        | with_reducible exact rfl
                        | with_reducible exact ⟨rfl, rfl⟩
                        | fail)
               clear hK K)
        refine q_nil ?_
        intro V hV
        clear u7 u8
        refine rem_one (by kernel_rfl) (by kernel_rfl) rfl (by kernel_rfl) (fun K hK => ?_)
        go_wp2_with (first
          | (go_at_call 85
             refine (wide_any c q m hcc z2 z4 _).mono ?_
             rw [HMP.out]
             simp only [P4.cells]
             rintro e w2 ⟨rfl, c2'⟩
             have c2 := hV.trans c2'
             have rO2 := H1.out.2.2.keep c2 (fun f => f)
             have rZ2 := H1.out.2.1.keep c2 (fun f => f)
             have zO2 := rO2.four
             have hlt2 := rO2.lt
             obtain ⟨W5, h5⟩ : ∃ W, (((w2.setCell ⟨w1.heap.size, 0, none⟩ (.int .i64 mk)).setCell ⟨w1.heap.size, 1, none⟩ (.int .i64 mn)).setCell ⟨w1.heap.size, 2, none⟩ (.int .i64 mm)).setCell ⟨w1.heap.size, 3, none⟩ (.int .i64 0) = W := ⟨_, rfl⟩
             have c25 : Chg (fun b => b = w1.heap.size) w2 W5 := by
               rw [← h5]
               repeat (with_reducible first | exact Chg.refl _ _ | refine Chg.setCell ?_ (.inl (by simp)) _)
             have r5 : Row W5 w1.heap.size 113 #[.int .i64 mk, .int .i64 mn, .int .i64 mm, .int .i64 0] := by rw [← h5]; exact (((rO2.set 0 _).set 1 _).set 2 _).set 3 _
             have z5 := r5.four
             obtain ⟨W6, h6⟩ : ∃ W, W5.setCell ⟨w1.heap.size, 3, none⟩ (.int .i64 3) = W := ⟨_, rfl⟩
             have c26 : Chg (fun b => b = w1.heap.size) w2 W6 := by
               rw [← h6]
               exact Chg.setCell c25 (.inl (by simp)) _
             have r6 : Row W6 w1.heap.size 113 #[.int .i64 mk, .int .i64 mn, .int .i64 mm, .int .i64 3] := by rw [← h6]; exact r5.set 3 _
             have z6 := r6.four
             have zR2 := (rZ2.keep c26 (by omega)).four
             have HW5 := Lib.hid h5
             have HW6 := Lib.hid h6
             have H2 := Lib.hid ((H1.out.1.trans c2).then c26 (fun k hk h => by omega))
             clear h5 h6 c25 c26 r5 r6 rO2 rZ2
             clear c2')
          | fail)
        refine rem_one (by kernel_rfl) (by kernel_rfl) rfl (by kernel_rfl) (fun K hK => ?_)
        go_wp2_with fail
        rw [HW5.out]
        refine rem_end (by kernel_rfl) ?_
        go_wp2_with (first
          | (rw [HW6.out])
          | fail)
        show bodyPost Tryz.prog Tryz.f79 _ _ _ _
        refine bodyPost_ret (v := .tuple #[.agg #[.int .i64 (mk), .int .i64 (mn), .int .i64 (mm), .int .i64 (3)], .int .i64 0]) (by simp [results, Tryz.results79, go_sem, zR2, zR2]) rfl ⟨rfl, ?_⟩
        repeat (with_reducible first | exact H2.out | refine Chg.drew ?_ | refine Chg.alloc ?_ _ | refine Chg.setCell ?_ (.inr (by first | exact Nat.le_refl _ | (simp; done) | (simp; omega) | omega)) _)
  · rw [if_pos rfl] at hlv
    obtain rfl := hlv
    obtain rfl : Pr = (⟨ok, on, om, ol⟩, 0) := by rw [← HP.out, hO, if_pos rfl]
    have hol : ol = 1 := by have := oneP_l c; rw [hO] at this; exact this
    subst hol
    have t3 : decide ((n : Int) - (k : Int) < 1) = false := decide_eq_false (by omega)
    clear hO
    go_enter Tryz.func79, Tryz.ntmps79
    go_wp2_with (first
      | (go_at_call 83
         refine (long_any c z0.1 z0.2 _).mono ?_
         rw [HLV.out]
         rintro e w' ⟨rfl, rfl⟩)
      | (go_at_call 84
         refine (short_any c z0.1 z0.2 _).mono ?_
         rw [HO.out]
         simp only [P4.noLen, P4.cells]
         rintro e w1 ⟨rfl, c1⟩
         have zR := (HB.out.1.keep c1 (fun f => f)).four
         have hsz := Nat.lt_of_lt_of_le HB.out.1.lt c1.size
         have H1 := Lib.hid (HB.out.2.trans c1)
         clear c1)
      | fail)
    show bodyPost Tryz.prog Tryz.f79 _ _ _ _
    refine bodyPost_ret (v := .tuple #[.agg #[.int .i64 (ok), .int .i64 (on), .int .i64 (om), .int .i64 (1)], .int .i64 0]) (by simp [results, Tryz.results79, go_sem, zR, hsz]) rfl ⟨rfl, ?_⟩
    repeat (with_reducible first | exact H1.out | refine Chg.drew ?_ | refine Chg.alloc ?_ _ | refine Chg.setCell ?_ (.inr (by first | exact Nat.le_refl _ | (simp; done) | (simp; omega) | omega)) _)

set_option maxRecDepth 100000 in
set_option maxHeartbeats 1000000 in
theorem AllOps12_any (bv : Value) (l : List Int) (S : Nat → Prop) (w : World) (h : ByteS w S bv l) (hm : l.length ≤ 100000000) : Calls Tryz.prog 61 #[bv] w (Ret (Opsd w (opsP l))) := by
  obtain ⟨A, cp, rfl, -⟩ := h.form
  have HX := Lib.hid h
  obtain ⟨R, hR⟩ : ∃ r, opsP l = r := ⟨_, rfl⟩
  rw [hR]
  have HR := Lib.hid hR
  clear h hR
  generalize hn : l.length = n at *
  have HN := Lib.hid hn
  clear hn
  go_enter Tryz.func61, Tryz.ntmps61
  go_wp2_with fail
  go_loopg [4, 5] (n + 1) (fun j v4 v5 wr => ∃ (k f : Nat) (acc : List P4), v5 = .int .i64 (k : Int) ∧ k ≤ n ∧ n - k < j ∧ n - k ≤ f ∧ acc.length ≤ k ∧ OwnP wr w.heap.size v4 acc ∧ Chg No w wr ∧ opsR l n 0 = (acc ++ (opsR l f k).1, (opsR l f k).2))
  case atStart => exact ⟨0, n, [], rfl, by omega, by omega, by omega, by simp, OwnP.nil _ _, Chg.refl _ _, rfl⟩
  case round =>
    obtain ⟨k, f, acc, rfl, k1, k2, k3, k4, own, cw, hop⟩ := hrel
    obtain ⟨A3, c3, rfl⟩ := own.form
    by_cases hk : k < n
    · have t1 : decide ((k : Int) < (n : Int)) = true := decide_eq_true (by omega)
      have l1 : (k : Int) < (n : Int) := by omega
      obtain ⟨f, rfl⟩ : ∃ f', f = f' + 1 := ⟨f - 1, by omega⟩
      rw [opsR, if_neg (by rw [HN.out]; omega)] at hop
      obtain ⟨P, hP⟩ : ∃ r, atP l k = r := ⟨_, rfl⟩
      obtain ⟨⟨pk, pn, pm, pl⟩, pe⟩ := P
      rw [hP] at hop
      have hf := atP_fits (b := l) (k := k) (by rw [HN.out]; exact hk)
      rw [hP] at hf
      dsimp only at hop hf
      have HP := Lib.hid hP
      clear hP
      have hwr : w.heap.size ≤ wr.heap.size := cw.size
      generalize hna : acc.length = na at *
      have HNA := Lib.hid hna
      clear hna
      by_cases he : pe = 0
      · subst he
        rw [if_pos rfl] at hop
        obtain ⟨q, rfl, q1, q2⟩ := hf rfl
        rw [HN.out] at q2
        have HOP := Lib.hid hop
        have HC := Lib.hid (And.intro own cw)
        have wq : IntKind.i64.wrap ((k : Int) + (q : Int)) = ((k + q : Nat) : Int) := (IntWalk.i64_in _ (by omega)).trans (by omega)
        clear hop own cw hf
        go_wp2_with (first
          | (go_at_call 79
             refine (At12_any _ l S _ (HX.out.keep HC.out.2 (fun _ _ f => f)) k (by rw [HN.out]; exact hk) (by rw [HN.out]; exact hm)).mono ?_
             rw [HP.out]
             simp only [P4.cells]
             rintro e w4 ⟨rfl, c4⟩
             have cA : Chg No w4 (w4.alloc (.cells #[.int .i64 pk, .int .i64 pn, .int .i64 pm, .int .i64 (q : Int)] 113)) := (Chg.refl _ _).alloc _
             have rA := Row.new w4 113 #[.int .i64 pk, .int .i64 pn, .int .i64 pm, .int .i64 (q : Int)]
             obtain ⟨W5, hW5⟩ : ∃ W, w4.alloc (.cells #[.int .i64 pk, .int .i64 pn, .int .i64 pm, .int .i64 (q : Int)] 113) = W := ⟨_, rfl⟩
             rw [hW5] at cA rA
             have c45 := c4.trans cA
             obtain ⟨A6, c6, w6, hr6, ho6, cg6⟩ := app_op (HC.out.1.keep c45 (fun _ _ f => f)) (by rw [HNA.out]; omega) (Nat.le_trans hwr c45.size) ⟨pk, pn, pm, (q : Int)⟩ 109
             rw [HNA.out] at hr6 ho6
             have r6 := rA.keep cg6 (fun h => by have := (HC.out.1.lt _ h).2; have := c4.size; omega)
             have x4 := rA.four
             have x6 := r6.cell 3
             simp at x6
             have H6 := Lib.hid (And.intro ho6 (Chg.then (HC.out.2.trans c45) cg6 (fun k hk h => absurd (HC.out.1.lt _ h).1 (by omega))))
             have HW5 := Lib.hid hW5
             have HR6 := Lib.hid hr6
             clear c4 cA rA c45 hr6 ho6 cg6 hW5 r6)
          | (rw [HW5.out])
          | (at_builtin; refine wpList_append_run rfl _ _ _ rfl rfl rfl HR6.out ?_)
          | fail)
        go_roundg (n - k)
        case measure => omega
        case rel =>
          refine ⟨k + q, f, acc ++ [⟨pk, pn, pm, (q : Int)⟩], by go_num, by omega, by omega, by omega, by rw [List.length_append, HNA.out]; simp; omega, ?_, H6.out.2, ?_⟩
          · exact H6.out.1
          · have := HOP.out
            rw [Int.toNat_natCast] at this
            rw [this]
            simp
      · rw [if_neg he] at hop
        have t3 : (pe != 0) = true := by simpa using he
        obtain rfl : R = ([], pe) := by
          rw [← HR.out]
          unfold opsP
          rw [HN.out, hop, if_neg he]
        have HC := Lib.hid cw
        clear hop own cw hf he
        go_wp2_with (first
          | (go_at_call 79
             refine (At12_any _ l S _ (HX.out.keep HC.out (fun _ _ f => f)) k (by rw [HN.out]; exact hk) (by rw [HN.out]; exact hm)).mono ?_
             rw [HP.out]
             simp only [P4.cells]
             rintro e w4 ⟨rfl, c4⟩)
          | fail)
        go_ret2
        exact Ret.mk ⟨_, rfl, OwnP.nil _ _, by repeat (with_reducible first | exact HC.out.trans c4 | refine Chg.alloc ?_ _ | refine Chg.setCell ?_ (.inr (by first | (simp; done) | (simp; omega) | omega)) _)⟩
    · have t1 : decide ((k : Int) < (n : Int)) = false := decide_eq_false (by omega)
      rw [opsR_end (b := l) (f := f) (k := k) (by rw [HN.out]; omega), List.append_nil] at hop
      obtain rfl : R = (acc, 0) := by
        rw [← HR.out]
        unfold opsP
        rw [HN.out, hop, if_pos rfl]
      have HC := Lib.hid (And.intro own cw)
      clear hop own cw
      go_wp2_with fail
      go_ret2
      exact Ret.mk ⟨_, rfl, HC.out.1, HC.out.2⟩


/-- where the document looks: is it the end, or does one begin there? -/
theorem begL_at : ∀ (l : List P4) (k i q : Nat), (begL k l).drop i = begL q (l.drop i) → i ≤ l.length → ∀ x, l[i]? = some x → (begL k l)[i]? = some q ∧ (begL k l).drop (i + 1) = begL (q + x.l.toNat) (l.drop (i + 1)) := by
  intro l k i q h hi x hx
  have hd : l.drop i = x :: l.drop (i + 1) := by
    obtain ⟨hi', e⟩ := List.getElem?_eq_some_iff.1 hx
    rw [List.drop_eq_getElem_cons hi', e]
  rw [hd, begL] at h
  have hi2 : i < (begL k l).length := by
    rcases Nat.lt_or_ge i (begL k l).length with h1 | h1
    · exact h1
    · rw [List.drop_eq_nil_of_le h1] at h
      cases h
  rw [List.drop_eq_getElem_cons hi2] at h
  injection h with h1 h2
  exact ⟨by rw [List.getElem?_eq_getElem hi2, h1], h2⟩

/-- does one of these places lie there? -/
def fndI (z : Int) (L : List Nat) : Bool := L.any fun j => decide ((j : Int) = z)
theorem fndI_snoc (z : Int) (L : List Nat) (q : Nat) : fndI z (L ++ [q]) = (fndI z L || decide ((q : Int) = z)) := by simp [fndI]
theorem Fits.pos {N : Nat} : ∀ {l : List P4} {k : Nat}, Fits N k l → ∀ j ∈ begL k l, j ≤ N
  | [], _, _, j, hj => by cases hj
  | _ :: r, k, ⟨l, e, h1, h2, _, h3⟩, j, hj => by
    rw [begL, e, Int.toNat_natCast] at hj
    rcases List.mem_cons.1 hj with rfl | hj
    · omega
    · exact Fits.pos h3 j hj
theorem fnd_eq {N : Nat} {T : List Nat} (hT : ∀ j ∈ T, j ≤ N) (z : Int) : decide (0 ≤ z ∧ z ≤ (N : Int) ∧ z.toNat ∈ T ++ [N]) = (decide (z = (N : Int)) || fndI z T) := by
  rw [Bool.eq_iff_iff]
  simp only [decide_eq_true_eq, Bool.or_eq_true, fndI, List.any_eq_true, List.mem_append, List.mem_singleton]
  constructor
  · rintro ⟨h0, h1, h2 | h2⟩
    · exact .inr ⟨_, h2, by omega⟩
    · exact .inl (by omega)
  · rintro (h | ⟨j, hj, h⟩)
    · exact ⟨by omega, by omega, .inr (by omega)⟩
    · have := hT j hj
      exact ⟨by omega, by omega, .inl (by rw [show z.toNat = j by omega]; exact hj)⟩
theorem op_drop {ops : List P4} {i : Nat} {x : P4} (hx : ops[i]? = some x) : ops.drop i = x :: ops.drop (i + 1) := by
  obtain ⟨hi', e⟩ := List.getElem?_eq_some_iff.1 hx
  rw [List.drop_eq_getElem_cons hi', e]

set_option maxRecDepth 100000 in
set_option maxHeartbeats 1000000 in
theorem Jumps12_any (bv : Value) (l : List Int) (S : Nat → Prop) (w : World) (h : ByteS w S bv l) (hm : l.length ≤ 100000000) : Calls Tryz.prog 39 #[bv] w fun e w' => e = .returned (.bool (jumpsP l)) ∧ Chg No w w' := by
  obtain ⟨A, cp, rfl, -⟩ := h.form
  have HX := Lib.hid h
  have hfit := opsR_fits h.2 l.length 0 (Nat.zero_le _)
  obtain ⟨R, hR⟩ : ∃ r, jumpsP l = r := ⟨_, rfl⟩
  rw [hR]
  unfold jumpsP at hR
  obtain ⟨Q, hQ⟩ : ∃ q, opsR l l.length 0 = q := ⟨_, rfl⟩
  have hop : opsP l = if Q.2 = 0 then Q else ([], Q.2) := by unfold opsP; rw [hQ]
  rw [hQ] at hR hfit
  obtain ⟨ops, er⟩ := Q
  dsimp only at hR hfit hop
  clear h hQ
  have HRR := Lib.hid hR
  have HF := Lib.hid hfit
  have HOP := Lib.hid hop
  clear hR hfit hop
  generalize hn : l.length = N at *
  have HN := Lib.hid hn
  clear hn
  by_cases he : er = 0
  · subst he
    have HOP2 := Lib.hid (show opsP l = (ops, 0) by rw [HOP.out, if_pos rfl])
    obtain ⟨T, hT⟩ : ∃ T, begL 0 ops = T := ⟨_, rfl⟩
    have HJ0 := Lib.hid (show jmpB N (T ++ [N]) 0 ops = R by rw [← HRR.out, if_pos rfl, hT])
    have HTT := Lib.hid hT
    have HTN := Lib.hid (show ∀ j ∈ T, j ≤ N by rw [← hT]; exact Fits.pos HF.out)
    clear HOP HRR hT
    obtain ⟨m, hm2⟩ : ∃ m, ops.length = m := ⟨_, rfl⟩
    have HM := Lib.hid hm2
    clear hm2
    have hms : m ≤ N := by have := Fits.len HF.out; rw [HM.out] at this; omega
    go_enter Tryz.func39, Tryz.ntmps39
    go_wp2_with (first
      | (go_at_call 61
         refine (AllOps12_any _ l S _ HX.out (by rw [HN.out]; exact hm)).mono ?_
         rw [HOP2.out]
         rintro e w1 ⟨v1, rfl, u1, rfl, ho, c1⟩
         obtain ⟨A1, d1, rfl⟩ : ∃ A c, u1 = .slice A m c := by have := ho.form; dsimp only at this; rwa [HM.out] at this
         have H1 := Lib.hid (And.intro (show OpS w1 (fun _ => True) (.slice A1 m d1) ops from ho.ops.more (fun _ _ _ => trivial)) c1)
         clear ho c1)
      | fail)
    go_loopg [5, 6] m (fun j v5 v6 wr => ∃ i k : Nat, v6 = .int .i64 (i : Int) ∧ v5 = .int .i64 (k : Int) ∧ i ≤ m ∧ m - i ≤ j ∧ Fits N k (ops.drop i) ∧ jmpB N (T ++ [N]) k (ops.drop i) = R ∧ Chg No w1 wr)
    case atStart => exact ⟨0, 0, rfl, rfl, by omega, by omega, HF.out, HJ0.out, Chg.refl _ _⟩
    case round =>
      clear HJ0
      obtain ⟨i, k, rfl, rfl, i1, i3, hfit, hj, cw⟩ := hrel
      by_cases hi : i < m
      · have t1 : decide ((i : Int) < (m : Int)) = true := decide_eq_true (by omega)
        have l1 : (i : Int) < (m : Int) := by omega
        obtain ⟨⟨pk, pn, pm, pl⟩, hx⟩ : ∃ x, ops[i]? = some x := ⟨_, List.getElem?_eq_getElem (by rw [HM.out]; exact hi)⟩
        rw [op_drop hx] at hfit hj
        obtain ⟨q, hq, q1, q2, hbd, hfit2⟩ := hfit
        dsimp only at hq hbd
        subst hq
        rw [jmpB] at hj
        dsimp only at hj
        rw [Int.toNat_natCast] at hj
        obtain ⟨b, off, rfl, -, hb, y0, y1, y2, y3⟩ := (H1.out.1.keep cw (fun _ _ f => f)).at hx
        dsimp only at y0 y1 y2 y3
        have wk : IntKind.i64.wrap ((k : Int) + (q : Int)) = ((k + q : Nat) : Int) := (IntWalk.i64_in _ (by omega)).trans (by omega)
        have HC := Lib.hid (And.intro cw hfit2)
        have HXX := Lib.hid hx
        clear hx cw hfit2
        obtain ⟨kq, hkq⟩ : ∃ kq, k + q = kq := ⟨_, rfl⟩
        rw [hkq] at wk hj HC q2
        clear hkq
        by_cases hp0 : pk = 0
        · subst hp0
          rw [if_pos rfl] at hj
          obtain rfl := hj
          go_wp2_with fail
          go_ret
          exact ⟨rfl, H1.out.2.trans HC.out.1⟩
        · rw [if_neg hp0] at hj
          have e0 : (pk == 0) = false := beq_eq_false_iff_ne.2 hp0
          by_cases hp : 22 ≤ pk ∧ pk ≤ 24
          · rw [if_pos hp, fnd_eq HTN.out] at hj
            have e1 : decide (pk < 22) = false := decide_eq_false (by omega)
            have e2 : decide (24 < pk) = false := decide_eq_false (by omega)
            obtain ⟨z, hz⟩ : ∃ z, (kq : Int) + pn = z := ⟨_, rfl⟩
            rw [hz] at hj
            have wz : IntKind.i64.wrap ((kq : Int) + pn) = z := (IntWalk.i64_in _ (by omega)).trans hz
            obtain ⟨f0, hf0⟩ : ∃ f0, (z == (N : Int)) = f0 := ⟨_, rfl⟩
            have hf0' : decide (z = (N : Int)) = f0 := by rw [← hf0]; rfl
            have HJ := Lib.hid hj
            have HF0 := Lib.hid hf0'
            clear hj hz hp hp0 hf0'
            go_wp2_with fail
            obtain ⟨wa, rfl⟩ : ∃ x, x = wr := ⟨_, rfl⟩
            have hi1 : (i : Int) < (m : Int) := l1
            clear t1
            go_loopg [7, 8, 9] m (fun j v7 v8 v9 wr => ∃ (k2 q2 : Nat) (fb : Bool), v9 = .int .i64 (k2 : Int) ∧ v7 = .int .i64 (q2 : Int) ∧ v8 = .bool fb ∧ fb = (f0 || fndI z (T.take k2)) ∧ k2 ≤ m ∧ m - k2 ≤ j ∧ Fits N q2 (ops.drop k2) ∧ T.drop k2 = begL q2 (ops.drop k2) ∧ wa = wr)
            case atStart => exact ⟨0, 0, f0, rfl, rfl, rfl, by rw [List.take_zero]; exact (Bool.or_false _).symm, by omega, by omega, HF.out, HTT.out.symm, rfl⟩
            case round =>
              obtain ⟨k2, g2, fb, rfl, rfl, rfl, hfb, j1, j2, hfit, hT, rfl⟩ := hrel
              by_cases hk2 : k2 < m
              · have t1 : decide ((k2 : Int) < (m : Int)) = true := decide_eq_true (by omega)
                have l2 : (k2 : Int) < (m : Int) := by omega
                obtain ⟨⟨sk, sn, sm, sl⟩, hx2⟩ : ∃ x, ops[k2]? = some x := ⟨_, List.getElem?_eq_getElem (by rw [HM.out]; exact hk2)⟩
                have hst := begL_step (B := ops) hx2 hT
                rw [op_drop hx2] at hfit
                obtain ⟨s, hs, s1, s2, -, hfit2⟩ := hfit
                dsimp only at hs hst
                subst hs
                rw [Int.toNat_natCast] at hst
                obtain ⟨b', off', eb, -, -, -, -, -, u3⟩ := (H1.out.1.keep HC.out.1 (fun _ _ f => f)).at hx2
                obtain ⟨rfl, rfl⟩ : b = b' ∧ off = off' := by simpa using Option.some.inj eb
                dsimp only at u3
                have wg : IntKind.i64.wrap ((g2 : Int) + (s : Int)) = ((g2 + s : Nat) : Int) := (IntWalk.i64_in _ (by omega)).trans (by omega)
                have hsn : (f0 || fndI z (T.take (k2 + 1))) = (fb || decide ((g2 : Int) = z)) := by rw [hst.1, fndI_snoc, ← Bool.or_assoc, ← hfb]
                have HS := Lib.hid (And.intro hfit2 (And.intro hst.2 hsn))
                clear hfit2 hst hsn hfb hx2 hT eb
                by_cases hgz : (g2 : Int) = z
                · have e5 : ((g2 : Int) == z) = true := beq_iff_eq.2 hgz
                  have HG := Lib.hid hgz
                  clear hgz
                  go_wp2_with fail
                  go_roundg (m - (k2 + 1))
                  case measure => omega
                  case rel => exact ⟨k2 + 1, g2 + s, true, by go_num, rfl, rfl, by rw [HS.out.2.2, decide_eq_true HG.out, Bool.or_true], by omega, by omega, HS.out.1, HS.out.2.1, rfl⟩
                · have e5 : ((g2 : Int) == z) = false := beq_eq_false_iff_ne.2 hgz
                  have HG := Lib.hid hgz
                  clear hgz
                  go_wp2_with fail
                  go_roundg (m - (k2 + 1))
                  case measure => omega
                  case rel => exact ⟨k2 + 1, g2 + s, fb, by go_num, rfl, rfl, by rw [HS.out.2.2, decide_eq_false HG.out, Bool.or_false], by omega, by omega, HS.out.1, HS.out.2.1, rfl⟩
              · have t1 : decide ((k2 : Int) < (m : Int)) = false := decide_eq_false (by omega)
                obtain rfl : k2 = m := by omega
                rw [List.take_of_length_le (by rw [← HTT.out, begL_len, HM.out]; exact Nat.le_refl _)] at hfb
                have hj := HJ.out
                rw [HF0.out, ← hfb] at hj
                clear hfb hfit hT HJ
                cases fb
                · rw [Bool.false_and] at hj
                  obtain rfl := hj
                  go_wp2_with fail
                  go_ret
                  exact ⟨rfl, H1.out.2.trans HC.out.1⟩
                · rw [Bool.true_and] at hj
                  have HJ := Lib.hid hj
                  clear hj
                  go_wp2_with fail
                  go_roundg (k2 - (i + 1))
                  case measure => omega
                  case rel => exact ⟨i + 1, kq, by go_num, rfl, by omega, by omega, HC.out.2, HJ.out, HC.out.1⟩
          · rw [if_neg hp] at hj
            have HJ := Lib.hid hj
            clear hj hp0
            rcases (show pk < 22 ∨ 24 < pk by omega) with hlt | hlt
            · have e1 : decide (pk < 22) = true := decide_eq_true hlt
              clear hp hlt
              go_wp2_with fail
              go_roundg (m - (i + 1))
              case measure => omega
              case rel => exact ⟨i + 1, kq, by go_num, rfl, by omega, by omega, HC.out.2, HJ.out, HC.out.1⟩
            · have e1 : decide (pk < 22) = false := decide_eq_false (by omega)
              have e2 : decide (24 < pk) = true := decide_eq_true hlt
              clear hp hlt
              go_wp2_with fail
              go_roundg (m - (i + 1))
              case measure => omega
              case rel => exact ⟨i + 1, kq, by go_num, rfl, by omega, by omega, HC.out.2, HJ.out, HC.out.1⟩
      · have t1 : decide ((i : Int) < (m : Int)) = false := decide_eq_false (by omega)
        obtain rfl : i = m := by omega
        rw [List.drop_eq_nil_of_le (by rw [HM.out]; exact Nat.le_refl _), jmpB] at hj
        obtain rfl := hj
        go_wp2_with fail
        go_ret
        exact ⟨rfl, H1.out.2.trans cw⟩
  · have HOP2 := Lib.hid (show opsP l = ([], er) by rw [HOP.out, if_neg he])
    obtain rfl : R = false := by rw [← HRR.out, if_neg he]
    have e0 : (er != 0) = true := by simpa using he
    clear HOP HRR HF he
    go_enter Tryz.func39, Tryz.ntmps39
    go_wp2_with (first
      | (go_at_call 61
         refine (AllOps12_any _ l S _ HX.out (by rw [HN.out]; exact hm)).mono ?_
         rw [HOP2.out]
         rintro e w1 ⟨v1, rfl, u1, rfl, ho, c1⟩
         obtain ⟨A1, d1, rfl⟩ : ∃ A c, u1 = .slice A 0 c := ho.form
         have H1 := Lib.hid c1
         clear ho c1)
      | fail)
    go_ret
    exact ⟨rfl, H1.out⟩

end Go.Proofs.YtifcigjminbllaaGreatDoor
