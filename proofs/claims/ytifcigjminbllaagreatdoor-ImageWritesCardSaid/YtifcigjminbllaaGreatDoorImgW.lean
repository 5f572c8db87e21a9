/- The document on an object of bytes: websterref05.Decode. -/
import Derived.Test.YtifcigjminbllaaGreatDoorImgU
import Derived.Test.YtifcigjminbllaaGreatDoorImgPl2
namespace Go.Proofs.YtifcigjminbllaaGreatDoor
set_option linter.unusedVariables false
set_option linter.unusedSimpArgs false
open Go.RowKit

theorem chk_eq (o : O) : chk o = if okB o = true then 0 else 2 := rfl
set_option maxRecDepth 100000 in
set_option maxHeartbeats 4000000 in
theorem Decode05_any (bv : Value) (l : List Int) (S : Nat → Prop) (w : World) (h : ByteS w S bv l) (hm : l.length ≤ 100000000) : Calls Tryz.prog 21 #[bv] w (Ret (Objd w (decO l) (decE l))) := by
  obtain ⟨A, c, rfl, hlc, hcm, -⟩ := h.form
  have hcm' : c ≤ 9223372036854775807 := by unfold maxLen at hcm; simp at hcm; omega
  have HX := Lib.hid h
  clear h hcm
  obtain ⟨ro, hro⟩ : ∃ r, decO l = r := ⟨_, rfl⟩
  obtain ⟨re, hre⟩ : ∃ r, decE l = r := ⟨_, rfl⟩
  rw [hro, hre]
  have HRR := Lib.hid (And.intro hro hre)
  clear hro hre
  generalize hn : l.length = n at *
  have HN := Lib.hid hn
  have row0 := Row.new w 50 #[.int .i64 0, .int .i64 0, .slice none 0 0, .slice none 0 0]
  have cA : Chg No w (w.alloc (.cells #[.int .i64 0, .int .i64 0, .slice none 0 0, .slice none 0 0] 50)) := (Chg.refl _ _).alloc _
  have i0 : In64 0 := by unfold In64; omega
  have i4 : In64 4 := by unfold In64; omega
  have i8 : In64 8 := by unfold In64; omega
  obtain ⟨cl, hcl⟩ : ∃ x, getV l 0 = x := ⟨_, rfl⟩
  obtain ⟨kd, hkd⟩ : ∃ x, getV l 4 = x := ⟨_, rfl⟩
  obtain ⟨nv, hnv⟩ : ∃ x, getV l 8 = x := ⟨_, rfl⟩
  obtain ⟨e0, he0⟩ : ∃ x, getE l 0 = x := ⟨_, rfl⟩
  obtain ⟨e4, he4⟩ : ∃ x, getE l 4 = x := ⟨_, rfl⟩
  obtain ⟨e8, he8⟩ : ∃ x, getE l 8 = x := ⟨_, rfl⟩
  have HG := Lib.hid (And.intro hcl (And.intro he0 (And.intro hkd (And.intro he4 (And.intro hnv he8)))))
  have row1 := Row.new (w.alloc (.cells #[.int .i64 0, .int .i64 0, .slice none 0 0, .slice none 0 0] 50)) 50 #[.int .i64 cl, .int .i64 kd, .slice none 0 0, .slice none 0 0]
  rw [show (w.alloc (.cells #[.int .i64 0, .int .i64 0, .slice none 0 0, .slice none 0 0] 50)).heap.size = w.heap.size + 1 by simp] at row1
  have row2 := row0.alloc (.cells #[.int .i64 cl, .int .i64 kd, .slice none 0 0, .slice none 0 0] 50)
  have cB := cA.alloc (.cells #[.int .i64 cl, .int .i64 kd, .slice none 0 0, .slice none 0 0] 50)
  obtain ⟨W, hW⟩ : ∃ W, (w.alloc (.cells #[.int .i64 0, .int .i64 0, .slice none 0 0, .slice none 0 0] 50)).alloc (.cells #[.int .i64 cl, .int .i64 kd, .slice none 0 0, .slice none 0 0] 50) = W := ⟨_, rfl⟩
  rw [hW] at row1 row2 cB
  have HWW := Lib.hid hW
  have HB := Lib.hid (And.intro row2 (And.intro row1 cB))
  have HC0 := Lib.hid cA
  have tok1 : True := trivial
  have tok2 : True := trivial
  have hE : ∀ i : Int, 0 ≤ i → getE l i = if i + 4 ≤ (n : Int) then 0 else 2 := by
    intro i hi
    unfold getE getOk
    rw [hn]
    by_cases h : i + 4 ≤ (n : Int)
    · rw [decide_eq_true ⟨hi, h⟩, if_pos rfl, if_pos h]
    · rw [decide_eq_false (fun e => h e.2), if_neg (by decide), if_neg h]
  have hE0 := hE 0 (by omega)
  have hE4 := hE 4 (by omega)
  have hE8 := hE 8 (by omega)
  clear row0 cA row1 row2 cB hW hcl hkd hE
  by_cases h12 : n < 12
  · have hd : dec5Ok l = false := by unfold dec5Ok; rw [decide_eq_false (by omega)]; rfl
    by_cases h4 : n < 4
    · obtain rfl : e0 = 2 := by rw [← he0, hE0, if_neg (by omega)]
      clear hn hnv he0 he4 he8 hE0 hE4 hE8
      obtain ⟨rfl, rfl⟩ : ro = O.zero ∧ re = 5 := by rw [← HRR.out.1, ← HRR.out.2, decO, decE, ← dec5_eq HX.out.2, hd]; exact ⟨rfl, rfl⟩
      have xZ := HB.out.1.four
      clear hd
      go_enter Tryz.func21, Tryz.ntmps21
      go_wp2_with (first
        | (rw [HWW.out])
        | (go_at_call 20
           have _t := tok1
           clear tok1
           refine (Get01_any _ l S _ (HX.out.keep HC0.out (fun _ _ f => f)) 0 i0).mono ?_
           rw [HG.out.1, HG.out.2.1]
           rintro e w' ⟨rfl, rfl⟩)
          | (go_at_call 20
             have _t := tok2
             clear tok2
             refine (Get01_any _ l S _ (HX.out.keep HC0.out (fun _ _ f => f)) 4 i4).mono ?_
             rw [HG.out.2.2.1, HG.out.2.2.2.1]
             rintro e w' ⟨rfl, rfl⟩)
          | (go_at_call 20
             refine (Get01_any _ l S _ (HX.out.keep HC0.out (fun _ _ f => f)) 8 i8).mono ?_
             rw [HG.out.2.2.2.2.1, HG.out.2.2.2.2.2]
             rintro e w' ⟨rfl, rfl⟩)
        | fail)
      refine bodyPost_ret (v := .tuple #[.agg #[.int .i64 0, .int .i64 0, .slice none 0 0, .slice none 0 0], .int .i64 5]) (by simp [results, Tryz.results21, go_sem, xZ]) rfl (Ret.mk ⟨_, rfl, ObjR.zero _ _, ?_⟩)
      refine Chg.then (F := No) (G := fun b => b = w.heap.size) HB.out.2.2 ?_ (fun k hk h => by omega)
      repeat (with_reducible first | exact Chg.refl _ _ | refine Chg.setCell ?_ (.inl (by simp)) _)
    · obtain rfl : e0 = 0 := by rw [← he0, hE0, if_pos (by omega)]
      by_cases h8 : n < 8
      · obtain rfl : e4 = 2 := by rw [← he4, hE4, if_neg (by omega)]
        clear hn hnv he0 he4 he8 hE0 hE4 hE8
        obtain ⟨rfl, rfl⟩ : ro = O.zero ∧ re = 5 := by rw [← HRR.out.1, ← HRR.out.2, decO, decE, ← dec5_eq HX.out.2, hd]; exact ⟨rfl, rfl⟩
        have xZ := HB.out.1.four
        clear hd
        go_enter Tryz.func21, Tryz.ntmps21
        go_wp2_with (first
          | (rw [HWW.out])
          | (go_at_call 20
             have _t := tok1
             clear tok1
             refine (Get01_any _ l S _ (HX.out.keep HC0.out (fun _ _ f => f)) 0 i0).mono ?_
             rw [HG.out.1, HG.out.2.1]
             rintro e w' ⟨rfl, rfl⟩)
            | (go_at_call 20
               have _t := tok2
               clear tok2
               refine (Get01_any _ l S _ (HX.out.keep HC0.out (fun _ _ f => f)) 4 i4).mono ?_
               rw [HG.out.2.2.1, HG.out.2.2.2.1]
               rintro e w' ⟨rfl, rfl⟩)
            | (go_at_call 20
               refine (Get01_any _ l S _ (HX.out.keep HC0.out (fun _ _ f => f)) 8 i8).mono ?_
               rw [HG.out.2.2.2.2.1, HG.out.2.2.2.2.2]
               rintro e w' ⟨rfl, rfl⟩)
          | fail)
        refine bodyPost_ret (v := .tuple #[.agg #[.int .i64 0, .int .i64 0, .slice none 0 0, .slice none 0 0], .int .i64 5]) (by simp [results, Tryz.results21, go_sem, xZ]) rfl (Ret.mk ⟨_, rfl, ObjR.zero _ _, ?_⟩)
        refine Chg.then (F := No) (G := fun b => b = w.heap.size) HB.out.2.2 ?_ (fun k hk h => by omega)
        repeat (with_reducible first | exact Chg.refl _ _ | refine Chg.setCell ?_ (.inl (by simp)) _)
      · obtain rfl : e4 = 0 := by rw [← he4, hE4, if_pos (by omega)]
        obtain rfl : e8 = 2 := by rw [← he8, hE8, if_neg (by omega)]
        clear hn hnv he0 he4 he8 hE0 hE4 hE8
        obtain ⟨rfl, rfl⟩ : ro = O.zero ∧ re = 5 := by rw [← HRR.out.1, ← HRR.out.2, decO, decE, ← dec5_eq HX.out.2, hd]; exact ⟨rfl, rfl⟩
        have xZ := HB.out.1.four
        clear hd
        go_enter Tryz.func21, Tryz.ntmps21
        go_wp2_with (first
          | (rw [HWW.out])
          | (go_at_call 20
             have _t := tok1
             clear tok1
             refine (Get01_any _ l S _ (HX.out.keep HC0.out (fun _ _ f => f)) 0 i0).mono ?_
             rw [HG.out.1, HG.out.2.1]
             rintro e w' ⟨rfl, rfl⟩)
            | (go_at_call 20
               have _t := tok2
               clear tok2
               refine (Get01_any _ l S _ (HX.out.keep HC0.out (fun _ _ f => f)) 4 i4).mono ?_
               rw [HG.out.2.2.1, HG.out.2.2.2.1]
               rintro e w' ⟨rfl, rfl⟩)
            | (go_at_call 20
               refine (Get01_any _ l S _ (HX.out.keep HC0.out (fun _ _ f => f)) 8 i8).mono ?_
               rw [HG.out.2.2.2.2.1, HG.out.2.2.2.2.2]
               rintro e w' ⟨rfl, rfl⟩)
          | fail)
        refine bodyPost_ret (v := .tuple #[.agg #[.int .i64 0, .int .i64 0, .slice none 0 0, .slice none 0 0], .int .i64 5]) (by simp [results, Tryz.results21, go_sem, xZ]) rfl (Ret.mk ⟨_, rfl, ObjR.zero _ _, ?_⟩)
        refine Chg.then (F := No) (G := fun b => b = w.heap.size) HB.out.2.2 ?_ (fun k hk h => by omega)
        repeat (with_reducible first | exact Chg.refl _ _ | refine Chg.setCell ?_ (.inl (by simp)) _)
  · obtain rfl : e0 = 0 := by rw [← he0, hE0, if_pos (by omega)]
    obtain rfl : e4 = 0 := by rw [← he4, hE4, if_pos (by omega)]
    obtain rfl : e8 = 0 := by rw [← he8, hE8, if_pos (by omega)]
    by_cases hn0 : nv < 0
    · have t1 : decide (nv < 0) = true := decide_eq_true hn0
      have hd : dec5Ok l = false := by unfold dec5Ok; rw [hnv, decide_eq_false (show ¬ 0 ≤ nv by omega)]; simp
      clear hn hnv he0 he4 he8 hE0 hE4 hE8 hn0
      obtain ⟨rfl, rfl⟩ : ro = O.zero ∧ re = 5 := by rw [← HRR.out.1, ← HRR.out.2, decO, decE, ← dec5_eq HX.out.2, hd]; exact ⟨rfl, rfl⟩
      have xZ := HB.out.1.four
      clear hd
      go_enter Tryz.func21, Tryz.ntmps21
      go_wp2_with (first
        | (rw [HWW.out])
        | (go_at_call 20
           have _t := tok1
           clear tok1
           refine (Get01_any _ l S _ (HX.out.keep HC0.out (fun _ _ f => f)) 0 i0).mono ?_
           rw [HG.out.1, HG.out.2.1]
           rintro e w' ⟨rfl, rfl⟩)
          | (go_at_call 20
             have _t := tok2
             clear tok2
             refine (Get01_any _ l S _ (HX.out.keep HC0.out (fun _ _ f => f)) 4 i4).mono ?_
             rw [HG.out.2.2.1, HG.out.2.2.2.1]
             rintro e w' ⟨rfl, rfl⟩)
          | (go_at_call 20
             refine (Get01_any _ l S _ (HX.out.keep HC0.out (fun _ _ f => f)) 8 i8).mono ?_
             rw [HG.out.2.2.2.2.1, HG.out.2.2.2.2.2]
             rintro e w' ⟨rfl, rfl⟩)
        | fail)
      refine bodyPost_ret (v := .tuple #[.agg #[.int .i64 0, .int .i64 0, .slice none 0 0, .slice none 0 0], .int .i64 5]) (by simp [results, Tryz.results21, go_sem, xZ]) rfl (Ret.mk ⟨_, rfl, ObjR.zero _ _, ?_⟩)
      refine Chg.then (F := No) (G := fun b => b = w.heap.size) HB.out.2.2 ?_ (fun k hk h => by omega)
      repeat (with_reducible first | exact Chg.refl _ _ | refine Chg.setCell ?_ (.inl (by simp)) _)
    · have t1 : decide (nv < 0) = false := decide_eq_false hn0
      by_cases hn1 : 1000 < nv
      · have t2 : decide (1000 < nv) = true := decide_eq_true hn1
        have hd : dec5Ok l = false := by unfold dec5Ok; rw [hnv, decide_eq_false (show ¬ nv ≤ 1000 by omega)]; simp
        clear hn hnv he0 he4 he8 hE0 hE4 hE8 hn0 hn1
        obtain ⟨rfl, rfl⟩ : ro = O.zero ∧ re = 5 := by rw [← HRR.out.1, ← HRR.out.2, decO, decE, ← dec5_eq HX.out.2, hd]; exact ⟨rfl, rfl⟩
        have xZ := HB.out.1.four
        clear hd
        go_enter Tryz.func21, Tryz.ntmps21
        go_wp2_with (first
          | (rw [HWW.out])
          | (go_at_call 20
             have _t := tok1
             clear tok1
             refine (Get01_any _ l S _ (HX.out.keep HC0.out (fun _ _ f => f)) 0 i0).mono ?_
             rw [HG.out.1, HG.out.2.1]
             rintro e w' ⟨rfl, rfl⟩)
            | (go_at_call 20
               have _t := tok2
               clear tok2
               refine (Get01_any _ l S _ (HX.out.keep HC0.out (fun _ _ f => f)) 4 i4).mono ?_
               rw [HG.out.2.2.1, HG.out.2.2.2.1]
               rintro e w' ⟨rfl, rfl⟩)
            | (go_at_call 20
               refine (Get01_any _ l S _ (HX.out.keep HC0.out (fun _ _ f => f)) 8 i8).mono ?_
               rw [HG.out.2.2.2.2.1, HG.out.2.2.2.2.2]
               rintro e w' ⟨rfl, rfl⟩)
          | fail)
        refine bodyPost_ret (v := .tuple #[.agg #[.int .i64 0, .int .i64 0, .slice none 0 0, .slice none 0 0], .int .i64 5]) (by simp [results, Tryz.results21, go_sem, xZ]) rfl (Ret.mk ⟨_, rfl, ObjR.zero _ _, ?_⟩)
        refine Chg.then (F := No) (G := fun b => b = w.heap.size) HB.out.2.2 ?_ (fun k hk h => by omega)
        repeat (with_reducible first | exact Chg.refl _ _ | refine Chg.setCell ?_ (.inl (by simp)) _)
      · have t2 : decide (1000 < nv) = false := decide_eq_false hn1
        obtain ⟨q, rfl⟩ : ∃ q : Nat, nv = (q : Int) := ⟨nv.toNat, by omega⟩
        have hq : q ≤ 1000 := by omega
        by_cases hk1 : kd = 1
        · subst hk1
          have hkv := HG.out.2.2.1
          by_cases hlen : n = 12 + 4 * q
          · have t3 : ((n : Int) != 12 + 4 * (q : Int)) = false := by simp; omega
            have HHD := Lib.hid (show (decide (12 ≤ l.length) && (decide (0 ≤ getV l 8) && (decide (getV l 8 ≤ 1000) && (dec5L l && true)))) = true by
              rw [hnv, hn]
              unfold dec5L
              rw [if_pos hkv, hnv, hn]
              simp
              omega)
            have HBO := Lib.hid (show dec5B l = ⟨cl, 1, wordsB l q, []⟩ by unfold dec5B; rw [HG.out.1, hkv, hnv]; rfl)
            clear hn hnv he0 he4 he8 hE0 hE4 hE8 hn0 hn1 hkv hlen
            go_enter Tryz.func21, Tryz.ntmps21
            go_wp2_with (first
              | (rw [HWW.out])
              | (go_at_call 20
                 have _t := tok1
                 clear tok1
                 refine (Get01_any _ l S _ (HX.out.keep HC0.out (fun _ _ f => f)) 0 i0).mono ?_
                 rw [HG.out.1, HG.out.2.1]
                 rintro e w' ⟨rfl, rfl⟩)
                | (go_at_call 20
                   have _t := tok2
                   clear tok2
                   refine (Get01_any _ l S _ (HX.out.keep HC0.out (fun _ _ f => f)) 4 i4).mono ?_
                   rw [HG.out.2.2.1, HG.out.2.2.2.1]
                   rintro e w' ⟨rfl, rfl⟩)
                | (go_at_call 20
                   refine (Get01_any _ l S _ (HX.out.keep HC0.out (fun _ _ f => f)) 8 i8).mono ?_
                   rw [HG.out.2.2.2.2.1, HG.out.2.2.2.2.2]
                   rintro e w' ⟨rfl, rfl⟩)
              | fail)
            go_loopg [11] q (fun j v11 wr => ∃ (i : Nat) (A1 : Option Addr) (c1 : Nat), v11 = .int .i64 (i : Int) ∧ i ≤ q ∧ q - i ≤ j ∧ OwnInts wr (w.heap.size + 2) (.slice A1 i c1) (wordsB l i) ∧ Row wr w.heap.size 50 #[.int .i64 0, .int .i64 0, .slice none 0 0, .slice none 0 0] ∧ Row wr (w.heap.size + 1) 50 #[.int .i64 cl, .int .i64 1, .slice A1 i c1, .slice none 0 0] ∧ Chg No w wr)
            case atStart => exact ⟨0, none, 0, rfl, by omega, by omega, World.ownsRow_nil _ _ _ _, HB.out.1, HB.out.2.1, HB.out.2.2⟩
            case round =>
              clear HB
              obtain ⟨i, A1, c1, rfl, hi, hj, own, rz, ro1, cw⟩ := hrel
              have hs2 : w.heap.size + 2 ≤ wr.heap.size := by have := ro1.lt; omega
              have x2 := ro1.cell 2
              simp at x2
              have xo := ro1.four
              by_cases hlt : i < q
              · have t5 : decide ((i : Int) < (q : Int)) = true := decide_eq_true (by omega)
                have a64 : In64 (12 + 4 * (i : Int)) := by unfold In64; omega
                have hws := wordsB_succ l i
                obtain ⟨x, hx⟩ : ∃ x, getV l (12 + 4 * (i : Int)) = x := ⟨_, rfl⟩
                rw [hx] at hws
                obtain ⟨A5, c5, w5, hr5, ho5, cg5⟩ := app_one own (by rw [wordsB_len]; omega) hs2 x 48
                rw [wordsB_len] at hr5 ho5
                rw [← hws] at ho5
                have r5 := ro1.keep cg5 (by omega)
                have z5 := rz.keep cg5 (by omega)
                have f5 := r5.frozen 2
                have y5 := r5.cell 2
                simp at y5
                have c05 : Chg No w w5 := cw.then cg5 (fun k hk h => by omega)
                have H5 := Lib.hid (And.intro ho5 (And.intro z5 (And.intro r5 c05)))
                have HR5 := Lib.hid hr5
                have HX1 := Lib.hid (And.intro hx cw)
                clear own rz ro1 cw hr5 ho5 cg5 r5 z5 c05 hx hws
                go_wp2_with (first
                  | (go_at_call 20
                     refine (Get01_any _ l S _ (HX.out.keep HX1.out.2 (fun _ _ f => f)) (12 + 4 * (i : Int)) a64).mono ?_
                     rw [HX1.out.1]
                     rintro e w' ⟨rfl, rfl⟩)
                  | (at_builtin; refine wpList_append_run rfl _ _ _ rfl rfl rfl HR5.out ?_)
                  | fail)
                go_roundg (q - (i + 1))
                case measure => omega
                case rel =>
                  have cs : Chg (fun b => b = w.heap.size + 1) w5 (w5.setCell ⟨w.heap.size + 1, 2, none⟩ (.slice A5 (i + 1) c5)) := Chg.setCell (F := fun b => b = w.heap.size + 1) (p := ⟨w.heap.size + 1, 2, none⟩) (Chg.refl _ _) (.inl rfl) _
                  exact ⟨i + 1, A5, c5, by go_num, by omega, by omega, H5.out.1.keep cs (fun b hb h => by omega), H5.out.2.1.keep cs (by omega), H5.out.2.2.1.set 2 _, H5.out.2.2.2.setCell (.inr (by simp)) _⟩
              · have t5 : decide ((i : Int) < (q : Int)) = false := decide_eq_false (by omega)
                obtain rfl : i = q := by omega
                obtain ⟨V, rfl⟩ : ∃ V, V = wr := ⟨_, rfl⟩
                have HO := Lib.hid (And.intro (show ObjR V (fun b => w.heap.size + 2 ≤ b) (.agg #[.int .i64 cl, .int .i64 1, .slice A1 i c1, .slice none 0 0]) (dec5B l) by
                  rw [HBO.out]
                  refine ⟨_, _, rfl, ?_, ByteS.nil _ _, by rw [← HG.out.1]; exact getV_in _ _, show In64 1 by unfold In64; decide⟩
                  exact IntS.of_own own (wordsB_in _ _)) (And.intro rz (And.intro ro1 cw)))
                clear own rz ro1 cw xo x2
                have xO := HO.out.2.2.1.four
                by_cases hk : okB (dec5B l) = true
                · have hd : decOk l = true := by rw [← dec5_eq HX.out.2]; unfold dec5Ok; rw [hk]; exact HHD.out
                  have hbo : dec5B l = bodyO l := dec5_body (by rw [dec5_eq HX.out.2]; exact hd)
                  obtain rfl : ro = dec5B l := by rw [← HRR.out.1, decO, if_pos hd, hbo]
                  obtain rfl : re = 0 := by rw [← HRR.out.2, decE, if_pos hd]
                  have HCK := Lib.hid (show chk (dec5B l) = 0 by rw [chk_eq, if_pos hk])
                  clear hk hd hbo
                  go_wp2_with (first
                    | (go_at_call 35
                       refine (Check05_any _ (dec5B l) _ _ HO.out.1).mono ?_
                       rw [HCK.out]
                       rintro e w6 ⟨rfl, c6⟩
                       have sZ := (HO.out.2.1.keep c6 (fun f => f)).four
                       have sO := (HO.out.2.2.1.keep c6 (fun f => f)).four
                       have H6 := Lib.hid c6
                       clear c6)
                    | fail)
                  have cF : ∀ U, Chg (fun b => b = w.heap.size) w6 U → ObjR U (fun b => w.heap.size ≤ b) (.agg #[.int .i64 cl, .int .i64 1, .slice A1 i c1, .slice none 0 0]) (dec5B l) ∧ Chg No w U := fun U hU =>
                    ⟨((HO.out.1.keep H6.out (fun _ _ f => f)).keep hU (fun b hb h => by omega)).more (fun b _ hb => by omega), (HO.out.2.2.2.trans H6.out).then hU (fun k hk h => by omega)⟩
                  refine bodyPost_ret (v := .tuple #[.agg #[.int .i64 cl, .int .i64 1, .slice A1 i c1, .slice none 0 0], .int .i64 0]) (by simp [results, Tryz.results21, go_sem, sZ]) rfl (Ret.mk ⟨_, rfl, (cF _ ?_).1, (cF _ ?_).2⟩)
                  · repeat (with_reducible first | exact Chg.refl _ _ | refine Chg.setCell ?_ (.inl (by simp)) _)
                  · repeat (with_reducible first | exact Chg.refl _ _ | refine Chg.setCell ?_ (.inl (by simp)) _)
                · have hk' : okB (dec5B l) = false := by simpa using hk
                  have hd : decOk l = false := by rw [← dec5_eq HX.out.2]; unfold dec5Ok; rw [hk', Bool.and_false, Bool.and_false, Bool.and_false, Bool.and_false]
                  obtain rfl : ro = O.zero := by rw [← HRR.out.1, decO, hd]; rfl
                  obtain rfl : re = 5 := by rw [← HRR.out.2, decE, hd]; rfl
                  have HCK := Lib.hid (show chk (dec5B l) = 2 by rw [chk_eq, if_neg hk])
                  clear hk hk' hd
                  go_wp2_with (first
                    | (go_at_call 35
                       refine (Check05_any _ (dec5B l) _ _ HO.out.1).mono ?_
                       rw [HCK.out]
                       rintro e w6 ⟨rfl, c6⟩
                       have sZ := (HO.out.2.1.keep c6 (fun f => f)).four
                       have H6 := Lib.hid c6
                       clear c6)
                    | fail)
                  refine bodyPost_ret (v := .tuple #[.agg #[.int .i64 0, .int .i64 0, .slice none 0 0, .slice none 0 0], .int .i64 5]) (by simp [results, Tryz.results21, go_sem, sZ]) rfl (Ret.mk ⟨_, rfl, ObjR.zero _ _, ?_⟩)
                  refine Chg.then (F := No) (G := fun b => b = w.heap.size) (HO.out.2.2.2.trans H6.out) ?_ (fun k hk h => by omega)
                  repeat (with_reducible first | exact Chg.refl _ _ | refine Chg.setCell ?_ (.inl (by simp)) _)
          · have t3 : ((n : Int) != 12 + 4 * (q : Int)) = true := by simp; omega
            have hd : dec5Ok l = false := by
              unfold dec5Ok dec5L
              rw [if_pos hkv, hnv, hn, decide_eq_false (show ¬ (n : Int) = 12 + 4 * (q : Int) by omega)]
              simp
            clear hn hnv he0 he4 he8 hE0 hE4 hE8 hn0 hn1 hkv hlen
            obtain ⟨rfl, rfl⟩ : ro = O.zero ∧ re = 5 := by rw [← HRR.out.1, ← HRR.out.2, decO, decE, ← dec5_eq HX.out.2, hd]; exact ⟨rfl, rfl⟩
            have xZ := HB.out.1.four
            clear hd
            go_enter Tryz.func21, Tryz.ntmps21
            go_wp2_with (first
              | (rw [HWW.out])
              | (go_at_call 20
                 have _t := tok1
                 clear tok1
                 refine (Get01_any _ l S _ (HX.out.keep HC0.out (fun _ _ f => f)) 0 i0).mono ?_
                 rw [HG.out.1, HG.out.2.1]
                 rintro e w' ⟨rfl, rfl⟩)
                | (go_at_call 20
                   have _t := tok2
                   clear tok2
                   refine (Get01_any _ l S _ (HX.out.keep HC0.out (fun _ _ f => f)) 4 i4).mono ?_
                   rw [HG.out.2.2.1, HG.out.2.2.2.1]
                   rintro e w' ⟨rfl, rfl⟩)
                | (go_at_call 20
                   refine (Get01_any _ l S _ (HX.out.keep HC0.out (fun _ _ f => f)) 8 i8).mono ?_
                   rw [HG.out.2.2.2.2.1, HG.out.2.2.2.2.2]
                   rintro e w' ⟨rfl, rfl⟩)
              | fail)
            refine bodyPost_ret (v := .tuple #[.agg #[.int .i64 0, .int .i64 0, .slice none 0 0, .slice none 0 0], .int .i64 5]) (by simp [results, Tryz.results21, go_sem, xZ]) rfl (Ret.mk ⟨_, rfl, ObjR.zero _ _, ?_⟩)
            refine Chg.then (F := No) (G := fun b => b = w.heap.size) HB.out.2.2 ?_ (fun k hk h => by omega)
            repeat (with_reducible first | exact Chg.refl _ _ | refine Chg.setCell ?_ (.inl (by simp)) _)
        · have t4 : (kd == 1) = false := by simpa using hk1
          have hkv : ¬ getV l 4 = 1 := by rw [HG.out.2.2.1]; exact hk1
          by_cases hlen : n = 12 + q
          · have t3 : ((n : Int) != 12 + (q : Int)) = false := by simp; omega
            have HHD := Lib.hid (show (decide (12 ≤ l.length) && (decide (0 ≤ getV l 8) && (decide (getV l 8 ≤ 1000) && (dec5L l && true)))) = true by
              rw [hnv, hn]
              unfold dec5L
              rw [if_neg hkv, hnv, hn]
              simp
              omega)
            have HBO := Lib.hid (show dec5B l = ⟨cl, kd, [], l.drop 12⟩ by unfold dec5B; rw [if_neg hkv, if_neg hkv, HG.out.1, HG.out.2.2.1])
            obtain ⟨b, off, rfl⟩ := HX.out.some (by rw [HN.out]; omega)
            have xo := HB.out.2.1.four
            clear hn hnv he0 he4 he8 hE0 hE4 hE8 hn0 hn1 hkv hk1
            by_cases hc12 : c = 12
            · subst hc12
              obtain rfl : q = 0 := by omega
              have hdr : l.drop 12 = [] := List.drop_eq_nil_of_le (by rw [HN.out]; omega)
              have hby : ByteS w S (.slice (some ⟨b, off, none⟩) 0 0) (l.drop 12) := by
                rw [hdr]
                exact ⟨⟨_, _, rfl, rfl, Nat.le_refl _, Nat.zero_le _, (fun e => by cases e), fun h => absurd h (by simp)⟩, by simp⟩
              have HBY := Lib.hid hby
              obtain rfl : n = 12 := by omega
              have n12 : (12 : Nat) - 12 = 0 := rfl
              clear hdr hby hlen
              go_enter Tryz.func21, Tryz.ntmps21
              go_wp2_with (first
                | (rw [HWW.out])
                | (go_at_call 20
                   have _t := tok1
                   clear tok1
                   refine (Get01_any _ l S _ (HX.out.keep HC0.out (fun _ _ f => f)) 0 i0).mono ?_
                   rw [HG.out.1, HG.out.2.1]
                   rintro e w' ⟨rfl, rfl⟩)
                  | (go_at_call 20
                     have _t := tok2
                     clear tok2
                     refine (Get01_any _ l S _ (HX.out.keep HC0.out (fun _ _ f => f)) 4 i4).mono ?_
                     rw [HG.out.2.2.1, HG.out.2.2.2.1]
                     rintro e w' ⟨rfl, rfl⟩)
                  | (go_at_call 20
                     refine (Get01_any _ l S _ (HX.out.keep HC0.out (fun _ _ f => f)) 8 i8).mono ?_
                     rw [HG.out.2.2.2.2.1, HG.out.2.2.2.2.2]
                     rintro e w' ⟨rfl, rfl⟩)
                | (go_at_call 44
                   refine (CopyU_any _ (l.drop 12) S _ (HBY.out.keep HB.out.2.2 (fun _ _ f => f)) (by rw [List.length_drop, HN.out]; omega)).mono ?_
                   rintro e w2 ⟨v2, rfl, ho2, c2⟩
                   obtain ⟨A2, c2', rfl⟩ : ∃ A c, v2 = .slice A 0 c := by have := ho2.form; rwa [List.length_drop, HN.out] at this
                   have xo2 := (HB.out.2.1.keep c2 (fun f => f)).four
                   have H2 := Lib.hid (And.intro ho2 c2)
                   clear ho2 c2 xo)
                | fail)
              generalize hV : World.setCell w2 _ _ = V
              have cV : Chg (fun b => b = w.heap.size + 1) w2 V := by rw [← hV]; exact Chg.setCell (F := fun b => b = w.heap.size + 1) (Chg.refl _ _) (.inl rfl) _
              have rV : Row V (w.heap.size + 1) 50 #[.int .i64 cl, .int .i64 kd, .slice none 0 0, .slice A2 0 c2'] := by rw [← hV]; exact (HB.out.2.1.keep H2.out.2 (fun f => f)).set 3 _
              have HO := Lib.hid (And.intro (show ObjR V (fun b => w.heap.size + 2 ≤ b) (.agg #[.int .i64 cl, .int .i64 kd, .slice none 0 0, .slice A2 0 c2']) (dec5B l) by
                rw [HBO.out]
                refine ⟨_, _, rfl, IntS.nil _ _, ?_, by rw [← HG.out.1]; exact getV_in _ _, by rw [← HG.out.2.2.1]; exact getV_in _ _⟩
                have hs := HB.out.2.1.lt
                exact ((H2.out.1.bytes (fun x hx => HX.out.2 x (List.mem_of_mem_drop hx))).more (S' := fun b => w.heap.size + 2 ≤ b) (fun b _ hb => by omega)).keep cV (fun b hb h => by omega)) (And.intro ((HB.out.1.keep H2.out.2 (fun f => f)).keep cV (by omega)) (And.intro rV ((HB.out.2.2.trans H2.out.2).then cV (fun k hk h => by omega)))))
              clear xo2 hV cV rV
              have xO := HO.out.2.2.1.four
              by_cases hk : okB (dec5B l) = true
              · have hd : decOk l = true := by rw [← dec5_eq HX.out.2]; unfold dec5Ok; rw [hk]; exact HHD.out
                have hbo : dec5B l = bodyO l := dec5_body (by rw [dec5_eq HX.out.2]; exact hd)
                obtain rfl : ro = dec5B l := by rw [← HRR.out.1, decO, if_pos hd, hbo]
                obtain rfl : re = 0 := by rw [← HRR.out.2, decE, if_pos hd]
                have HCK := Lib.hid (show chk (dec5B l) = 0 by rw [chk_eq, if_pos hk])
                clear hk hd hbo
                go_wp2_with (first
                  | (go_at_call 35
                     refine (Check05_any _ (dec5B l) _ _ HO.out.1).mono ?_
                     rw [HCK.out]
                     rintro e w6 ⟨rfl, c6⟩
                     have sZ := (HO.out.2.1.keep c6 (fun f => f)).four
                     have sO := (HO.out.2.2.1.keep c6 (fun f => f)).four
                     have H6 := Lib.hid c6
                     clear c6)
                  | fail)
                have cF : ∀ U, Chg (fun b => b = w.heap.size) w6 U → ObjR U (fun b => w.heap.size ≤ b) (.agg #[.int .i64 cl, .int .i64 kd, .slice none 0 0, .slice A2 0 c2']) (dec5B l) ∧ Chg No w U := fun U hU =>
                  ⟨((HO.out.1.keep H6.out (fun _ _ f => f)).keep hU (fun b hb h => by omega)).more (fun b _ hb => by omega), (HO.out.2.2.2.trans H6.out).then hU (fun k hk h => by omega)⟩
                refine bodyPost_ret (v := .tuple #[.agg #[.int .i64 cl, .int .i64 kd, .slice none 0 0, .slice A2 0 c2'], .int .i64 0]) (by simp [results, Tryz.results21, go_sem, sZ]) rfl (Ret.mk ⟨_, rfl, (cF _ ?_).1, (cF _ ?_).2⟩)
                · repeat (with_reducible first | exact Chg.refl _ _ | refine Chg.setCell ?_ (.inl (by simp)) _)
                · repeat (with_reducible first | exact Chg.refl _ _ | refine Chg.setCell ?_ (.inl (by simp)) _)
              · have hk' : okB (dec5B l) = false := by simpa using hk
                have hd : decOk l = false := by rw [← dec5_eq HX.out.2]; unfold dec5Ok; rw [hk', Bool.and_false, Bool.and_false, Bool.and_false, Bool.and_false]
                obtain rfl : ro = O.zero := by rw [← HRR.out.1, decO, hd]; rfl
                obtain rfl : re = 5 := by rw [← HRR.out.2, decE, hd]; rfl
                have HCK := Lib.hid (show chk (dec5B l) = 2 by rw [chk_eq, if_neg hk])
                clear hk hk' hd
                go_wp2_with (first
                  | (go_at_call 35
                     refine (Check05_any _ (dec5B l) _ _ HO.out.1).mono ?_
                     rw [HCK.out]
                     rintro e w6 ⟨rfl, c6⟩
                     have sZ := (HO.out.2.1.keep c6 (fun f => f)).four
                     have H6 := Lib.hid c6
                     clear c6)
                  | fail)
                refine bodyPost_ret (v := .tuple #[.agg #[.int .i64 0, .int .i64 0, .slice none 0 0, .slice none 0 0], .int .i64 5]) (by simp [results, Tryz.results21, go_sem, sZ]) rfl (Ret.mk ⟨_, rfl, ObjR.zero _ _, ?_⟩)
                refine Chg.then (F := No) (G := fun b => b = w.heap.size) (HO.out.2.2.2.trans H6.out) ?_ (fun k hk h => by omega)
                repeat (with_reducible first | exact Chg.refl _ _ | refine Chg.setCell ?_ (.inl (by simp)) _)
            · have HBY := Lib.hid (HX.out.drop 12 (by rw [HN.out]; omega))
              have l12 : 12 ≤ n := by omega
              have i12 : (12 : Int) ≤ (n : Int) := by omega
              have t12 : ¬ n < 12 := by omega
              clear hlen
              go_enter Tryz.func21, Tryz.ntmps21
              go_wp2_with (first
                | (rw [HWW.out])
                | (go_at_call 20
                   have _t := tok1
                   clear tok1
                   refine (Get01_any _ l S _ (HX.out.keep HC0.out (fun _ _ f => f)) 0 i0).mono ?_
                   rw [HG.out.1, HG.out.2.1]
                   rintro e w' ⟨rfl, rfl⟩)
                  | (go_at_call 20
                     have _t := tok2
                     clear tok2
                     refine (Get01_any _ l S _ (HX.out.keep HC0.out (fun _ _ f => f)) 4 i4).mono ?_
                     rw [HG.out.2.2.1, HG.out.2.2.2.1]
                     rintro e w' ⟨rfl, rfl⟩)
                  | (go_at_call 20
                     refine (Get01_any _ l S _ (HX.out.keep HC0.out (fun _ _ f => f)) 8 i8).mono ?_
                     rw [HG.out.2.2.2.2.1, HG.out.2.2.2.2.2]
                     rintro e w' ⟨rfl, rfl⟩)
                | (go_at_call 44
                   refine (CopyU_any _ (l.drop 12) S _ (HBY.out.keep HB.out.2.2 (fun _ _ f => f)) (by rw [List.length_drop, HN.out]; omega)).mono ?_
                   rintro e w2 ⟨v2, rfl, ho2, c2⟩
                   obtain ⟨A2, c2', rfl⟩ : ∃ A c, v2 = .slice A (n - 12) c := by have := ho2.form; rwa [List.length_drop, HN.out] at this
                   have xo2 := (HB.out.2.1.keep c2 (fun f => f)).four
                   have H2 := Lib.hid (And.intro ho2 c2)
                   clear ho2 c2 xo)
                | fail)
              generalize hV : World.setCell w2 _ _ = V
              have cV : Chg (fun b => b = w.heap.size + 1) w2 V := by rw [← hV]; exact Chg.setCell (F := fun b => b = w.heap.size + 1) (Chg.refl _ _) (.inl rfl) _
              have rV : Row V (w.heap.size + 1) 50 #[.int .i64 cl, .int .i64 kd, .slice none 0 0, .slice A2 (n - 12) c2'] := by rw [← hV]; exact (HB.out.2.1.keep H2.out.2 (fun f => f)).set 3 _
              have HO := Lib.hid (And.intro (show ObjR V (fun b => w.heap.size + 2 ≤ b) (.agg #[.int .i64 cl, .int .i64 kd, .slice none 0 0, .slice A2 (n - 12) c2']) (dec5B l) by
                rw [HBO.out]
                refine ⟨_, _, rfl, IntS.nil _ _, ?_, by rw [← HG.out.1]; exact getV_in _ _, by rw [← HG.out.2.2.1]; exact getV_in _ _⟩
                have hs := HB.out.2.1.lt
                exact ((H2.out.1.bytes (fun x hx => HX.out.2 x (List.mem_of_mem_drop hx))).more (S' := fun b => w.heap.size + 2 ≤ b) (fun b _ hb => by omega)).keep cV (fun b hb h => by omega)) (And.intro ((HB.out.1.keep H2.out.2 (fun f => f)).keep cV (by omega)) (And.intro rV ((HB.out.2.2.trans H2.out.2).then cV (fun k hk h => by omega)))))
              clear xo2 hV cV rV
              have xO := HO.out.2.2.1.four
              by_cases hk : okB (dec5B l) = true
              · have hd : decOk l = true := by rw [← dec5_eq HX.out.2]; unfold dec5Ok; rw [hk]; exact HHD.out
                have hbo : dec5B l = bodyO l := dec5_body (by rw [dec5_eq HX.out.2]; exact hd)
                obtain rfl : ro = dec5B l := by rw [← HRR.out.1, decO, if_pos hd, hbo]
                obtain rfl : re = 0 := by rw [← HRR.out.2, decE, if_pos hd]
                have HCK := Lib.hid (show chk (dec5B l) = 0 by rw [chk_eq, if_pos hk])
                clear hk hd hbo
                go_wp2_with (first
                  | (go_at_call 35
                     refine (Check05_any _ (dec5B l) _ _ HO.out.1).mono ?_
                     rw [HCK.out]
                     rintro e w6 ⟨rfl, c6⟩
                     have sZ := (HO.out.2.1.keep c6 (fun f => f)).four
                     have sO := (HO.out.2.2.1.keep c6 (fun f => f)).four
                     have H6 := Lib.hid c6
                     clear c6)
                  | fail)
                have cF : ∀ U, Chg (fun b => b = w.heap.size) w6 U → ObjR U (fun b => w.heap.size ≤ b) (.agg #[.int .i64 cl, .int .i64 kd, .slice none 0 0, .slice A2 (n - 12) c2']) (dec5B l) ∧ Chg No w U := fun U hU =>
                  ⟨((HO.out.1.keep H6.out (fun _ _ f => f)).keep hU (fun b hb h => by omega)).more (fun b _ hb => by omega), (HO.out.2.2.2.trans H6.out).then hU (fun k hk h => by omega)⟩
                refine bodyPost_ret (v := .tuple #[.agg #[.int .i64 cl, .int .i64 kd, .slice none 0 0, .slice A2 (n - 12) c2'], .int .i64 0]) (by simp [results, Tryz.results21, go_sem, sZ]) rfl (Ret.mk ⟨_, rfl, (cF _ ?_).1, (cF _ ?_).2⟩)
                · repeat (with_reducible first | exact Chg.refl _ _ | refine Chg.setCell ?_ (.inl (by simp)) _)
                · repeat (with_reducible first | exact Chg.refl _ _ | refine Chg.setCell ?_ (.inl (by simp)) _)
              · have hk' : okB (dec5B l) = false := by simpa using hk
                have hd : decOk l = false := by rw [← dec5_eq HX.out.2]; unfold dec5Ok; rw [hk', Bool.and_false, Bool.and_false, Bool.and_false, Bool.and_false]
                obtain rfl : ro = O.zero := by rw [← HRR.out.1, decO, hd]; rfl
                obtain rfl : re = 5 := by rw [← HRR.out.2, decE, hd]; rfl
                have HCK := Lib.hid (show chk (dec5B l) = 2 by rw [chk_eq, if_neg hk])
                clear hk hk' hd
                go_wp2_with (first
                  | (go_at_call 35
                     refine (Check05_any _ (dec5B l) _ _ HO.out.1).mono ?_
                     rw [HCK.out]
                     rintro e w6 ⟨rfl, c6⟩
                     have sZ := (HO.out.2.1.keep c6 (fun f => f)).four
                     have H6 := Lib.hid c6
                     clear c6)
                  | fail)
                refine bodyPost_ret (v := .tuple #[.agg #[.int .i64 0, .int .i64 0, .slice none 0 0, .slice none 0 0], .int .i64 5]) (by simp [results, Tryz.results21, go_sem, sZ]) rfl (Ret.mk ⟨_, rfl, ObjR.zero _ _, ?_⟩)
                refine Chg.then (F := No) (G := fun b => b = w.heap.size) (HO.out.2.2.2.trans H6.out) ?_ (fun k hk h => by omega)
                repeat (with_reducible first | exact Chg.refl _ _ | refine Chg.setCell ?_ (.inl (by simp)) _)
          · have t3 : ((n : Int) != 12 + (q : Int)) = true := by simp; omega
            have hd : dec5Ok l = false := by
              unfold dec5Ok dec5L
              rw [if_neg hkv, hnv, hn, decide_eq_false (show ¬ (n : Int) = 12 + (q : Int) by omega)]
              simp
            clear hn hnv he0 he4 he8 hE0 hE4 hE8 hn0 hn1 hkv hlen hk1
            obtain ⟨rfl, rfl⟩ : ro = O.zero ∧ re = 5 := by rw [← HRR.out.1, ← HRR.out.2, decO, decE, ← dec5_eq HX.out.2, hd]; exact ⟨rfl, rfl⟩
            have xZ := HB.out.1.four
            clear hd
            go_enter Tryz.func21, Tryz.ntmps21
            go_wp2_with (first
              | (rw [HWW.out])
              | (go_at_call 20
                 have _t := tok1
                 clear tok1
                 refine (Get01_any _ l S _ (HX.out.keep HC0.out (fun _ _ f => f)) 0 i0).mono ?_
                 rw [HG.out.1, HG.out.2.1]
                 rintro e w' ⟨rfl, rfl⟩)
                | (go_at_call 20
                   have _t := tok2
                   clear tok2
                   refine (Get01_any _ l S _ (HX.out.keep HC0.out (fun _ _ f => f)) 4 i4).mono ?_
                   rw [HG.out.2.2.1, HG.out.2.2.2.1]
                   rintro e w' ⟨rfl, rfl⟩)
                | (go_at_call 20
                   refine (Get01_any _ l S _ (HX.out.keep HC0.out (fun _ _ f => f)) 8 i8).mono ?_
                   rw [HG.out.2.2.2.2.1, HG.out.2.2.2.2.2]
                   rintro e w' ⟨rfl, rfl⟩)
              | fail)
            refine bodyPost_ret (v := .tuple #[.agg #[.int .i64 0, .int .i64 0, .slice none 0 0, .slice none 0 0], .int .i64 5]) (by simp [results, Tryz.results21, go_sem, xZ]) rfl (Ret.mk ⟨_, rfl, ObjR.zero _ _, ?_⟩)
            refine Chg.then (F := No) (G := fun b => b = w.heap.size) HB.out.2.2 ?_ (fun k hk h => by omega)
            repeat (with_reducible first | exact Chg.refl _ _ | refine Chg.setCell ?_ (.inl (by simp)) _)

end Go.Proofs.YtifcigjminbllaaGreatDoor
