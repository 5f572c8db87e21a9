/- websterlaw18.ImageDecodes: the walk. · websterlaw18.ImageWrites: the walk. -/
import Derived.Test.YtifcigjminbllaaGreatDoorImgY
import Derived.Test.YtifcigjminbllaaGreatDoorImgT
import Derived.Test.YtifcigjminbllaaGreatDoorSameP
namespace Go.Proofs.YtifcigjminbllaaGreatDoor
set_option linter.unusedVariables false
set_option linter.unusedSimpArgs false
open Go.RowKit

theorem imgDL_len (b : List Int) : (imgDL b).length ≤ 9223372036854775807 := by
  unfold imgDL
  split
  · rename_i h
    have h2 := (imgOk_all (encE_ok (img_sound h).1).1).2.1
    unfold imgDL at h2
    rw [if_pos h] at h2
    omega
  · simp
set_option maxRecDepth 100000 in
set_option maxHeartbeats 1000000 in
theorem ImageDecodes_any (bv : Value) (b : List Int) (w : World) (hbs : ByteS w (fun _ => True) bv b) (ht : Tabs w) :
    Calls Tryz.prog 3 #[bv] w fun e w' => e = .returned (.bool true) ∧ Chg No w w' := by
  obtain ⟨B, bn, bc, rfl⟩ : ∃ A n c, bv = .slice A n c := by
    obtain ⟨⟨A, c, e, -⟩, -⟩ := hbs
    exact ⟨A, _, c, e⟩
  obtain rfl : b.length = bn := by
    obtain ⟨⟨A', c', e, -⟩, -⟩ := hbs
    exact (Value.slice.inj e).2.1.symm
  generalize hbn : b.length = bn at *
  have HBN := Lib.hid hbn
  have HTB := Lib.hid ht
  have HBS := Lib.hid hbs
  have HML := Lib.hid (imgDL_len b)
  obtain ⟨Lb, hLb⟩ : ∃ x, imgDL b = x := ⟨_, rfl⟩
  obtain ⟨fb, hfb⟩ : ∃ x, imgDF b = x := ⟨_, rfl⟩
  obtain ⟨eb, heb⟩ : ∃ x, imgDE b = x := ⟨_, rfl⟩
  have HDB := Lib.hid (And.intro hLb (And.intro hfb heb))
  have te : (eb == eb) = true := by simp
  clear hbs ht hLb hfb heb hbn
  by_cases hb6 : 6000 < bn
  · have t6 : decide (6000 < (bn : Int)) = true := decide_eq_true (by omega)
    go_enter Tryz.func3, Tryz.ntmps3
    go_wp2_with (first
      | (go_at_call 5
         refine (known18_any _ HTB.out).mono ?_
         rintro e w9 ⟨rfl, c9⟩)
      | fail)
    go_ret
    exact ⟨rfl, c9⟩
  · have t6 : decide (6000 < (bn : Int)) = false := decide_eq_false (by omega)
    go_enter Tryz.func3, Tryz.ntmps3
    go_wp2_with (first
      | (go_at_call 6
         refine (ImgDecode_any _ b _ HBS.out (by rw [HBN.out]; omega) HTB.out).mono ?_
         rw [HDB.out.1, HDB.out.2.1, HDB.out.2.2]
         rintro e w1 ⟨v1, rfl, lv1, T1, rfl, hT1, hr1, c1⟩
         obtain ⟨A1, d1, rfl⟩ := hr1.form hT1
         have rY := Row.new w1 26 #[.slice A1 Lb.length d1, .int .i64 fb]
         have H1 := Lib.hid (And.intro (show RefL w1 (fun b => w.heap.size ≤ b) _ Lb by rw [← hT1]; exact hr1.toL) (And.intro (c1.alloc (.cells #[.slice A1 Lb.length d1, .int .i64 fb] 26)) rY))
         clear hr1 c1 hT1 rY)
      | (go_at_call 7
         refine (Decode18_any _ b _ (HBS.out.keep H1.out.2.1 (fun _ _ f => f)) (by rw [HBN.out]; omega)).mono ?_
         rw [HDB.out.1, HDB.out.2.1, HDB.out.2.2]
         rintro e w2 ⟨v2, rfl, lv2, T2, rfl, hT2, hr2, c2⟩
         obtain ⟨A2, d2, rfl⟩ := hr2.form hT2
         have rYa := (H1.out.2.2.keep c2 (fun f => f)).alloc (.cells #[.slice A2 Lb.length d2, .int .i64 fb] 26)
         have y0 := rYa.cell 0
         have y1 := rYa.cell 1
         simp at y0 y1
         have H2 := Lib.hid (And.intro (show RefL w2 _ _ Lb by rw [← hT2]; exact hr2.toL) (And.intro (c2.alloc (.cells #[.slice A2 Lb.length d2, .int .i64 fb] 26)) (H1.out.2.1.trans (c2.alloc (.cells #[.slice A2 Lb.length d2, .int .i64 fb] 26)))))
         clear hr2 c2 hT2 rYa)
      | (go_at_call 8
         refine (Same18_any _ _ Lb Lb fb fb _ _ _ (H1.out.1.keep (((Chg.refl No _).alloc _).trans H2.out.2.1) (fun _ _ f => f)) (H2.out.1.keep ((Chg.refl No _).alloc _) (fun _ _ f => f)) (by have := HML.out; rw [HDB.out.1] at this; exact this)).mono ?_
         rw [show decide (fb = fb ∧ Lb = Lb) = true from decide_eq_true ⟨rfl, rfl⟩]
         rintro e w3 ⟨rfl, c3⟩
         have H3 := Lib.hid (H2.out.2.2.trans c3)
         clear c3)
      | (go_at_call 5
         refine (known18_any _ (HTB.out.keep H3.out)).mono ?_
         rintro e w9 ⟨rfl, c9⟩)
      | fail)
    go_ret
    exact ⟨rfl, H3.out.trans c9⟩

set_option maxRecDepth 100000 in
set_option maxHeartbeats 2000000 in
theorem ImageWrites_any (lv : Value) (T : List T3) (xf : Int) (xf64 : In64 xf) (bv : Value) (b : List Int) (w : World) (h : RefT w (fun _ => True) lv T) (hm : T.length ≤ maxLen) (hbs : ByteS w (fun _ => True) bv b) (ht : Tabs w) :
    Calls Tryz.prog 4 #[.agg #[lv, .int .i64 xf], bv] w fun e w' => e = .returned (.bool true) ∧ Chg No w w' := by
  have hmax : (T.map (·.1)).length ≤ 9223372036854775807 := by rw [List.length_map]; unfold maxLen at hm; simp at hm; omega
  obtain ⟨A, n, c, rfl⟩ : ∃ A n c, lv = .slice A n c := by
    obtain ⟨⟨A, c, e, -⟩, -⟩ := h
    exact ⟨A, _, c, e⟩
  obtain rfl : T.length = n := by
    obtain ⟨⟨A', c', e, -⟩, -⟩ := h
    exact (Value.slice.inj e).2.1.symm
  obtain ⟨B, bn, bc, rfl⟩ : ∃ A n c, bv = .slice A n c := by
    obtain ⟨⟨A, c, e, -⟩, -⟩ := hbs
    exact ⟨A, _, c, e⟩
  obtain rfl : b.length = bn := by
    obtain ⟨⟨A', c', e, -⟩, -⟩ := hbs
    exact (Value.slice.inj e).2.1.symm
  generalize hn : T.length = n at *
  have HN := Lib.hid hn
  generalize hbn : b.length = bn at *
  have HBN := Lib.hid hbn
  obtain ⟨L, hL⟩ : ∃ L, T.map (·.1) = L := ⟨_, rfl⟩
  obtain ⟨W1, hW1⟩ : ∃ W, w.alloc (.cells #[.slice A n c, .int .i64 xf] 26) = W := ⟨_, rfl⟩
  have c01 : Chg No w W1 := by rw [← hW1]; exact (Chg.refl _ _).alloc _
  have rA : Row W1 w.heap.size 26 #[.slice A n c, .int .i64 xf] := by rw [← hW1]; exact Row.new w _ _
  have x0 := rA.cell 0
  have x1 := rA.cell 1
  simp at x0 x1
  have HW1 := Lib.hid hW1
  have HA := Lib.hid rA
  have HC := Lib.hid c01
  have HR := Lib.hid (h.keep c01 (fun _ _ f => f))
  have HRL := Lib.hid (show RefL W1 (fun _ => True) (.slice A n c) L by rw [← hL]; exact (h.keep c01 (fun _ _ f => f)).toL)
  have HTB := Lib.hid (ht.keep c01)
  have HBS := Lib.hid (hbs.keep c01 (fun _ _ f => f))
  rw [hL] at hmax
  have HML := Lib.hid (imgDL_len b)
  obtain ⟨ep, hep⟩ : ∃ x, encE L xf = x := ⟨_, rfl⟩
  obtain ⟨la, hla⟩ : ∃ x, encV L xf = x := ⟨_, rfl⟩
  obtain ⟨n5, hn5⟩ : ∃ x, la.length = x := ⟨_, rfl⟩
  have HE1 := Lib.hid (show encE (T.map (·.1)) xf = ep ∧ encV (T.map (·.1)) xf = la ∧ la.length = n5 from ⟨by rw [hL]; exact hep, by rw [hL]; exact hla, hn5⟩)
  have hB : ∀ o ∈ L, ∀ x ∈ o.B, 0 ≤ x ∧ x ≤ 255 := by
    intro o ho
    rw [← hL] at ho
    obtain ⟨t, ht, rfl⟩ := List.mem_map.1 ho
    exact (HR.out.2 t ht).2.1.2
  have hlb : ∀ x ∈ la, 0 ≤ x ∧ x ≤ 255 := by
    rw [← hla]
    unfold encV
    split
    · exact encI_bd hB
    · simp
  have HBD := Lib.hid hlb
  obtain ⟨ie, hie⟩ : ∃ x, imgE L xf = x := ⟨_, rfl⟩
  have HIE := Lib.hid (show imgE (T.map (·.1)) xf = ie by rw [hL]; exact hie)
  obtain ⟨Lb, hLb⟩ : ∃ x, imgDL b = x := ⟨_, rfl⟩
  obtain ⟨fb, hfb⟩ : ∃ x, imgDF b = x := ⟨_, rfl⟩
  obtain ⟨eb, heb⟩ : ∃ x, imgDE b = x := ⟨_, rfl⟩
  have HDB := Lib.hid (And.intro hLb (And.intro hfb heb))
  obtain ⟨q, hq⟩ : ∃ q, decide (xf = fb ∧ L = Lb) = q := ⟨_, rfl⟩
  have HQ := Lib.hid hq
  have te1 : (ep == ep) = true := by simp
  have te2 : (ie == ie) = true := by simp
  have te3 : (eb == eb) = true := by simp
  have te4 : (q == q) = true := by simp
  clear hW1 rA c01 h ht hbs hn hbn hep hla hn5 hB hlb hie hLb hfb heb hq hL
  by_cases hb6 : 6000 < bn
  · have t6 : decide (6000 < (bn : Int)) = true := decide_eq_true (by omega)
    go_enter Tryz.func4, Tryz.ntmps4
    go_wp2_with (first
      | (rw [HW1.out])
      | (go_at_call 9
         refine (much_any _ _ _ _ HRL.out hmax).mono ?_
         rintro e w2 ⟨r, rfl, c2, -⟩
         have H2 := Lib.hid c2
         clear c2
         cases r)
      | (go_at_call 5
         refine (known18_any _ (HTB.out.keep H2.out)).mono ?_
         rintro e w9 ⟨rfl, c9⟩)
      | fail)
    all_goals (
      go_ret
      exact ⟨rfl, HC.out.trans (H2.out.trans c9)⟩)
  · have t6 : decide (6000 < (bn : Int)) = false := decide_eq_false (by omega)
    have hb7 : bn ≤ 100000000 := by omega
    clear hb6
    go_enter Tryz.func4, Tryz.ntmps4
    go_wp2_with (first
      | (rw [HW1.out])
      | (go_at_call 9
         refine (much_any _ _ _ _ HRL.out hmax).mono ?_
         rintro e w2 ⟨r, rfl, c2, -⟩
         have x2 := (HA.out.keep c2 (fun f => f)).cell 0
         have x2' := (HA.out.keep c2 (fun f => f)).cell 1
         simp at x2 x2'
         have H2 := Lib.hid c2
         clear c2 x0 x1
         cases r)
      | (go_at_call 5
         refine (known18_any _ (HTB.out.keep H2.out)).mono ?_
         rintro e w9 ⟨rfl, c9⟩)
      | (go_at_call 10
         refine (ImgEncode_max (.slice A n c) T xf xf64 _ (HR.out.keep H2.out (fun _ _ f => f)) (by rw [HN.out]; exact hm) (HTB.out.keep H2.out)).mono ?_
         rw [HE1.out.1, HE1.out.2.1]
         rintro e w5 ⟨v5, rfl, u5, rfl, hob5, c5⟩
         obtain ⟨A5, d5, rfl⟩ : ∃ A c, u5 = .slice A n5 c := by have := hob5.form; rwa [HE1.out.2.2] at this
         have x5 := (HA.out.keep (H2.out.trans c5) (fun f => f)).cell 0
         have x5' := (HA.out.keep (H2.out.trans c5) (fun f => f)).cell 1
         simp at x5 x5'
         have HP := Lib.hid ((hob5.bytes HBD.out).more (S' := fun _ => True) (fun _ _ _ => trivial))
         have H5 := Lib.hid (H2.out.trans c5)
         clear hob5 c5 x2 x2')
      | (go_at_call 11
         refine (Encode18_any (.slice A n c) T xf xf64 _ (HR.out.keep H5.out (fun _ _ f => f)) (by rw [HN.out]; exact hm)).mono ?_
         rw [HE1.out.1, HE1.out.2.1]
         rintro e w6 ⟨v6, rfl, u6, rfl, hob6, c6⟩
         obtain ⟨A6, d6, rfl⟩ : ∃ A c, u6 = .slice A n5 c := by have := hob6.form; rwa [HE1.out.2.2] at this
         have HP2 := Lib.hid (And.intro (HP.out.keep c6 (fun _ _ f => f)) ((hob6.bytes HBD.out).more (S' := fun _ => True) (fun _ _ _ => trivial)))
         have H6 := Lib.hid (H5.out.trans c6)
         clear hob6 c6 x5 x5')
      | (go_at_call 6
         refine (ImgDecode_any _ b _ (HBS.out.keep H6.out (fun _ _ f => f)) (by rw [HBN.out]; exact hb7) (HTB.out.keep H6.out)).mono ?_
         rw [HDB.out.1, HDB.out.2.1, HDB.out.2.2]
         rintro e w7 ⟨v7, rfl, lv7, T7, rfl, hT7, hr7, c7⟩
         obtain ⟨A7, d7, rfl⟩ := hr7.form hT7
         have c7a := c7.alloc (.cells #[.slice A7 Lb.length d7, .int .i64 fb] 26)
         have H7 := Lib.hid (And.intro (show RefL w7 (fun b => w6.heap.size ≤ b) _ Lb by rw [← hT7]; exact hr7.toL) (And.intro (H6.out.trans c7a) (And.intro (Row.new w7 26 #[.slice A7 Lb.length d7, .int .i64 fb]) c7a)))
         clear hr7 c7 hT7 c7a)
      | (go_at_call 7
         refine (Decode18_any _ b _ (HBS.out.keep H7.out.2.1 (fun _ _ f => f)) (by rw [HBN.out]; exact hb7)).mono ?_
         rw [HDB.out.1, HDB.out.2.1, HDB.out.2.2]
         rintro e w8 ⟨v8, rfl, lv8, T8, rfl, hT8, hr8, c8⟩
         obtain ⟨A8, d8, rfl⟩ := hr8.form hT8
         have c8a := c8.alloc (.cells #[.slice A8 Lb.length d8, .int .i64 fb] 26)
         have H8 := Lib.hid (And.intro (show RefL w8 _ _ Lb by rw [← hT8]; exact hr8.toL) (And.intro (H7.out.2.1.trans c8a) (And.intro (Row.new w8 26 #[.slice A8 Lb.length d8, .int .i64 fb]) c8a)))
         clear hr8 c8 hT8 c8a)
      | fail)
    · have HML2 := Lib.hid (show Lb.length ≤ 9223372036854775807 by have := HML.out; rw [HDB.out.1] at this; exact this)
      have HMX := Lib.hid hmax
      have hP1 := HP2.out.1.keep (H7.out.2.2.2.trans H8.out.2.2.2) (fun _ _ f => f)
      have hP2 := HP2.out.2.keep (H7.out.2.2.2.trans H8.out.2.2.2) (fun _ _ f => f)
      have hY := H7.out.1.keep (((Chg.refl No _).alloc (.cells #[.slice A7 Lb.length d7, .int .i64 fb] 26)).trans H8.out.2.2.2) (fun _ _ f => f)
      have hZ := H8.out.1.keep ((Chg.refl No _).alloc (.cells #[.slice A8 Lb.length d8, .int .i64 fb] 26)) (fun _ _ f => f)
      have rX := HA.out.keep H8.out.2.1 (fun f => f)
      have rY := H7.out.2.2.1.keep H8.out.2.2.2 (fun f => f)
      have rZ := H8.out.2.2.1
      have cU := H8.out.2.1
      generalize hU : World.alloc w8 _ = U at *
      have u0 : ∀ v, Chg No U v → v.cell? ⟨w.heap.size, 0, none⟩ = some (.slice A n c) := fun v hv => by simpa using (rX.keep hv (fun f => f)).cell 0
      have u1 : ∀ v, Chg No U v → v.cell? ⟨w.heap.size, 1, none⟩ = some (.int .i64 xf) := fun v hv => by simpa using (rX.keep hv (fun f => f)).cell 1
      have y0 : ∀ v, Chg No U v → v.cell? ⟨w7.heap.size, 0, none⟩ = some (.slice A7 Lb.length d7) := fun v hv => by simpa using (rY.keep hv (fun f => f)).cell 0
      have y1 : ∀ v, Chg No U v → v.cell? ⟨w7.heap.size, 1, none⟩ = some (.int .i64 fb) := fun v hv => by simpa using (rY.keep hv (fun f => f)).cell 1
      have z0 : ∀ v, Chg No U v → v.cell? ⟨w8.heap.size, 0, none⟩ = some (.slice A8 Lb.length d8) := fun v hv => by simpa using (rZ.keep hv (fun f => f)).cell 0
      have z1 : ∀ v, Chg No U v → v.cell? ⟨w8.heap.size, 1, none⟩ = some (.int .i64 fb) := fun v hv => by simpa using (rZ.keep hv (fun f => f)).cell 1
      have HH := Lib.hid (And.intro hP1 (And.intro hP2 (And.intro hY (And.intro hZ cU))))
      have HT1 := Lib.hid (show decide (la = la) = true from decide_eq_true rfl)
      have HT2 := Lib.hid (show decide (fb = fb ∧ Lb = Lb) = true from decide_eq_true ⟨rfl, rfl⟩)
      clear hP1 hP2 hY hZ rX rY rZ cU hU hmax H7 H8 HP2
      refine q_region (C := (Chg No U)) (by kernel_rfl) (by kernel_rfl) ?_ ?_
      · exact (Chg.refl _ _).drew
      repeat
        refine q_step (fun K hK => ?_)
        go_simp
        first
          | ((with_reducible refine hK _ ?_); clear hK K)
          | (refine (if_neg (by simp [undef])).mpr ?_; (with_reducible refine hK _ ?_); clear hK K)
          | (apply Exists.intro
             with_reducible refine ⟨fun v hv => ?_, hK _ ?_⟩
             · first
                 | with_reducible exact rfl
                 | with_reducible exact ⟨rfl, rfl⟩
                 | (go_simp
                    first
                      | done
                      | with_reducible exact rfl
                      | with_reducible exact ⟨rfl, rfl⟩
                      | (first | (go_at_call 12; refine (Same00_any _ _ la la _ _ _ (HH.out.1.keep hv (fun _ _ f => f)) (HH.out.2.1.keep hv (fun _ _ f => f))).mono ?_; rw [HT1.out]; rintro e w9 ⟨rfl, g9⟩; exact ⟨rfl, hv.trans g9⟩) | (go_at_call 13; refine (ImgCheck_any _ T xf xf64 _ (HR.out.keep (HH.out.2.2.2.2.trans hv) (fun _ _ f => f)) (by rw [HN.out]; exact hm) (HTB.out.keep (HH.out.2.2.2.2.trans hv))).mono ?_; rw [HIE.out]; rintro e w9 ⟨rfl, g9⟩; exact ⟨rfl, hv.trans g9⟩) | (go_at_call 14; refine (Check18_any _ T xf xf64 _ (HR.out.keep (HH.out.2.2.2.2.trans hv) (fun _ _ f => f)) (by rw [HN.out]; exact hm)).mono ?_; rw [HIE.out]; rintro e w9 ⟨rfl, g9⟩; exact ⟨rfl, hv.trans g9⟩) | (go_at_call 8; (with_reducible refine (Same18_any _ _ Lb Lb fb fb _ _ _ (HH.out.2.2.1.keep hv (fun _ _ f => f)) (HH.out.2.2.2.1.keep hv (fun _ _ f => f)) HML2.out).mono ?_); rw [HT2.out]; rintro e w9 ⟨rfl, g9⟩; exact ⟨rfl, hv.trans g9⟩) | (go_at_call 8; (with_reducible refine (Same18_any _ _ L Lb xf fb _ _ _ (HRL.out.keep (HH.out.2.2.2.2.trans hv) (fun _ _ f => f)) (HH.out.2.2.1.keep hv (fun _ _ f => f)) HMX.out).mono ?_); rw [HQ.out]; rintro e w9 ⟨rfl, g9⟩; exact ⟨rfl, hv.trans g9⟩) | (go_at_call 15; refine (SameImg_any _ _ L Lb xf fb _ _ _ (HRL.out.keep (HH.out.2.2.2.2.trans hv) (fun _ _ f => f)) (HH.out.2.2.1.keep hv (fun _ _ f => f)) HMX.out).mono ?_; rw [HQ.out]; rintro e w9 ⟨rfl, g9⟩; exact ⟨rfl, hv.trans g9⟩) | (go_at_call 5; refine (known18_any _ (HTB.out.keep (HH.out.2.2.2.2.trans hv))).mono ?_; rintro e w9 ⟨rfl, g9⟩; exact ⟨rfl, hv.trans g9⟩)))
             clear hK K)
      refine q_nil ?_
      intro V hV
      go_wp2_with fail
      go_ret
      exact ⟨rfl, HC.out.trans (HH.out.2.2.2.2.trans hV)⟩
    · go_ret
      exact ⟨rfl, HC.out.trans (H2.out.trans c9)⟩

end Go.Proofs.YtifcigjminbllaaGreatDoor
