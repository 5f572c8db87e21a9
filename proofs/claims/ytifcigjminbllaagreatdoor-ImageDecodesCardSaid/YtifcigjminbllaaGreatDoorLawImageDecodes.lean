/- websterlaw18.ImageDecodes: the walk. -/
import Derived.Test.YtifcigjminbllaaGreatDoorImgY
import Derived.Test.YtifcigjminbllaaGreatDoorImgT
namespace Go.Proofs.YtifcigjminbllaaGreatDoor
set_option linter.unusedVariables false
set_option linter.unusedSimpArgs false
open Go.RowKit

theorem imgDL_len (b : List Int) : (imgDL b).length ≤ 9223372036854775807 := by
  unfold imgDL
  split
  · rename_i h
    have h2 := (imgOk_all (encE_ok (img_sound h).1).1).2.1
    unfold imgDL at h2
    rw [if_pos h] at h2
    omega
  · simp
set_option maxRecDepth 100000 in
set_option maxHeartbeats 1000000 in
theorem ImageDecodes_any (bv : Value) (b : List Int) (w : World) (hbs : ByteS w (fun _ => True) bv b) (ht : Tabs w) :
    Calls Tryz.prog 3 #[bv] w fun e w' => e = .returned (.bool true) ∧ Chg No w w' := by
  obtain ⟨B, bn, bc, rfl⟩ : ∃ A n c, bv = .slice A n c := by
    obtain ⟨⟨A, c, e, -⟩, -⟩ := hbs
    exact ⟨A, _, c, e⟩
  obtain rfl : b.length = bn := by
    obtain ⟨⟨A', c', e, -⟩, -⟩ := hbs
    exact (Value.slice.inj e).2.1.symm
  generalize hbn : b.length = bn at *
  have HBN := Lib.hid hbn
  have HTB := Lib.hid ht
  have HBS := Lib.hid hbs
  have HML := Lib.hid (imgDL_len b)
  obtain ⟨Lb, hLb⟩ : ∃ x, imgDL b = x := ⟨_, rfl⟩
  obtain ⟨fb, hfb⟩ : ∃ x, imgDF b = x := ⟨_, rfl⟩
  obtain ⟨eb, heb⟩ : ∃ x, imgDE b = x := ⟨_, rfl⟩
  have HDB := Lib.hid (And.intro hLb (And.intro hfb heb))
  have te : (eb == eb) = true := by simp
  clear hbs ht hLb hfb heb hbn
  by_cases hb6 : 6000 < bn
  · have t6 : decide (6000 < (bn : Int)) = true := decide_eq_true (by omega)
    go_enter Tryz.func3, Tryz.ntmps3
    go_wp2_with (first
      | (go_at_call 5
         refine (known18_any _ HTB.out).mono ?_
         rintro e w9 ⟨rfl, c9⟩)
      | fail)
    go_ret
    exact ⟨rfl, c9⟩
  · have t6 : decide (6000 < (bn : Int)) = false := decide_eq_false (by omega)
    go_enter Tryz.func3, Tryz.ntmps3
    go_wp2_with (first
      | (go_at_call 6
         refine (ImgDecode_any _ b _ HBS.out (by rw [HBN.out]; omega) HTB.out).mono ?_
         rw [HDB.out.1, HDB.out.2.1, HDB.out.2.2]
         rintro e w1 ⟨v1, rfl, lv1, T1, rfl, hT1, hr1, c1⟩
         obtain ⟨A1, d1, rfl⟩ := hr1.form hT1
         have rY := Row.new w1 26 #[.slice A1 Lb.length d1, .int .i64 fb]
         have H1 := Lib.hid (And.intro (show RefL w1 (fun b => w.heap.size ≤ b) _ Lb by rw [← hT1]; exact hr1.toL) (And.intro (c1.alloc (.cells #[.slice A1 Lb.length d1, .int .i64 fb] 26)) rY))
         clear hr1 c1 hT1 rY)
      | (go_at_call 7
         refine (Decode18_any _ b _ (HBS.out.keep H1.out.2.1 (fun _ _ f => f)) (by rw [HBN.out]; omega)).mono ?_
         rw [HDB.out.1, HDB.out.2.1, HDB.out.2.2]
         rintro e w2 ⟨v2, rfl, lv2, T2, rfl, hT2, hr2, c2⟩
         obtain ⟨A2, d2, rfl⟩ := hr2.form hT2
         have rYa := (H1.out.2.2.keep c2 (fun f => f)).alloc (.cells #[.slice A2 Lb.length d2, .int .i64 fb] 26)
         have y0 := rYa.cell 0
         have y1 := rYa.cell 1
         simp at y0 y1
         have H2 := Lib.hid (And.intro (show RefL w2 _ _ Lb by rw [← hT2]; exact hr2.toL) (And.intro (c2.alloc (.cells #[.slice A2 Lb.length d2, .int .i64 fb] 26)) (H1.out.2.1.trans (c2.alloc (.cells #[.slice A2 Lb.length d2, .int .i64 fb] 26)))))
         clear hr2 c2 hT2 rYa)
      | (go_at_call 8
         refine (Same18_any _ _ Lb Lb fb fb _ _ _ (H1.out.1.keep (((Chg.refl No _).alloc _).trans H2.out.2.1) (fun _ _ f => f)) (H2.out.1.keep ((Chg.refl No _).alloc _) (fun _ _ f => f)) (by have := HML.out; rw [HDB.out.1] at this; exact this)).mono ?_
         rw [show decide (fb = fb ∧ Lb = Lb) = true from decide_eq_true ⟨rfl, rfl⟩]
         rintro e w3 ⟨rfl, c3⟩
         have H3 := Lib.hid (H2.out.2.2.trans c3)
         clear c3)
      | (go_at_call 5
         refine (known18_any _ (HTB.out.keep H3.out)).mono ?_
         rintro e w9 ⟨rfl, c9⟩)
      | fail)
    go_ret
    exact ⟨rfl, H3.out.trans c9⟩

end Go.Proofs.YtifcigjminbllaaGreatDoor
