/- websterlaw18.ImageBack: the walk. -/
import Derived.Test.YtifcigjminbllaaDoorImgPl
import Derived.Test.YtifcigjminbllaaDoorImgT
namespace Go.Proofs.YtifcigjminbllaaDoor
set_option linter.unusedVariables false
set_option linter.unusedSimpArgs false
open Go.RowKit

theorem img_no {b : List Int} (h : imgOkB b = false) : imgDL b = [] ∧ imgDF b = 0 ∧ imgDE b = 180 := by
  unfold imgDL imgDF imgDE
  rw [h]
  exact ⟨rfl, rfl, rfl⟩
theorem encI_gt8 {L : List O} {f : Int} (h : encE L f = 0) : 8 < (encI L f).length := by
  have h4 := (imgOk_all (encE_ok h).1).2.2.1
  rw [encI_eq]
  match L, h4 with
  | o :: _, _ =>
    rw [List.length_append, List.length_append, List.flatMap_cons, List.length_append, recB_len]
    simp [putB]
    omega
theorem img_cut {L : List O} {f : Int} (h : encE L f = 0) {k : Nat} (hk : k < (encI L f).length) : imgOkB ((encI L f).take k) = false := by
  cases hb : imgOkB ((encI L f).take k)
  · rfl
  · obtain ⟨h1, h2⟩ := img_sound hb
    have e : encI (imgDL ((encI L f).take k)) (imgDF ((encI L f).take k)) ++ (encI L f).drop k = encI L f ++ [] := by rw [h2, List.take_append_drop, List.append_nil]
    have h3 := (encI_inj (encE_ok h1).1 (encE_ok h).1 e).2.2
    have h4 := congrArg List.length h3
    rw [List.length_drop] at h4
    simp at h4
    omega
theorem img_more {L : List O} {f : Int} (h : encE L f = 0) (m : Int) : imgOkB (encI L f ++ [m]) = false := by
  cases hb : imgOkB (encI L f ++ [m])
  · rfl
  · obtain ⟨h1, h2⟩ := img_sound hb
    have e : encI (imgDL (encI L f ++ [m])) (imgDF (encI L f ++ [m])) ++ [] = encI L f ++ [m] := by rw [h2, List.append_nil]
    have h3 := (encI_inj (encE_ok h1).1 (encE_ok h).1 e).2.2
    simp at h3
set_option maxRecDepth 100000 in
set_option maxHeartbeats 1000000 in
/-- a copy of bytes -/
theorem Copy00_any (v : Value) (l : List Int) (S : Nat → Prop) (w : World) (h : ByteS w S v l) (hl : l.length ≤ 1000000000) : Calls Tryd.prog 10 #[v] w (Ret fun u w' => OwnB w' w.heap.size u l ∧ Chg No w w') := by
  obtain ⟨A, c, w', hr, ho, hc⟩ := app_bytes2 (OwnB.nil w w.heap.size) h (by simpa using hl) (Nat.le_refl _) 25
  have hc' : Chg No w w' := hc.mono fun k _ hk => by simp [Value.ownBlock] at hk
  rw [List.nil_append] at hr ho
  obtain ⟨B, n, d, rfl⟩ : ∃ B n d, v = .slice B n d := by
    obtain ⟨B, d, e, -⟩ := h.form
    exact ⟨B, _, d, e⟩
  have HR := Lib.hid hr
  have H := Lib.hid (And.intro ho hc')
  clear hr ho hc hc' h
  go_enter Tryd.func10, Tryd.ntmps10
  go_wp2_with (first
    | (at_builtin; refine wpList_append_run rfl _ _ _ rfl rfl rfl HR.out ?_)
    | fail)
  go_ret
  exact Ret.mk H.out

set_option maxRecDepth 100000 in
set_option maxHeartbeats 1000000 in
theorem ImageBack_any (lv : Value) (T : List T3) (xf : Int) (xf64 : In64 xf) (bv : Value) (b : List Int) (at_ : Int) (at64 : In64 at_) (more : Int) (hmore : 0 ≤ more ∧ more ≤ 255) (w : World) (h : RefT w (fun _ => True) lv T) (hm : T.length ≤ maxLen) (hbs : ByteS w (fun _ => True) bv b) (ht : Tabs w) :
    Calls Tryd.prog 3 #[.agg #[lv, .int .i64 xf], bv, .int .i64 at_, .int .u8 more] w fun e w' => e = .returned (.bool true) ∧ Chg No w w' := by
  have hmax : (T.map (·.1)).length ≤ 9223372036854775807 := by rw [List.length_map]; unfold maxLen at hm; simp at hm; omega
  obtain ⟨A, n, c, rfl⟩ : ∃ A n c, lv = .slice A n c := by
    obtain ⟨⟨A, c, e, -⟩, -⟩ := h
    exact ⟨A, _, c, e⟩
  obtain rfl : T.length = n := by
    obtain ⟨⟨A', c', e, -⟩, -⟩ := h
    exact (Value.slice.inj e).2.1.symm
  obtain ⟨B, bn, bc, rfl⟩ : ∃ A n c, bv = .slice A n c := by
    obtain ⟨⟨A, c, e, -⟩, -⟩ := hbs
    exact ⟨A, _, c, e⟩
  obtain rfl : b.length = bn := by
    obtain ⟨⟨A', c', e, -⟩, -⟩ := hbs
    exact (Value.slice.inj e).2.1.symm
  generalize hn : T.length = n at *
  have HN := Lib.hid hn
  generalize hbn : b.length = bn at *
  have HBN := Lib.hid hbn
  obtain ⟨L, hL⟩ : ∃ L, T.map (·.1) = L := ⟨_, rfl⟩
  obtain ⟨W1, hW1⟩ : ∃ W, w.alloc (.cells #[.slice A n c, .int .i64 xf] 24) = W := ⟨_, rfl⟩
  have c01 : Chg No w W1 := by rw [← hW1]; exact (Chg.refl _ _).alloc _
  have rA : Row W1 w.heap.size 24 #[.slice A n c, .int .i64 xf] := by rw [← hW1]; exact Row.new w _ _
  have x0 := rA.cell 0
  have x1 := rA.cell 1
  simp at x0 x1
  have HW1 := Lib.hid hW1
  have HA := Lib.hid rA
  have HC := Lib.hid c01
  have HR := Lib.hid (h.keep c01 (fun _ _ f => f))
  have HRL := Lib.hid (show RefL W1 (fun _ => True) (.slice A n c) L by rw [← hL]; exact (h.keep c01 (fun _ _ f => f)).toL)
  have HTB := Lib.hid (ht.keep c01)
  have HBS := Lib.hid (hbs.keep c01 (fun _ _ f => f))
  have HLT := Lib.hid hL
  rw [hL] at hmax
  clear hW1 rA c01 h ht hbs hn hbn
  by_cases hb6 : 6000 < bn
  · have t6 : decide (6000 < (bn : Int)) = true := decide_eq_true (by omega)
    clear hL
    go_enter Tryd.func3, Tryd.ntmps3
    go_wp2_with (first
      | (rw [HW1.out])
      | (go_at_call 6
         refine (much_any _ _ _ _ HRL.out hmax).mono ?_
         rintro e w2 ⟨r, rfl, c2, -⟩
         have x2 := (HA.out.keep c2 (fun f => f)).cell 0
         have x2' := (HA.out.keep c2 (fun f => f)).cell 1
         simp at x2 x2'
         have HW := Lib.hid c2
         clear c2 x0 x1
         cases r)
      | (go_at_call 7
         refine (known18_any _ (HTB.out.keep (by first | exact HW.out | exact HW.out.alloc _))).mono ?_
         rintro e w9 ⟨rfl, c9⟩
         have HW9 := Lib.hid (show Chg No W1 w9 from by first | exact HW.out.trans c9 | exact (HW.out.alloc _).trans c9)
         clear c9)
      | fail)
    all_goals (
      go_ret
      exact ⟨rfl, HC.out.trans HW9.out⟩)
  · have t6 : decide (6000 < (bn : Int)) = false := decide_eq_false (by omega)
    obtain ⟨ep, hep⟩ : ∃ x, encE L xf = x := ⟨_, rfl⟩
    obtain ⟨la, hla⟩ : ∃ x, encV L xf = x := ⟨_, rfl⟩
    obtain ⟨n5, hn5⟩ : ∃ x, la.length = x := ⟨_, rfl⟩
    have HE1 := Lib.hid (show encE (T.map (·.1)) xf = ep ∧ encV (T.map (·.1)) xf = la ∧ la.length = n5 from ⟨by rw [hL]; exact hep, by rw [hL]; exact hla, hn5⟩)
    have hB : ∀ o ∈ L, ∀ x ∈ o.B, 0 ≤ x ∧ x ≤ 255 := by
      intro o ho
      rw [← hL] at ho
      obtain ⟨t, ht, rfl⟩ := List.mem_map.1 ho
      exact (HR.out.2 t ht).2.1.2
    have hlb : ∀ x ∈ la, 0 ≤ x ∧ x ≤ 255 := by
      rw [← hla]
      unfold encV
      split
      · exact encI_bd hB
      · simp
    have HBD := Lib.hid hlb
    have HBM := Lib.hid (show ∀ x ∈ la ++ [more], 0 ≤ x ∧ x ≤ 255 from fun x hx => by
      rcases List.mem_append.1 hx with h | h
      · exact hlb x h
      · simp at h; subst h; exact hmore)
    have tokE : True := trivial
    obtain ⟨Lb, hLb⟩ : ∃ x, imgDL b = x := ⟨_, rfl⟩
    obtain ⟨fb, hfb⟩ : ∃ x, imgDF b = x := ⟨_, rfl⟩
    obtain ⟨eb, heb⟩ : ∃ x, imgDE b = x := ⟨_, rfl⟩
    have fb64 : In64 fb := by
      rw [← hfb]
      unfold imgDF
      split
      · exact getV_in _ _
      · unfold In64; omega
    by_cases hep0 : ep = 0
    · obtain rfl : la = encI L xf := by rw [← hla]; unfold encV; rw [if_pos (by rw [hep]; exact hep0)]
      have hee : encE L xf = 0 := by rw [hep]; exact hep0
      have h8 : 8 < n5 := by rw [← hn5]; exact encI_gt8 hee
      have h26 : n5 ≤ 262144 := by rw [← hn5]; exact (encE_ok hee).2
      obtain ⟨-, d1, d2, d3⟩ := img_enc hee
      have HDL := Lib.hid (And.intro d1 (And.intro d2 d3))
      have HDM := Lib.hid (img_no (img_more hee more))
      obtain ⟨kk, hkk, hkn⟩ : ∃ kk : Nat, (IntKind.u64.wrap at_).tmod (n5 : Int) = (kk : Int) ∧ kk < n5 := by
        have h0 : 0 ≤ IntKind.u64.wrap at_ := by rw [IntKind.wrap_u64]; omega
        have h1 := Int.emod_nonneg (IntKind.u64.wrap at_) (show (n5 : Int) ≠ 0 by omega)
        have h2 := Int.emod_lt_of_pos (IntKind.u64.wrap at_) (show (0 : Int) < (n5 : Int) by omega)
        rw [Int.tmod_eq_emod_of_nonneg h0]
        exact ⟨((IntKind.u64.wrap at_) % (n5 : Int)).toNat, by omega, by omega⟩
      have hw64 : wrap64 (kk : Int) = (kk : Int) := by unfold wrap64; omega
      have HDK := Lib.hid (img_no (img_cut hee (k := kk) (by rw [hn5]; exact hkn)))
      have tok1 : True := trivial
      have tok2 : True := trivial
      have tok3 : True := trivial
      subst hep0
      generalize encI L xf = la at *
      have tn5 : (n5 == 0) = false := by simp; omega
      have tn5' : ((n5 : Int) == 0) = false := by simp; omega
      by_cases hob : imgOkB b = true
      · obtain ⟨s1, s2⟩ := img_sound hob
        rw [hLb, hfb] at s1 s2
        have hl2 : Lb.length ≤ 2000 := (imgOk_all (encE_ok s1).1).2.1
        have HEB := Lib.hid (show encE Lb fb = 0 ∧ encV Lb fb = b from ⟨s1, by unfold encV; rw [if_pos s1]; exact s2⟩)
        obtain rfl : eb = 0 := by rw [← heb]; unfold imgDE; rw [if_pos hob]
        have HDB := Lib.hid (And.intro hLb (And.intro hfb heb))
        clear hL hep hla hn5 hB hlb hLb hfb heb hee d1 d2 d3 hob s1 s2
        go_enter Tryd.func3, Tryd.ntmps3
        go_wp2_with (first
          | (rw [HW1.out])
          | (go_at_call 6
             refine (much_any _ _ _ _ HRL.out hmax).mono ?_
             rintro e w2 ⟨r, rfl, c2, -⟩
             have x2 := (HA.out.keep c2 (fun f => f)).cell 0
             have x2' := (HA.out.keep c2 (fun f => f)).cell 1
             simp at x2 x2'
             have HW := Lib.hid c2
             clear c2 x0 x1
             cases r)
          | (go_at_call 8
             have _t := tokE
             clear tokE
             refine (ImgEncode_max (.slice A n c) T xf xf64 _ (HR.out.keep HW.out (fun _ _ f => f)) (by rw [HN.out]; exact hm) (HTB.out.keep HW.out)).mono ?_
             rw [HE1.out.1, HE1.out.2.1]
             rintro e w5 ⟨v5, rfl, u5, rfl, hob5, c5⟩
             obtain ⟨A5, d5, rfl⟩ : ∃ A c, u5 = .slice A n5 c := by have := hob5.form; rwa [HE1.out.2.2] at this
             have HP := Lib.hid ((hob5.bytes HBD.out).more (S' := fun _ => True) (fun _ _ _ => trivial))
             obtain ⟨hd5, hm5⟩ : n5 ≤ d5 ∧ d5 ≤ 9223372036854775807 := by
               obtain ⟨A, c, e, e2, e3, -⟩ := HP.out.form
               obtain ⟨-, -, rfl⟩ := Value.slice.inj e
               rw [HE1.out.2.2] at e2
               exact ⟨e2, by unfold maxLen at e3; simp at e3; omega⟩
             have HW := Lib.hid (HW.out.trans c5)
             clear hob5 c5 x2 x2')
          | (go_at_call 9
             have _t := tok1
             clear tok1
             refine (ImgDecode_any _ la _ HP.out (by rw [HE1.out.2.2]; omega) (HTB.out.keep HW.out)).mono ?_
             rw [HDL.out.1, HDL.out.2.1, HDL.out.2.2]
             rintro e w6 ⟨v6, rfl, lv6, T6, rfl, hT6, hr6, c6⟩
             obtain ⟨A6, d6, rfl⟩ := hr6.form hT6
             have HY := Lib.hid (show RefL w6 (fun b => w5.heap.size ≤ b) _ L by rw [← hT6]; exact hr6.toL)
             have rY := Row.new w6 24 #[.slice A6 L.length d6, .int .i64 xf]
             have H6 := Lib.hid (And.intro c6 rY)
             have lk : (kk : Int) ≤ (d5 : Int) := by omega
             have HW := Lib.hid (HW.out.trans c6)
             clear hr6 c6 hT6 rY)
          | (go_at_call 9
             have _t := tok2
             clear tok2
             have cA := H6.out.1.alloc (.cells #[.slice A6 L.length d6, .int .i64 xf] 24)
             refine (ImgDecode_any _ (la.take kk) _ ((HP.out.take kk (by rw [HE1.out.2.2]; omega)).keep cA (fun _ _ f => f)) (by rw [List.length_take, HE1.out.2.2]; omega) (HTB.out.keep (HW.out.alloc _))).mono ?_
             rw [HDK.out.1, HDK.out.2.1, HDK.out.2.2]
             rintro e w7 ⟨v7, rfl, lv7, T7, rfl, hT7, hr7, c7⟩
             obtain ⟨A7, d7, rfl⟩ := hr7.form hT7
             rw [List.length_nil]
             have HW := Lib.hid ((HW.out.alloc _).trans c7)
             have H7 := Lib.hid (And.intro (cA.trans c7) (H6.out.2.keep c7 (fun f => f)))
             have HY := Lib.hid (HY.out.keep (((Chg.refl No _).alloc _).trans c7) (fun _ _ f => f))
             clear hr7 c7 hT7 cA)
          | (go_at_call 10
             have cA : Chg No w7 (w7.alloc (.cells #[.slice A7 0 d7, .int .i64 0] 24)) := (Chg.refl _ _).alloc _
             refine (Copy00_any _ la _ _ (HP.out.keep (H7.out.1.trans cA) (fun _ _ f => f)) (by rw [HE1.out.2.2]; omega)).mono ?_
             rintro e w8 ⟨u8, rfl, hob8, c8⟩
             obtain ⟨A8, d8, rfl⟩ : ∃ A c, u8 = .slice A n5 c := by have := hob8.form; rwa [HE1.out.2.2] at this
             have c78 := cA.trans c8
             obtain ⟨v9, w9, hr9, ho9, hg9⟩ := run_app elem_u8 (by decide) (own_keep (F := No) hob8 ((Chg.refl _ _).alloc (.cells #[.int .u8 more] 5)) (fun _ _ f => f))
               (Slc.row (S := fun _ => True) (Row.new w8 5 #[.int .u8 more]) 1 1 rfl (by unfold maxLen; omega) trivial) (by simp [Value.oneCell']) (by rw [HE1.out.2.2]; unfold maxLen; omega) (by rw [HE1.out.2.2]; omega) (by have := c8.size; simp at this ⊢; omega) 25
             have ho9' : OwnB w9 (w7.alloc (.cells #[.slice A7 0 d7, .int .i64 0] 24)).heap.size v9 (la ++ [more]) := by
               unfold OwnB
               rw [List.length_append, List.map_append]
               exact ho9
             obtain ⟨A9, d9, rfl⟩ : ∃ A c, v9 = .slice A (n5 + 1) c := by have := ho9'.form; rwa [List.length_append, HE1.out.2.2] at this
             have c9 : Chg No w7 w9 := Chg.then c78 (((Chg.refl _ _).alloc _).grown hg9 (fun k hk => .inl hk)) (fun k hk e => by have := own_ge hob8 e; simp at this; omega)
             have HW := Lib.hid (HW.out.trans c9)
             have HQ := Lib.hid ((ho9'.bytes HBM.out).more (S' := fun _ => True) (fun _ _ _ => trivial))
             have H9 := Lib.hid (H7.out.2.keep c9 (fun f => f))
             have HY := Lib.hid (HY.out.keep c9 (fun _ _ f => f))
             have HR9 := Lib.hid hr9
             clear hob8 c8 c78 cA hr9 ho9 ho9' hg9 c9)
            | (at_builtin; refine wpList_append_run rfl _ _ _ rfl rfl rfl HR9.out ?_)
          | (go_at_call 9
             have _t := tok3
             clear tok3
             refine (ImgDecode_any _ (la ++ [more]) _ HQ.out (by rw [List.length_append, HE1.out.2.2]; simp; omega) (HTB.out.keep HW.out)).mono ?_
             rw [HDM.out.1, HDM.out.2.1, HDM.out.2.2]
             rintro e w10 ⟨v10, rfl, lv10, T10, rfl, hT10, hr10, c10⟩
             obtain ⟨A10, d10, rfl⟩ := hr10.form hT10
             rw [List.length_nil]
             have rYa := ((H9.out.keep c10 (fun f => f)).alloc (.cells #[.slice A10 0 d10, .int .i64 0] 24))
             have rXa := ((HA.out.keep (HW.out.trans c10) (fun f => f)).alloc (.cells #[.slice A10 0 d10, .int .i64 0] 24))
             have y0 := rYa.cell 0
             have y1 := rYa.cell 1
             have x0 := rXa.cell 0
             have x1 := rXa.cell 1
             simp at y0 y1 x0 x1
             have HY := Lib.hid (HY.out.keep (c10.alloc (.cells #[.slice A10 0 d10, .int .i64 0] 24)) (fun _ _ f => f))
             have HW := Lib.hid ((HW.out.trans c10).alloc (.cells #[.slice A10 0 d10, .int .i64 0] 24))
             clear hr10 c10 hT10 rYa rXa)
          | (go_at_call 11
             refine (Same18_any _ _ L L xf xf _ _ _ HY.out (HRL.out.keep HW.out (fun _ _ f => f)) hmax).mono ?_
             rw [show decide (xf = xf ∧ L = L) = true from decide_eq_true ⟨rfl, rfl⟩]
             rintro e w11 ⟨rfl, c11⟩
             have HW := Lib.hid (HW.out.trans c11)
             clear c11 x0 x1 y0 y1)
          | (go_at_call 9
             refine (ImgDecode_any _ b _ (HBS.out.keep HW.out (fun _ _ f => f)) (by rw [HBN.out]; omega) (HTB.out.keep HW.out)).mono ?_
             rw [HDB.out.1, HDB.out.2.1, HDB.out.2.2]
             rintro e wb ⟨vb, rfl, lvb, Tb, rfl, hTb, hrb, cb⟩
             obtain ⟨Ab, db, rfl⟩ := hrb.form hTb
             have HTT := Lib.hid (And.intro hTb (And.intro (hrb.more (S' := fun _ => True) fun _ _ _ => trivial) cb))
             have HW := Lib.hid (HW.out.trans cb)
             clear hrb cb hTb)
          | (go_at_call 8
             refine (ImgEncode_any _ Tb fb fb64 _ (HTT.out.2.1.keep ((Chg.refl No _).alloc _) (fun _ _ f => f)) (by have e := congrArg List.length HTT.out.1; rw [List.length_map] at e; omega) (HTB.out.keep (HW.out.alloc _))).mono ?_
             rw [HTT.out.1, HEB.out.1, HEB.out.2]
             rintro e w12 ⟨v12, rfl, u12, rfl, hob12, c12⟩
             obtain ⟨A12, d12, rfl⟩ : ∃ A c, u12 = .slice A bn c := by have := hob12.form; rwa [HBN.out] at this
             have HS12 := Lib.hid (hob12.bytes HBS.out.2)
             have HW := Lib.hid ((HW.out.alloc _).trans c12)
             clear hob12 c12)
          | (go_at_call 12
             refine (Same00_any _ _ b b _ _ _ HS12.out (HBS.out.keep HW.out (fun _ _ f => f))).mono ?_
             rw [show decide (b = b) = true from decide_eq_true rfl]
             rintro e w13 ⟨rfl, c13⟩
             have HW := Lib.hid (HW.out.trans c13)
             clear c13)
          | (go_at_call 7
             refine (known18_any _ (HTB.out.keep (by first | exact HW.out | exact HW.out.alloc _))).mono ?_
             rintro e w9 ⟨rfl, c9⟩
             have HW9 := Lib.hid (show Chg No W1 w9 from by first | exact HW.out.trans c9 | exact (HW.out.alloc _).trans c9)
             clear c9)
          | fail)
        all_goals (
          go_ret
          exact ⟨rfl, HC.out.trans HW9.out⟩)
      · have hob' : imgOkB b = false := by simpa using hob
        obtain ⟨e1, e2, e3⟩ := img_no hob'
        obtain rfl : Lb = [] := by rw [← hLb, e1]
        obtain rfl : fb = 0 := by rw [← hfb, e2]
        obtain rfl : eb = 180 := by rw [← heb, e3]
        have HDB := Lib.hid (And.intro hLb (And.intro hfb heb))
        clear hL hep hla hn5 hB hlb hLb hfb heb hee d1 d2 d3 hob hob' e1 e2 e3
        go_enter Tryd.func3, Tryd.ntmps3
        go_wp2_with (first
          | (rw [HW1.out])
          | (go_at_call 6
             refine (much_any _ _ _ _ HRL.out hmax).mono ?_
             rintro e w2 ⟨r, rfl, c2, -⟩
             have x2 := (HA.out.keep c2 (fun f => f)).cell 0
             have x2' := (HA.out.keep c2 (fun f => f)).cell 1
             simp at x2 x2'
             have HW := Lib.hid c2
             clear c2 x0 x1
             cases r)
          | (go_at_call 8
             have _t := tokE
             clear tokE
             refine (ImgEncode_max (.slice A n c) T xf xf64 _ (HR.out.keep HW.out (fun _ _ f => f)) (by rw [HN.out]; exact hm) (HTB.out.keep HW.out)).mono ?_
             rw [HE1.out.1, HE1.out.2.1]
             rintro e w5 ⟨v5, rfl, u5, rfl, hob5, c5⟩
             obtain ⟨A5, d5, rfl⟩ : ∃ A c, u5 = .slice A n5 c := by have := hob5.form; rwa [HE1.out.2.2] at this
             have HP := Lib.hid ((hob5.bytes HBD.out).more (S' := fun _ => True) (fun _ _ _ => trivial))
             obtain ⟨hd5, hm5⟩ : n5 ≤ d5 ∧ d5 ≤ 9223372036854775807 := by
               obtain ⟨A, c, e, e2, e3, -⟩ := HP.out.form
               obtain ⟨-, -, rfl⟩ := Value.slice.inj e
               rw [HE1.out.2.2] at e2
               exact ⟨e2, by unfold maxLen at e3; simp at e3; omega⟩
             have HW := Lib.hid (HW.out.trans c5)
             clear hob5 c5 x2 x2')
          | (go_at_call 9
             have _t := tok1
             clear tok1
             refine (ImgDecode_any _ la _ HP.out (by rw [HE1.out.2.2]; omega) (HTB.out.keep HW.out)).mono ?_
             rw [HDL.out.1, HDL.out.2.1, HDL.out.2.2]
             rintro e w6 ⟨v6, rfl, lv6, T6, rfl, hT6, hr6, c6⟩
             obtain ⟨A6, d6, rfl⟩ := hr6.form hT6
             have HY := Lib.hid (show RefL w6 (fun b => w5.heap.size ≤ b) _ L by rw [← hT6]; exact hr6.toL)
             have rY := Row.new w6 24 #[.slice A6 L.length d6, .int .i64 xf]
             have H6 := Lib.hid (And.intro c6 rY)
             have lk : (kk : Int) ≤ (d5 : Int) := by omega
             have HW := Lib.hid (HW.out.trans c6)
             clear hr6 c6 hT6 rY)
          | (go_at_call 9
             have _t := tok2
             clear tok2
             have cA := H6.out.1.alloc (.cells #[.slice A6 L.length d6, .int .i64 xf] 24)
             refine (ImgDecode_any _ (la.take kk) _ ((HP.out.take kk (by rw [HE1.out.2.2]; omega)).keep cA (fun _ _ f => f)) (by rw [List.length_take, HE1.out.2.2]; omega) (HTB.out.keep (HW.out.alloc _))).mono ?_
             rw [HDK.out.1, HDK.out.2.1, HDK.out.2.2]
             rintro e w7 ⟨v7, rfl, lv7, T7, rfl, hT7, hr7, c7⟩
             obtain ⟨A7, d7, rfl⟩ := hr7.form hT7
             rw [List.length_nil]
             have HW := Lib.hid ((HW.out.alloc _).trans c7)
             have H7 := Lib.hid (And.intro (cA.trans c7) (H6.out.2.keep c7 (fun f => f)))
             have HY := Lib.hid (HY.out.keep (((Chg.refl No _).alloc _).trans c7) (fun _ _ f => f))
             clear hr7 c7 hT7 cA)
          | (go_at_call 10
             have cA : Chg No w7 (w7.alloc (.cells #[.slice A7 0 d7, .int .i64 0] 24)) := (Chg.refl _ _).alloc _
             refine (Copy00_any _ la _ _ (HP.out.keep (H7.out.1.trans cA) (fun _ _ f => f)) (by rw [HE1.out.2.2]; omega)).mono ?_
             rintro e w8 ⟨u8, rfl, hob8, c8⟩
             obtain ⟨A8, d8, rfl⟩ : ∃ A c, u8 = .slice A n5 c := by have := hob8.form; rwa [HE1.out.2.2] at this
             have c78 := cA.trans c8
             obtain ⟨v9, w9, hr9, ho9, hg9⟩ := run_app elem_u8 (by decide) (own_keep (F := No) hob8 ((Chg.refl _ _).alloc (.cells #[.int .u8 more] 5)) (fun _ _ f => f))
               (Slc.row (S := fun _ => True) (Row.new w8 5 #[.int .u8 more]) 1 1 rfl (by unfold maxLen; omega) trivial) (by simp [Value.oneCell']) (by rw [HE1.out.2.2]; unfold maxLen; omega) (by rw [HE1.out.2.2]; omega) (by have := c8.size; simp at this ⊢; omega) 25
             have ho9' : OwnB w9 (w7.alloc (.cells #[.slice A7 0 d7, .int .i64 0] 24)).heap.size v9 (la ++ [more]) := by
               unfold OwnB
               rw [List.length_append, List.map_append]
               exact ho9
             obtain ⟨A9, d9, rfl⟩ : ∃ A c, v9 = .slice A (n5 + 1) c := by have := ho9'.form; rwa [List.length_append, HE1.out.2.2] at this
             have c9 : Chg No w7 w9 := Chg.then c78 (((Chg.refl _ _).alloc _).grown hg9 (fun k hk => .inl hk)) (fun k hk e => by have := own_ge hob8 e; simp at this; omega)
             have HW := Lib.hid (HW.out.trans c9)
             have HQ := Lib.hid ((ho9'.bytes HBM.out).more (S' := fun _ => True) (fun _ _ _ => trivial))
             have H9 := Lib.hid (H7.out.2.keep c9 (fun f => f))
             have HY := Lib.hid (HY.out.keep c9 (fun _ _ f => f))
             have HR9 := Lib.hid hr9
             clear hob8 c8 c78 cA hr9 ho9 ho9' hg9 c9)
            | (at_builtin; refine wpList_append_run rfl _ _ _ rfl rfl rfl HR9.out ?_)
          | (go_at_call 9
             have _t := tok3
             clear tok3
             refine (ImgDecode_any _ (la ++ [more]) _ HQ.out (by rw [List.length_append, HE1.out.2.2]; simp; omega) (HTB.out.keep HW.out)).mono ?_
             rw [HDM.out.1, HDM.out.2.1, HDM.out.2.2]
             rintro e w10 ⟨v10, rfl, lv10, T10, rfl, hT10, hr10, c10⟩
             obtain ⟨A10, d10, rfl⟩ := hr10.form hT10
             rw [List.length_nil]
             have rYa := ((H9.out.keep c10 (fun f => f)).alloc (.cells #[.slice A10 0 d10, .int .i64 0] 24))
             have rXa := ((HA.out.keep (HW.out.trans c10) (fun f => f)).alloc (.cells #[.slice A10 0 d10, .int .i64 0] 24))
             have y0 := rYa.cell 0
             have y1 := rYa.cell 1
             have x0 := rXa.cell 0
             have x1 := rXa.cell 1
             simp at y0 y1 x0 x1
             have HY := Lib.hid (HY.out.keep (c10.alloc (.cells #[.slice A10 0 d10, .int .i64 0] 24)) (fun _ _ f => f))
             have HW := Lib.hid ((HW.out.trans c10).alloc (.cells #[.slice A10 0 d10, .int .i64 0] 24))
             clear hr10 c10 hT10 rYa rXa)
          | (go_at_call 11
             refine (Same18_any _ _ L L xf xf _ _ _ HY.out (HRL.out.keep HW.out (fun _ _ f => f)) hmax).mono ?_
             rw [show decide (xf = xf ∧ L = L) = true from decide_eq_true ⟨rfl, rfl⟩]
             rintro e w11 ⟨rfl, c11⟩
             have HW := Lib.hid (HW.out.trans c11)
             clear c11 x0 x1 y0 y1)
          | (go_at_call 9
             refine (ImgDecode_any _ b _ (HBS.out.keep HW.out (fun _ _ f => f)) (by rw [HBN.out]; omega) (HTB.out.keep HW.out)).mono ?_
             rw [HDB.out.1, HDB.out.2.1, HDB.out.2.2]
             rintro e wb ⟨vb, rfl, lvb, Tb, rfl, hTb, hrb, cb⟩
             obtain ⟨Ab, db, rfl⟩ := hrb.form hTb
             have HTT := Lib.hid (And.intro hTb (And.intro (hrb.more (S' := fun _ => True) fun _ _ _ => trivial) cb))
             have HW := Lib.hid (HW.out.trans cb)
             clear hrb cb hTb)
          | (go_at_call 8
             refine (ImgEncode_any _ Tb fb fb64 _ (HTT.out.2.1.keep ((Chg.refl No _).alloc _) (fun _ _ f => f)) (by have e := congrArg List.length HTT.out.1; rw [List.length_map] at e; omega) (HTB.out.keep (HW.out.alloc _))).mono ?_
             rw [HTT.out.1, HEB.out.1, HEB.out.2]
             rintro e w12 ⟨v12, rfl, u12, rfl, hob12, c12⟩
             obtain ⟨A12, d12, rfl⟩ : ∃ A c, u12 = .slice A bn c := by have := hob12.form; rwa [HBN.out] at this
             have HS12 := Lib.hid (hob12.bytes HBS.out.2)
             have HW := Lib.hid ((HW.out.alloc _).trans c12)
             clear hob12 c12)
          | (go_at_call 12
             refine (Same00_any _ _ b b _ _ _ HS12.out (HBS.out.keep HW.out (fun _ _ f => f))).mono ?_
             rw [show decide (b = b) = true from decide_eq_true rfl]
             rintro e w13 ⟨rfl, c13⟩
             have HW := Lib.hid (HW.out.trans c13)
             clear c13)
          | (go_at_call 7
             refine (known18_any _ (HTB.out.keep (by first | exact HW.out | exact HW.out.alloc _))).mono ?_
             rintro e w9 ⟨rfl, c9⟩
             have HW9 := Lib.hid (show Chg No W1 w9 from by first | exact HW.out.trans c9 | exact (HW.out.alloc _).trans c9)
             clear c9)
          | fail)
        all_goals (
          go_ret
          exact ⟨rfl, HC.out.trans HW9.out⟩)
    · have te : (ep == 0) = false := by simpa using hep0
      by_cases hob : imgOkB b = true
      · obtain ⟨s1, s2⟩ := img_sound hob
        rw [hLb, hfb] at s1 s2
        have hl2 : Lb.length ≤ 2000 := (imgOk_all (encE_ok s1).1).2.1
        have HEB := Lib.hid (show encE Lb fb = 0 ∧ encV Lb fb = b from ⟨s1, by unfold encV; rw [if_pos s1]; exact s2⟩)
        obtain rfl : eb = 0 := by rw [← heb]; unfold imgDE; rw [if_pos hob]
        have HDB := Lib.hid (And.intro hLb (And.intro hfb heb))
        clear hL hep hla hn5 hB hlb hLb hfb heb hob s1 s2 hep0
        go_enter Tryd.func3, Tryd.ntmps3
        go_wp2_with (first
          | (rw [HW1.out])
          | (go_at_call 6
             refine (much_any _ _ _ _ HRL.out hmax).mono ?_
             rintro e w2 ⟨r, rfl, c2, -⟩
             have x2 := (HA.out.keep c2 (fun f => f)).cell 0
             have x2' := (HA.out.keep c2 (fun f => f)).cell 1
             simp at x2 x2'
             have HW := Lib.hid c2
             clear c2 x0 x1
             cases r)
          | (go_at_call 8
             have _t := tokE
             clear tokE
             refine (ImgEncode_max (.slice A n c) T xf xf64 _ (HR.out.keep HW.out (fun _ _ f => f)) (by rw [HN.out]; exact hm) (HTB.out.keep HW.out)).mono ?_
             rw [HE1.out.1, HE1.out.2.1]
             rintro e w5 ⟨v5, rfl, u5, rfl, hob5, c5⟩
             obtain ⟨A5, d5, rfl⟩ : ∃ A c, u5 = .slice A n5 c := by have := hob5.form; rwa [HE1.out.2.2] at this
             have HP := Lib.hid ((hob5.bytes HBD.out).more (S' := fun _ => True) (fun _ _ _ => trivial))
             obtain ⟨hd5, hm5⟩ : n5 ≤ d5 ∧ d5 ≤ 9223372036854775807 := by
               obtain ⟨A, c, e, e2, e3, -⟩ := HP.out.form
               obtain ⟨-, -, rfl⟩ := Value.slice.inj e
               rw [HE1.out.2.2] at e2
               exact ⟨e2, by unfold maxLen at e3; simp at e3; omega⟩
             have HW := Lib.hid (HW.out.trans c5)
             clear hob5 c5 x2 x2')
          | (go_at_call 9
             have _t := tok1
             clear tok1
             refine (ImgDecode_any _ la _ HP.out (by rw [HE1.out.2.2]; omega) (HTB.out.keep HW.out)).mono ?_
             rw [HDL.out.1, HDL.out.2.1, HDL.out.2.2]
             rintro e w6 ⟨v6, rfl, lv6, T6, rfl, hT6, hr6, c6⟩
             obtain ⟨A6, d6, rfl⟩ := hr6.form hT6
             have HY := Lib.hid (show RefL w6 (fun b => w5.heap.size ≤ b) _ L by rw [← hT6]; exact hr6.toL)
             have rY := Row.new w6 24 #[.slice A6 L.length d6, .int .i64 xf]
             have H6 := Lib.hid (And.intro c6 rY)
             have lk : (kk : Int) ≤ (d5 : Int) := by omega
             have HW := Lib.hid (HW.out.trans c6)
             clear hr6 c6 hT6 rY)
          | (go_at_call 9
             have _t := tok2
             clear tok2
             have cA := H6.out.1.alloc (.cells #[.slice A6 L.length d6, .int .i64 xf] 24)
             refine (ImgDecode_any _ (la.take kk) _ ((HP.out.take kk (by rw [HE1.out.2.2]; omega)).keep cA (fun _ _ f => f)) (by rw [List.length_take, HE1.out.2.2]; omega) (HTB.out.keep (HW.out.alloc _))).mono ?_
             rw [HDK.out.1, HDK.out.2.1, HDK.out.2.2]
             rintro e w7 ⟨v7, rfl, lv7, T7, rfl, hT7, hr7, c7⟩
             obtain ⟨A7, d7, rfl⟩ := hr7.form hT7
             rw [List.length_nil]
             have HW := Lib.hid ((HW.out.alloc _).trans c7)
             have H7 := Lib.hid (And.intro (cA.trans c7) (H6.out.2.keep c7 (fun f => f)))
             have HY := Lib.hid (HY.out.keep (((Chg.refl No _).alloc _).trans c7) (fun _ _ f => f))
             clear hr7 c7 hT7 cA)
          | (go_at_call 10
             have cA : Chg No w7 (w7.alloc (.cells #[.slice A7 0 d7, .int .i64 0] 24)) := (Chg.refl _ _).alloc _
             refine (Copy00_any _ la _ _ (HP.out.keep (H7.out.1.trans cA) (fun _ _ f => f)) (by rw [HE1.out.2.2]; omega)).mono ?_
             rintro e w8 ⟨u8, rfl, hob8, c8⟩
             obtain ⟨A8, d8, rfl⟩ : ∃ A c, u8 = .slice A n5 c := by have := hob8.form; rwa [HE1.out.2.2] at this
             have c78 := cA.trans c8
             obtain ⟨v9, w9, hr9, ho9, hg9⟩ := run_app elem_u8 (by decide) (own_keep (F := No) hob8 ((Chg.refl _ _).alloc (.cells #[.int .u8 more] 5)) (fun _ _ f => f))
               (Slc.row (S := fun _ => True) (Row.new w8 5 #[.int .u8 more]) 1 1 rfl (by unfold maxLen; omega) trivial) (by simp [Value.oneCell']) (by rw [HE1.out.2.2]; unfold maxLen; omega) (by rw [HE1.out.2.2]; omega) (by have := c8.size; simp at this ⊢; omega) 25
             have ho9' : OwnB w9 (w7.alloc (.cells #[.slice A7 0 d7, .int .i64 0] 24)).heap.size v9 (la ++ [more]) := by
               unfold OwnB
               rw [List.length_append, List.map_append]
               exact ho9
             obtain ⟨A9, d9, rfl⟩ : ∃ A c, v9 = .slice A (n5 + 1) c := by have := ho9'.form; rwa [List.length_append, HE1.out.2.2] at this
             have c9 : Chg No w7 w9 := Chg.then c78 (((Chg.refl _ _).alloc _).grown hg9 (fun k hk => .inl hk)) (fun k hk e => by have := own_ge hob8 e; simp at this; omega)
             have HW := Lib.hid (HW.out.trans c9)
             have HQ := Lib.hid ((ho9'.bytes HBM.out).more (S' := fun _ => True) (fun _ _ _ => trivial))
             have H9 := Lib.hid (H7.out.2.keep c9 (fun f => f))
             have HY := Lib.hid (HY.out.keep c9 (fun _ _ f => f))
             have HR9 := Lib.hid hr9
             clear hob8 c8 c78 cA hr9 ho9 ho9' hg9 c9)
            | (at_builtin; refine wpList_append_run rfl _ _ _ rfl rfl rfl HR9.out ?_)
          | (go_at_call 9
             have _t := tok3
             clear tok3
             refine (ImgDecode_any _ (la ++ [more]) _ HQ.out (by rw [List.length_append, HE1.out.2.2]; simp; omega) (HTB.out.keep HW.out)).mono ?_
             rw [HDM.out.1, HDM.out.2.1, HDM.out.2.2]
             rintro e w10 ⟨v10, rfl, lv10, T10, rfl, hT10, hr10, c10⟩
             obtain ⟨A10, d10, rfl⟩ := hr10.form hT10
             rw [List.length_nil]
             have rYa := ((H9.out.keep c10 (fun f => f)).alloc (.cells #[.slice A10 0 d10, .int .i64 0] 24))
             have rXa := ((HA.out.keep (HW.out.trans c10) (fun f => f)).alloc (.cells #[.slice A10 0 d10, .int .i64 0] 24))
             have y0 := rYa.cell 0
             have y1 := rYa.cell 1
             have x0 := rXa.cell 0
             have x1 := rXa.cell 1
             simp at y0 y1 x0 x1
             have HY := Lib.hid (HY.out.keep (c10.alloc (.cells #[.slice A10 0 d10, .int .i64 0] 24)) (fun _ _ f => f))
             have HW := Lib.hid ((HW.out.trans c10).alloc (.cells #[.slice A10 0 d10, .int .i64 0] 24))
             clear hr10 c10 hT10 rYa rXa)
          | (go_at_call 11
             refine (Same18_any _ _ L L xf xf _ _ _ HY.out (HRL.out.keep HW.out (fun _ _ f => f)) hmax).mono ?_
             rw [show decide (xf = xf ∧ L = L) = true from decide_eq_true ⟨rfl, rfl⟩]
             rintro e w11 ⟨rfl, c11⟩
             have HW := Lib.hid (HW.out.trans c11)
             clear c11 x0 x1 y0 y1)
          | (go_at_call 9
             refine (ImgDecode_any _ b _ (HBS.out.keep HW.out (fun _ _ f => f)) (by rw [HBN.out]; omega) (HTB.out.keep HW.out)).mono ?_
             rw [HDB.out.1, HDB.out.2.1, HDB.out.2.2]
             rintro e wb ⟨vb, rfl, lvb, Tb, rfl, hTb, hrb, cb⟩
             obtain ⟨Ab, db, rfl⟩ := hrb.form hTb
             have HTT := Lib.hid (And.intro hTb (And.intro (hrb.more (S' := fun _ => True) fun _ _ _ => trivial) cb))
             have HW := Lib.hid (HW.out.trans cb)
             clear hrb cb hTb)
          | (go_at_call 8
             refine (ImgEncode_any _ Tb fb fb64 _ (HTT.out.2.1.keep ((Chg.refl No _).alloc _) (fun _ _ f => f)) (by have e := congrArg List.length HTT.out.1; rw [List.length_map] at e; omega) (HTB.out.keep (HW.out.alloc _))).mono ?_
             rw [HTT.out.1, HEB.out.1, HEB.out.2]
             rintro e w12 ⟨v12, rfl, u12, rfl, hob12, c12⟩
             obtain ⟨A12, d12, rfl⟩ : ∃ A c, u12 = .slice A bn c := by have := hob12.form; rwa [HBN.out] at this
             have HS12 := Lib.hid (hob12.bytes HBS.out.2)
             have HW := Lib.hid ((HW.out.alloc _).trans c12)
             clear hob12 c12)
          | (go_at_call 12
             refine (Same00_any _ _ b b _ _ _ HS12.out (HBS.out.keep HW.out (fun _ _ f => f))).mono ?_
             rw [show decide (b = b) = true from decide_eq_true rfl]
             rintro e w13 ⟨rfl, c13⟩
             have HW := Lib.hid (HW.out.trans c13)
             clear c13)
          | (go_at_call 7
             refine (known18_any _ (HTB.out.keep (by first | exact HW.out | exact HW.out.alloc _))).mono ?_
             rintro e w9 ⟨rfl, c9⟩
             have HW9 := Lib.hid (show Chg No W1 w9 from by first | exact HW.out.trans c9 | exact (HW.out.alloc _).trans c9)
             clear c9)
          | fail)
        all_goals (
          go_ret
          exact ⟨rfl, HC.out.trans HW9.out⟩)
      · have hob' : imgOkB b = false := by simpa using hob
        obtain ⟨e1, e2, e3⟩ := img_no hob'
        obtain rfl : Lb = [] := by rw [← hLb, e1]
        obtain rfl : fb = 0 := by rw [← hfb, e2]
        obtain rfl : eb = 180 := by rw [← heb, e3]
        have HDB := Lib.hid (And.intro hLb (And.intro hfb heb))
        clear hL hep hla hn5 hB hlb hLb hfb heb hob hob' e1 e2 e3 hep0
        go_enter Tryd.func3, Tryd.ntmps3
        go_wp2_with (first
          | (rw [HW1.out])
          | (go_at_call 6
             refine (much_any _ _ _ _ HRL.out hmax).mono ?_
             rintro e w2 ⟨r, rfl, c2, -⟩
             have x2 := (HA.out.keep c2 (fun f => f)).cell 0
             have x2' := (HA.out.keep c2 (fun f => f)).cell 1
             simp at x2 x2'
             have HW := Lib.hid c2
             clear c2 x0 x1
             cases r)
          | (go_at_call 8
             have _t := tokE
             clear tokE
             refine (ImgEncode_max (.slice A n c) T xf xf64 _ (HR.out.keep HW.out (fun _ _ f => f)) (by rw [HN.out]; exact hm) (HTB.out.keep HW.out)).mono ?_
             rw [HE1.out.1, HE1.out.2.1]
             rintro e w5 ⟨v5, rfl, u5, rfl, hob5, c5⟩
             obtain ⟨A5, d5, rfl⟩ : ∃ A c, u5 = .slice A n5 c := by have := hob5.form; rwa [HE1.out.2.2] at this
             have HP := Lib.hid ((hob5.bytes HBD.out).more (S' := fun _ => True) (fun _ _ _ => trivial))
             obtain ⟨hd5, hm5⟩ : n5 ≤ d5 ∧ d5 ≤ 9223372036854775807 := by
               obtain ⟨A, c, e, e2, e3, -⟩ := HP.out.form
               obtain ⟨-, -, rfl⟩ := Value.slice.inj e
               rw [HE1.out.2.2] at e2
               exact ⟨e2, by unfold maxLen at e3; simp at e3; omega⟩
             have HW := Lib.hid (HW.out.trans c5)
             clear hob5 c5 x2 x2')
          | (go_at_call 9
             have _t := tok1
             clear tok1
             refine (ImgDecode_any _ la _ HP.out (by rw [HE1.out.2.2]; omega) (HTB.out.keep HW.out)).mono ?_
             rw [HDL.out.1, HDL.out.2.1, HDL.out.2.2]
             rintro e w6 ⟨v6, rfl, lv6, T6, rfl, hT6, hr6, c6⟩
             obtain ⟨A6, d6, rfl⟩ := hr6.form hT6
             have HY := Lib.hid (show RefL w6 (fun b => w5.heap.size ≤ b) _ L by rw [← hT6]; exact hr6.toL)
             have rY := Row.new w6 24 #[.slice A6 L.length d6, .int .i64 xf]
             have H6 := Lib.hid (And.intro c6 rY)
             have lk : (kk : Int) ≤ (d5 : Int) := by omega
             have HW := Lib.hid (HW.out.trans c6)
             clear hr6 c6 hT6 rY)
          | (go_at_call 9
             have _t := tok2
             clear tok2
             have cA := H6.out.1.alloc (.cells #[.slice A6 L.length d6, .int .i64 xf] 24)
             refine (ImgDecode_any _ (la.take kk) _ ((HP.out.take kk (by rw [HE1.out.2.2]; omega)).keep cA (fun _ _ f => f)) (by rw [List.length_take, HE1.out.2.2]; omega) (HTB.out.keep (HW.out.alloc _))).mono ?_
             rw [HDK.out.1, HDK.out.2.1, HDK.out.2.2]
             rintro e w7 ⟨v7, rfl, lv7, T7, rfl, hT7, hr7, c7⟩
             obtain ⟨A7, d7, rfl⟩ := hr7.form hT7
             rw [List.length_nil]
             have HW := Lib.hid ((HW.out.alloc _).trans c7)
             have H7 := Lib.hid (And.intro (cA.trans c7) (H6.out.2.keep c7 (fun f => f)))
             have HY := Lib.hid (HY.out.keep (((Chg.refl No _).alloc _).trans c7) (fun _ _ f => f))
             clear hr7 c7 hT7 cA)
          | (go_at_call 10
             have cA : Chg No w7 (w7.alloc (.cells #[.slice A7 0 d7, .int .i64 0] 24)) := (Chg.refl _ _).alloc _
             refine (Copy00_any _ la _ _ (HP.out.keep (H7.out.1.trans cA) (fun _ _ f => f)) (by rw [HE1.out.2.2]; omega)).mono ?_
             rintro e w8 ⟨u8, rfl, hob8, c8⟩
             obtain ⟨A8, d8, rfl⟩ : ∃ A c, u8 = .slice A n5 c := by have := hob8.form; rwa [HE1.out.2.2] at this
             have c78 := cA.trans c8
             obtain ⟨v9, w9, hr9, ho9, hg9⟩ := run_app elem_u8 (by decide) (own_keep (F := No) hob8 ((Chg.refl _ _).alloc (.cells #[.int .u8 more] 5)) (fun _ _ f => f))
               (Slc.row (S := fun _ => True) (Row.new w8 5 #[.int .u8 more]) 1 1 rfl (by unfold maxLen; omega) trivial) (by simp [Value.oneCell']) (by rw [HE1.out.2.2]; unfold maxLen; omega) (by rw [HE1.out.2.2]; omega) (by have := c8.size; simp at this ⊢; omega) 25
             have ho9' : OwnB w9 (w7.alloc (.cells #[.slice A7 0 d7, .int .i64 0] 24)).heap.size v9 (la ++ [more]) := by
               unfold OwnB
               rw [List.length_append, List.map_append]
               exact ho9
             obtain ⟨A9, d9, rfl⟩ : ∃ A c, v9 = .slice A (n5 + 1) c := by have := ho9'.form; rwa [List.length_append, HE1.out.2.2] at this
             have c9 : Chg No w7 w9 := Chg.then c78 (((Chg.refl _ _).alloc _).grown hg9 (fun k hk => .inl hk)) (fun k hk e => by have := own_ge hob8 e; simp at this; omega)
             have HW := Lib.hid (HW.out.trans c9)
             have HQ := Lib.hid ((ho9'.bytes HBM.out).more (S' := fun _ => True) (fun _ _ _ => trivial))
             have H9 := Lib.hid (H7.out.2.keep c9 (fun f => f))
             have HY := Lib.hid (HY.out.keep c9 (fun _ _ f => f))
             have HR9 := Lib.hid hr9
             clear hob8 c8 c78 cA hr9 ho9 ho9' hg9 c9)
            | (at_builtin; refine wpList_append_run rfl _ _ _ rfl rfl rfl HR9.out ?_)
          | (go_at_call 9
             have _t := tok3
             clear tok3
             refine (ImgDecode_any _ (la ++ [more]) _ HQ.out (by rw [List.length_append, HE1.out.2.2]; simp; omega) (HTB.out.keep HW.out)).mono ?_
             rw [HDM.out.1, HDM.out.2.1, HDM.out.2.2]
             rintro e w10 ⟨v10, rfl, lv10, T10, rfl, hT10, hr10, c10⟩
             obtain ⟨A10, d10, rfl⟩ := hr10.form hT10
             rw [List.length_nil]
             have rYa := ((H9.out.keep c10 (fun f => f)).alloc (.cells #[.slice A10 0 d10, .int .i64 0] 24))
             have rXa := ((HA.out.keep (HW.out.trans c10) (fun f => f)).alloc (.cells #[.slice A10 0 d10, .int .i64 0] 24))
             have y0 := rYa.cell 0
             have y1 := rYa.cell 1
             have x0 := rXa.cell 0
             have x1 := rXa.cell 1
             simp at y0 y1 x0 x1
             have HY := Lib.hid (HY.out.keep (c10.alloc (.cells #[.slice A10 0 d10, .int .i64 0] 24)) (fun _ _ f => f))
             have HW := Lib.hid ((HW.out.trans c10).alloc (.cells #[.slice A10 0 d10, .int .i64 0] 24))
             clear hr10 c10 hT10 rYa rXa)
          | (go_at_call 11
             refine (Same18_any _ _ L L xf xf _ _ _ HY.out (HRL.out.keep HW.out (fun _ _ f => f)) hmax).mono ?_
             rw [show decide (xf = xf ∧ L = L) = true from decide_eq_true ⟨rfl, rfl⟩]
             rintro e w11 ⟨rfl, c11⟩
             have HW := Lib.hid (HW.out.trans c11)
             clear c11 x0 x1 y0 y1)
          | (go_at_call 9
             refine (ImgDecode_any _ b _ (HBS.out.keep HW.out (fun _ _ f => f)) (by rw [HBN.out]; omega) (HTB.out.keep HW.out)).mono ?_
             rw [HDB.out.1, HDB.out.2.1, HDB.out.2.2]
             rintro e wb ⟨vb, rfl, lvb, Tb, rfl, hTb, hrb, cb⟩
             obtain ⟨Ab, db, rfl⟩ := hrb.form hTb
             have HTT := Lib.hid (And.intro hTb (And.intro (hrb.more (S' := fun _ => True) fun _ _ _ => trivial) cb))
             have HW := Lib.hid (HW.out.trans cb)
             clear hrb cb hTb)
          | (go_at_call 8
             refine (ImgEncode_any _ Tb fb fb64 _ (HTT.out.2.1.keep ((Chg.refl No _).alloc _) (fun _ _ f => f)) (by have e := congrArg List.length HTT.out.1; rw [List.length_map] at e; omega) (HTB.out.keep (HW.out.alloc _))).mono ?_
             rw [HTT.out.1, HEB.out.1, HEB.out.2]
             rintro e w12 ⟨v12, rfl, u12, rfl, hob12, c12⟩
             obtain ⟨A12, d12, rfl⟩ : ∃ A c, u12 = .slice A bn c := by have := hob12.form; rwa [HBN.out] at this
             have HS12 := Lib.hid (hob12.bytes HBS.out.2)
             have HW := Lib.hid ((HW.out.alloc _).trans c12)
             clear hob12 c12)
          | (go_at_call 12
             refine (Same00_any _ _ b b _ _ _ HS12.out (HBS.out.keep HW.out (fun _ _ f => f))).mono ?_
             rw [show decide (b = b) = true from decide_eq_true rfl]
             rintro e w13 ⟨rfl, c13⟩
             have HW := Lib.hid (HW.out.trans c13)
             clear c13)
          | (go_at_call 7
             refine (known18_any _ (HTB.out.keep (by first | exact HW.out | exact HW.out.alloc _))).mono ?_
             rintro e w9 ⟨rfl, c9⟩
             have HW9 := Lib.hid (show Chg No W1 w9 from by first | exact HW.out.trans c9 | exact (HW.out.alloc _).trans c9)
             clear c9)
          | fail)
        all_goals (
          go_ret
          exact ⟨rfl, HC.out.trans HW9.out⟩)

end Go.Proofs.YtifcigjminbllaaDoor
