/- websterlaw18.ImageLoads: the walk. -/
import Derived.Test.YtncoanmgifgcbaaDoorSnapB
import Derived.Test.YtncoanmgifgcbaaDoorSnapPl
import Derived.Test.YtncoanmgifgcbaaDoorLoadI
import Derived.Test.YtncoanmgifgcbaaDoorImgT
namespace Go.Proofs.YtncoanmgifgcbaaDoor
set_option linter.unusedVariables false
set_option linter.unusedSimpArgs false
open Go.RowKit

theorem allL_in {L : List O} (h : L.length < 1073741823) {x : Int} (hx : x ∈ allL L) : In64 x := by
  unfold allL allTo at hx
  obtain ⟨i, hi, rfl⟩ := List.mem_map.1 hx
  have := List.mem_range.1 (List.mem_filter.1 hi).1
  unfold In64
  omega
theorem allL_le (L : List O) : (allL L).length ≤ L.length := by
  unfold allL allTo
  rw [List.length_map]
  exact Nat.le_trans (List.length_filter_le _ _) (by simp)
section
variable {w0 w : World} {m : Nat} {L : List O} {K : (Nat → Prop) → World → Prop}
/-- where it may be -/
theorem snap_yes (h : MemK w0 w m L K) (f : Int) (f64 : In64 f) (v2 : Value) (rs : List Int) (S : Nat → Prop) (hr : IntS w S v2 rs) (hl : rs.length ≤ 100000) (ht : Tabs w) {a : List Int} (ha : a = nearI L (numsOf ([2, 4, 6, 8, f] ++ rs))) (h4 : a.take 4 = [1, 2, 3, 4]) {L1 : List O} {f1 : Int} (hL1 : snapL L a = L1) (hf1 : snapF a f = f1) (hi : imgOk L1 f1 = true) :
    Calls Tryd.prog 13 #[.iface 27 (.pointer (some ⟨m, 0, none⟩)), .int .i64 f, v2] w fun e w' => ∃ A c T, e = .returned (.tuple #[.agg #[.slice A L1.length c, .int .i64 f1], .int .i64 0]) ∧ Chg No w w' ∧ RefT w' (fun _ => True) (.slice A L1.length c) T ∧ T.map (·.1) = L1 := by
  refine (snap_any h f f64 v2 rs S hr hl ht).mono ?_
  rintro e w' ⟨v, T, g, k, rfl, c, hT, hc⟩
  have hok : snapOk L (nearI L (numsOf (rootsI f rs))) f = true := by
    unfold snapOk rootsI
    rw [← ha, h4, hL1, hf1, hi]
    rfl
  rcases hc with ⟨-, e1, e2, e3⟩ | ⟨e1, -⟩
  · have ha' : nearI L (numsOf (rootsI f rs)) = a := by rw [ha]; rfl
    rw [ha'] at e1 e2
    rw [hL1] at e1
    rw [hf1] at e2
    subst e2 e3
    have hT2 := hT
    obtain ⟨⟨A, c', ev, -⟩, -⟩ := hT2
    have hln : T.length = L1.length := by rw [← e1, List.length_map]
    rw [hln] at ev
    subst ev
    exact ⟨A, c', T, rfl, c, hT.more (fun _ _ _ => trivial), e1⟩
  · rw [hok] at e1
    cases e1
end

set_option maxRecDepth 100000 in
set_option maxHeartbeats 2000000 in
theorem ImageLoads_any (lv : Value) (T : List T3) (f : Int) (f64 : In64 f) (w : World) (h : RefT w (fun _ => True) lv T) (hm : T.length ≤ maxLen) (ht : Tabs w) : Calls Tryd.prog 3 #[.agg #[lv, .int .i64 f]] w fun e w' => e = .returned (.bool true) ∧ Chg No w w' := by
  have hmax : (T.map (·.1)).length ≤ 9223372036854775807 := by rw [List.length_map]; unfold maxLen at hm; simp at hm; omega
  obtain ⟨A, n, c, rfl⟩ : ∃ A n c, lv = .slice A n c := by
    obtain ⟨⟨A, c, e, -⟩, -⟩ := h
    exact ⟨A, _, c, e⟩
  have hTn : T.length = n := by
    obtain ⟨⟨A', c', e, -⟩, -⟩ := h
    exact (Value.slice.inj e).2.1.symm
  obtain ⟨W1, hW1⟩ : ∃ W, w.alloc (.cells #[.slice A n c, .int .i64 f] 24) = W := ⟨_, rfl⟩
  have c01 : Chg No w W1 := by rw [← hW1]; exact (Chg.refl _ _).alloc _
  have rA : Row W1 w.heap.size 24 #[.slice A n c, .int .i64 f] := by rw [← hW1]; exact Row.new w _ _
  have x0 : W1.cell? ⟨w.heap.size, 0, none⟩ = some (.slice A n c) := rA.cell 0
  have x1 : W1.cell? ⟨w.heap.size, 1, none⟩ = some (.int .i64 f) := rA.cell 1
  have HW1 := Lib.hid hW1
  have HA := Lib.hid rA
  have HC := Lib.hid c01
  have HR := Lib.hid (h.keep c01 (fun _ _ f => f))
  have HTB := Lib.hid (ht.keep c01)
  have HN := Lib.hid hTn
  have tok : True := trivial
  clear hW1 rA c01 h ht hTn
  obtain ⟨L, hL⟩ : ∃ L, T.map (·.1) = L := ⟨_, rfl⟩
  have HL := Lib.hid hL
  have hLn : L.length = n := by rw [← hL, List.length_map]; exact HN.out
  cases hi : imgOk L f with
  | false =>
    have HI := Lib.hid hi
    clear hi hL hLn
    go_enter Tryd.func3, Tryd.ntmps3
    go_wp2_with (first
      | (rw [HW1.out])
      | (go_at_call 7
         refine (much_any _ _ _ _ HR.out.toL hmax).mono ?_
         rintro e w2 ⟨r, rfl, c2, -⟩
         have x2 : w2.cell? ⟨w.heap.size, 0, none⟩ = some (.slice A n c) := (HA.out.keep c2 (fun f => f)).cell 0
         have x2' : w2.cell? ⟨w.heap.size, 1, none⟩ = some (.int .i64 f) := (HA.out.keep c2 (fun f => f)).cell 1
         have H2 := Lib.hid c2
         clear c2
         cases r)
      | (go_at_call 9
         have _t := tok
         clear tok
         refine (k_flatNew (Chg.refl No _)).mono ?_
         rintro e w3 ⟨m, rfl, g1⟩
         have c3 := H2.out.trans g1.chg
         have x3 : w3.cell? ⟨w.heap.size, 0, none⟩ = some (.slice A n c) := (HA.out.keep c3 (fun f => f)).cell 0
         have x3' : w3.cell? ⟨w.heap.size, 1, none⟩ = some (.int .i64 f) := (HA.out.keep c3 (fun f => f)).cell 1
         have H3 := Lib.hid (And.intro (g1.besideT (HR.out.keep H2.out (fun _ _ f => f))) c3)
         clear g1 c3 x2 x2')
      | (go_at_call 10
         refine (LoadI_bad H3.out.1 _ T f f64 hm (fun F v hk => hk) (HTB.out.keep H3.out.2) (by rw [HL.out]; exact HI.out)).mono ?_
         rintro e w4 ⟨rfl, g4, c4⟩
         have cc := H3.out.2.trans c4
         have x4 : w4.cell? ⟨w.heap.size, 0, none⟩ = some (.slice A n c) := (HA.out.keep cc (fun f => f)).cell 0
         have x4' : w4.cell? ⟨w.heap.size, 1, none⟩ = some (.int .i64 f) := (HA.out.keep cc (fun f => f)).cell 1
         have H4 := Lib.hid (And.intro g4 cc)
         clear g4 c4 cc x3 x3')
      | (go_at_call 11
         refine (ImgCheck_any _ T f f64 _ (HR.out.keep H4.out.2 (fun _ _ f => f)) hm (HTB.out.keep H4.out.2)).mono ?_
         rw [HL.out, show imgE L f = 180 by unfold imgE; rw [HI.out]; rfl]
         rintro e w5 ⟨rfl, c5⟩
         have H5 := Lib.hid (And.intro (H4.out.1.world c5) (H4.out.2.trans c5))
         clear c5 x4 x4')
      | (go_at_call 12
         refine (k_Made0 H5.out.1).mono ?_
         rintro e w6 ⟨rfl, rfl⟩)
      | (go_at_call 8
         first
           | (have h5 := H5
              clear H5
              refine (known18_any _ (HTB.out.keep h5.out.2)).mono ?_
              rintro e w20 ⟨rfl, c20⟩
              have H20 := Lib.hid (h5.out.2.trans c20)
              clear c20)
           | (refine (known18_any _ (HTB.out.keep H2.out)).mono ?_
              rintro e w20 ⟨rfl, c20⟩
              have H20 := Lib.hid (H2.out.trans c20)
              clear c20))
      | fail)
    · go_ret
      exact ⟨rfl, HC.out.trans H20.out⟩
    · go_ret
      exact ⟨rfl, HC.out.trans H20.out⟩
  | true =>
    have HI := Lib.hid hi
    obtain ⟨all, hall⟩ : ∃ a, a = nearI L (numsOf ([2, 4, 6, 8, f] ++ [])) := ⟨_, rfl⟩
    have hlaw := snap_law hi all hall
    obtain ⟨L1, hL1⟩ : ∃ l, snapL L all = l := ⟨_, rfl⟩
    obtain ⟨f1, hf1⟩ : ∃ l, snapF all f = l := ⟨_, rfl⟩
    rw [hL1, hf1] at hlaw
    obtain ⟨⟨p1, p2, p3⟩, hq, hr⟩ := hlaw
    obtain ⟨q1, q2, q3⟩ := hq _ rfl
    obtain ⟨r1, r2, r3⟩ := hr _ rfl
    have hg := imgOk_iff.1 p2
    have hgL := imgOk_iff.1 hi
    have f164 : In64 f1 := named64 hg.2.2.2.2.1
    have hl2000 : L.length ≤ 2000 := hgL.2.1
    have t1 : decide ((n : Int) < (L1.length : Int)) = false := decide_eq_false (by omega)
    have t2 : decide (n < L1.length) = false := decide_eq_false (by omega)
    have P1 := Lib.hid (And.intro hall (And.intro p1 (And.intro hL1 (And.intro hf1 p2))))
    have P2 := Lib.hid (And.intro q1 (And.intro q2 q3))
    have P3 := Lib.hid (And.intro r1 (And.intro r2 r3))
    have HLN := Lib.hid hLn
    generalize hn1 : L1.length = n1 at *
    have HN1 := Lib.hid hn1
    have h20 : n1 ≤ 2000 := by omega
    have hnil : ∀ W : World, IntS W (fun _ => True) (.slice none 0 0) [] := fun W => ⟨Slc.nil _ _ _, by simp⟩
    have HNIL := Lib.hid hnil
    have tok2 : True := trivial
    have tok3 : True := trivial
    have tok4 : True := trivial
    clear hi hL hall hL1 hf1 p1 p2 hq hr q1 q2 q3 r1 r2 r3 hg hgL hn1 hnil
    have hLn' := HLN.out
    clear hLn
    go_enter Tryd.func3, Tryd.ntmps3
    go_wp2_with (first
      | (rw [HW1.out])
      | (go_at_call 7
         refine (much_any _ _ _ _ HR.out.toL hmax).mono ?_
         rintro e w2 ⟨r, rfl, c2, -⟩
         have x2 : w2.cell? ⟨w.heap.size, 0, none⟩ = some (.slice A n c) := (HA.out.keep c2 (fun f => f)).cell 0
         have x2' : w2.cell? ⟨w.heap.size, 1, none⟩ = some (.int .i64 f) := (HA.out.keep c2 (fun f => f)).cell 1
         have H2 := Lib.hid c2
         clear c2
         cases r)
      | (go_at_call 9
         have _t := tok
         clear tok
         refine (k_flatNew (Chg.refl No _)).mono ?_
         rintro e w3 ⟨m, rfl, g1⟩
         have c3 := H2.out.trans g1.chg
         have x3 : w3.cell? ⟨w.heap.size, 0, none⟩ = some (.slice A n c) := (HA.out.keep c3 (fun f => f)).cell 0
         have x3' : w3.cell? ⟨w.heap.size, 1, none⟩ = some (.int .i64 f) := (HA.out.keep c3 (fun f => f)).cell 1
         have H3 := Lib.hid (And.intro (g1.besideT (HR.out.keep H2.out (fun _ _ f => f))) c3)
         clear g1 c3 x2 x2')
      | (go_at_call 10
         have _t := tok2
         clear tok2
         refine (LoadI_ok H3.out.1 _ T f f64 hm (fun F v hk => hk) (HTB.out.keep H3.out.2) (by rw [HL.out]; exact HI.out)).mono ?_
         rw [HL.out]
         rintro e w4 ⟨rfl, g4⟩
         have cc := H2.out.trans g4.chg
         have x4 : w4.cell? ⟨w.heap.size, 0, none⟩ = some (.slice A n c) := (HA.out.keep cc (fun f => f)).cell 0
         have x4' : w4.cell? ⟨w.heap.size, 1, none⟩ = some (.int .i64 f) := (HA.out.keep cc (fun f => f)).cell 1
         have H4 := Lib.hid (And.intro g4 cc)
         clear g4 cc x3 x3')
      | (go_at_call 11
         refine (ImgCheck_any _ T f f64 _ (HR.out.keep H4.out.2 (fun _ _ f => f)) hm (HTB.out.keep H4.out.2)).mono ?_
         rw [HL.out, show imgE L f = 0 by unfold imgE; rw [HI.out]; rfl]
         rintro e w5 ⟨rfl, c5⟩
         have cc := H4.out.2.trans c5
         have x5 : w5.cell? ⟨w.heap.size, 0, none⟩ = some (.slice A n c) := (HA.out.keep cc (fun f => f)).cell 0
         have x5' : w5.cell? ⟨w.heap.size, 1, none⟩ = some (.int .i64 f) := (HA.out.keep cc (fun f => f)).cell 1
         have H5 := Lib.hid (And.intro (H4.out.1.world c5) cc)
         clear c5 cc x4 x4')
      | (go_at_call 13
         have _t := tok3
         clear tok3
         refine (snap_yes H5.out.1 f f64 (.slice none 0 0) [] (fun _ => True) (HNIL.out _) (by simp) (HTB.out.keep H5.out.2) P1.out.1 P1.out.2.1 P1.out.2.2.1 P1.out.2.2.2.1 P1.out.2.2.2.2).mono ?_
         rw [HN1.out]
         rintro e w6 ⟨A1, d1, T1, rfl, c6, hT1, hm1⟩
         obtain ⟨W6, h6⟩ : ∃ W, w6.alloc (.cells #[.slice A1 n1 d1, .int .i64 f1] 24) = W := ⟨_, rfl⟩
         have c66 : Chg No w6 W6 := by rw [← h6]; exact (Chg.refl _ _).alloc _
         have r6 : Row W6 w6.heap.size 24 #[.slice A1 n1 d1, .int .i64 f1] := by rw [← h6]; exact Row.new w6 _ _
         have H6 := Lib.hid (And.intro (H5.out.1.world (c6.trans c66)) (And.intro (H5.out.2.trans (c6.trans c66)) (And.intro r6 (And.intro (hT1.keep c66 (fun _ _ f => f)) hm1))))
         have HW6 := Lib.hid h6
         clear c6 c66 r6 hT1 h6 hm1 x5 x5')
      | (rw [HW6.out])
      | (go_at_call 9
         refine (k_flatNew (Chg.refl No _)).mono ?_
         rintro e w7 ⟨m2, rfl, g7⟩
         have y7 : w7.cell? ⟨w6.heap.size, 0, none⟩ = some (.slice A1 n1 d1) := (H6.out.2.2.1.keep g7.chg (fun f => f)).cell 0
         have y7' : w7.cell? ⟨w6.heap.size, 1, none⟩ = some (.int .i64 f1) := (H6.out.2.2.1.keep g7.chg (fun f => f)).cell 1
         have H7 := Lib.hid (And.intro (g7.besideT H6.out.2.2.2.1) g7.chg)
         clear g7)
      | (go_at_call 10
         refine (LoadI_ok H7.out.1 _ T1 f1 f164 (by have h1 := congrArg List.length H6.out.2.2.2.2; rw [List.length_map, HN1.out] at h1; unfold maxLen; omega) (fun F v hk => hk) (HTB.out.keep (H6.out.2.1.trans H7.out.2)) (by rw [H6.out.2.2.2.2]; exact P1.out.2.2.2.2)).mono ?_
         rw [H6.out.2.2.2.2]
         rintro e w8 ⟨rfl, g8⟩
         have y8 : w8.cell? ⟨w6.heap.size, 0, none⟩ = some (.slice A1 n1 d1) := (H6.out.2.2.1.keep g8.chg (fun f => f)).cell 0
         have y8' : w8.cell? ⟨w6.heap.size, 1, none⟩ = some (.int .i64 f1) := (H6.out.2.2.1.keep g8.chg (fun f => f)).cell 1
         have H8 := Lib.hid (And.intro g8 g8.chg)
         clear g8 y7 y7')
      | (go_at_call 13
         have _t := tok4
         clear tok4
         refine (snap_yes H8.out.1 f1 f164 (.slice none 0 0) [] (fun _ => True) (HNIL.out _) (by simp) (HTB.out.keep (H6.out.2.1.trans H8.out.2)) rfl P2.out.1 P2.out.2.1 P2.out.2.2 P1.out.2.2.2.2).mono ?_
         rw [HN1.out]
         rintro e w9 ⟨A2, d2, T2, rfl, c9, hT2, hm2⟩
         obtain ⟨W9, h9⟩ : ∃ W, w9.alloc (.cells #[.slice A2 n1 d2, .int .i64 f1] 24) = W := ⟨_, rfl⟩
         have c99 : Chg No w9 W9 := by rw [← h9]; exact (Chg.refl _ _).alloc _
         have r9 : Row W9 w9.heap.size 24 #[.slice A2 n1 d2, .int .i64 f1] := by rw [← h9]; exact Row.new w9 _ _
         have cc := H8.out.2.trans (c9.trans c99)
         have H9 := Lib.hid (And.intro cc (And.intro (H6.out.2.1.trans cc) (And.intro r9 (And.intro (hT2.keep c99 (fun _ _ f => f)) hm2))))
         have HW9 := Lib.hid h9
         clear c9 c99 r9 hT2 h9 cc hm2 y8 y8')
      | (rw [HW9.out])
      | (go_at_call 8
         refine (known18_any _ (HTB.out.keep H2.out)).mono ?_
         rintro e w20 ⟨rfl, c20⟩
         have H20 := Lib.hid (H2.out.trans c20)
         clear c20)
      | fail)
    · have hall := allL_le L
      have zx : ∀ v, Chg No W9 v → v.cell? ⟨w.heap.size, 0, none⟩ = some (.slice A n c) := fun v hv => (HA.out.keep (H9.out.2.1.trans hv) (fun f => f)).cell 0
      have z60 : ∀ v, Chg No W9 v → v.cell? ⟨w6.heap.size, 0, none⟩ = some (.slice A1 n1 d1) := fun v hv => (H6.out.2.2.1.keep (H9.out.1.trans hv) (fun f => f)).cell 0
      have z61 : ∀ v, Chg No W9 v → v.cell? ⟨w6.heap.size, 1, none⟩ = some (.int .i64 f1) := fun v hv => (H6.out.2.2.1.keep (H9.out.1.trans hv) (fun f => f)).cell 1
      have z90 : ∀ v, Chg No W9 v → v.cell? ⟨w9.heap.size, 0, none⟩ = some (.slice A2 n1 d2) := fun v hv => (H9.out.2.2.1.keep hv (fun f => f)).cell 0
      have z91 : ∀ v, Chg No W9 v → v.cell? ⟨w9.heap.size, 1, none⟩ = some (.int .i64 f1) := fun v hv => (H9.out.2.2.1.keep hv (fun f => f)).cell 1
      refine q_region (C := (Chg No W9)) (by kernel_rfl) (by kernel_rfl) ?_ ?_
      · exact (Chg.refl _ _).drew
      repeat
        refine q_step (fun K hK => ?_)
        go_simp
        first
          | ((with_reducible refine hK _ ?_); clear hK K)
          | (refine (if_neg (by simp [undef])).mpr ?_; (with_reducible refine hK _ ?_); clear hK K)
          | (apply Exists.intro
             with_reducible refine ⟨fun v hv => ?_, hK _ ?_⟩
             · first
                 | with_reducible exact rfl
                 | with_reducible exact ⟨rfl, rfl⟩
                 | (go_simp
                    first
                      | done
                      | with_reducible exact rfl
                      | with_reducible exact ⟨rfl, rfl⟩
                      | (first | (go_at_call 14; refine (SameImg_any _ _ L1 L1 f1 f1 (fun _ => True) (fun _ => True) _ (by have h1 := (H6.out.2.2.2.1.keep (H9.out.1.trans hv) (fun _ _ f => f)).toL; rw [H6.out.2.2.2.2] at h1; exact h1) (by have h1 := (H9.out.2.2.2.1.keep hv (fun _ _ f => f)).toL; rw [H9.out.2.2.2.2] at h1; exact h1) (by rw [HN1.out]; omega)).mono ?_; rw [decide_eq_true (show f1 = f1 ∧ L1 = L1 from ⟨rfl, rfl⟩)]; rintro e w10 ⟨rfl, g10⟩; exact ⟨rfl, hv.trans g10⟩) | (go_at_call 12; refine (k_Made0 (H6.out.1.world (H9.out.1.trans hv))).mono ?_; rw [HLN.out]; rintro e w10 ⟨rfl, rfl⟩; exact ⟨rfl, hv⟩)))
             clear hK K)
      refine q_nil ?_
      intro V hV
      have HV := Lib.hid (And.intro hV (H9.out.2.1.trans hV))
      clear zx z60 z61 z90 z91 hV
      go_wp2_with (first
        | (go_at_call 15
           refine (k_All (H6.out.1.world (H9.out.1.trans HV.out.1))).mono ?_
           rintro e w12 ⟨v12, rfl, ho, g12, c12⟩
           obtain ⟨A12, d12, rfl⟩ := ho.form
           have cc := HV.out.2.trans c12
           have x12 : w12.cell? ⟨w.heap.size, 1, none⟩ = some (.int .i64 f) := (HA.out.keep cc (fun f => f)).cell 1
           have H12 := Lib.hid (And.intro (IntS.of_own ho (fun x hx => allL_in (by omega) hx)) (And.intro g12 cc))
           clear ho g12 c12 cc)
        | (go_at_call 13
           refine (snap_yes H12.out.2.1 f f64 _ (allL L) _ H12.out.1 (by omega) (HTB.out.keep H12.out.2.2) rfl P3.out.1 P3.out.2.1 P3.out.2.2 HI.out).mono ?_
           rw [HLN.out]
           rintro e w13 ⟨A3, d3, T3', rfl, c13, hT3, hm3⟩
           obtain ⟨W13, h13⟩ : ∃ W, w13.alloc (.cells #[.slice A3 n d3, .int .i64 f] 24) = W := ⟨_, rfl⟩
           have c133 : Chg No w13 W13 := by rw [← h13]; exact (Chg.refl _ _).alloc _
           have r13 : Row W13 w13.heap.size 24 #[.slice A3 n d3, .int .i64 f] := by rw [← h13]; exact Row.new w13 _ _
           have cc := H12.out.2.2.trans (c13.trans c133)
           have s0 : W13.cell? ⟨w13.heap.size, 0, none⟩ = some (.slice A3 n d3) := r13.cell 0
           have s1 : W13.cell? ⟨w13.heap.size, 1, none⟩ = some (.int .i64 f) := r13.cell 1
           have s2 : W13.cell? ⟨w.heap.size, 0, none⟩ = some (.slice A n c) := (HA.out.keep cc (fun f => f)).cell 0
           have s3 : W13.cell? ⟨w.heap.size, 1, none⟩ = some (.int .i64 f) := (HA.out.keep cc (fun f => f)).cell 1
           have H13 := Lib.hid (And.intro (hT3.keep c133 (fun _ _ f => f)) (And.intro hm3 cc))
           have HW13 := Lib.hid h13
           clear c13 c133 r13 hT3 h13 cc hm3 x12)
        | (rw [HW13.out])
        | (go_at_call 16
           refine (Same18_any _ _ L L f f (fun _ => True) (fun _ => True) _ (by have h1 := H13.out.1.toL; rw [H13.out.2.1] at h1; exact h1) (by have h1 := (HR.out.keep H13.out.2.2 (fun _ _ f => f)).toL; rw [HL.out] at h1; exact h1) (by omega)).mono ?_
           rw [decide_eq_true (show f = f ∧ L = L from ⟨rfl, rfl⟩)]
           rintro e w14 ⟨rfl, c14⟩
           have H14 := Lib.hid (H13.out.2.2.trans c14)
           clear c14)
        | (go_at_call 8
           refine (known18_any _ (HTB.out.keep H14.out)).mono ?_
           rintro e w20 ⟨rfl, c20⟩
           have H20 := Lib.hid (H14.out.trans c20)
           clear c20)
        | fail)
      go_ret
      exact ⟨rfl, HC.out.trans H20.out⟩
    · go_ret
      exact ⟨rfl, HC.out.trans H20.out⟩

end Go.Proofs.YtncoanmgifgcbaaDoor
