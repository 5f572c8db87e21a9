/- websterlaw18.ImageFrames: the walk. -/
import Derived.Test.YtifcigjminbllaaDoorImgPl
import Derived.Test.YtifcigjminbllaaDoorSameP
namespace Go.Proofs.YtifcigjminbllaaDoor
set_option linter.unusedVariables false
set_option linter.unusedSimpArgs false
open Go.RowKit

/-- is a word the name of one of n? -/
def frameB (f : Int) (n : Nat) : Bool := decide (2 ≤ f) && (decide (f % 2 = 0) && decide (f ≤ 2 * (n : Int)))
theorem imgOk_frame {L : List O} {xf f : Int} (h : imgOk L xf = true) : imgOk L f = frameB f L.length := by
  have h2 := (imgOk_all h).2.1
  have hr : (namedOk f && decide (namedV f ≤ L.length)) = frameB f L.length := by
    rw [Bool.eq_iff_iff]
    unfold frameB
    simp only [Bool.and_eq_true, decide_eq_true_eq]
    constructor
    · rintro ⟨a, b⟩
      obtain ⟨e1, e2, e3⟩ := namedV_of a
      unfold namedOk at a
      have := of_decide_eq_true a
      omega
    · rintro ⟨a, b, c⟩
      have hn : namedOk f = true := by unfold namedOk; exact decide_eq_true (by omega)
      obtain ⟨e1, e2, e3⟩ := namedV_of hn
      exact ⟨hn, by omega⟩
  unfold imgOk at h ⊢
  simp only [Bool.and_eq_true] at h
  obtain ⟨a1, a2, a3, a4, -, -, a7, a8⟩ := h
  rw [← hr, a1, a2, a3, a4, a7, a8]
  simp
theorem recs_le : ∀ L : List O, (L.flatMap recB).length ≤ 52 * sumI L
  | [] => by simp [sumI]
  | o :: r => by
    have h1 := recs_le r
    have h2 := encB_len o
    rw [List.flatMap_cons, List.length_append, recB_len, sumI]
    omega
theorem enc_small {L : List O} {f : Int} (h : imgOk L f = true) (hs : sumI L ≤ 200) : encE L f = 0 ∧ encV L f = encI L f := by
  have h1 := recs_le L
  have e : encE L f = 0 := by
    unfold encE
    rw [if_pos h, if_pos]
    rw [encI_eq, List.length_append, List.length_append]
    simp only [putB, List.length_cons, List.length_nil]
    omega
  exact ⟨e, by unfold encV; rw [if_pos e]⟩
theorem imgOk_fine {L : List O} {f : Int} (h : imgOk L f = true) : Fine L := by
  obtain ⟨h1, h2, -⟩ := imgOk_all h
  refine ⟨h2, fun o ho => ?_⟩
  obtain ⟨-, h3, h4, -⟩ := okB_cases (List.all_eq_true.1 h1 o ho)
  exact ⟨h3, h4⟩
theorem encI_len (L : List O) (f g : Int) : (encI L f).length = (encI L g).length := by
  rw [encI_eq, encI_eq]
  simp [putB]
theorem encI_gt {L : List O} {f : Int} (h : 4 ≤ L.length) : 8 < (encI L f).length := by
  rw [encI_eq]
  match L, h with
  | o :: _, _ =>
    rw [List.length_append, List.length_append, List.flatMap_cons, List.length_append, recB_len]
    simp [putB]
    omega
theorem encI_take (L : List O) (f g : Int) : (encI L f).take 4 = (encI L g).take 4 := by
  rw [encI_eq, encI_eq]
  simp [putB]
theorem encI_drop (L : List O) (f g : Int) : (encI L f).drop 8 = (encI L g).drop 8 := by
  rw [encI_eq, encI_eq]
  simp [putB]
theorem encI_frame {L : List O} {f g : Int} (hf : imgOk L f = true) (hg : imgOk L g = true) : decide (encI L f = encI L g) = decide (f = g) := by
  rw [decide_eq_decide]
  constructor
  · intro e
    exact (encI_inj (s := []) (t := []) hf hg (by rw [e])).2.1
  · rintro rfl
    rfl

set_option maxRecDepth 100000 in
set_option maxHeartbeats 1000000 in
theorem ImageFrames_any (lv : Value) (T : List T3) (xf : Int) (xf64 : In64 xf) (f : Int) (f64 : In64 f) (w : World) (h : RefT w (fun _ => True) lv T) (hm : T.length ≤ maxLen) (ht : Tabs w) : Calls Tryd.prog 5 #[.agg #[lv, .int .i64 xf], .int .i64 f] w fun e w' => e = .returned (.bool true) ∧ Chg No w w' := by
  have hmax : (T.map (·.1)).length ≤ 9223372036854775807 := by rw [List.length_map]; unfold maxLen at hm; simp at hm; omega
  obtain ⟨A, n, c, rfl⟩ : ∃ A n c, lv = .slice A n c := by
    obtain ⟨⟨A, c, e, -⟩, -⟩ := h
    exact ⟨A, _, c, e⟩
  obtain rfl : T.length = n := by
    obtain ⟨⟨A', c', e, -⟩, -⟩ := h
    exact (Value.slice.inj e).2.1.symm
  generalize hn : T.length = n at *
  have HN := Lib.hid hn
  obtain ⟨L, hL⟩ : ∃ L, T.map (·.1) = L := ⟨_, rfl⟩
  have hLn : L.length = n := by rw [← hL, List.length_map, hn]
  obtain ⟨W1, hW1⟩ : ∃ W, w.alloc (.cells #[.slice A n c, .int .i64 xf] 24) = W := ⟨_, rfl⟩
  have c01 : Chg No w W1 := by rw [← hW1]; exact (Chg.refl _ _).alloc _
  have rA : Row W1 w.heap.size 24 #[.slice A n c, .int .i64 xf] := by rw [← hW1]; exact Row.new w _ _
  have x0 := rA.cell 0
  have x1 := rA.cell 1
  simp at x0 x1
  have HW1 := Lib.hid hW1
  have HA := Lib.hid rA
  have HC := Lib.hid c01
  have HR := Lib.hid (h.keep c01 (fun _ _ f => f))
  have HRL := Lib.hid (show RefL W1 (fun _ => True) (.slice A n c) L by rw [← hL]; exact (h.keep c01 (fun _ _ f => f)).toL)
  have HTB := Lib.hid (ht.keep c01)
  obtain ⟨ie, hie⟩ : ∃ x, imgE L xf = x := ⟨_, rfl⟩
  have HIE := Lib.hid (show imgE (T.map (·.1)) xf = ie by rw [hL]; exact hie)
  have HLT := Lib.hid hL
  have tok : True := trivial
  rw [hL] at hmax
  clear hW1 rA c01 h ht hn
  go_enter Tryd.func5, Tryd.ntmps5
  go_wp2_with (first
    | (rw [HW1.out])
    | (go_at_call 6
       refine (much_any _ _ _ _ HRL.out hmax).mono ?_
       rintro e w2 ⟨r, rfl, c2, hfine⟩
       have x2 := (HA.out.keep c2 (fun f => f)).cell 0
       have x2' := (HA.out.keep c2 (fun f => f)).cell 1
       simp at x2 x2'
       have H2 := Lib.hid c2
       clear c2 x0 x1
       cases r)
    | fail)
  · by_cases hok : imgOk L xf = true
    · obtain rfl : ie = 0 := by rw [← hie]; unfold imgE; rw [if_pos hok]
      have hs : sumI L ≤ 200 := by
        have := hfine (imgOk_fine hok)
        have := of_decide_eq_false this.symm
        omega
      have hn4 := (imgOk_all hok).2.2.1
      have hn2 := (imgOk_all hok).2.1
      rw [hLn] at hn4 hn2
      obtain ⟨he1, hv1⟩ := enc_small hok hs
      obtain ⟨la, hla⟩ : ∃ x, encI L xf = x := ⟨_, rfl⟩
      obtain ⟨n5, hn5⟩ : ∃ x, la.length = x := ⟨_, rfl⟩
      have h58 : 8 < n5 := by rw [← hn5, ← hla]; exact encI_gt (by omega)
      have HE1 := Lib.hid (show encE (T.map (·.1)) xf = 0 ∧ encV (T.map (·.1)) xf = la ∧ la.length = n5 from ⟨by rw [hL]; exact he1, by rw [hL, hv1, hla], hn5⟩)
      have hrt : imgOk L f = frameB f n := by rw [imgOk_frame hok, hLn]
      have w2n : IntKind.i64.wrap (2 * (n : Int)) = 2 * (n : Int) := IntWalk.i64_in _ (by omega)
      have HFR := Lib.hid hok
      have HSI := Lib.hid hs
      have HLA := Lib.hid hla
      have hE2 : frameB f n = false → encE (T.map (·.1)) f = 180 ∧ encV (T.map (·.1)) f = [] ∧ ([] : List Int).length = 0 := by
        intro hr
        have e : encE L f = 180 := by unfold encE; rw [hrt, hr]; rfl
        exact ⟨by rw [hL]; exact e, by rw [hL]; unfold encV; rw [e]; rfl, rfl⟩
      by_cases a1 : 2 ≤ f
      · have b1 : decide (2 ≤ f) = true := decide_eq_true a1
        by_cases a2 : f % 2 = 0
        · have b2 : (f.tmod 2 == 0) = true := by rw [Int.tmod_eq_emod_of_nonneg (by omega)]; simpa using a2
          by_cases a3 : f ≤ 2 * (n : Int)
          · have b3 : decide (f ≤ 2 * (n : Int)) = true := decide_eq_true a3
            have hr : frameB f n = true := by unfold frameB; simp [a1, a2, a3]
            rw [hr] at hrt
            obtain ⟨he2, hv2⟩ := enc_small hrt hs
            obtain ⟨lb, hlb⟩ : ∃ x, encI L f = x := ⟨_, rfl⟩
            have HE2 := Lib.hid (show encE (T.map (·.1)) f = 0 ∧ encV (T.map (·.1)) f = lb ∧ lb.length = n5 from ⟨by rw [hL]; exact he2, by rw [hL, hv2, hlb], by rw [← hlb, encI_len L f xf, hla, hn5]⟩)
            obtain ⟨q, hq⟩ : ∃ q, (xf == f) = q := ⟨_, rfl⟩
            have hqd : decide (xf = f) = q := by rw [← hq]; rfl
            have HPL := Lib.hid (show la.take 4 = lb.take 4 ∧ la.drop 8 = lb.drop 8 ∧ decide (la = lb) = q ∧ decide (xf = f ∧ L = L) = q from
              ⟨by rw [← hla, ← hlb]; exact encI_take L xf f, by rw [← hla, ← hlb]; exact encI_drop L xf f, by rw [← hla, ← hlb, encI_frame hok hrt]; exact hqd, by rw [← hqd]; simp⟩)
            have HBD := Lib.hid (show (∀ x ∈ la, 0 ≤ x ∧ x ≤ 255) ∧ ∀ x ∈ lb, 0 ≤ x ∧ x ≤ 255 from by
              have hB : ∀ o ∈ L, ∀ x ∈ o.B, 0 ≤ x ∧ x ≤ 255 := by
                intro o ho
                rw [← hL] at ho
                obtain ⟨t, ht, rfl⟩ := List.mem_map.1 ho
                exact (HR.out.2 t ht).2.1.2
              rw [← hla, ← hlb]
              exact ⟨encI_bd hB, encI_bd hB⟩)
            clear hL hLn hie hfine hok hs he1 hv1 hla hn5 hrt hE2 hr he2 hv2 hlb hqd a1 a2 a3
            go_wp2_with (first
              | (go_at_call 13
                 refine (ImgCheck_any _ T xf xf64 _ (HR.out.keep H2.out (fun _ _ f => f)) (by rw [HN.out]; exact hm) (HTB.out.keep H2.out)).mono ?_
                 rw [HIE.out]
                 rintro e w3 ⟨rfl, c3⟩
                 have x3 := (HA.out.keep (H2.out.trans c3) (fun f => f)).cell 0
                 have x3' := (HA.out.keep (H2.out.trans c3) (fun f => f)).cell 1
                 have x3a := ((HA.out.keep (H2.out.trans c3) (fun f => f)).alloc (.cells #[.slice A n c, .int .i64 f] 24)).cell 0
                 have x3a' := ((HA.out.keep (H2.out.trans c3) (fun f => f)).alloc (.cells #[.slice A n c, .int .i64 f] 24)).cell 1
                 simp at x3 x3' x3a x3a'
                 have H3 := Lib.hid (H2.out.trans c3)
                 clear c3 x2 x2')
              | (go_at_call 8
                 have _t := tok
                 clear tok
                 have cA := H3.out.alloc (.cells #[.slice A n c, .int .i64 f] 24)
                 refine (ImgEncode_any (.slice A n c) T xf xf64 _ (HR.out.keep cA (fun _ _ f => f)) (by rw [HN.out]; omega) (HTB.out.keep cA)).mono ?_
                 rw [HE1.out.1, HE1.out.2.1]
                 rintro e w5 ⟨v5, rfl, u5, rfl, hob5, c5⟩
                 obtain ⟨A5, d5, rfl⟩ : ∃ A c, u5 = .slice A n5 c := by have := hob5.form; rwa [HE1.out.2.2] at this
                 have rY := (Row.new w3 24 #[.slice A n c, .int .i64 f]).keep c5 (fun f => f)
                 have x5 := (HA.out.keep (cA.trans c5) (fun f => f)).cell 0
                 have x5' := (HA.out.keep (cA.trans c5) (fun f => f)).cell 1
                 have y5 := rY.cell 0
                 have y5' := rY.cell 1
                 simp at x5 x5' y5 y5'
                 have H5 := Lib.hid (And.intro hob5 (And.intro (cA.trans c5) rY))
                 clear hob5 c5 cA rY x3 x3' x3a x3a')
              | (go_at_call 8
                 refine (ImgEncode_any (.slice A n c) T f f64 _ (HR.out.keep H5.out.2.1 (fun _ _ f => f)) (by rw [HN.out]; omega) (HTB.out.keep H5.out.2.1)).mono ?_
                 rw [HE2.out.1, HE2.out.2.1]
                 rintro e w6 ⟨v6, rfl, u6, rfl, hob6, c6⟩
                 obtain ⟨A6, d6, rfl⟩ : ∃ A c, u6 = .slice A n5 c := by have := hob6.form; rwa [HE2.out.2.2] at this
                 have H6 := Lib.hid (And.intro hob6 (And.intro (H5.out.2.1.trans c6) (And.intro (H5.out.2.2.keep c6 (fun f => f)) c6)))
                 clear hob6 c6 x5 x5' y5 y5')
              | fail)
            have hA5 := (H5.out.1.bytes HBD.out.1).more (S' := fun _ => True) (fun _ _ _ => trivial)
            have hA6 := (H6.out.1.bytes HBD.out.2).more (S' := fun _ => True) (fun _ _ _ => trivial)
            have hA5' := hA5.keep H6.out.2.2.2 (fun _ _ g => g)
            obtain ⟨b5, o5, rfl⟩ := hA5'.some (by rw [HE1.out.2.2]; omega)
            obtain ⟨b6, o6, rfl⟩ := hA6.some (by rw [HE2.out.2.2]; omega)
            obtain ⟨hd5, hm5⟩ : n5 ≤ d5 ∧ d5 ≤ 9223372036854775807 := by
              obtain ⟨A, c, e, e2, e3, -⟩ := hA5'.form
              obtain ⟨-, -, rfl⟩ := Value.slice.inj e
              rw [HE1.out.2.2] at e2
              exact ⟨e2, by unfold maxLen at e3; simp at e3; omega⟩
            obtain ⟨hd6, hm6⟩ : n5 ≤ d6 ∧ d6 ≤ 9223372036854775807 := by
              obtain ⟨A, c, e, e2, e3, -⟩ := hA6.form
              obtain ⟨-, -, rfl⟩ := Value.slice.inj e
              rw [HE2.out.2.2] at e2
              exact ⟨e2, by unfold maxLen at e3; simp at e3; omega⟩
            have K1 := Lib.hid (And.intro (hA5'.take 4 (by rw [HE1.out.2.2]; omega)) (hA6.take 4 (by rw [HE2.out.2.2]; omega)))
            have K2 := Lib.hid (And.intro (hA5'.drop 8 (by rw [HE1.out.2.2]; omega)) (hA6.drop 8 (by rw [HE2.out.2.2]; omega)))
            have K3 := Lib.hid (And.intro hA5' hA6)
            have u0 : ∀ v, Chg No w6 v → v.cell? ⟨w.heap.size, 0, none⟩ = some (.slice A n c) := fun v hv => by
              have := ((HA.out.keep H6.out.2.1 (fun f => f)).keep hv (fun f => f)).cell 0
              simpa using this
            have u1 : ∀ v, Chg No w6 v → v.cell? ⟨w.heap.size, 1, none⟩ = some (.int .i64 xf) := fun v hv => by
              have := ((HA.out.keep H6.out.2.1 (fun f => f)).keep hv (fun f => f)).cell 1
              simpa using this
            have y0 : ∀ v, Chg No w6 v → v.cell? ⟨w3.heap.size, 0, none⟩ = some (.slice A n c) := fun v hv => by
              have := (H6.out.2.2.1.keep hv (fun f => f)).cell 0
              simpa using this
            have y1 : ∀ v, Chg No w6 v → v.cell? ⟨w3.heap.size, 1, none⟩ = some (.int .i64 f) := fun v hv => by
              have := (H6.out.2.2.1.keep hv (fun f => f)).cell 1
              simpa using this
            have tn : ((n5 : Int) == (n5 : Int)) = true := by simp
            have t8 : decide (8 < (n5 : Int)) = true := decide_eq_true (by omega)
            have nd5 : ¬ d5 = 8 := by omega
            have nd6 : ¬ d6 = 8 := by omega
            have l4 : 4 ≤ n5 := by omega
            have l8 : 8 ≤ n5 := by omega
            have i45 : (4 : Int) ≤ (d5 : Int) := by omega
            have i46 : (4 : Int) ≤ (d6 : Int) := by omega
            have i8 : (8 : Int) ≤ (n5 : Int) := by omega
            have HPT := Lib.hid (show decide (la.take 4 = lb.take 4) = true ∧ decide (la.drop 8 = lb.drop 8) = true from ⟨decide_eq_true HPL.out.1, decide_eq_true HPL.out.2.1⟩)
            have HMX := Lib.hid hmax
            have HPQ := Lib.hid (show decide (xf = f ∧ L = L) = q by rw [← hq]; simp [BEq.beq])
            clear hA5 hA6 hA5' hm hn4 hn2 hmax
            refine q_region (C := (Chg No w6)) (by kernel_rfl) (by kernel_rfl) ?_ ?_
            · exact (Chg.refl _ _).drew
            repeat
              refine q_step (fun K hK => ?_)
              go_simp
              first
                | ((with_reducible refine hK _ ?_); clear hK K)
                | (refine (if_neg (by simp [undef])).mpr ?_; (with_reducible refine hK _ ?_); clear hK K)
                | (apply Exists.intro
                   with_reducible refine ⟨fun v hv => ?_, hK _ ?_⟩
                   · first
                       | with_reducible exact rfl
                       | with_reducible exact ⟨rfl, rfl⟩
                       | (go_simp
                          first
                            | done
                            | with_reducible exact rfl
                            | with_reducible exact ⟨rfl, rfl⟩
                            | (first | (go_at_call 12; (with_reducible refine (Same00_any _ _ (la.take 4) (lb.take 4) _ _ _ (K1.out.1.keep hv (fun _ _ f => f)) (K1.out.2.keep hv (fun _ _ f => f))).mono ?_); rw [HPT.out.1]; rintro e w7 ⟨rfl, g7⟩; exact ⟨rfl, hv.trans g7⟩) | (go_at_call 12; (with_reducible refine (Same00_any _ _ (la.drop 8) (lb.drop 8) _ _ _ (K2.out.1.keep hv (fun _ _ f => f)) (K2.out.2.keep hv (fun _ _ f => f))).mono ?_); rw [HPT.out.2]; rintro e w7 ⟨rfl, g7⟩; exact ⟨rfl, hv.trans g7⟩) | (go_at_call 12; (with_reducible refine (Same00_any _ _ la lb _ _ _ (K3.out.1.keep hv (fun _ _ f => f)) (K3.out.2.keep hv (fun _ _ f => f))).mono ?_); rw [HPL.out.2.2.1]; rintro e w7 ⟨rfl, g7⟩; exact ⟨rfl, hv.trans g7⟩) | (go_at_call 15; refine (SameImg_any _ _ L L xf f _ _ _ (HRL.out.keep (H6.out.2.1.trans hv) (fun _ _ f => f)) (HRL.out.keep (H6.out.2.1.trans hv) (fun _ _ f => f)) HMX.out).mono ?_; rw [HPQ.out]; rintro e w7 ⟨rfl, g7⟩; exact ⟨rfl, hv.trans g7⟩) | (go_at_call 7; refine (known18_any _ (HTB.out.keep (H6.out.2.1.trans hv))).mono ?_; rintro e w7 ⟨rfl, g7⟩; exact ⟨rfl, hv.trans g7⟩)))
                   clear hK K)
            refine q_nil ?_
            intro V hV
            go_wp2_with fail
            go_ret
            exact ⟨rfl, HC.out.trans (H6.out.2.1.trans hV)⟩
          · have b3 : decide (f ≤ 2 * (n : Int)) = false := decide_eq_false a3
            have HE2 := Lib.hid (hE2 (by unfold frameB; simp [a3]))
            clear hL hLn hie hfine hok hs he1 hv1 hla hn5 hrt hE2 a1 a2 a3
            go_wp2_with (first
              | (go_at_call 13
                 refine (ImgCheck_any _ T xf xf64 _ (HR.out.keep H2.out (fun _ _ f => f)) (by rw [HN.out]; exact hm) (HTB.out.keep H2.out)).mono ?_
                 rw [HIE.out]
                 rintro e w3 ⟨rfl, c3⟩
                 have x3 := (HA.out.keep (H2.out.trans c3) (fun f => f)).cell 0
                 have x3' := (HA.out.keep (H2.out.trans c3) (fun f => f)).cell 1
                 have x3a := ((HA.out.keep (H2.out.trans c3) (fun f => f)).alloc (.cells #[.slice A n c, .int .i64 f] 24)).cell 0
                 have x3a' := ((HA.out.keep (H2.out.trans c3) (fun f => f)).alloc (.cells #[.slice A n c, .int .i64 f] 24)).cell 1
                 simp at x3 x3' x3a x3a'
                 have H3 := Lib.hid (H2.out.trans c3)
                 clear c3 x2 x2')
              | (go_at_call 8
                 have _t := tok
                 clear tok
                 have cA := H3.out.alloc (.cells #[.slice A n c, .int .i64 f] 24)
                 refine (ImgEncode_any (.slice A n c) T xf xf64 _ (HR.out.keep cA (fun _ _ f => f)) (by rw [HN.out]; omega) (HTB.out.keep cA)).mono ?_
                 rw [HE1.out.1, HE1.out.2.1]
                 rintro e w5 ⟨v5, rfl, u5, rfl, hob5, c5⟩
                 obtain ⟨A5, d5, rfl⟩ : ∃ A c, u5 = .slice A n5 c := by have := hob5.form; rwa [HE1.out.2.2] at this
                 have rY := (Row.new w3 24 #[.slice A n c, .int .i64 f]).keep c5 (fun f => f)
                 have x5 := (HA.out.keep (cA.trans c5) (fun f => f)).cell 0
                 have x5' := (HA.out.keep (cA.trans c5) (fun f => f)).cell 1
                 have y5 := rY.cell 0
                 have y5' := rY.cell 1
                 simp at x5 x5' y5 y5'
                 have H5 := Lib.hid (And.intro hob5 (And.intro (cA.trans c5) rY))
                 clear hob5 c5 cA rY x3 x3' x3a x3a')
              | (go_at_call 8
                 refine (ImgEncode_any (.slice A n c) T f f64 _ (HR.out.keep H5.out.2.1 (fun _ _ f => f)) (by rw [HN.out]; omega) (HTB.out.keep H5.out.2.1)).mono ?_
                 rw [HE2.out.1, HE2.out.2.1]
                 rintro e w6 ⟨v6, rfl, u6, rfl, hob6, c6⟩
                 obtain ⟨A6, d6, rfl⟩ : ∃ A c, u6 = .slice A 0 c := by have := hob6.form; rwa [HE2.out.2.2] at this
                 have H6 := Lib.hid (And.intro hob6 (And.intro (H5.out.2.1.trans c6) (And.intro (H5.out.2.2.keep c6 (fun f => f)) c6)))
                 clear hob6 c6 x5 x5' y5 y5')
              | (go_at_call 7
                 refine (known18_any _ (HTB.out.keep H6.out.2.1)).mono ?_
                 rintro e w9 ⟨rfl, c9⟩)
              | fail)
            go_ret
            exact ⟨rfl, HC.out.trans (H6.out.2.1.trans c9)⟩
        · have b2 : (f.tmod 2 == 0) = false := by rw [Int.tmod_eq_emod_of_nonneg (by omega)]; simpa using a2
          have HE2 := Lib.hid (hE2 (by unfold frameB; simp [a2]))
          clear hL hLn hie hfine hok hs he1 hv1 hla hn5 hrt hE2 a1 a2
          go_wp2_with (first
            | (go_at_call 13
               refine (ImgCheck_any _ T xf xf64 _ (HR.out.keep H2.out (fun _ _ f => f)) (by rw [HN.out]; exact hm) (HTB.out.keep H2.out)).mono ?_
               rw [HIE.out]
               rintro e w3 ⟨rfl, c3⟩
               have x3 := (HA.out.keep (H2.out.trans c3) (fun f => f)).cell 0
               have x3' := (HA.out.keep (H2.out.trans c3) (fun f => f)).cell 1
               have x3a := ((HA.out.keep (H2.out.trans c3) (fun f => f)).alloc (.cells #[.slice A n c, .int .i64 f] 24)).cell 0
               have x3a' := ((HA.out.keep (H2.out.trans c3) (fun f => f)).alloc (.cells #[.slice A n c, .int .i64 f] 24)).cell 1
               simp at x3 x3' x3a x3a'
               have H3 := Lib.hid (H2.out.trans c3)
               clear c3 x2 x2')
            | (go_at_call 8
               have _t := tok
               clear tok
               have cA := H3.out.alloc (.cells #[.slice A n c, .int .i64 f] 24)
               refine (ImgEncode_any (.slice A n c) T xf xf64 _ (HR.out.keep cA (fun _ _ f => f)) (by rw [HN.out]; omega) (HTB.out.keep cA)).mono ?_
               rw [HE1.out.1, HE1.out.2.1]
               rintro e w5 ⟨v5, rfl, u5, rfl, hob5, c5⟩
               obtain ⟨A5, d5, rfl⟩ : ∃ A c, u5 = .slice A n5 c := by have := hob5.form; rwa [HE1.out.2.2] at this
               have rY := (Row.new w3 24 #[.slice A n c, .int .i64 f]).keep c5 (fun f => f)
               have x5 := (HA.out.keep (cA.trans c5) (fun f => f)).cell 0
               have x5' := (HA.out.keep (cA.trans c5) (fun f => f)).cell 1
               have y5 := rY.cell 0
               have y5' := rY.cell 1
               simp at x5 x5' y5 y5'
               have H5 := Lib.hid (And.intro hob5 (And.intro (cA.trans c5) rY))
               clear hob5 c5 cA rY x3 x3' x3a x3a')
            | (go_at_call 8
               refine (ImgEncode_any (.slice A n c) T f f64 _ (HR.out.keep H5.out.2.1 (fun _ _ f => f)) (by rw [HN.out]; omega) (HTB.out.keep H5.out.2.1)).mono ?_
               rw [HE2.out.1, HE2.out.2.1]
               rintro e w6 ⟨v6, rfl, u6, rfl, hob6, c6⟩
               obtain ⟨A6, d6, rfl⟩ : ∃ A c, u6 = .slice A 0 c := by have := hob6.form; rwa [HE2.out.2.2] at this
               have H6 := Lib.hid (And.intro hob6 (And.intro (H5.out.2.1.trans c6) (And.intro (H5.out.2.2.keep c6 (fun f => f)) c6)))
               clear hob6 c6 x5 x5' y5 y5')
            | (go_at_call 7
               refine (known18_any _ (HTB.out.keep H6.out.2.1)).mono ?_
               rintro e w9 ⟨rfl, c9⟩)
            | fail)
          go_ret
          exact ⟨rfl, HC.out.trans (H6.out.2.1.trans c9)⟩
      · have b1 : decide (2 ≤ f) = false := decide_eq_false a1
        have HE2 := Lib.hid (hE2 (by unfold frameB; simp [a1]))
        clear hL hLn hie hfine hok hs he1 hv1 hla hn5 hrt hE2 a1
        go_wp2_with (first
          | (go_at_call 13
             refine (ImgCheck_any _ T xf xf64 _ (HR.out.keep H2.out (fun _ _ f => f)) (by rw [HN.out]; exact hm) (HTB.out.keep H2.out)).mono ?_
             rw [HIE.out]
             rintro e w3 ⟨rfl, c3⟩
             have x3 := (HA.out.keep (H2.out.trans c3) (fun f => f)).cell 0
             have x3' := (HA.out.keep (H2.out.trans c3) (fun f => f)).cell 1
             have x3a := ((HA.out.keep (H2.out.trans c3) (fun f => f)).alloc (.cells #[.slice A n c, .int .i64 f] 24)).cell 0
             have x3a' := ((HA.out.keep (H2.out.trans c3) (fun f => f)).alloc (.cells #[.slice A n c, .int .i64 f] 24)).cell 1
             simp at x3 x3' x3a x3a'
             have H3 := Lib.hid (H2.out.trans c3)
             clear c3 x2 x2')
          | (go_at_call 8
             have _t := tok
             clear tok
             have cA := H3.out.alloc (.cells #[.slice A n c, .int .i64 f] 24)
             refine (ImgEncode_any (.slice A n c) T xf xf64 _ (HR.out.keep cA (fun _ _ f => f)) (by rw [HN.out]; omega) (HTB.out.keep cA)).mono ?_
             rw [HE1.out.1, HE1.out.2.1]
             rintro e w5 ⟨v5, rfl, u5, rfl, hob5, c5⟩
             obtain ⟨A5, d5, rfl⟩ : ∃ A c, u5 = .slice A n5 c := by have := hob5.form; rwa [HE1.out.2.2] at this
             have rY := (Row.new w3 24 #[.slice A n c, .int .i64 f]).keep c5 (fun f => f)
             have x5 := (HA.out.keep (cA.trans c5) (fun f => f)).cell 0
             have x5' := (HA.out.keep (cA.trans c5) (fun f => f)).cell 1
             have y5 := rY.cell 0
             have y5' := rY.cell 1
             simp at x5 x5' y5 y5'
             have H5 := Lib.hid (And.intro hob5 (And.intro (cA.trans c5) rY))
             clear hob5 c5 cA rY x3 x3' x3a x3a')
          | (go_at_call 8
             refine (ImgEncode_any (.slice A n c) T f f64 _ (HR.out.keep H5.out.2.1 (fun _ _ f => f)) (by rw [HN.out]; omega) (HTB.out.keep H5.out.2.1)).mono ?_
             rw [HE2.out.1, HE2.out.2.1]
             rintro e w6 ⟨v6, rfl, u6, rfl, hob6, c6⟩
             obtain ⟨A6, d6, rfl⟩ : ∃ A c, u6 = .slice A 0 c := by have := hob6.form; rwa [HE2.out.2.2] at this
             have H6 := Lib.hid (And.intro hob6 (And.intro (H5.out.2.1.trans c6) (And.intro (H5.out.2.2.keep c6 (fun f => f)) c6)))
             clear hob6 c6 x5 x5' y5 y5')
          | (go_at_call 7
             refine (known18_any _ (HTB.out.keep H6.out.2.1)).mono ?_
             rintro e w9 ⟨rfl, c9⟩)
          | fail)
        go_ret
        exact ⟨rfl, HC.out.trans (H6.out.2.1.trans c9)⟩
    · obtain rfl : ie = 180 := by rw [← hie]; unfold imgE; rw [if_neg hok]
      clear hL hLn hie hfine hok
      go_wp2_with (first
        | (go_at_call 13
           refine (ImgCheck_any _ T xf xf64 _ (HR.out.keep H2.out (fun _ _ f => f)) (by rw [HN.out]; exact hm) (HTB.out.keep H2.out)).mono ?_
           rw [HIE.out]
           rintro e w3 ⟨rfl, c3⟩
           have x3 := (HA.out.keep (H2.out.trans c3) (fun f => f)).cell 0
           have x3' := (HA.out.keep (H2.out.trans c3) (fun f => f)).cell 1
           have x3a := ((HA.out.keep (H2.out.trans c3) (fun f => f)).alloc (.cells #[.slice A n c, .int .i64 f] 24)).cell 0
           have x3a' := ((HA.out.keep (H2.out.trans c3) (fun f => f)).alloc (.cells #[.slice A n c, .int .i64 f] 24)).cell 1
           simp at x3 x3' x3a x3a'
           have H3 := Lib.hid (H2.out.trans c3)
           clear c3 x2 x2')
        | (go_at_call 7
           refine (known18_any _ (HTB.out.keep H3.out)).mono ?_
           rintro e w9 ⟨rfl, c9⟩)
        | fail)
      go_ret
      exact ⟨rfl, HC.out.trans (H3.out.trans c9)⟩
  · clear hL hLn hie hfine
    go_wp2_with (first
      | (go_at_call 7
         refine (known18_any _ (HTB.out.keep H2.out)).mono ?_
         rintro e w9 ⟨rfl, c9⟩)
      | fail)
    go_ret
    exact ⟨rfl, HC.out.trans (H2.out.trans c9)⟩

end Go.Proofs.YtifcigjminbllaaDoor
