/- The walk of PrimPlaces, over the table. -/
import Derived.Test.YtncoanmgifgcbaaDoorPrmF
import Derived.Test.YtncoanmgifgcbaaDoorLoad
import Derived.Test.YtncoanmgifgcbaaDoorPrimLaws
namespace Go.Proofs.YtncoanmgifgcbaaDoor
set_option linter.unusedVariables false
set_option linter.unusedSimpArgs false
open Go.RowKit

theorem placesT_all (h : Nat) : ((placesT h).map (·.1)).all okB = true := by
  show (Lp).all okB = true
  decide

theorem places_kept {W w1 : World} {m hz : Nat} (rT : RefT W (fun b => b = hz ∨ b = hz + 1) (.slice (some ⟨hz + 1, 0, none⟩) 5 5) (placesT hz)) (sW : W.heap.size = hz + 2) (g0 : MemK W w1 m [] (fun _ _ => True)) :
    MemK W w1 m [] (fun F v => RefT v (fun b => ¬ F b) (.slice (some ⟨hz + 1, 0, none⟩) 5 5) (placesT hz)) := by
  have hc := g0.chg
  refine g0.now (Chg.refl _ _) fun G hG _ G' w2 h2 h3 c2 _ => ?_
  refine ((rT.keep hc (fun _ _ f => f)).keep c2 fun b hb hg => ?_).more fun b _ hb hg => ?_
  · have := (hG b hg).2; omega
  · rcases h3 b hg with h | h
    · have := (hG b h).2; omega
    · have := hc.size; omega

set_option maxRecDepth 100000 in
set_option maxHeartbeats 600000 in
theorem PrimPlaces_law (n i v : Int) (w : World) (ht : Tab w) (bn : 0 ≤ n ∧ n ≤ 255) (bi : 0 ≤ i ∧ i ≤ 255) (bv : In64 v) :
    Calls Tryd.prog 4 #[.int .u8 n, .int .u8 i, .int .i64 v] w fun e W' => e = .returned (.bool true) ∧ Below w.heap.size w W' := by
  obtain ⟨W, hW⟩ : ∃ W, (w.alloc (.cells #[.int .i64 2, .int .i64 2, .int .i64 2075] 3)).alloc (.cells #[.int .i64 2, .int .i64 1, .slice none 0 0, .slice none 0 0, .int .i64 2, .int .i64 1, .slice none 0 0, .slice none 0 0, .int .i64 2, .int .i64 1, .slice none 0 0, .slice none 0 0, .int .i64 2, .int .i64 1, .slice none 0 0, .slice none 0 0, .int .i64 2, .int .i64 1, .slice (some ⟨w.heap.size, 0, none⟩) 3 3, .slice none 0 0] 41) = W := ⟨_, rfl⟩
  obtain ⟨hz, hhz⟩ : ∃ h, w.heap.size = h := ⟨_, rfl⟩
  have cW : Chg No w W := by rw [← hW]; exact ((Chg.refl _ _).alloc _).alloc _
  have rT : RefT W (fun b => b = hz ∨ b = hz + 1) (.slice (some ⟨hz + 1, 0, none⟩) 5 5) (placesT hz) := by
    refine places_ref ?_ ?_
    · rw [← hW]; exact (Row.newAtP hhz _ _).alloc _
    · rw [← hW, hhz]; exact Row.newAtP (by simp [hhz]) _ _
  have sW : W.heap.size = hz + 2 := by rw [← hW]; simp [hhz]
  have tW := ht.chg cW
  rw [hhz] at hW ⊢
  have HW := Lib.hid hW
  have HT := Lib.hid (And.intro cW (And.intro rT (And.intro sW tW)))
  have HHZ := Lib.hid hhz
  have u1 : IntKind.i64.wrap n = n := IntWalk.i64_in _ (by omega)
  have u2 : IntKind.i64.wrap (2 * n) = 2 * n := IntWalk.i64_in _ (by omega)
  have u3 : IntKind.i64.wrap (2 * n + 1) = 2 * n + 1 := IntWalk.i64_in _ (by omega)
  have u4 : IntKind.i64.wrap i = i := IntWalk.i64_in _ (by omega)
  have u5 : IntKind.i64.wrap (2 * i) = 2 * i := IntWalk.i64_in _ (by omega)
  have u6 : IntKind.i64.wrap (2 * i + 1) = 2 * i + 1 := IntWalk.i64_in _ (by omega)
  have u7 : IntKind.i64.wrap (2 + i) = 2 + i := IntWalk.i64_in _ (by omega)
  clear hW cW rT sW tW
  have n64 := odd64 bn.1 (by omega : n ≤ 1000)
  have i64 := odd64 bi.1 (by omega : i ≤ 1000)
  have hlen : ((List.replicate (3 + n).toNat (2 : Int)).length : Int) = 3 + n := by rw [List.length_replicate]; omega
  have v1 : ((2 * n + 1 != 2 * n + 1) : Bool) = false := by simp
  have tok1 : True := trivial
  have tok2 : True := trivial
  have tok3 : True := trivial
  have tok4 : True := trivial
  cases hr : refOk v with
  | false =>
    go_enter Tryd.func4, Tryd.ntmps4
    go_wp2_with (first
      | (rw [HHZ.out])
        | (rw [HW.out])
        | (go_at_call 9
           refine (k_flatNew (Chg.refl No W)).mono ?_
           rintro e w1 ⟨m, rfl, g0⟩
           have H1 := Lib.hid (places_kept HT.out.2.1 HT.out.2.2.1 g0)
           clear g0)
        | (go_at_call 17
           refine (k_Load_ok H1.out _ (placesT hz) (by simp [placesT]) (fun F v hk => hk) (placesT_all hz)).mono ?_
           rintro e w2 ⟨rfl, g2⟩
           have g2b : MemK W w2 m Lp (fun _ _ => True) := g2.mono fun _ _ _ => trivial
           have H2 := Lib.hid g2b
           clear g2 g2b)
        | (go_at_call 18
           refine (Ref05_any v bv _).mono ?_
           rw [hr]
           rintro e w9 ⟨rfl, rfl⟩
           have HB := Lib.hid H2.out.chg)
      | (go_at_call 19
         refine (known_law _ (HT.out.2.2.2.chg HB.out)).mono ?_
         rintro e w10 ⟨rfl, hb⟩
         have HE := Lib.hid ((HT.out.1.trans (HB.out.trans (Chg.of_below hb))).below)
         clear hb)
      | fail)
    go_ret
    exact ⟨rfl, HHZ.out ▸ HE.out⟩
  | true =>
    by_cases hin : 1 ≤ i ∧ i ≤ n
    · have t1 : decide (1 ≤ i) = true := decide_eq_true hin.1
      have t2 : decide (i ≤ n) = true := decide_eq_true hin.2
      go_enter Tryd.func4, Tryd.ntmps4
      go_wp2_with (first
      | (rw [HHZ.out])
        | (rw [HW.out])
        | (go_at_call 9
           refine (k_flatNew (Chg.refl No W)).mono ?_
           rintro e w1 ⟨m, rfl, g0⟩
           have H1 := Lib.hid (places_kept HT.out.2.1 HT.out.2.2.1 g0)
           clear g0)
        | (go_at_call 17
           refine (k_Load_ok H1.out _ (placesT hz) (by simp [placesT]) (fun F v hk => hk) (placesT_all hz)).mono ?_
           rintro e w2 ⟨rfl, g2⟩
           have g2b : MemK W w2 m Lp (fun _ _ => True) := g2.mono fun _ _ _ => trivial
           have H2 := Lib.hid g2b
           clear g2 g2b)
        | (go_at_call 18
           refine (Ref05_any v bv _).mono ?_
           rw [hr]
           rintro e w9 ⟨rfl, rfl⟩
           have HB := Lib.hid H2.out.chg)
      | (go_at_call 20
         have _t := tok1
         clear tok1
         refine (do_71 (H2.out.world ((Chg.refl _ _).alloc _)) HT.out.2.2.2 bn.1 bn.2 _ _ _ (IntS.row1 (Row.new w2 _ _) n64)).mono ?_
         rintro e w3 ⟨rfl, g3⟩
         have H3 := Lib.hid g3
         clear g3)
        | (go_at_call 20
           have _t := tok2
           clear tok2
           refine (do_62 H3.out HT.out.2.2.2 hlen bn.1 bn.2).mono ?_
           rintro e w4 ⟨rfl, g4⟩
           have H4 := Lib.hid g4
           clear g4)
      | (go_at_call 20
         have _t := tok3
         clear tok3
         refine (do_61 (H4.out.world ((Chg.refl _ _).alloc _)) HT.out.2.2.2 hlen hin.1 hin.2 bn.2 hr bv _ _ _ (IntS.row2 (Row.new w4 _ _) i64 bv)).mono ?_
         rintro e w5 ⟨rfl, g5⟩
         have H5 := Lib.hid g5
         clear g5)
      | (go_at_call 20
         have _t := tok4
         clear tok4
         refine (do_60 (H5.out.world ((Chg.refl _ _).alloc _)) HT.out.2.2.2 hlen hin.1 hin.2 bn.2 hr _ _ _ (IntS.row1 (Row.new w5 _ _) i64)).mono ?_
         rintro e w6 ⟨rfl, g6⟩
         have H6 := Lib.hid g6
         clear g6)
      | (go_at_call 21
         refine (k_FetchC H6.out 12 (2 + i) (by unfold In64; omega)).mono ?_
         rw [(set_places hlen hin.1 hin.2 hr).2.2.1]
         rintro e w7 ⟨rfl, g7, -⟩
         have HB := Lib.hid g7.chg
         clear g7)
      | (go_at_call 19
         refine (known_law _ (HT.out.2.2.2.chg HB.out)).mono ?_
         rintro e w10 ⟨rfl, hb⟩
         have HE := Lib.hid ((HT.out.1.trans (HB.out.trans (Chg.of_below hb))).below)
         clear hb)
      | fail)
      go_ret
      exact ⟨rfl, HHZ.out ▸ HE.out⟩
    · have tt : (decide (1 ≤ i) = true ∧ decide (i ≤ n) = false) ∨ decide (1 ≤ i) = false := by
        by_cases h1 : 1 ≤ i
        · exact .inl ⟨decide_eq_true h1, decide_eq_false (fun h2 => hin ⟨h1, h2⟩)⟩
        · exact .inr (decide_eq_false h1)
      rcases tt with ⟨t1, t2⟩ | t1
      all_goals
        go_enter Tryd.func4, Tryd.ntmps4
        go_wp2_with (first
          | (rw [HHZ.out])
            | (rw [HW.out])
            | (go_at_call 9
               refine (k_flatNew (Chg.refl No W)).mono ?_
               rintro e w1 ⟨m, rfl, g0⟩
               have H1 := Lib.hid (places_kept HT.out.2.1 HT.out.2.2.1 g0)
               clear g0)
            | (go_at_call 17
               refine (k_Load_ok H1.out _ (placesT hz) (by simp [placesT]) (fun F v hk => hk) (placesT_all hz)).mono ?_
               rintro e w2 ⟨rfl, g2⟩
               have g2b : MemK W w2 m Lp (fun _ _ => True) := g2.mono fun _ _ _ => trivial
               have H2 := Lib.hid g2b
               clear g2 g2b)
            | (go_at_call 18
               refine (Ref05_any v bv _).mono ?_
               rw [hr]
               rintro e w9 ⟨rfl, rfl⟩
               have HB := Lib.hid H2.out.chg)
          | (go_at_call 20
             have _t := tok1
             clear tok1
             refine (do_71 (H2.out.world ((Chg.refl _ _).alloc _)) HT.out.2.2.2 bn.1 bn.2 _ _ _ (IntS.row1 (Row.new w2 _ _) n64)).mono ?_
             rintro e w3 ⟨rfl, g3⟩
             have H3 := Lib.hid g3
             clear g3)
            | (go_at_call 20
               have _t := tok2
               clear tok2
               refine (do_62 H3.out HT.out.2.2.2 hlen bn.1 bn.2).mono ?_
               rintro e w4 ⟨rfl, g4⟩
               have H4 := Lib.hid g4
               clear g4)
          | (go_at_call 20
             have _t := tok3
             clear tok3
             refine (do_61n (H4.out.world ((Chg.refl _ _).alloc _)) HT.out.2.2.2 hlen bn.1 bi.1 bi.2 hin bv _ _ _ (IntS.row2 (Row.new w4 _ _) i64 bv)).mono ?_
             rintro e w5 ⟨rfl, g5⟩
             have H5 := Lib.hid g5
             clear g5)
          | (go_at_call 20
             have _t := tok4
             clear tok4
             refine (do_60n (H5.out.world ((Chg.refl _ _).alloc _)) HT.out.2.2.2 hlen bn.1 bi.1 bi.2 hin _ _ _ (IntS.row1 (Row.new w5 _ _) i64)).mono ?_
             rintro e w6 ⟨rfl, g6⟩
             have HB := Lib.hid g6.chg
             clear g6)
          | (go_at_call 19
             refine (known_law _ (HT.out.2.2.2.chg HB.out)).mono ?_
             rintro e w10 ⟨rfl, hb⟩
             have HE := Lib.hid ((HT.out.1.trans (HB.out.trans (Chg.of_below hb))).below)
             clear hb)
          | fail)
        go_ret
        exact ⟨rfl, HHZ.out ▸ HE.out⟩

end Go.Proofs.YtncoanmgifgcbaaDoor
