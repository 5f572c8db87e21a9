/- The walk of KitMakes: no size. -/
import Derived.Test.YtjanojignaonfaaLawKitMakes
namespace Go.Proofs.Ytjanojignaonfaa
set_option linter.unusedVariables false
set_option linter.unusedSimpArgs false
open Go.RowKit

set_option maxRecDepth 100000 in
set_option maxHeartbeats 4000000 in
theorem KitMakes_none (lv : Value) (L : List O) (o : Int) (o64 : In64 o) (nv : Value) (a t p d e5 : Int) (w : World) (h : RefL w (fun _ => True) lv L) (hm : L.length ≤ maxLen) (hns : IntS w (fun _ => True) nv []) :
    Calls Try.prog 6 #[lv, .int .i64 o, nv, .agg #[.int .i64 a, .int .i64 t, .int .i64 p, .int .i64 d, .int .i64 e5]] w fun e w' => e = .returned (.bool true) ∧ Below w.heap.size w w' := by
  obtain ⟨ns, hnil⟩ : ∃ ns : List Int, ns = [] := ⟨_, rfl⟩
  rw [← hnil] at hns
  have HHa := fun w => Header_any a t p d e5 w
  have HHc := fun w => Header14_any a t p d e5 w
  generalize headV a t p = hv at *
  generalize headE a t p = he at *
  obtain ⟨W, hW⟩ : ∃ W, w.alloc (.cells #[.int .i64 a, .int .i64 t, .int .i64 p, .int .i64 d, .int .i64 e5] 23) = W := ⟨_, rfl⟩
  have cW : Chg No w W := by rw [← hW]; exact (Chg.refl _ _).alloc _
  have rX : Row W w.heap.size 23 #[.int .i64 a, .int .i64 t, .int .i64 p, .int .i64 d, .int .i64 e5] := by rw [← hW]; exact Row.new w _ _
  have sW : W.heap.size = w.heap.size + 1 := by rw [← hW]; simp
  have hnW : IntS W (fun b => b < w.heap.size + 1) nv ns := (hns.more (S' := fun b => b < w.heap.size + 1) (fun b hb _ => by omega)).keep cW (fun _ _ f => f)
  have HLd := Lib.hid (loaded_any _ L W (h.keep cW (fun _ _ f => f)) hm)
  obtain ⟨A, cp, rfl, -⟩ := h.form
  obtain ⟨An, cn, rfl, -⟩ := hns.form
  have HA := Lib.hid (And.intro cW (And.intro sW (And.intro rX hnW)))
  have HW := Lib.hid hW
  obtain ⟨⟨sk, sn, sm, se⟩, hs⟩ : ∃ s, shapeOf L o = s := ⟨_, rfl⟩
  have HS := Lib.hid hs
  obtain ⟨iN, hiN⟩ : ∃ x, insN L o ns = x := ⟨_, rfl⟩
  obtain ⟨iE, hiE⟩ : ∃ x, insE L o ns = x := ⟨_, rfl⟩
  have HI := Lib.hid (And.intro hiN hiE)
  clear hW cW rX sW hnW h hns
  generalize hnl : L.length = nl at *
  have HNL := Lib.hid hnl
  subst hnil
  have t1 : decide (3 < (([] : List Int).length : Int)) = false := rfl
  have t2 : decide (1 < (([] : List Int).length : Int)) = false := rfl
  have hse := hs
  clear hs hiN hiE hnl hm
  simp only [List.length_nil] at *
  clear hse
  go_enter Try.func6, Try.ntmps6
  go_wp2_with (first
    | (go_at_call 16
       have HZ := HW.out
       clear HW
       rw [HZ]
       refine HLd.out.mono ?_
       rintro e w1 (⟨rfl, c1, hlb⟩ | ⟨m, rfl, g1, hl200, hlb⟩)
       rotate_left
       obtain ⟨F, hld, g2⟩ := Laid.make HA.out.1 HA.out.2.1 HA.out.2.2.1 HA.out.2.2.2 g1
       have hok1 := fun i (hk : (ob L i).kind ≠ 0) => MemK.okAt g1 hk
       have HOK := Lib.hid hok1
       have H1 := Lib.hid (And.intro g2 hld)
       have H200 := Lib.hid (show L.length ≤ 200 by rw [HNL.out]; exact hl200)
       clear hld g2 g1 hok1 hl200 hlb
       rotate_left)
    | (go_at_call 20
       refine (k_Shape H1.out.1 o o64).mono ?_
       rw [HS.out]
       rintro e w3 ⟨rfl, g3, -⟩
       have xM3 : w3.cell? ⟨w1.heap.size, 0, none⟩ = some (.slice A nl cp) := (H1.out.2.rM (turned g3)).cell 0
       have H3 := Lib.hid g3
       clear g3)
      | (go_at_call 21
         refine (Shape14_any _ _ L _ (H1.out.2.rL (turned H3.out)) HOK.out o o64).mono ?_
         rw [HS.out]
         rintro e w4 ⟨rfl, c4⟩
         have g4 := H3.out.world c4
         have xX4 := (H1.out.2.rX (turned g4)).five
         have H4 := Lib.hid g4
         clear g4 c4)
      | (go_at_call 13
         refine (HHa _).mono ?_
         rintro e w5 ⟨rfl, c5⟩
         have g5 := H4.out.world c5
         have xX5 := (H1.out.2.rX (turned g5)).five
         have H5 := Lib.hid g5
         clear g5 c5)
      | (go_at_call 14
         refine (HHc _).mono ?_
         rintro e w6 ⟨rfl, c6⟩
         have H6 := Lib.hid (H5.out.world c6)
         clear c6)
      | (go_at_call 22
         refine (k_Instance H6.out o o64 _ _ _ (H1.out.2.rN (turned H6.out)) (by have := H200.out; omega)).mono ?_
         rw [HI.out.1, HI.out.2]
         rintro e w7 ⟨rfl, g7⟩
         have xM7 : w7.cell? ⟨w1.heap.size, 0, none⟩ = some (.slice A nl cp) := (H1.out.2.rM (turned g7)).cell 0
         have xM8 : (w7.alloc (.cells #[.slice A nl cp] 33)).cell? ⟨w1.heap.size, 0, none⟩ = some (.slice A nl cp) := ((H1.out.2.rM (turned g7)).alloc (.cells #[.slice A nl cp] 33)).cell 0
         have H7 := Lib.hid g7
         clear g7)
      | (go_at_call 15; refine (known14_any _).mono ?_; rintro e w9 ⟨rfl, c9⟩)
    | (go_at_call 23
       obtain ⟨W8, h8⟩ : ∃ W8, w7.alloc (.cells #[.slice A nl cp] 33) = W8 := ⟨_, rfl⟩
       rw [h8]
       have c8 : Chg No w7 W8 := by rw [← h8]; exact (Chg.refl _ _).alloc _
       have rZ : Row W8 w7.heap.size 33 #[.slice A nl cp] := by rw [← h8]; exact Row.new w7 _ _
       refine (Inst14_none _ _ L W8 (H1.out.2.rL (turned (H7.out.world c8))) HOK.out (by have := H200.out; omega) o o64).mono ?_
       rintro e w10 ⟨r9, rfl, x9, rfl, c10, ⟨lx, rfl, hlx⟩⟩
       rw [HI.out.1, HI.out.2]
       obtain ⟨A9, k9, rfl, -⟩ := hlx.form
       have rZ10 := rZ.keep c10 (fun f => f)
       have xZ10 : w10.cell? ⟨w7.heap.size, 0, none⟩ = some (.slice A nl cp) := rZ10.cell 0
       have yZ10 := rZ10.frozen 0
       have s8 : W8.heap.size = w7.heap.size + 1 := by rw [← h8]; simp
       have s17 : w.heap.size + 1 ≤ w7.heap.size := by have := (H1.out.2.rX (turned H7.out)).lt; omega
       have H10 := Lib.hid (And.intro (c8.trans c10) (And.intro (hlx.more (S' := fun b => b ≠ w7.heap.size) (fun b _ hb => by rcases hb with hb | hb <;> omega)) rZ10))
       clear h8 c8 rZ c10 hlx rZ10 s8 s17)
    | (go_at_call 24
       obtain ⟨W11, h11⟩ : ∃ W11, w10.setCell ⟨w7.heap.size, 0, none⟩ (.slice A9 (insL L o []).length k9) = W11 := ⟨_, rfl⟩
       go_loud (rw [h11])
       have c11 : Chg No w7 W11 := by rw [← h11]; exact H10.out.1.setCell (.inr (Nat.le_refl _)) _
       have rZ11 : Row W11 w7.heap.size 33 #[.slice A9 (insL L o []).length k9] := by rw [← h11]; exact H10.out.2.2.set 0 _
       have hl11 : RefL W11 (fun _ => True) (.slice A9 (insL L o []).length k9) (insL L o []) := by
         rw [← h11]
         exact (H10.out.2.1.keep (F := fun b => b = w7.heap.size) (Chg.setCell (F := fun b => b = w7.heap.size) (Chg.refl _ _) (p := ⟨w7.heap.size, 0, none⟩) (.inl rfl) _) (fun b hb e => hb e)).more (fun _ _ _ => trivial)
       refine (k_ObjC (H7.out.world c11) iN (by rw [← HI.out.1]; exact ins64 _ _ H200.out)).mono ?_
       rintro e w12 ⟨r, rfl, g12, hr, c12⟩
       obtain ⟨y, hy⟩ : ∃ y, objV (insL L o []) iN = y := ⟨_, rfl⟩
       obtain ⟨ye, hye⟩ : ∃ ye, objE (insL L o []) iN = ye := ⟨_, rfl⟩
       rw [hy] at hr
       rw [hye]
       have HY := Lib.hid (And.intro hy hye)
       obtain ⟨B1, d1, B2, d2, rfl⟩ := hr.shape
       have rZ12 := rZ11.keep c12 (fun f => f)
       have rZ13 := rZ12.alloc (.cells #[.int .i64 y.cls, .int .i64 y.kind, .slice B1 y.W.length d1, .slice B2 y.B.length d2] 39)
       have xZ13 : (w12.alloc (.cells #[.int .i64 y.cls, .int .i64 y.kind, .slice B1 y.W.length d1, .slice B2 y.B.length d2] 39)).cell? ⟨w7.heap.size, 0, none⟩ = some (.slice A9 (insL L o []).length k9) := rZ13.cell 0
       have H12 := Lib.hid (And.intro g12 (And.intro (hr.more (S' := fun _ => True) (fun _ _ _ => trivial)) (hl11.keep c12 (fun _ _ f => f))))
       clear h11 c11 rZ11 hl11 g12 hr c12 rZ12 rZ13 hy hye)
      | (go_at_call 25
         obtain ⟨W13, h13⟩ : ∃ W13, w12.alloc (.cells #[.int .i64 y.cls, .int .i64 y.kind, .slice B1 y.W.length d1, .slice B2 y.B.length d2] 39) = W13 := ⟨_, rfl⟩
         rw [h13]
         have c13 : Chg No w12 W13 := by rw [← h13]; exact (Chg.refl _ _).alloc _
         have rY13 : Row W13 w12.heap.size 39 #[.int .i64 y.cls, .int .i64 y.kind, .slice B1 y.W.length d1, .slice B2 y.B.length d2] := by rw [← h13]; exact Row.new w12 _ _
         refine (Get14_any _ (fun _ => True) (insL L o []) W13 ⟨_, rfl, H12.out.2.2.keep c13 (fun _ _ f => f)⟩ iN (by rw [← HI.out.1]; exact ins64 _ _ H200.out)).mono ?_
         rw [HY.out.1, HY.out.2]
         rintro e w14 ⟨r14, rfl, x14, rfl, hx14, c14⟩
         obtain ⟨B3, d3, B4, d4, rfl⟩ := hx14.shape
         have rY14 := (rY13.keep c14 (fun f => f)).alloc (.cells #[.int .i64 y.cls, .int .i64 y.kind, .slice B3 y.W.length d3, .slice B4 y.B.length d4] 39)
         have xY14 := rY14.four
         have xT14 := (Row.new w14 39 #[.int .i64 y.cls, .int .i64 y.kind, .slice B3 y.W.length d3, .slice B4 y.B.length d4]).four
         have c1214 : Chg No w12 (w14.alloc (.cells #[.int .i64 y.cls, .int .i64 y.kind, .slice B3 y.W.length d3, .slice B4 y.B.length d4] 39)) := (c13.trans c14).alloc _
         have H14 := Lib.hid (And.intro c1214 (And.intro (H12.out.2.1.keep c1214 (fun _ _ f => f)) ((hx14.more (S' := fun _ => True) (fun _ _ _ => trivial)).alloc' (.cells #[.int .i64 y.cls, .int .i64 y.kind, .slice B3 y.W.length d3, .slice B4 y.B.length d4] 39))))
         clear h13 c13 rY13 hx14 c14 rY14 c1214)
      | (go_at_call 26
         refine (Same05_eq _ _ y (fun _ => True) _ H14.out.2.1 H14.out.2.2).mono ?_
         rintro e w15 ⟨rfl, c15⟩)
    | fail)
  · go_ret
    exact ⟨rfl, ((HA.out.1.trans c1).trans (((Chg.refl _ _).alloc _).trans c9)).below⟩
  · go_ret
    exact ⟨rfl, ((((H1.out.2.all (turned H12.out.1)).trans H14.out.1).trans c15).trans c9).below⟩

end Go.Proofs.Ytjanojignaonfaa
