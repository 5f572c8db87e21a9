/- The walk of KitMakes: more than one size. -/
import Derived.Test.YtjanojignaonfaaKnown14
import Derived.Test.YtjanojignaonfaaMeth
import Derived.Test.YtjanojignaonfaaKitE
import Derived.Test.YtjanojignaonfaaRef14c
import Derived.Deep.RegionHeld3
namespace Go.Proofs.Ytjanojignaonfaa
set_option linter.unusedVariables false
set_option linter.unusedSimpArgs false
open Go.RowKit

theorem turned {W1 v : World} {m : Nat} {L : List O} {F : Nat → Prop} (g : MemK { W1 with heap := #[] } v m L (Turned W1 F)) : Chg F W1 v := by
  obtain ⟨F', -, -, ht⟩ := g.opened
  exact ht.2.2
/-- what stands when a memory is loaded, and a cell is made for the document's -/
structure Laid (w W W1 : World) (F : Nat → Prop) (A : Option Addr) (nl cp : Nat) (L : List O) (nv : Value) (ns : List Int) (xs : Array Value) (b : Nat) : Prop where
  cW : Chg No w W1
  hF : ∀ b, F b → w.heap.size + 1 ≤ b
  hb : ¬ F b
  hM : Row W1 b 33 #[.slice A nl cp]
  hX : Row W1 w.heap.size 23 xs
  hL : RefL W1 (fun b => b < w.heap.size + 1) (.slice A nl cp) L
  hn : IntS W1 (fun b => b < w.heap.size + 1) nv ns
section
variable {w W W1 v : World} {F : Nat → Prop} {A : Option Addr} {nl cp : Nat} {L : List O} {nv : Value} {ns : List Int} {xs : Array Value} {b : Nat}
theorem Laid.rM (h : Laid w W W1 F A nl cp L nv ns xs b) (c : Chg F W1 v) : Row v b 33 #[.slice A nl cp] := h.hM.keep c h.hb
theorem Laid.rX (h : Laid w W W1 F A nl cp L nv ns xs b) (c : Chg F W1 v) : Row v w.heap.size 23 xs := h.hX.keep c (fun f => by have := h.hF _ f; omega)
theorem Laid.rL (h : Laid w W W1 F A nl cp L nv ns xs b) (c : Chg F W1 v) : RefM v (fun b => b < w.heap.size + 1) (.agg #[.slice A nl cp]) L := ⟨_, rfl, h.hL.keep c (fun _ hb f => by have := h.hF _ f; omega)⟩
theorem Laid.rN (h : Laid w W W1 F A nl cp L nv ns xs b) (c : Chg F W1 v) : IntS v (fun b => b < w.heap.size + 1) nv ns := h.hn.keep c (fun _ hb f => by have := h.hF _ f; omega)
theorem Laid.all (h : Laid w W W1 F A nl cp L nv ns xs b) (c : Chg F W1 v) : Chg No w v := h.cW.then c (fun i hi f => by have := h.hF _ f; omega)
theorem Laid.make {w1 : World} {m : Nat} (hW : Chg No w W) (sW : W.heap.size = w.heap.size + 1) (hX : Row W w.heap.size 23 xs) (hn : IntS W (fun b => b < w.heap.size + 1) nv ns) (g : LoadedK W (.slice A nl cp) L m w1) :
    ∃ F, Laid w W (w1.alloc (.cells #[.slice A nl cp] 33)) F A nl cp L nv ns xs w1.heap.size ∧ MemK { (w1.alloc (.cells #[.slice A nl cp] 33)) with heap := #[] } (w1.alloc (.cells #[.slice A nl cp] 33)) m L (Turned (w1.alloc (.cells #[.slice A nl cp] 33)) F) := by
  have gc : Chg No W w1 := MemK.chg g
  obtain ⟨F, hf, hF, hk⟩ := MemK.opened g
  have ca : Chg No w1 (w1.alloc (.cells #[.slice A nl cp] 33)) := (Chg.refl _ _).alloc _
  refine ⟨F, ⟨(hW.trans gc).trans ca, fun b hb => ?_, fun h => ?_, Row.new _ _ _, (hX.keep gc (fun f => f)).keep ca (fun f => f), ?_, (hn.keep gc (fun _ _ f => f)).keep ca (fun _ _ f => f)⟩, (hf.keep ca (fun _ _ f => f)).toK⟩
  · have := hF b hb; omega
  · have := hf.lt h; omega
  · exact (hk.keep ca (fun _ _ f => f)).more (fun b _ h => by omega)
end

theorem ObjR.alloc' {w : World} {S : Nat → Prop} {v : Value} {y : O} (h : ObjR w S v y) (x : Obj) : ObjR (w.alloc x) S v y := h.keep (F := No) ((Chg.refl _ _).alloc _) (fun _ _ f => f)
theorem cell_one {v : World} {S : Nat → Prop} {b off c : Nat} {k : Int} (h : IntS v S (.slice (some ⟨b, off, none⟩) 1 c) [k]) : v.cell? ⟨b, off, none⟩ = some (.int .i64 k) ∧ b < v.heap.size := by
  obtain ⟨A, c', e, -, -, -, hat⟩ := h.form
  obtain ⟨b', off', rfl, -, hb, hc, -⟩ := hat 0 (by simp)
  obtain ⟨e1, -⟩ := Value.slice.inj e
  cases e1
  exact ⟨by simpa using hc, hb⟩
/-- the cell for the document's memory stands, and else nothing old has changed -/
def HeldZ (w w' : World) : Prop := Chg No w w' ∧ ∃ u, Row w' w.heap.size 33 #[u]
theorem HeldZ.drew {w w' : World} (h : HeldZ w w') : HeldZ w w'.drew := ⟨h.1.drew, h.2.elim fun u hu => ⟨u, hu.drewN 1⟩⟩
theorem HeldZ.set {w w' : World} (h : HeldZ w w') (x : Value) : HeldZ w (w'.setCell ⟨w.heap.size, 0, none⟩ x) := ⟨h.1.setCell (.inr (Nat.le_refl _)) _, h.2.elim fun u hu => ⟨x, hu.set 0 x⟩⟩
theorem HeldZ.chg {w w' w2 : World} (h : HeldZ w w') (c : Chg No w' w2) : HeldZ w w2 := ⟨h.1.trans c, h.2.elim fun u hu => ⟨u, hu.keep c (fun f => f)⟩⟩
theorem ins64 {L : List O} (o : Int) (ns : List Int) (h : L.length ≤ 200) : In64 (insN L o ns) := by
  unfold insN newN In64
  split
  · split <;> omega
  · omega
set_option maxRecDepth 100000 in
set_option maxHeartbeats 4000000 in
theorem KitMakes_many (lv : Value) (L : List O) (o : Int) (o64 : In64 o) (nv : Value) (ns : List Int) (a t p d e5 : Int) (w : World) (h : RefL w (fun _ => True) lv L) (hm : L.length ≤ maxLen) (hns : IntS w (fun _ => True) nv ns) (hlen : 1 < ns.length) :
    Calls Try.prog 6 #[lv, .int .i64 o, nv, .agg #[.int .i64 a, .int .i64 t, .int .i64 p, .int .i64 d, .int .i64 e5]] w fun e w' => e = .returned (.bool true) ∧ Below w.heap.size w w' := by
  have HHa := fun w => Header_any a t p d e5 w
  have HHc := fun w => Header14_any a t p d e5 w
  generalize headV a t p = hv at *
  generalize headE a t p = he at *
  obtain ⟨W, hW⟩ : ∃ W, w.alloc (.cells #[.int .i64 a, .int .i64 t, .int .i64 p, .int .i64 d, .int .i64 e5] 23) = W := ⟨_, rfl⟩
  have cW : Chg No w W := by rw [← hW]; exact (Chg.refl _ _).alloc _
  have rX : Row W w.heap.size 23 #[.int .i64 a, .int .i64 t, .int .i64 p, .int .i64 d, .int .i64 e5] := by rw [← hW]; exact Row.new w _ _
  have sW : W.heap.size = w.heap.size + 1 := by rw [← hW]; simp
  have hnW : IntS W (fun b => b < w.heap.size + 1) nv ns := (hns.more (S' := fun b => b < w.heap.size + 1) (fun b hb _ => by omega)).keep cW (fun _ _ f => f)
  have HLd := Lib.hid (loaded_any _ L W (h.keep cW (fun _ _ f => f)) hm)
  obtain ⟨A, cp, rfl, -⟩ := h.form
  obtain ⟨An, cn, rfl, -⟩ := hns.form
  have HA := Lib.hid (And.intro cW (And.intro sW (And.intro rX hnW)))
  have HW := Lib.hid hW
  obtain ⟨⟨sk, sn, sm, se⟩, hs⟩ : ∃ s, shapeOf L o = s := ⟨_, rfl⟩
  have HS := Lib.hid hs
  obtain ⟨iN, hiN⟩ : ∃ x, insN L o ns = x := ⟨_, rfl⟩
  obtain ⟨iE, hiE⟩ : ∃ x, insE L o ns = x := ⟨_, rfl⟩
  have HI := Lib.hid (And.intro hiN hiE)
  clear hW cW rX sW hnW h hns
  generalize hnl : L.length = nl at *
  have HNL := Lib.hid hnl
  by_cases h3 : 3 < ns.length
  · have t1 : decide (3 < (ns.length : Int)) = true := decide_eq_true (by omega)
    clear hlen
    clear hs hiN hiE h3 hnl hm
    generalize ns.length = nn at *
    go_enter Try.func6, Try.ntmps6
    go_wp2_with (first
      | (go_at_call 16
         have HZ := HW.out
         clear HW
         rw [HZ]
         refine HLd.out.mono ?_
         rintro e w1 (⟨rfl, c1, hlb⟩ | ⟨m, rfl, g1, hl200, hlb⟩)
         rotate_left
         obtain ⟨F, hld, g2⟩ := Laid.make HA.out.1 HA.out.2.1 HA.out.2.2.1 HA.out.2.2.2 g1
         have hok1 := fun i (hk : (ob L i).kind ≠ 0) => MemK.okAt g1 hk
         have HOK := Lib.hid hok1
         have H1 := Lib.hid (And.intro g2 hld)
         have H200 := Lib.hid (show L.length ≤ 200 by rw [HNL.out]; exact hl200)
         clear hld g2 g1 hok1 hl200 hlb
         rotate_left)
      | (go_at_call 20
         refine (k_Shape H1.out.1 o o64).mono ?_
         rw [HS.out]
         rintro e w3 ⟨rfl, g3, -⟩
         have xM3 : w3.cell? ⟨w1.heap.size, 0, none⟩ = some (.slice A nl cp) := (H1.out.2.rM (turned g3)).cell 0
         have H3 := Lib.hid g3
         clear g3)
        | (go_at_call 21
           refine (Shape14_any _ _ L _ (H1.out.2.rL (turned H3.out)) HOK.out o o64).mono ?_
           rw [HS.out]
           rintro e w4 ⟨rfl, c4⟩
           have g4 := H3.out.world c4
           have xX4 := (H1.out.2.rX (turned g4)).five
           have H4 := Lib.hid g4
           clear g4 c4)
        | (go_at_call 13
           refine (HHa _).mono ?_
           rintro e w5 ⟨rfl, c5⟩
           have g5 := H4.out.world c5
           have xX5 := (H1.out.2.rX (turned g5)).five
           have H5 := Lib.hid g5
           clear g5 c5)
        | (go_at_call 14
           refine (HHc _).mono ?_
           rintro e w6 ⟨rfl, c6⟩
           have H6 := Lib.hid (H5.out.world c6)
           clear c6)
        | (go_at_call 22
           refine (k_Instance H6.out o o64 _ _ _ (H1.out.2.rN (turned H6.out)) (by have := H200.out; omega)).mono ?_
           rw [HI.out.1, HI.out.2]
           rintro e w7 ⟨rfl, g7⟩
           have xM7 : w7.cell? ⟨w1.heap.size, 0, none⟩ = some (.slice A nl cp) := (H1.out.2.rM (turned g7)).cell 0
           have xM8 : (w7.alloc (.cells #[.slice A nl cp] 33)).cell? ⟨w1.heap.size, 0, none⟩ = some (.slice A nl cp) := ((H1.out.2.rM (turned g7)).alloc (.cells #[.slice A nl cp] 33)).cell 0
           have H7 := Lib.hid g7
           clear g7)
        | (go_at_call 15; refine (known14_any _).mono ?_; rintro e w9 ⟨rfl, c9⟩)
      | fail)
    · go_ret
      exact ⟨rfl, ((HA.out.1.trans c1).trans (((Chg.refl _ _).alloc _).trans c9)).below⟩
    · go_ret
      exact ⟨rfl, ((H1.out.2.all (turned H1.out.1)).trans c9).below⟩
  · have t1 : decide (3 < (ns.length : Int)) = false := decide_eq_false (by omega)
    · have h1 := hlen
      clear hlen
      have t2 : decide (1 < (ns.length : Int)) = true := decide_eq_true (by omega)
      have hB : insBad L o ns = true := by unfold insBad; rw [decide_eq_true h1]; simp
      have r1 : iN = 0 := by rw [← hiN]; unfold insN insOk; rw [hB, if_neg (by simp)]
      have r2 : iE = if se ≠ 0 then se else 2 := by rw [← hiE]; unfold insE; rw [hs, hB]; simp
      subst r1
      by_cases h0 : se = 0
      · subst h0
        obtain rfl : iE = 2 := r2
        clear hs hiN hiE h3 hnl hm hB
        generalize ns.length = nn at *
        go_enter Try.func6, Try.ntmps6
        go_wp2_with (first
          | (go_at_call 16
             have HZ := HW.out
             clear HW
             rw [HZ]
             refine HLd.out.mono ?_
             rintro e w1 (⟨rfl, c1, hlb⟩ | ⟨m, rfl, g1, hl200, hlb⟩)
             rotate_left
             obtain ⟨F, hld, g2⟩ := Laid.make HA.out.1 HA.out.2.1 HA.out.2.2.1 HA.out.2.2.2 g1
             have hok1 := fun i (hk : (ob L i).kind ≠ 0) => MemK.okAt g1 hk
             have HOK := Lib.hid hok1
             have H1 := Lib.hid (And.intro g2 hld)
             have H200 := Lib.hid (show L.length ≤ 200 by rw [HNL.out]; exact hl200)
             clear hld g2 g1 hok1 hl200 hlb
             rotate_left)
          | (go_at_call 20
             refine (k_Shape H1.out.1 o o64).mono ?_
             rw [HS.out]
             rintro e w3 ⟨rfl, g3, -⟩
             have xM3 : w3.cell? ⟨w1.heap.size, 0, none⟩ = some (.slice A nl cp) := (H1.out.2.rM (turned g3)).cell 0
             have H3 := Lib.hid g3
             clear g3)
            | (go_at_call 21
               refine (Shape14_any _ _ L _ (H1.out.2.rL (turned H3.out)) HOK.out o o64).mono ?_
               rw [HS.out]
               rintro e w4 ⟨rfl, c4⟩
               have g4 := H3.out.world c4
               have xX4 := (H1.out.2.rX (turned g4)).five
               have H4 := Lib.hid g4
               clear g4 c4)
            | (go_at_call 13
               refine (HHa _).mono ?_
               rintro e w5 ⟨rfl, c5⟩
               have g5 := H4.out.world c5
               have xX5 := (H1.out.2.rX (turned g5)).five
               have H5 := Lib.hid g5
               clear g5 c5)
            | (go_at_call 14
               refine (HHc _).mono ?_
               rintro e w6 ⟨rfl, c6⟩
               have H6 := Lib.hid (H5.out.world c6)
               clear c6)
            | (go_at_call 22
               refine (k_Instance H6.out o o64 _ _ _ (H1.out.2.rN (turned H6.out)) (by have := H200.out; omega)).mono ?_
               rw [HI.out.1, HI.out.2]
               rintro e w7 ⟨rfl, g7⟩
               have xM7 : w7.cell? ⟨w1.heap.size, 0, none⟩ = some (.slice A nl cp) := (H1.out.2.rM (turned g7)).cell 0
               have xM8 : (w7.alloc (.cells #[.slice A nl cp] 33)).cell? ⟨w1.heap.size, 0, none⟩ = some (.slice A nl cp) := ((H1.out.2.rM (turned g7)).alloc (.cells #[.slice A nl cp] 33)).cell 0
               have H7 := Lib.hid g7
               clear g7)
            | (go_at_call 15; refine (known14_any _).mono ?_; rintro e w9 ⟨rfl, c9⟩)
          | fail)
        · go_ret
          exact ⟨rfl, ((HA.out.1.trans c1).trans (((Chg.refl _ _).alloc _).trans c9)).below⟩
        · go_ret
          exact ⟨rfl, ((H1.out.2.all (turned H7.out)).trans c9).below⟩
      · rw [if_pos h0] at r2
        obtain rfl := r2
        have t3 : (iE != 0) = true := by simpa using h0
        by_cases h2 : iE = 2
        · subst h2
          clear hs hiN hiE h3 hnl hm hB h0
          generalize ns.length = nn at *
          go_enter Try.func6, Try.ntmps6
          go_wp2_with (first
            | (go_at_call 16
               have HZ := HW.out
               clear HW
               rw [HZ]
               refine HLd.out.mono ?_
               rintro e w1 (⟨rfl, c1, hlb⟩ | ⟨m, rfl, g1, hl200, hlb⟩)
               rotate_left
               obtain ⟨F, hld, g2⟩ := Laid.make HA.out.1 HA.out.2.1 HA.out.2.2.1 HA.out.2.2.2 g1
               have hok1 := fun i (hk : (ob L i).kind ≠ 0) => MemK.okAt g1 hk
               have HOK := Lib.hid hok1
               have H1 := Lib.hid (And.intro g2 hld)
               have H200 := Lib.hid (show L.length ≤ 200 by rw [HNL.out]; exact hl200)
               clear hld g2 g1 hok1 hl200 hlb
               rotate_left)
            | (go_at_call 20
               refine (k_Shape H1.out.1 o o64).mono ?_
               rw [HS.out]
               rintro e w3 ⟨rfl, g3, -⟩
               have xM3 : w3.cell? ⟨w1.heap.size, 0, none⟩ = some (.slice A nl cp) := (H1.out.2.rM (turned g3)).cell 0
               have H3 := Lib.hid g3
               clear g3)
              | (go_at_call 21
                 refine (Shape14_any _ _ L _ (H1.out.2.rL (turned H3.out)) HOK.out o o64).mono ?_
                 rw [HS.out]
                 rintro e w4 ⟨rfl, c4⟩
                 have g4 := H3.out.world c4
                 have xX4 := (H1.out.2.rX (turned g4)).five
                 have H4 := Lib.hid g4
                 clear g4 c4)
              | (go_at_call 13
                 refine (HHa _).mono ?_
                 rintro e w5 ⟨rfl, c5⟩
                 have g5 := H4.out.world c5
                 have xX5 := (H1.out.2.rX (turned g5)).five
                 have H5 := Lib.hid g5
                 clear g5 c5)
              | (go_at_call 14
                 refine (HHc _).mono ?_
                 rintro e w6 ⟨rfl, c6⟩
                 have H6 := Lib.hid (H5.out.world c6)
                 clear c6)
              | (go_at_call 22
                 refine (k_Instance H6.out o o64 _ _ _ (H1.out.2.rN (turned H6.out)) (by have := H200.out; omega)).mono ?_
                 rw [HI.out.1, HI.out.2]
                 rintro e w7 ⟨rfl, g7⟩
                 have xM7 : w7.cell? ⟨w1.heap.size, 0, none⟩ = some (.slice A nl cp) := (H1.out.2.rM (turned g7)).cell 0
                 have xM8 : (w7.alloc (.cells #[.slice A nl cp] 33)).cell? ⟨w1.heap.size, 0, none⟩ = some (.slice A nl cp) := ((H1.out.2.rM (turned g7)).alloc (.cells #[.slice A nl cp] 33)).cell 0
                 have H7 := Lib.hid g7
                 clear g7)
              | (go_at_call 15; refine (known14_any _).mono ?_; rintro e w9 ⟨rfl, c9⟩)
            | fail)
          · go_ret
            exact ⟨rfl, ((HA.out.1.trans c1).trans (((Chg.refl _ _).alloc _).trans c9)).below⟩
          · go_ret
            exact ⟨rfl, ((H1.out.2.all (turned H7.out)).trans c9).below⟩
        · have t4 : (iE == 2) = false := by simpa using h2
          clear hs hiN hiE h3 hnl hm hB
          generalize ns.length = nn at *
          go_enter Try.func6, Try.ntmps6
          go_wp2_with (first
            | (go_at_call 16
               have HZ := HW.out
               clear HW
               rw [HZ]
               refine HLd.out.mono ?_
               rintro e w1 (⟨rfl, c1, hlb⟩ | ⟨m, rfl, g1, hl200, hlb⟩)
               rotate_left
               obtain ⟨F, hld, g2⟩ := Laid.make HA.out.1 HA.out.2.1 HA.out.2.2.1 HA.out.2.2.2 g1
               have hok1 := fun i (hk : (ob L i).kind ≠ 0) => MemK.okAt g1 hk
               have HOK := Lib.hid hok1
               have H1 := Lib.hid (And.intro g2 hld)
               have H200 := Lib.hid (show L.length ≤ 200 by rw [HNL.out]; exact hl200)
               clear hld g2 g1 hok1 hl200 hlb
               rotate_left)
            | (go_at_call 20
               refine (k_Shape H1.out.1 o o64).mono ?_
               rw [HS.out]
               rintro e w3 ⟨rfl, g3, -⟩
               have xM3 : w3.cell? ⟨w1.heap.size, 0, none⟩ = some (.slice A nl cp) := (H1.out.2.rM (turned g3)).cell 0
               have H3 := Lib.hid g3
               clear g3)
              | (go_at_call 21
                 refine (Shape14_any _ _ L _ (H1.out.2.rL (turned H3.out)) HOK.out o o64).mono ?_
                 rw [HS.out]
                 rintro e w4 ⟨rfl, c4⟩
                 have g4 := H3.out.world c4
                 have xX4 := (H1.out.2.rX (turned g4)).five
                 have H4 := Lib.hid g4
                 clear g4 c4)
              | (go_at_call 13
                 refine (HHa _).mono ?_
                 rintro e w5 ⟨rfl, c5⟩
                 have g5 := H4.out.world c5
                 have xX5 := (H1.out.2.rX (turned g5)).five
                 have H5 := Lib.hid g5
                 clear g5 c5)
              | (go_at_call 14
                 refine (HHc _).mono ?_
                 rintro e w6 ⟨rfl, c6⟩
                 have H6 := Lib.hid (H5.out.world c6)
                 clear c6)
              | (go_at_call 22
                 refine (k_Instance H6.out o o64 _ _ _ (H1.out.2.rN (turned H6.out)) (by have := H200.out; omega)).mono ?_
                 rw [HI.out.1, HI.out.2]
                 rintro e w7 ⟨rfl, g7⟩
                 have xM7 : w7.cell? ⟨w1.heap.size, 0, none⟩ = some (.slice A nl cp) := (H1.out.2.rM (turned g7)).cell 0
                 have xM8 : (w7.alloc (.cells #[.slice A nl cp] 33)).cell? ⟨w1.heap.size, 0, none⟩ = some (.slice A nl cp) := ((H1.out.2.rM (turned g7)).alloc (.cells #[.slice A nl cp] 33)).cell 0
                 have H7 := Lib.hid g7
                 clear g7)
              | (go_at_call 15; refine (known14_any _).mono ?_; rintro e w9 ⟨rfl, c9⟩)
            | fail)
          · go_ret
            exact ⟨rfl, ((HA.out.1.trans c1).trans (((Chg.refl _ _).alloc _).trans c9)).below⟩
          · go_ret
            exact ⟨rfl, ((H1.out.2.all (turned H7.out)).trans c9).below⟩

end Go.Proofs.Ytjanojignaonfaa
