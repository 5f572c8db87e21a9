/- An image of bytes: image.Decode. -/
import Derived.Test.YtncoanmgifgcbaaDoorImgQ
import Derived.Test.YtncoanmgifgcbaaDoorImgR
import Derived.Test.YtncoanmgifgcbaaDoorApp2
import Derived.Deep.RegionHeld3
namespace Go.Proofs.YtncoanmgifgcbaaDoor
set_option linter.unusedVariables false
set_option linter.unusedSimpArgs false
open Go.RowKit

/-- objects out of bytes: at most k -/
def runI : Nat → List O → List Int → Bool → List O × Bool
  | 0, acc, _, bad => (acc, bad)
  | k + 1, acc, l, bad => if bad = true then (acc, true) else runI k (acc ++ [objO l bad]) (objL l bad) (objB l bad)
theorem runI_bad (k : Nat) (acc : List O) (l : List Int) : runI k acc l true = (acc, true) := by cases k <;> simp [runI]
/-- what is cut out of an image's bytes: its frame's word, its objects, and whether something is wrong -/
def cutN (b : List Int) : Nat := min (getV b 0).toNat 2001
def cutF (b : List Int) : Int := getV (numL b) 0
def cutR (b : List Int) : List O × Bool := runI (cutN b) [] (numL (numL b)) (numB (numL b) (numB b false))
def imgOkB (b : List Int) : Bool := !(cutR b).2 && (decide (encE (cutR b).1 (cutF b) = 0) && decide (encI (cutR b).1 (cutF b) = b))
def imgDL (b : List Int) : List O := if imgOkB b = true then (cutR b).1 else []
def imgDF (b : List Int) : Int := if imgOkB b = true then cutF b else 0
def imgDE (b : List Int) : Int := if imgOkB b = true then 0 else 180

theorem numL_le (l : List Int) : (numL l).length ≤ l.length := by
  unfold numL
  split
  · rw [List.length_drop]; omega
  · exact Nat.le_refl _
theorem objL_le (l : List Int) (bad : Bool) : (objL l bad).length ≤ l.length := by
  unfold objL
  have := numL_le l
  split
  · exact this
  · rw [List.length_drop]; omega
theorem encI_bd {L : List O} {f : Int} (h : ∀ o ∈ L, ∀ x ∈ o.B, 0 ≤ x ∧ x ≤ 255) : ∀ x ∈ encI L f, 0 ≤ x ∧ x ≤ 255 := by
  intro x hx
  unfold encI at hx
  rcases List.mem_append.1 hx with hx | hx
  · exact allB_bd _ x hx
  · obtain ⟨o, ho, hx⟩ := List.mem_flatMap.1 hx
    unfold recB at hx
    rcases List.mem_append.1 hx with hx | hx
    · exact putB_bd _ x hx
    · exact encB_bd (h o ho) x hx
/-- objects made one behind the other -/
def OwnT (w : World) (base : Nat) (v : Value) (T : List T3) : Prop := w.ownsRow base 41 4 v T.length (cellsT T)
def Decd (w : World) (L : List O) (f e : Int) (v : Value) (w' : World) : Prop := ∃ lv T, v = .tuple #[.agg #[lv, .int .i64 f], .int .i64 e] ∧ T.map (·.1) = L ∧ RefT w' (fun b => w.heap.size ≤ b) lv T ∧ Chg No w w'
set_option maxRecDepth 100000 in
set_option maxHeartbeats 2000000 in
theorem ImgDecode_any (bv : Value) (l : List Int) (w : World) (h : ByteS w (fun _ => True) bv l) (hm : l.length ≤ 100000000) (ht : Tabs w) : Calls Tryd.prog 28 #[bv] w (Ret (Decd w (imgDL l) (imgDF l) (imgDE l))) := by
  have h0 : ByteS w (fun b => b < w.heap.size) bv l := h.more fun b hb _ => hb
  obtain ⟨nv, hnv⟩ : ∃ x, getV l 0 = x := ⟨_, rfl⟩
  obtain ⟨fv, hfv⟩ : ∃ x, getV (numL l) 0 = x := ⟨_, rfl⟩
  have nv64 : In64 nv := by rw [← hnv]; exact getV_in _ _
  have HV := Lib.hid (And.intro hnv hfv)
  obtain ⟨W1, hW1⟩ : ∃ W, (w.alloc (.cells #[.slice none 0 0, .int .i64 0] 24)).alloc (.cells #[bv, .bool false] 97) = W := ⟨_, rfl⟩
  have c01 : Chg No w W1 := by rw [← hW1]; exact ((Chg.refl _ _).alloc _).alloc _
  have rZ : Row W1 w.heap.size 24 #[.slice none 0 0, .int .i64 0] := by rw [← hW1]; exact (Row.new w _ _).alloc _
  have rG : Row W1 (w.heap.size + 1) 97 #[bv, .bool false] := by rw [← hW1]; simpa using Row.new (w.alloc (.cells #[.slice none 0 0, .int .i64 0] 24)) 97 #[bv, .bool false]
  have HW1 := Lib.hid hW1
  have HR1 := Lib.hid (And.intro (show RdS W1 (fun b => b < w.heap.size) (w.heap.size + 1) l false from ⟨bv, rG, h0.keep c01 (fun _ _ f => f)⟩) (And.intro rZ c01))
  have HT := Lib.hid ht
  have HB := Lib.hid h
  obtain ⟨A0, n0, c0, rfl⟩ : ∃ A n c, bv = .slice A n c := by
    obtain ⟨A, c, e, -⟩ := h.form
    exact ⟨A, _, c, e⟩
  have tok : True := trivial
  clear hnv hfv hW1 c01 rZ rG ht h h0
  go_enter Tryd.func28, Tryd.ntmps28
  go_wp2_with (first
    | (rw [HW1.out])
    | (go_at_call 53
       have _t := tok
       clear tok
       refine (num_any (w.heap.size + 1) l false (fun b => b < w.heap.size) _ HR1.out.1 (fun b hb => by omega)).mono ?_
       rw [HV.out.1]
       rintro e w1 ⟨rfl, hr1, c1⟩
       have HR2 := Lib.hid (And.intro hr1 c1)
       clear hr1 c1)
    | (go_at_call 53
       refine (num_any (w.heap.size + 1) (numL l) (numB l false) (fun b => b < w.heap.size) _ HR2.out.1 (fun b hb => by omega)).mono ?_
       rw [HV.out.2]
       rintro e w2 ⟨rfl, hr1, c1⟩
       have HR3 := Lib.hid (And.intro hr1 (HR2.out.2.trans c1))
       clear hr1 c1)
    | fail)
  have hX : w.heap.size + 2 ≤ w2.heap.size := by
    have e1 := HR3.out.2.size
    have e2 := HW1.out
    rw [← e2] at e1
    simp at e1
    omega
  have cX : Chg No w2 (w2.alloc (.cells #[.slice none 0 0, .int .i64 fv] 24)) := (Chg.refl _ _).alloc _
  have hN : cutN l = min nv.toNat 2001 := by unfold cutN; rw [HV.out.1]
  obtain ⟨N, hN2⟩ : ∃ N, cutN l = N := ⟨_, rfl⟩
  rw [hN2] at hN
  have hNle : N ≤ 2001 := by omega
  obtain ⟨FR, hFR⟩ : ∃ r, cutR l = r := ⟨_, rfl⟩
  have HFR := Lib.hid (show runI N [] (numL (numL l)) (numB (numL l) (numB l false)) = FR by rw [← hFR, ← hN2]; rfl)
  have HFL := Lib.hid hFR
  clear hFR hN2
  go_loopg [7] N (fun j v7 wr => ∃ (i : Nat) (T : List T3) (A : Option Addr) (p d : Nat) (l2 : List Int) (bad : Bool), v7 = .int .i64 (i : Int) ∧ i ≤ N ∧ N - i ≤ j ∧
    runI (N - i) (T.map (·.1)) l2 bad = FR ∧ RdS wr (fun b => b < w.heap.size) (w.heap.size + 1) l2 bad ∧ l2.length ≤ 100000000 ∧ T.length = p ∧ p ≤ i ∧
    Row wr w2.heap.size 24 #[.slice A p d, .int .i64 fv] ∧ OwnT wr (w2.heap.size + 1) (.slice A p d) T ∧
    (∀ t ∈ T, okT wr (fun b => w2.heap.size < b ∧ (Value.slice A p d).ownBlock ≠ some b) t) ∧ Chg (fun b => b = w.heap.size + 1) W1 wr)
  case atStart =>
    refine ⟨0, [], none, 0, 0, numL (numL l), numB (numL l) (numB l false), rfl, by omega, by omega, HFR.out, HR3.out.1.keep cX (fun f => f) (fun _ _ f => f), ?_, rfl, by omega, Row.new w2 _ _, World.ownsRow_nil _ _ _ _, by simp, HR3.out.2.trans cX.no⟩
    have e1 := numL_le l
    have e2 := numL_le (numL l)
    omega
  case round =>
    obtain ⟨i, T, A, p, d, l2, bad, rfl, i1, i2, hrun, hrd, hl2, hTp, hpi, rX, own, hok, cw⟩ := hrel
    obtain ⟨vb, rR, hbR⟩ := hrd
    have xR := rR.cell 1
    simp at xR
    have HRD := Lib.hid (show RdS wr (fun b => b < w.heap.size) (w.heap.size + 1) l2 bad from ⟨vb, rR, hbR⟩)
    clear rR hbR
    have hXr := rX.lt
    have cWr : Chg No w wr := Chg.then HR1.out.2.2 cw (fun k hk e => by omega)
    have x0 := rX.cell 0
    have x1 := rX.cell 1
    have f0 := rX.frozen
    simp at x0 x1
    by_cases hgo : i < N ∧ bad = false
    · obtain ⟨hi, rfl⟩ := hgo
      have t1 : decide ((i : Int) < nv) = true := decide_eq_true (by omega)
      have t2 : decide ((i : Int) ≤ 2000) = true := decide_eq_true (by omega)
      have hrun2 : runI (N - (i + 1)) (T.map (·.1) ++ [objO l2 false]) (objL l2 false) (objB l2 false) = FR := by
        rw [← hrun, show N - i = (N - (i + 1)) + 1 by omega]
        rfl
      obtain ⟨o3, ho3⟩ : ∃ o, objO l2 false = o := ⟨_, rfl⟩
      rw [ho3] at hrun2
      have HC := Lib.hid (And.intro own (And.intro hok (And.intro cw (And.intro rX cWr))))
      have HO := Lib.hid (And.intro ho3 hrun2)
      clear own hok cw rX hrun hrun2 ho3 cWr hN
      go_wp2_with fail
      go_region_law (first
        | (refine step_append_run rfl (.tmp 35) (.tmp 38) 22 rfl rfl rfl HR4.out ?_)
        | (go_simp; go_at_call 54
           refine (obj_any (w.heap.size + 1) l2 false (fun b => b < w.heap.size) _ (HRD.out.keep ((Chg.refl No _).drew) (fun f => f) (fun _ _ f => f)) (fun b hb => ⟨by omega, by show b < wr.heap.size; omega⟩) hl2).mono ?_
           rw [HO.out.1]
           rintro e w3 ⟨v3, rfl, ho3, hr3, c3⟩
           obtain ⟨wv3, bv3, rfl, hI3, hB3, k1, k2⟩ := ho3
           obtain ⟨A7, d7, rfl, -⟩ := hI3.form
           obtain ⟨A8, d8, rfl, -⟩ := hB3.form
           simp only [cells2]
           have x0' := (c3.cell (p := ⟨w2.heap.size, 0, none⟩) hXr (by show ¬ (w2.heap.size = w.heap.size + 1); omega)).trans x0
           have own3 := own_keep HC.out.1 (show Chg (fun b => b = w.heap.size + 1) wr w3 from ((Chg.refl _ _).drew).trans c3) (fun b hb e => by have := own_ge HC.out.1 hb; omega)
           have hs3 : wr.heap.size ≤ w3.heap.size := c3.size
           obtain ⟨v4, w4, hr4, ho4, hg4, hn4⟩ := run_app2 elem_obj (by decide) (own_keep (F := No) own3 ((Chg.refl _ _).alloc (.cells #[.int .i64 o3.cls, .int .i64 o3.kind, .slice A7 o3.W.length d7, .slice A8 o3.B.length d8] 41)) (fun _ _ f => f))
             (Slc.row (S := fun _ => True) (Row.new w3 41 #[.int .i64 o3.cls, .int .i64 o3.kind, .slice A7 o3.W.length d7, .slice A8 o3.B.length d8]) 1 4 rfl (by unfold maxLen; omega) trivial) (by simp [Value.oneCell']) (by unfold maxLen; omega) (by omega) (by simp; omega) 22
           rw [hTp] at ho4
           obtain ⟨A9, d9, rfl⟩ := own_form ho4
           have c4 : Chg (fun b => (Value.slice A p d).ownBlock = some b) w3 w4 := ((Chg.refl _ _).alloc _).grown hg4 (fun k hk => .inl hk)
           have hX4 := fun b (hb : (Value.slice A p d).ownBlock = some b) => own_ge HC.out.1 hb
           have rX4 := ((HC.out.2.2.2.1.drew2).keep c3 (by omega)).keep c4 (fun hb => by have := hX4 _ hb; omega)
           have x4f := rX4.frozen 0
           have x4 := rX4.cell 0
           have x0a := ((HC.out.2.2.2.1.drew2).keep c3 (by omega)).alloc (.cells #[.int .i64 o3.cls, .int .i64 o3.kind, .slice A7 o3.W.length d7, .slice A8 o3.B.length d8] 41) |>.cell 0
           simp at x4 x0a
           have H3 := Lib.hid (And.intro hI3 (And.intro hB3 (And.intro k1 (And.intro k2 (And.intro hr3 c3)))))
           have H4 := Lib.hid (And.intro ho4 (And.intro c4 (And.intro hn4 rX4)))
           have HR4 := Lib.hid hr4
           clear hI3 hB3 k1 k2 hr3 c3 own3 hr4 ho4 hg4 hn4 c4 hX4 rX4)
        | fail)
      all_goals (
        go_wp2_with fail
        have cG : Chg (fun b => w2.heap.size ≤ b) w3 (w4.setCell ⟨w2.heap.size, 0, none⟩ (.slice A9 (p + 1) d9)) := by
          refine Chg.setCell (F := fun b => w2.heap.size ≤ b) (H4.out.2.1.mono fun k _ hk => ?_) (.inl (Nat.le_refl _)) _
          have := own_ge HC.out.1 hk
          omega
        have cS : Chg (fun b => b = w2.heap.size) w4 (w4.setCell ⟨w2.heap.size, 0, none⟩ (.slice A9 (p + 1) d9)) := Chg.setCell (F := fun b => b = w2.heap.size) (Chg.refl _ _) (.inl rfl) _
        go_roundg (N - (i + 1))
        case measure => omega
        case rel =>
          refine ⟨i + 1, T ++ [(o3, .slice A7 o3.W.length d7, .slice A8 o3.B.length d8)], A9, p + 1, d9, objL l2 false, objB l2 false, by go_num, by omega, by omega, by simpa using HO.out.2, ?_, ?_, by simp [hTp], by omega, ?_, ?_, ?_, ?_⟩
          · rw [← HO.out.1] at *
            exact (H3.out.2.2.2.2.1.keep cG (by omega) (fun b hb e => by omega))
          · have := objL_le l2 false
            omega
          · exact H4.out.2.2.2.set 0 _
          · have e := own_keep H4.out.1 cS (fun b hb e => by have := own_ge H4.out.1 hb; omega)
            unfold OwnT
            rw [List.length_append, hTp]
            simpa [cellsT, cells2] using e
          · intro t ht
            have c3 := H3.out.2.2.2.2.2
            rcases List.mem_append.1 ht with ht | ht
            · refine ((((HC.out.2.1 t ht).keep ((Chg.refl No _).drew) (fun _ _ f => f)).keep c3 (fun b hb e => by omega)).more (S' := fun b => w2.heap.size < b ∧ (Value.slice A p d).ownBlock ≠ some b ∧ (Value.slice A9 (p + 1) d9).ownBlock ≠ some b) (fun b hb hs => ⟨hs.1, hs.2, fun e => ?_⟩)).keep H4.out.2.1 (fun b hb e => hb.2.1 e) |>.keep cS (fun b hb e => by omega) |>.more (fun b _ hb => ⟨hb.1, hb.2.2⟩)
              rcases H4.out.2.2.1 b e with h | h
              · exact hs.2 h
              · simp at h; omega
            · simp only [List.mem_singleton] at ht
              subst ht
              refine ((show okT w3 _ (o3, .slice A7 o3.W.length d7, .slice A8 o3.B.length d8) from ⟨H3.out.1, H3.out.2.1, H3.out.2.2.1, H3.out.2.2.2.1⟩).more (S' := fun b => w2.heap.size < b ∧ (Value.slice A p d).ownBlock ≠ some b ∧ (Value.slice A9 (p + 1) d9).ownBlock ≠ some b) (fun b hb hs => ?_)).keep H4.out.2.1 (fun b hb e => hb.2.1 e) |>.keep cS (fun b hb e => by omega) |>.more (fun b _ hb => ⟨hb.1, hb.2.2⟩)
              have hs' : wr.heap.size ≤ b := hs
              have h1 : (Value.slice A p d).ownBlock ≠ some b := fun e => by
                have := (HC.out.1.lt _ e).2
                omega
              refine ⟨by omega, h1, fun e => ?_⟩
              rcases H4.out.2.2.1 b e with h | h
              · exact h1 h
              · simp at h; omega
          · refine Chg.then (HC.out.2.2.1.trans ((Chg.refl _ _).drew.trans H3.out.2.2.2.2.2)) cG (fun k hk h => ?_)
            have := HR3.out.2.size
            omega)
    · have hfin : FR = (T.map (·.1), bad) := by
        rw [← hrun]
        by_cases hi : i < N
        · have hb : bad = true := by
            cases bad
            · exact absurd ⟨hi, rfl⟩ hgo
            · rfl
          subst hb
          rw [runI_bad]
        · rw [show N - i = 0 by omega]
          rfl
      have hOK : imgOkB l = (!bad && (decide (encE (T.map (·.1)) fv = 0) && decide (encI (T.map (·.1)) fv = l))) := by
        unfold imgOkB
        rw [HFL.out, hfin, show cutF l = fv from HV.out.2]
      have HC := Lib.hid (And.intro own (And.intro hok (And.intro cw (And.intro rX cWr))))
      have hZ := HR1.out.2.1.keep cw (by omega)
      have z0 := hZ.cell 0
      have z1 := hZ.cell 1
      have zf := hZ.frozen
      simp at z0 z1
      have HZ := Lib.hid hZ
      have HFIN := Lib.hid (show FR.1 = T.map (·.1) by rw [hfin])
      clear own hok cw rX hrun hfin cWr hZ
      cases bad
      · have hi : ¬ i < N := fun h => hgo ⟨h, rfl⟩
        obtain rfl : i = N := by omega
        have HRT := Lib.hid (show RefT wr (fun _ => True) (.slice A p d) T from ⟨(Slc.of_own HC.out.1).more fun _ _ _ => trivial, fun t ht => (HC.out.2.1 t ht).more fun _ _ _ => trivial⟩)
        obtain ⟨L, hL⟩ : ∃ L, T.map (·.1) = L := ⟨_, rfl⟩
        rw [hL, Bool.not_false, Bool.true_and] at hOK
        have HL := Lib.hid hL
        have fv64 : In64 fv := by rw [← HV.out.2]; exact getV_in _ _
        have HTB := Lib.hid (HT.out.keep HC.out.2.2.2.2)
        have HOK := Lib.hid hOK
        clear hL hOK
        by_cases h1 : (i : Int) < nv
        · have t1 : decide ((i : Int) < nv) = true := decide_eq_true h1
          have t2 : decide ((i : Int) ≤ 2000) = false := decide_eq_false (by omega)
          clear hgo hi hN
          obtain ⟨ee, hee⟩ : ∃ x, encE L fv = x := ⟨_, rfl⟩
          obtain ⟨ev, hev⟩ : ∃ x, encV L fv = x := ⟨_, rfl⟩
          obtain ⟨n5, hn5⟩ : ∃ x, ev.length = x := ⟨_, rfl⟩
          have HEE := Lib.hid (And.intro hee (And.intro hev hn5))
          by_cases he : ee = 0
          · have hev2 : ev = encI L fv := by rw [← hev]; unfold encV; rw [hee, if_pos he]
            have hEB : ∀ x ∈ ev, 0 ≤ x ∧ x ≤ 255 := by
              rw [hev2, ← HL.out]
              refine encI_bd fun o ho => ?_
              obtain ⟨t, ht, rfl⟩ := List.mem_map.1 ho
              exact (HRT.out.2 t ht).2.1.2
            have HEB := Lib.hid hEB
            obtain ⟨q, hq⟩ : ∃ q, decide (ev = l) = q := ⟨_, rfl⟩
            have hOK2 : imgOkB l = q := by rw [HOK.out, hee, ← hq, hev2]; simp [he]
            subst he
            have HQ := Lib.hid hq
            have HCR : (cutR l).1 = L ∧ cutF l = fv := by
              rw [← HL.out, HFL.out]
              exact ⟨HFIN.out, HV.out.2⟩
            cases q
            · have HD := Lib.hid (show imgDL l = [] ∧ imgDF l = 0 ∧ imgDE l = 180 by simp [imgDL, imgDF, imgDE, hOK2])
              clear hee hev hn5 hev2 hEB hq hOK2 HCR h1
              go_wp2_with (first
                | (go_at_call 26
                   refine (ImgEncode_any (.slice A p d) T fv fv64 _ HRT.out (by omega) HTB.out).mono ?_
                   rw [HL.out, HEE.out.1, HEE.out.2.1]
                   rintro e w5 ⟨v5, rfl, u5, rfl, hob5, c5⟩
                   obtain ⟨A5, d5, rfl⟩ : ∃ A c, u5 = .slice A n5 c := by have := hob5.form; rwa [HEE.out.2.2] at this
                   have z0' := (HZ.out.keep c5 (fun f => f)).cell 0
                   have z1' := (HZ.out.keep c5 (fun f => f)).cell 1
                   have zf' := (HZ.out.keep c5 (fun f => f)).frozen
                   have q0 := (HC.out.2.2.2.1.keep c5 (fun f => f)).cell 0
                   have q1 := (HC.out.2.2.2.1.keep c5 (fun f => f)).cell 1
                   simp at z0' z1' q0 q1
                   have H5 := Lib.hid (And.intro hob5 c5)
                   clear hob5 c5 z0 z1 zf x0 x1 f0)
                | (go_at_call 55
                   refine (EqB_any _ _ ev l _ _ _ (H5.out.1.bytes HEB.out) (HB.out.keep (HC.out.2.2.2.2.trans H5.out.2) (fun _ _ f => f))).mono ?_
                   rw [HQ.out]
                   rintro e w6 ⟨rfl, c6⟩
                   have z0'' := (HZ.out.keep (H5.out.2.trans c6) (fun f => f)).cell 0
                   have z1'' := (HZ.out.keep (H5.out.2.trans c6) (fun f => f)).cell 1
                   have zf'' := (HZ.out.keep (H5.out.2.trans c6) (fun f => f)).frozen
                   have q0' := (HC.out.2.2.2.1.keep (H5.out.2.trans c6) (fun f => f)).cell 0
                   have q1' := (HC.out.2.2.2.1.keep (H5.out.2.trans c6) (fun f => f)).cell 1
                   simp at z0'' z1'' q0' q1'
                   have H6 := Lib.hid (H5.out.2.trans c6)
                   clear c6 z0' z1' zf' q0 q1)
                | fail)
              refine bodyPost_ret (v := .tuple #[.agg #[.slice none 0 0, .int .i64 0], .int .i64 180]) (by simp [results, Tryd.results28, go_sem, z0'', z1'']) rfl (Ret.mk ?_)
              rw [HD.out.1, HD.out.2.1, HD.out.2.2]
              refine ⟨_, [], rfl, rfl, ⟨Slc.nil _ _ _, by simp⟩, ?_⟩
              exact Chg.setCell (Chg.setCell (HC.out.2.2.2.2.trans H6.out) (.inr (Nat.le_refl _)) _) (.inr (Nat.le_refl _)) _
            · have HD := Lib.hid (show imgDL l = L ∧ imgDF l = fv ∧ imgDE l = 0 by simp [imgDL, imgDF, imgDE, hOK2, HCR.1, HCR.2])
              clear hee hev hn5 hev2 hEB hq hOK2 HCR h1
              go_wp2_with (first
                | (go_at_call 26
                   refine (ImgEncode_any (.slice A p d) T fv fv64 _ HRT.out (by omega) HTB.out).mono ?_
                   rw [HL.out, HEE.out.1, HEE.out.2.1]
                   rintro e w5 ⟨v5, rfl, u5, rfl, hob5, c5⟩
                   obtain ⟨A5, d5, rfl⟩ : ∃ A c, u5 = .slice A n5 c := by have := hob5.form; rwa [HEE.out.2.2] at this
                   have z0' := (HZ.out.keep c5 (fun f => f)).cell 0
                   have z1' := (HZ.out.keep c5 (fun f => f)).cell 1
                   have zf' := (HZ.out.keep c5 (fun f => f)).frozen
                   have q0 := (HC.out.2.2.2.1.keep c5 (fun f => f)).cell 0
                   have q1 := (HC.out.2.2.2.1.keep c5 (fun f => f)).cell 1
                   simp at z0' z1' q0 q1
                   have H5 := Lib.hid (And.intro hob5 c5)
                   clear hob5 c5 z0 z1 zf x0 x1 f0)
                | (go_at_call 55
                   refine (EqB_any _ _ ev l _ _ _ (H5.out.1.bytes HEB.out) (HB.out.keep (HC.out.2.2.2.2.trans H5.out.2) (fun _ _ f => f))).mono ?_
                   rw [HQ.out]
                   rintro e w6 ⟨rfl, c6⟩
                   have z0'' := (HZ.out.keep (H5.out.2.trans c6) (fun f => f)).cell 0
                   have z1'' := (HZ.out.keep (H5.out.2.trans c6) (fun f => f)).cell 1
                   have zf'' := (HZ.out.keep (H5.out.2.trans c6) (fun f => f)).frozen
                   have q0' := (HC.out.2.2.2.1.keep (H5.out.2.trans c6) (fun f => f)).cell 0
                   have q1' := (HC.out.2.2.2.1.keep (H5.out.2.trans c6) (fun f => f)).cell 1
                   simp at z0'' z1'' q0' q1'
                   have H6 := Lib.hid (H5.out.2.trans c6)
                   clear c6 z0' z1' zf' q0 q1)
                | fail)
              refine bodyPost_ret (v := .tuple #[.agg #[.slice A p d, .int .i64 fv], .int .i64 0]) (by simp [results, Tryd.results28, go_sem, z0'', z1'']) rfl (Ret.mk ?_)
              rw [HD.out.1, HD.out.2.1, HD.out.2.2]
              have cF : Chg (fun b => b = w.heap.size) wr ((w6.setCell ⟨w.heap.size, 0, none⟩ (.slice A p d)).setCell ⟨w.heap.size, 1, none⟩ (.int .i64 fv)) := Chg.setCell (F := fun b => b = w.heap.size) (Chg.setCell (F := fun b => b = w.heap.size) H6.out.no (.inl rfl) _) (.inl rfl) _
              refine ⟨_, T, rfl, HL.out, ⟨?_, fun t ht => ((HC.out.2.1 t ht).keep cF (fun b hb e => by omega)).more (fun b _ hb => by omega)⟩, Chg.then HC.out.2.2.2.2 cF (fun k hk h => by omega)⟩
              exact ((Slc.of_own HC.out.1).keep cF (fun b hb e => by have := own_ge HC.out.1 hb; omega)).more (fun b _ hb => by have := own_ge HC.out.1 hb; omega)
          · have hOK2 : imgOkB l = false := by rw [HOK.out, hee]; simp [he]
            have te : (ee == 0) = false := by simpa using he
            have te2 : (ee != 0) = true := by simpa using he
            have HD := Lib.hid (show imgDL l = [] ∧ imgDF l = 0 ∧ imgDE l = 180 by simp [imgDL, imgDF, imgDE, hOK2])
            clear hee hev hn5 hOK2 h1 he
            go_wp2_with (first
              | (go_at_call 26
                 refine (ImgEncode_any (.slice A p d) T fv fv64 _ HRT.out (by omega) HTB.out).mono ?_
                 rw [HL.out, HEE.out.1, HEE.out.2.1]
                 rintro e w5 ⟨v5, rfl, u5, rfl, hob5, c5⟩
                 obtain ⟨A5, d5, rfl⟩ : ∃ A c, u5 = .slice A n5 c := by have := hob5.form; rwa [HEE.out.2.2] at this
                 have z0' := (HZ.out.keep c5 (fun f => f)).cell 0
                 have z1' := (HZ.out.keep c5 (fun f => f)).cell 1
                 have zf' := (HZ.out.keep c5 (fun f => f)).frozen
                 have q0 := (HC.out.2.2.2.1.keep c5 (fun f => f)).cell 0
                 have q1 := (HC.out.2.2.2.1.keep c5 (fun f => f)).cell 1
                 simp at z0' z1' q0 q1
                 have H5 := Lib.hid (And.intro hob5 c5)
                 clear hob5 c5 z0 z1 zf x0 x1 f0)
              | fail)
            refine bodyPost_ret (v := .tuple #[.agg #[.slice none 0 0, .int .i64 0], .int .i64 180]) (by simp [results, Tryd.results28, go_sem, z0', z1']) rfl (Ret.mk ?_)
            rw [HD.out.1, HD.out.2.1, HD.out.2.2]
            refine ⟨_, [], rfl, rfl, ⟨Slc.nil _ _ _, by simp⟩, ?_⟩
            exact Chg.setCell (Chg.setCell (HC.out.2.2.2.2.trans H5.out.2) (.inr (Nat.le_refl _)) _) (.inr (Nat.le_refl _)) _
        · have t1 : decide ((i : Int) < nv) = false := decide_eq_false h1
          clear hgo hi hN
          obtain ⟨ee, hee⟩ : ∃ x, encE L fv = x := ⟨_, rfl⟩
          obtain ⟨ev, hev⟩ : ∃ x, encV L fv = x := ⟨_, rfl⟩
          obtain ⟨n5, hn5⟩ : ∃ x, ev.length = x := ⟨_, rfl⟩
          have HEE := Lib.hid (And.intro hee (And.intro hev hn5))
          by_cases he : ee = 0
          · have hev2 : ev = encI L fv := by rw [← hev]; unfold encV; rw [hee, if_pos he]
            have hEB : ∀ x ∈ ev, 0 ≤ x ∧ x ≤ 255 := by
              rw [hev2, ← HL.out]
              refine encI_bd fun o ho => ?_
              obtain ⟨t, ht, rfl⟩ := List.mem_map.1 ho
              exact (HRT.out.2 t ht).2.1.2
            have HEB := Lib.hid hEB
            obtain ⟨q, hq⟩ : ∃ q, decide (ev = l) = q := ⟨_, rfl⟩
            have hOK2 : imgOkB l = q := by rw [HOK.out, hee, ← hq, hev2]; simp [he]
            subst he
            have HQ := Lib.hid hq
            have HCR : (cutR l).1 = L ∧ cutF l = fv := by
              rw [← HL.out, HFL.out]
              exact ⟨HFIN.out, HV.out.2⟩
            cases q
            · have HD := Lib.hid (show imgDL l = [] ∧ imgDF l = 0 ∧ imgDE l = 180 by simp [imgDL, imgDF, imgDE, hOK2])
              clear hee hev hn5 hev2 hEB hq hOK2 HCR h1
              go_wp2_with (first
                | (go_at_call 26
                   refine (ImgEncode_any (.slice A p d) T fv fv64 _ HRT.out (by omega) HTB.out).mono ?_
                   rw [HL.out, HEE.out.1, HEE.out.2.1]
                   rintro e w5 ⟨v5, rfl, u5, rfl, hob5, c5⟩
                   obtain ⟨A5, d5, rfl⟩ : ∃ A c, u5 = .slice A n5 c := by have := hob5.form; rwa [HEE.out.2.2] at this
                   have z0' := (HZ.out.keep c5 (fun f => f)).cell 0
                   have z1' := (HZ.out.keep c5 (fun f => f)).cell 1
                   have zf' := (HZ.out.keep c5 (fun f => f)).frozen
                   have q0 := (HC.out.2.2.2.1.keep c5 (fun f => f)).cell 0
                   have q1 := (HC.out.2.2.2.1.keep c5 (fun f => f)).cell 1
                   simp at z0' z1' q0 q1
                   have H5 := Lib.hid (And.intro hob5 c5)
                   clear hob5 c5 z0 z1 zf x0 x1 f0)
                | (go_at_call 55
                   refine (EqB_any _ _ ev l _ _ _ (H5.out.1.bytes HEB.out) (HB.out.keep (HC.out.2.2.2.2.trans H5.out.2) (fun _ _ f => f))).mono ?_
                   rw [HQ.out]
                   rintro e w6 ⟨rfl, c6⟩
                   have z0'' := (HZ.out.keep (H5.out.2.trans c6) (fun f => f)).cell 0
                   have z1'' := (HZ.out.keep (H5.out.2.trans c6) (fun f => f)).cell 1
                   have zf'' := (HZ.out.keep (H5.out.2.trans c6) (fun f => f)).frozen
                   have q0' := (HC.out.2.2.2.1.keep (H5.out.2.trans c6) (fun f => f)).cell 0
                   have q1' := (HC.out.2.2.2.1.keep (H5.out.2.trans c6) (fun f => f)).cell 1
                   simp at z0'' z1'' q0' q1'
                   have H6 := Lib.hid (H5.out.2.trans c6)
                   clear c6 z0' z1' zf' q0 q1)
                | fail)
              refine bodyPost_ret (v := .tuple #[.agg #[.slice none 0 0, .int .i64 0], .int .i64 180]) (by simp [results, Tryd.results28, go_sem, z0'', z1'']) rfl (Ret.mk ?_)
              rw [HD.out.1, HD.out.2.1, HD.out.2.2]
              refine ⟨_, [], rfl, rfl, ⟨Slc.nil _ _ _, by simp⟩, ?_⟩
              exact Chg.setCell (Chg.setCell (HC.out.2.2.2.2.trans H6.out) (.inr (Nat.le_refl _)) _) (.inr (Nat.le_refl _)) _
            · have HD := Lib.hid (show imgDL l = L ∧ imgDF l = fv ∧ imgDE l = 0 by simp [imgDL, imgDF, imgDE, hOK2, HCR.1, HCR.2])
              clear hee hev hn5 hev2 hEB hq hOK2 HCR h1
              go_wp2_with (first
                | (go_at_call 26
                   refine (ImgEncode_any (.slice A p d) T fv fv64 _ HRT.out (by omega) HTB.out).mono ?_
                   rw [HL.out, HEE.out.1, HEE.out.2.1]
                   rintro e w5 ⟨v5, rfl, u5, rfl, hob5, c5⟩
                   obtain ⟨A5, d5, rfl⟩ : ∃ A c, u5 = .slice A n5 c := by have := hob5.form; rwa [HEE.out.2.2] at this
                   have z0' := (HZ.out.keep c5 (fun f => f)).cell 0
                   have z1' := (HZ.out.keep c5 (fun f => f)).cell 1
                   have zf' := (HZ.out.keep c5 (fun f => f)).frozen
                   have q0 := (HC.out.2.2.2.1.keep c5 (fun f => f)).cell 0
                   have q1 := (HC.out.2.2.2.1.keep c5 (fun f => f)).cell 1
                   simp at z0' z1' q0 q1
                   have H5 := Lib.hid (And.intro hob5 c5)
                   clear hob5 c5 z0 z1 zf x0 x1 f0)
                | (go_at_call 55
                   refine (EqB_any _ _ ev l _ _ _ (H5.out.1.bytes HEB.out) (HB.out.keep (HC.out.2.2.2.2.trans H5.out.2) (fun _ _ f => f))).mono ?_
                   rw [HQ.out]
                   rintro e w6 ⟨rfl, c6⟩
                   have z0'' := (HZ.out.keep (H5.out.2.trans c6) (fun f => f)).cell 0
                   have z1'' := (HZ.out.keep (H5.out.2.trans c6) (fun f => f)).cell 1
                   have zf'' := (HZ.out.keep (H5.out.2.trans c6) (fun f => f)).frozen
                   have q0' := (HC.out.2.2.2.1.keep (H5.out.2.trans c6) (fun f => f)).cell 0
                   have q1' := (HC.out.2.2.2.1.keep (H5.out.2.trans c6) (fun f => f)).cell 1
                   simp at z0'' z1'' q0' q1'
                   have H6 := Lib.hid (H5.out.2.trans c6)
                   clear c6 z0' z1' zf' q0 q1)
                | fail)
              refine bodyPost_ret (v := .tuple #[.agg #[.slice A p d, .int .i64 fv], .int .i64 0]) (by simp [results, Tryd.results28, go_sem, z0'', z1'']) rfl (Ret.mk ?_)
              rw [HD.out.1, HD.out.2.1, HD.out.2.2]
              have cF : Chg (fun b => b = w.heap.size) wr ((w6.setCell ⟨w.heap.size, 0, none⟩ (.slice A p d)).setCell ⟨w.heap.size, 1, none⟩ (.int .i64 fv)) := Chg.setCell (F := fun b => b = w.heap.size) (Chg.setCell (F := fun b => b = w.heap.size) H6.out.no (.inl rfl) _) (.inl rfl) _
              refine ⟨_, T, rfl, HL.out, ⟨?_, fun t ht => ((HC.out.2.1 t ht).keep cF (fun b hb e => by omega)).more (fun b _ hb => by omega)⟩, Chg.then HC.out.2.2.2.2 cF (fun k hk h => by omega)⟩
              exact ((Slc.of_own HC.out.1).keep cF (fun b hb e => by have := own_ge HC.out.1 hb; omega)).more (fun b _ hb => by have := own_ge HC.out.1 hb; omega)
          · have hOK2 : imgOkB l = false := by rw [HOK.out, hee]; simp [he]
            have te : (ee == 0) = false := by simpa using he
            have te2 : (ee != 0) = true := by simpa using he
            have HD := Lib.hid (show imgDL l = [] ∧ imgDF l = 0 ∧ imgDE l = 180 by simp [imgDL, imgDF, imgDE, hOK2])
            clear hee hev hn5 hOK2 h1 he
            go_wp2_with (first
              | (go_at_call 26
                 refine (ImgEncode_any (.slice A p d) T fv fv64 _ HRT.out (by omega) HTB.out).mono ?_
                 rw [HL.out, HEE.out.1, HEE.out.2.1]
                 rintro e w5 ⟨v5, rfl, u5, rfl, hob5, c5⟩
                 obtain ⟨A5, d5, rfl⟩ : ∃ A c, u5 = .slice A n5 c := by have := hob5.form; rwa [HEE.out.2.2] at this
                 have z0' := (HZ.out.keep c5 (fun f => f)).cell 0
                 have z1' := (HZ.out.keep c5 (fun f => f)).cell 1
                 have zf' := (HZ.out.keep c5 (fun f => f)).frozen
                 have q0 := (HC.out.2.2.2.1.keep c5 (fun f => f)).cell 0
                 have q1 := (HC.out.2.2.2.1.keep c5 (fun f => f)).cell 1
                 simp at z0' z1' q0 q1
                 have H5 := Lib.hid (And.intro hob5 c5)
                 clear hob5 c5 z0 z1 zf x0 x1 f0)
              | fail)
            refine bodyPost_ret (v := .tuple #[.agg #[.slice none 0 0, .int .i64 0], .int .i64 180]) (by simp [results, Tryd.results28, go_sem, z0', z1']) rfl (Ret.mk ?_)
            rw [HD.out.1, HD.out.2.1, HD.out.2.2]
            refine ⟨_, [], rfl, rfl, ⟨Slc.nil _ _ _, by simp⟩, ?_⟩
            exact Chg.setCell (Chg.setCell (HC.out.2.2.2.2.trans H5.out.2) (.inr (Nat.le_refl _)) _) (.inr (Nat.le_refl _)) _
      · have hOK2 : imgOkB l = false := by rw [hOK]; rfl
        have HD := Lib.hid (show imgDL l = [] ∧ imgDF l = 0 ∧ imgDE l = 180 by simp [imgDL, imgDF, imgDE, hOK2])
        clear hOK hOK2 hgo hN
        by_cases h1 : (i : Int) < nv
        · have t1 : decide ((i : Int) < nv) = true := decide_eq_true h1
          by_cases h2 : (i : Int) ≤ 2000
          · have t2 : decide ((i : Int) ≤ 2000) = true := decide_eq_true h2
            go_wp2_with fail
            refine bodyPost_ret (v := .tuple #[.agg #[.slice none 0 0, .int .i64 0], .int .i64 180]) (by simp [results, Tryd.results28, go_sem, z0, z1]) rfl (Ret.mk ?_)
            rw [HD.out.1, HD.out.2.1, HD.out.2.2]
            refine ⟨_, [], rfl, rfl, ⟨Slc.nil _ _ _, by simp⟩, ?_⟩
            exact Chg.setCell (Chg.setCell HC.out.2.2.2.2 (.inr (Nat.le_refl _)) _) (.inr (Nat.le_refl _)) _
          · have t2 : decide ((i : Int) ≤ 2000) = false := decide_eq_false h2
            go_wp2_with fail
            refine bodyPost_ret (v := .tuple #[.agg #[.slice none 0 0, .int .i64 0], .int .i64 180]) (by simp [results, Tryd.results28, go_sem, z0, z1]) rfl (Ret.mk ?_)
            rw [HD.out.1, HD.out.2.1, HD.out.2.2]
            refine ⟨_, [], rfl, rfl, ⟨Slc.nil _ _ _, by simp⟩, ?_⟩
            exact Chg.setCell (Chg.setCell HC.out.2.2.2.2 (.inr (Nat.le_refl _)) _) (.inr (Nat.le_refl _)) _
        · have t1 : decide ((i : Int) < nv) = false := decide_eq_false h1
          go_wp2_with fail
          refine bodyPost_ret (v := .tuple #[.agg #[.slice none 0 0, .int .i64 0], .int .i64 180]) (by simp [results, Tryd.results28, go_sem, z0, z1]) rfl (Ret.mk ?_)
          rw [HD.out.1, HD.out.2.1, HD.out.2.2]
          refine ⟨_, [], rfl, rfl, ⟨Slc.nil _ _ _, by simp⟩, ?_⟩
          exact Chg.setCell (Chg.setCell HC.out.2.2.2.2 (.inr (Nat.le_refl _)) _) (.inr (Nat.le_refl _)) _

end Go.Proofs.YtncoanmgifgcbaaDoor
