/- The document on an image of bytes: websterref18.Decode. -/
import Derived.Test.YtifcigjminbllaaGreatDoorImgW
import Derived.Test.YtifcigjminbllaaGreatDoorImgX
import Derived.Test.YtifcigjminbllaaGreatDoorSameB
namespace Go.Proofs.YtifcigjminbllaaGreatDoor
set_option linter.unusedVariables false
set_option linter.unusedSimpArgs false
open Go.RowKit

theorem dRun_bad {b : List Int} {k : Nat} {acc : List O} {at_ : Nat} (h : recOk b at_ = false) : dRun b (k + 1) acc at_ = none := by
  rw [dRun, h]
  rfl
theorem dRun_no {b : List Int} {k : Nat} {acc : List O} {at_ : Nat} (h : recOk b at_ = true) (he : decE (recAt b at_) ≠ 0) : dRun b (k + 1) acc at_ = none := by
  rw [dRun, if_pos h, if_neg he]
theorem dRun_yes {b : List Int} {k : Nat} {acc : List O} {at_ : Nat} (h : recOk b at_ = true) (he : decE (recAt b at_) = 0) : dRun b (k + 1) acc at_ = dRun b k (acc ++ [decO (recAt b at_)]) (at_ + 4 + (getV b at_).toNat) := by
  rw [dRun, if_pos h, if_pos he]
theorem ByteS.dropTake {w : World} {S : Nat → Prop} {b off n c : Nat} {l : List Int} (h : ByteS w S (.slice (Option.some ⟨b, off, Option.none⟩) n c) l) (i k : Nat) (hk : i + k ≤ l.length) : ByteS w S (.slice (Option.some ⟨b, off + i, Option.none⟩) k (c - i)) ((l.drop i).take k) :=
  (h.drop i (by omega)).take k (by rw [List.length_drop]; omega)

set_option maxRecDepth 100000 in
set_option maxHeartbeats 2000000 in
theorem Decode18_any (bv : Value) (l : List Int) (w : World) (h : ByteS w (fun _ => True) bv l) (hm : l.length ≤ 100000000) : Calls Tryz.prog 7 #[bv] w (Ret (Decd w (imgDL l) (imgDF l) (imgDE l))) := by
  obtain ⟨A, c, rfl, hlc, hcm, -⟩ := h.form
  have hcm' : c ≤ 9223372036854775807 := by unfold maxLen at hcm; simp at hcm; omega
  obtain ⟨S, hS⟩ : ∃ S : Nat → Prop, S = fun b => b < w.heap.size := ⟨_, rfl⟩
  have HX := Lib.hid (show ByteS w S _ l by rw [hS]; exact h.more fun b hb _ => hb)
  have HSS := Lib.hid (show ∀ b, S b → b < w.heap.size by rw [hS]; exact fun b hb => hb)
  clear h hcm hS
  generalize hn : l.length = n at *
  have HN := Lib.hid hn
  have cA : Chg No w (w.alloc (.cells #[.slice none 0 0, .int .i64 0] 26)) := (Chg.refl _ _).alloc _
  have HZ := Lib.hid (Row.new w 26 #[.slice none 0 0, .int .i64 0])
  have HC0 := Lib.hid cA
  have i0 : In64 0 := by unfold In64; omega
  have i4 : In64 4 := by unfold In64; omega
  obtain ⟨nv, hnv⟩ : ∃ x, getV l 0 = x := ⟨_, rfl⟩
  obtain ⟨fv, hfv⟩ : ∃ x, getV l 4 = x := ⟨_, rfl⟩
  obtain ⟨e0, he0⟩ : ∃ x, getE l 0 = x := ⟨_, rfl⟩
  obtain ⟨e4, he4⟩ : ∃ x, getE l 4 = x := ⟨_, rfl⟩
  have HG := Lib.hid (And.intro hnv (And.intro he0 (And.intro hfv he4)))
  have tok1 : True := trivial
  have hdc : dCut l = if dHead l = true then dRun l nv.toNat [] 8 else none := by unfold dCut; rw [hnv]
  clear cA
  by_cases hE0 : e0 = 0
  · subst hE0
    by_cases hE4 : e4 = 0
    · subst hE4
      by_cases hn0 : nv < 0
      · have t1 : decide (nv < 0) = true := decide_eq_true hn0
        have hd : dCut l = none := by
          rw [hdc, if_neg]
          unfold dHead
          rw [hnv, decide_eq_false (show ¬ 0 ≤ nv by omega)]
          simp
        clear hn hnv hfv he0 he4 hdc hn0
        have HD := Lib.hid (dCut_no (b := l) (fun L hL => by rw [hd] at hL; cases hL))
        have zz := HZ.out.cell 0
        have zz1 := HZ.out.cell 1
        simp at zz zz1
        clear hd
        go_enter Tryz.func7, Tryz.ntmps7
        go_wp2_with (first
          | (go_at_call 20
             have _t := tok1
             clear tok1
             refine (Get01_any _ l S _ (HX.out.keep HC0.out (fun _ _ f => f)) 0 i0).mono ?_
             rw [HG.out.1, HG.out.2.1]
             rintro e w' ⟨rfl, rfl⟩)
            | (go_at_call 20
               refine (Get01_any _ l S _ (HX.out.keep HC0.out (fun _ _ f => f)) 4 i4).mono ?_
               rw [HG.out.2.2.1, HG.out.2.2.2]
               rintro e w' ⟨rfl, rfl⟩)
          | fail)
        refine bodyPost_ret (v := .tuple #[.agg #[.slice none 0 0, .int .i64 0], .int .i64 180]) (by simp [results, Tryz.results7, go_sem, zz, zz1]) rfl (Ret.mk ?_)
        rw [HD.out.1, HD.out.2.1, HD.out.2.2]
        refine ⟨_, [], rfl, rfl, ⟨Slc.nil _ _ _, by simp⟩, ?_⟩
        repeat (with_reducible first | exact HC0.out | exact Chg.refl _ _ | refine Chg.setCell ?_ (.inr (by simp)) _ | refine Chg.alloc ?_ _)
      · have t1 : decide (nv < 0) = false := decide_eq_false hn0
        by_cases hn1 : 2000 < nv
        · have t2 : decide (2000 < nv) = true := decide_eq_true hn1
          have hd : dCut l = none := by
            rw [hdc, if_neg]
            unfold dHead
            rw [hnv, decide_eq_false (show ¬ nv ≤ 2000 by omega)]
            simp
          clear hn hnv hfv he0 he4 hdc hn0 hn1
          have HD := Lib.hid (dCut_no (b := l) (fun L hL => by rw [hd] at hL; cases hL))
          have zz := HZ.out.cell 0
          have zz1 := HZ.out.cell 1
          simp at zz zz1
          clear hd
          go_enter Tryz.func7, Tryz.ntmps7
          go_wp2_with (first
            | (go_at_call 20
               have _t := tok1
               clear tok1
               refine (Get01_any _ l S _ (HX.out.keep HC0.out (fun _ _ f => f)) 0 i0).mono ?_
               rw [HG.out.1, HG.out.2.1]
               rintro e w' ⟨rfl, rfl⟩)
              | (go_at_call 20
                 refine (Get01_any _ l S _ (HX.out.keep HC0.out (fun _ _ f => f)) 4 i4).mono ?_
                 rw [HG.out.2.2.1, HG.out.2.2.2]
                 rintro e w' ⟨rfl, rfl⟩)
            | fail)
          refine bodyPost_ret (v := .tuple #[.agg #[.slice none 0 0, .int .i64 0], .int .i64 180]) (by simp [results, Tryz.results7, go_sem, zz, zz1]) rfl (Ret.mk ?_)
          rw [HD.out.1, HD.out.2.1, HD.out.2.2]
          refine ⟨_, [], rfl, rfl, ⟨Slc.nil _ _ _, by simp⟩, ?_⟩
          repeat (with_reducible first | exact HC0.out | exact Chg.refl _ _ | refine Chg.setCell ?_ (.inr (by simp)) _ | refine Chg.alloc ?_ _)
        · have t2 : decide (2000 < nv) = false := decide_eq_false hn1
          obtain ⟨N, rfl⟩ : ∃ N : Nat, nv = (N : Int) := ⟨nv.toNat, by omega⟩
          have hN2 : N ≤ 2000 := by omega
          have h8 : 8 ≤ n := by
            unfold getE getOk at he4
            by_cases h : 0 ≤ (4 : Int) ∧ 4 + 4 ≤ (l.length : Int)
            · omega
            · rw [decide_eq_false h] at he4
              simp at he4
          have hDH : dHead l = true := by
            unfold dHead
            rw [hnv, he0, he4]
            simp
            omega
          obtain ⟨D, hD⟩ : ∃ D, dCut l = D := ⟨_, rfl⟩
          have hrun0 : dRun l N [] 8 = D := by rw [← hD, hdc, if_pos hDH]; rfl
          have HDC := Lib.hid hD
          have fv64 : In64 fv := by rw [← hfv]; exact getV_in _ _
          clear hn hnv hfv he0 he4 hdc hn0 hn1 hDH hD
          go_enter Tryz.func7, Tryz.ntmps7
          go_wp2_with (first
            | (go_at_call 20
               have _t := tok1
               clear tok1
               refine (Get01_any _ l S _ (HX.out.keep HC0.out (fun _ _ f => f)) 0 i0).mono ?_
               rw [HG.out.1, HG.out.2.1]
               rintro e w' ⟨rfl, rfl⟩)
              | (go_at_call 20
                 refine (Get01_any _ l S _ (HX.out.keep HC0.out (fun _ _ f => f)) 4 i4).mono ?_
                 rw [HG.out.2.2.1, HG.out.2.2.2]
                 rintro e w' ⟨rfl, rfl⟩)
            | fail)
          generalize hW0 : World.alloc (World.alloc w _) _ = W0
          have rZ0 : Row W0 w.heap.size 26 #[.slice none 0 0, .int .i64 0] := by rw [← hW0]; exact HZ.out.alloc _
          have rX0 : Row W0 (w.heap.size + 1) 26 #[.slice none 0 0, .int .i64 fv] := by rw [← hW0]; simpa using Row.new (w.alloc (.cells #[.slice none 0 0, .int .i64 0] 26)) 26 #[.slice none 0 0, .int .i64 fv]
          have c00 : Chg No w W0 := by rw [← hW0]; exact HC0.out.alloc _
          have H0 := Lib.hid (And.intro rZ0 (And.intro rX0 c00))
          clear rZ0 rX0 c00 hW0
          go_loopg [9, 10] N (fun j v9 v10 wr => ∃ (i a : Nat) (T : List T3) (A1 : Option Addr) (p d : Nat), v9 = .int .i64 (a : Int) ∧ v10 = .int .i64 (i : Int) ∧ i ≤ N ∧ N - i ≤ j ∧ a ≤ n ∧ dRun l (N - i) (T.map (·.1)) a = D ∧ T.length = p ∧ p = i ∧
            Row wr (w.heap.size + 1) 26 #[.slice A1 p d, .int .i64 fv] ∧ Row wr w.heap.size 26 #[.slice none 0 0, .int .i64 0] ∧ wr.ownsRow (w.heap.size + 2) 50 4 (.slice A1 p d) T.length (cellsT T) ∧
            (∀ t ∈ T, okT wr (fun b => w.heap.size + 1 < b ∧ (Value.slice A1 p d).ownBlock ≠ some b) t) ∧ Chg No w wr)
          case atStart => exact ⟨0, 8, [], none, 0, 0, rfl, rfl, by omega, by omega, h8, hrun0, rfl, rfl, H0.out.2.1, H0.out.1, World.ownsRow_nil _ _ _ _, by simp, H0.out.2.2⟩
          case round =>
            obtain ⟨i, a, T, A1, p, d, rfl, rfl, i1, i2, han, hrun, hTp, hpi, rX, rZ, own, hok, cw⟩ := hrel
            obtain rfl : i = p := hpi.symm
            have hXr := rX.lt
            have x0 := rX.cell 0
            have x1 := rX.cell 1
            have xf := rX.frozen
            have z0 := rZ.cell 0
            have z1 := rZ.cell 1
            have zf := rZ.frozen
            simp at x0 x1 z0 z1
            have HC := Lib.hid (And.intro own (And.intro hok (And.intro cw (And.intro rX rZ))))
            clear own hok cw rX rZ
            by_cases hi : i < N
            · have t5 : decide ((i : Int) < (N : Int)) = true := decide_eq_true (by omega)
              have a64 : In64 (a : Int) := by unfold In64; omega
              obtain ⟨kv, hkv⟩ : ∃ x, getV l (a : Int) = x := ⟨_, rfl⟩
              obtain ⟨ke, hke⟩ : ∃ x, getE l (a : Int) = x := ⟨_, rfl⟩
              have HGA := Lib.hid (And.intro hkv hke)
              have w1 : IntKind.i64.wrap ((n : Int) - (a : Int)) = (n : Int) - (a : Int) := IntWalk.i64_in _ (by omega)
              have w2 : IntKind.i64.wrap ((n : Int) - (a : Int) - 4) = (n : Int) - (a : Int) - 4 := IntWalk.i64_in _ (by omega)
              by_cases hrec : recOk l a = true
              · have hrec2 := hrec
                unfold recOk at hrec2
                rw [hkv, hke, HN.out] at hrec2
                simp only [Bool.and_eq_true, decide_eq_true_eq] at hrec2
                obtain ⟨rfl, hk0, hk1⟩ := hrec2
                obtain ⟨k, rfl⟩ : ∃ k : Nat, kv = (k : Int) := ⟨kv.toNat, by omega⟩
                have hak : a + 4 + k ≤ n := by omega
                have s1 : decide ((k : Int) < 0) = false := decide_eq_false (by omega)
                have s2 : decide ((n : Int) - (a : Int) - 4 < (k : Int)) = false := decide_eq_false (by omega)
                have w3 : IntKind.i64.wrap ((a : Int) + 4) = (a : Int) + 4 := IntWalk.i64_in _ (by omega)
                have w4 : IntKind.i64.wrap ((a : Int) + 4 + (k : Int)) = (a : Int) + 4 + (k : Int) := IntWalk.i64_in _ (by omega)
                have hra : recAt l a = (l.drop (a + 4)).take k := by unfold recAt; rw [hkv, Int.toNat_natCast]
                obtain ⟨b, off, rfl⟩ := HX.out.some (by rw [HN.out]; omega)
                have b1 : (a : Int) + 4 ≤ (a : Int) + 4 + (k : Int) := by omega
                have b2 : (a : Int) + 4 + (k : Int) ≤ (c : Int) := by omega
                by_cases hc4 : c = a + 4
                · obtain rfl : k = 0 := by omega
                  have hrn : recAt l a = [] := by rw [hra]; rfl
                  have hno : decE (recAt l a) ≠ 0 := by rw [hrn]; decide +kernel
                  have hD0 : D = none := by rw [← hrun, show N - i = (N - (i + 1)) + 1 by omega, dRun_no hrec hno]
                  have HD := Lib.hid (dCut_no (b := l) (fun L hL => by rw [HDC.out, hD0] at hL; cases hL))
                  have hby : ∀ (A : Option Addr), ByteS w S (.slice (some ⟨b, off, none⟩) 0 0) [] := fun _ => ⟨⟨_, _, rfl, rfl, Nat.le_refl _, Nat.zero_le _, (fun e => by cases e), fun h => absurd h (by simp)⟩, by simp⟩
                  have HBY := Lib.hid (hby none)
                  have h5 : decO [] = O.zero ∧ decE [] = 5 := by decide +kernel
                  have HDE := Lib.hid h5
                  have hlk : ([] : List Int).length ≤ 100000000 := by simp
                  have s3 : decide ((n : Int) - (a : Int) - 4 < 0) = false := decide_eq_false (by omega)
                  have td : ((5 : Int) != 0) = true := by decide
                  obtain ⟨dO, hdo⟩ : ∃ x, O.zero = x := ⟨_, rfl⟩
                  rw [hdo] at HDE
                  clear hrun hkv hke hra hrn hno hD0 hby hak hk0 hk1 h5 hdo
                  subst hc4
                  go_wp2_with (first
                    | (go_at_call 20
                       refine (Get01_any _ l S _ (HX.out.keep HC.out.2.2.1 (fun _ _ f => f)) (a : Int) a64).mono ?_
                       rw [HGA.out.1, HGA.out.2]
                       rintro e w' ⟨rfl, rfl⟩)
                    | (go_at_call 21
                       refine (Decode05_any _ _ S _ (HBY.out.keep HC.out.2.2.1 (fun _ _ f => f)) hlk).mono ?_
                       rw [HDE.out.1, HDE.out.2]
                       rintro e w3 ⟨v3, rfl, u3, rfl, ho3, c3⟩
                       obtain ⟨wv3, bv3, rfl, hI3, hB3, -, -⟩ := ho3
                       obtain ⟨A7, d7, rfl, -⟩ := hI3.form
                       obtain ⟨A8, d8, rfl, -⟩ := hB3.form
                       simp only [cells2]
                       have rzz := (HC.out.2.2.2.2.keep c3 (fun f => f)).alloc (.cells #[.int .i64 dO.cls, .int .i64 dO.kind, .slice A7 dO.W.length d7, .slice A8 dO.B.length d8] 50)
                       have zz := rzz.cell 0
                       have zz1 := rzz.cell 1
                       have zzf := rzz.frozen
                       simp at zz zz1
                       have H3 := Lib.hid c3
                       clear c3 hI3 hB3 rzz)
                    | fail)
                  try rw [Exit.noGoto_ret]
                  refine bodyPost_ret (v := .tuple #[.agg #[.slice none 0 0, .int .i64 0], .int .i64 180]) (by simp [results, Tryz.results7, go_sem, zz, zz1]) rfl (Ret.mk ?_)
                  rw [HD.out.1, HD.out.2.1, HD.out.2.2]
                  refine ⟨_, [], rfl, rfl, ⟨Slc.nil _ _ _, by simp⟩, ?_⟩
                  repeat (with_reducible first | exact ((HC.out.2.2.1.trans H3.out).alloc _) | exact Chg.refl _ _ | refine Chg.setCell ?_ (.inr (by simp)) _ | refine Chg.alloc ?_ _)
                · obtain ⟨de, hde⟩ : ∃ x, decE ((l.drop (a + 4)).take k) = x := ⟨_, rfl⟩
                  obtain ⟨dO, hdo⟩ : ∃ x, decO ((l.drop (a + 4)).take k) = x := ⟨_, rfl⟩
                  have HDE := Lib.hid (And.intro hdo hde)
                  have HBY := Lib.hid (HX.out.dropTake (a + 4) k (by rw [HN.out]; exact hak))
                  have hlk : ((l.drop (a + 4)).take k).length ≤ 100000000 := by rw [List.length_take]; omega
                  by_cases hde0 : de = 0
                  · have hrun2 : dRun l (N - (i + 1)) (T.map (·.1) ++ [dO]) (a + 4 + k) = D := by
                      rw [← hrun, show N - i = (N - (i + 1)) + 1 by omega, dRun_yes hrec (by rw [hra, hde]; exact hde0), hra, hdo, hkv, Int.toNat_natCast]
                    have HRUN := Lib.hid hrun2
                    subst hde0
                    clear hrun hkv hke hra hde hdo hk0 hk1 hrun2
                    go_wp2_with (first
                      | (go_at_call 20
                         refine (Get01_any _ l S _ (HX.out.keep HC.out.2.2.1 (fun _ _ f => f)) (a : Int) a64).mono ?_
                         rw [HGA.out.1, HGA.out.2]
                         rintro e w' ⟨rfl, rfl⟩)
                      | (go_at_call 21
                         refine (Decode05_any _ _ S _ (HBY.out.keep HC.out.2.2.1 (fun _ _ f => f)) hlk).mono ?_
                         rw [HDE.out.1, HDE.out.2]
                         rintro e w3 ⟨v3, rfl, u3, rfl, ho3, c3⟩
                         obtain ⟨wv3, bv3, rfl, hI3, hB3, k1, k2⟩ := ho3
                         obtain ⟨A7, d7, rfl, -⟩ := hI3.form
                         obtain ⟨A8, d8, rfl, -⟩ := hB3.form
                         simp only [cells2]
                         obtain ⟨W3, hW3⟩ : ∃ W, w3.alloc (.cells #[.int .i64 dO.cls, .int .i64 dO.kind, .slice A7 dO.W.length d7, .slice A8 dO.B.length d8] 50) = W := ⟨_, rfl⟩
                         have c33 : Chg No w3 W3 := by rw [← hW3]; exact (Chg.refl _ _).alloc _
                         have hsz3 : wr.heap.size ≤ w3.heap.size := c3.size
                         have hsz33 : W3.heap.size = w3.heap.size + 1 := by rw [← hW3]; simp
                         have rO3 : Row W3 w3.heap.size 50 #[.int .i64 dO.cls, .int .i64 dO.kind, .slice A7 dO.W.length d7, .slice A8 dO.B.length d8] := by rw [← hW3]; exact Row.new w3 _ _
                         have q3 := rO3.four
                         have own3 := own_keep HC.out.1 (c3.trans c33) (fun b hb e => e)
                         obtain ⟨v4, w4, hr4, ho4, hg4, hn4⟩ := run_app2 elem_obj (by decide) (own_keep (F := No) own3 ((Chg.refl _ _).alloc (.cells #[.int .i64 dO.cls, .int .i64 dO.kind, .slice A7 dO.W.length d7, .slice A8 dO.B.length d8] 50)) (fun _ _ f => f))
                           (Slc.row (S := fun _ => True) (Row.new W3 50 #[.int .i64 dO.cls, .int .i64 dO.kind, .slice A7 dO.W.length d7, .slice A8 dO.B.length d8]) 1 4 rfl (by unfold maxLen; omega) trivial) (by simp [Value.oneCell']) (by unfold maxLen; omega) (by omega) (by simp; omega) 24
                         rw [hTp] at ho4
                         rw [hsz33] at hr4
                         obtain ⟨A9, d9, rfl⟩ := own_form ho4
                         have c4 : Chg (fun b => (Value.slice A1 i d).ownBlock = some b) W3 w4 := ((Chg.refl _ _).alloc _).grown hg4 (fun k hk => .inl hk)
                         have hX4 := fun b (hb : (Value.slice A1 i d).ownBlock = some b) => own_ge HC.out.1 hb
                         have rX3 := HC.out.2.2.2.1.keep (c3.trans c33) (fun f => f)
                         have x3 := rX3.cell 0
                         have rX4 := rX3.keep c4 (fun hb => by have := hX4 _ hb; omega)
                         have rZ4 := (HC.out.2.2.2.2.keep (c3.trans c33) (fun f => f)).keep c4 (fun hb => by have := hX4 _ hb; omega)
                         have x4f := rX4.frozen 0
                         have x4 := rX4.cell 0
                         simp at x4 x3
                         have HW3 := Lib.hid hW3
                         have H3 := Lib.hid (And.intro hI3 (And.intro hB3 (And.intro k1 (And.intro k2 (And.intro c3 c33)))))
                         have H4 := Lib.hid (And.intro ho4 (And.intro c4 (And.intro hn4 (And.intro rX4 rZ4))))
                         have HR4 := Lib.hid hr4
                         clear hI3 hB3 k1 k2 c3 c33 own3 hr4 ho4 hg4 hn4 c4 hX4 rX4 rX3 rZ4 hW3 rO3)
                        | (rw [HW3.out])
                      | (at_builtin; refine wpList_append_run rfl _ _ _ rfl rfl rfl HR4.out ?_)
                      | fail)
                    have cS : Chg (fun b => b = w.heap.size + 1) w4 (w4.setCell ⟨w.heap.size + 1, 0, none⟩ (.slice A9 (i + 1) d9)) := Chg.setCell (F := fun b => b = w.heap.size + 1) (Chg.refl _ _) (.inl rfl) _
                    have c3 := H3.out.2.2.2.2.1
                    have c33 := H3.out.2.2.2.2.2
                    have cN : Chg No w (w4.setCell ⟨w.heap.size + 1, 0, none⟩ (.slice A9 (i + 1) d9)) := ((HC.out.2.2.1.trans (c3.trans c33)).then H4.out.2.1 (fun k hk e => by have := own_ge HC.out.1 e; omega)).then cS (fun k hk e => by omega)
                    go_roundg (N - (i + 1))
                    case measure => omega
                    case rel =>
                      refine ⟨i + 1, a + 4 + k, T ++ [(dO, .slice A7 dO.W.length d7, .slice A8 dO.B.length d8)], A9, i + 1, d9, by go_num, by go_num, by omega, by omega, hak, by simpa using HRUN.out, by simp [hTp], rfl, H4.out.2.2.2.1.set 0 _, H4.out.2.2.2.2.keep cS (by omega), ?_, ?_, cN⟩
                      · have e := own_keep H4.out.1 cS (fun b hb e => by have := own_ge H4.out.1 hb; omega)
                        rw [List.length_append, hTp]
                        simpa [cellsT, cells2] using e
                      · intro t ht
                        rcases List.mem_append.1 ht with ht | ht
                        · refine ((((HC.out.2.1 t ht).keep (c3.trans c33) (fun _ _ f => f)).more (S' := fun b => w.heap.size + 1 < b ∧ (Value.slice A1 i d).ownBlock ≠ some b ∧ (Value.slice A9 (i + 1) d9).ownBlock ≠ some b) (fun b hb hs => ⟨hs.1, hs.2, fun e => ?_⟩)).keep H4.out.2.1 (fun b hb e => hb.2.1 e)).keep cS (fun b hb e => by omega) |>.more (fun b _ hb => ⟨hb.1, hb.2.2⟩)
                          rcases H4.out.2.2.1 b e with h | h
                          · exact hs.2 h
                          · simp at h; omega
                        · simp only [List.mem_singleton] at ht
                          subst ht
                          refine ((((show okT w3 _ (dO, .slice A7 dO.W.length d7, .slice A8 dO.B.length d8) from ⟨H3.out.1, H3.out.2.1, H3.out.2.2.1, H3.out.2.2.2.1⟩).keep c33 (fun _ _ f => f)).more (S' := fun b => w.heap.size + 1 < b ∧ (Value.slice A1 i d).ownBlock ≠ some b ∧ (Value.slice A9 (i + 1) d9).ownBlock ≠ some b) (fun b hb hs => ?_)).keep H4.out.2.1 (fun b hb e => hb.2.1 e)).keep cS (fun b hb e => by omega) |>.more (fun b _ hb => ⟨hb.1, hb.2.2⟩)
                          have hs' : wr.heap.size ≤ b := hs
                          have h1 : (Value.slice A1 i d).ownBlock ≠ some b := fun e => by
                            have := (HC.out.1.lt _ e).2
                            omega
                          refine ⟨by omega, h1, fun e => ?_⟩
                          rcases H4.out.2.2.1 b e with h | h
                          · exact h1 h
                          · simp at h; omega
                  · have hD0 : D = none := by rw [← hrun, show N - i = (N - (i + 1)) + 1 by omega, dRun_no hrec (by rw [hra, hde]; exact hde0)]
                    have HD := Lib.hid (dCut_no (b := l) (fun L hL => by rw [HDC.out, hD0] at hL; cases hL))
                    have td : (de != 0) = true := by simpa using hde0
                    clear hrun hkv hke hra hde hdo hk0 hk1 hD0 hde0
                    go_wp2_with (first
                      | (go_at_call 20
                         refine (Get01_any _ l S _ (HX.out.keep HC.out.2.2.1 (fun _ _ f => f)) (a : Int) a64).mono ?_
                         rw [HGA.out.1, HGA.out.2]
                         rintro e w' ⟨rfl, rfl⟩)
                      | (go_at_call 21
                         refine (Decode05_any _ _ S _ (HBY.out.keep HC.out.2.2.1 (fun _ _ f => f)) hlk).mono ?_
                         rw [HDE.out.1, HDE.out.2]
                         rintro e w3 ⟨v3, rfl, u3, rfl, ho3, c3⟩
                         obtain ⟨wv3, bv3, rfl, hI3, hB3, -, -⟩ := ho3
                         obtain ⟨A7, d7, rfl, -⟩ := hI3.form
                         obtain ⟨A8, d8, rfl, -⟩ := hB3.form
                         simp only [cells2]
                         have rzz := (HC.out.2.2.2.2.keep c3 (fun f => f)).alloc (.cells #[.int .i64 dO.cls, .int .i64 dO.kind, .slice A7 dO.W.length d7, .slice A8 dO.B.length d8] 50)
                         have zz := rzz.cell 0
                         have zz1 := rzz.cell 1
                         have zzf := rzz.frozen
                         simp at zz zz1
                         have H3 := Lib.hid c3
                         clear c3 hI3 hB3 rzz)
                      | fail)
                    try rw [Exit.noGoto_ret]
                    refine bodyPost_ret (v := .tuple #[.agg #[.slice none 0 0, .int .i64 0], .int .i64 180]) (by simp [results, Tryz.results7, go_sem, zz, zz1]) rfl (Ret.mk ?_)
                    rw [HD.out.1, HD.out.2.1, HD.out.2.2]
                    refine ⟨_, [], rfl, rfl, ⟨Slc.nil _ _ _, by simp⟩, ?_⟩
                    repeat (with_reducible first | exact ((HC.out.2.2.1.trans H3.out).alloc _) | exact Chg.refl _ _ | refine Chg.setCell ?_ (.inr (by simp)) _ | refine Chg.alloc ?_ _)
              · have hD0 : D = none := by rw [← hrun, show N - i = (N - (i + 1)) + 1 by omega, dRun_bad (by simpa using hrec)]
                have HD := Lib.hid (dCut_no (b := l) (fun L hL => by rw [HDC.out, hD0] at hL; cases hL))
                by_cases hk0 : ke = 0
                · subst hk0
                  by_cases hk1 : kv < 0
                  · have s1 : decide (kv < 0) = true := decide_eq_true hk1
                    clear hrun hkv hke hrec hD0 hk1
                    go_wp2_with (first
                      | (go_at_call 20
                         refine (Get01_any _ l S _ (HX.out.keep HC.out.2.2.1 (fun _ _ f => f)) (a : Int) a64).mono ?_
                         rw [HGA.out.1, HGA.out.2]
                         rintro e w' ⟨rfl, rfl⟩)
                      | fail)
                    try rw [Exit.noGoto_ret]
                    refine bodyPost_ret (v := .tuple #[.agg #[.slice none 0 0, .int .i64 0], .int .i64 180]) (by simp [results, Tryz.results7, go_sem, z0, z1]) rfl (Ret.mk ?_)
                    rw [HD.out.1, HD.out.2.1, HD.out.2.2]
                    refine ⟨_, [], rfl, rfl, ⟨Slc.nil _ _ _, by simp⟩, ?_⟩
                    repeat (with_reducible first | exact HC.out.2.2.1 | exact Chg.refl _ _ | refine Chg.setCell ?_ (.inr (by simp)) _ | refine Chg.alloc ?_ _)
                  · have s1 : decide (kv < 0) = false := decide_eq_false hk1
                    have hk2 : (n : Int) - (a : Int) - 4 < kv := by
                      by_cases h : (n : Int) - (a : Int) - 4 < kv
                      · exact h
                      · exact absurd (show recOk l a = true by unfold recOk; rw [hkv, hke, HN.out]; simp; omega) hrec
                    have s2 : decide ((n : Int) - (a : Int) - 4 < kv) = true := decide_eq_true hk2
                    clear hrun hkv hke hrec hD0 hk1 hk2
                    go_wp2_with (first
                      | (go_at_call 20
                         refine (Get01_any _ l S _ (HX.out.keep HC.out.2.2.1 (fun _ _ f => f)) (a : Int) a64).mono ?_
                         rw [HGA.out.1, HGA.out.2]
                         rintro e w' ⟨rfl, rfl⟩)
                      | fail)
                    try rw [Exit.noGoto_ret]
                    refine bodyPost_ret (v := .tuple #[.agg #[.slice none 0 0, .int .i64 0], .int .i64 180]) (by simp [results, Tryz.results7, go_sem, z0, z1]) rfl (Ret.mk ?_)
                    rw [HD.out.1, HD.out.2.1, HD.out.2.2]
                    refine ⟨_, [], rfl, rfl, ⟨Slc.nil _ _ _, by simp⟩, ?_⟩
                    repeat (with_reducible first | exact HC.out.2.2.1 | exact Chg.refl _ _ | refine Chg.setCell ?_ (.inr (by simp)) _ | refine Chg.alloc ?_ _)
                · have tk : (ke != 0) = true := by simpa using hk0
                  clear hrun hkv hke hrec hD0 hk0
                  go_wp2_with (first
                    | (go_at_call 20
                       refine (Get01_any _ l S _ (HX.out.keep HC.out.2.2.1 (fun _ _ f => f)) (a : Int) a64).mono ?_
                       rw [HGA.out.1, HGA.out.2]
                       rintro e w' ⟨rfl, rfl⟩)
                    | fail)
                  try rw [Exit.noGoto_ret]
                  refine bodyPost_ret (v := .tuple #[.agg #[.slice none 0 0, .int .i64 0], .int .i64 180]) (by simp [results, Tryz.results7, go_sem, z0, z1]) rfl (Ret.mk ?_)
                  rw [HD.out.1, HD.out.2.1, HD.out.2.2]
                  refine ⟨_, [], rfl, rfl, ⟨Slc.nil _ _ _, by simp⟩, ?_⟩
                  repeat (with_reducible first | exact HC.out.2.2.1 | exact Chg.refl _ _ | refine Chg.setCell ?_ (.inr (by simp)) _ | refine Chg.alloc ?_ _)
            · obtain rfl : i = N := by omega
              have t5 : decide ((i : Int) < (i : Int)) = false := decide_eq_false (by omega)
              obtain ⟨L, hL⟩ : ∃ L, T.map (·.1) = L := ⟨_, rfl⟩
              have hDL : dCut l = some L := by rw [HDC.out, ← hrun, hL, show i - i = 0 by omega]; rfl
              have HL := Lib.hid hL
              have HRT := Lib.hid (show RefT wr (fun _ => True) (.slice A1 i d) T from ⟨(Slc.of_own HC.out.1).more fun _ _ _ => trivial, fun t ht => (HC.out.2.1 t ht).more fun _ _ _ => trivial⟩)
              obtain ⟨ee, hee⟩ : ∃ x, encE L fv = x := ⟨_, rfl⟩
              obtain ⟨ev, hev⟩ : ∃ x, encV L fv = x := ⟨_, rfl⟩
              obtain ⟨n5, hn5⟩ : ∃ x, ev.length = x := ⟨_, rfl⟩
              have HEE := Lib.hid (And.intro hee (And.intro hev hn5))
              have hfv : getV l 4 = fv := HG.out.2.2.1
              by_cases he : ee = 0
              · have hev2 : ev = encI L fv := by rw [← hev]; unfold encV; rw [hee, if_pos he]
                have hEB : ∀ x ∈ ev, 0 ≤ x ∧ x ≤ 255 := by
                  rw [hev2, ← HL.out]
                  refine encI_bd fun o ho => ?_
                  obtain ⟨t, ht, rfl⟩ := List.mem_map.1 ho
                  exact (HRT.out.2 t ht).2.1.2
                have HEB := Lib.hid hEB
                obtain ⟨q, hq⟩ : ∃ q, decide (ev = l) = q := ⟨_, rfl⟩
                subst he
                have HQ := Lib.hid hq
                cases q
                · have HD := Lib.hid (dCut_no (b := l) (fun M hM _ e => by
                    rw [hDL] at hM
                    cases hM
                    rw [hfv] at e
                    rw [hev2] at hq
                    exact absurd e (of_decide_eq_false hq)))
                  clear hee hev hn5 hev2 hEB hq hDL hL hrun hfv
                  go_wp2_with (first
                    | (go_at_call 11
                       refine (Encode18_any (.slice A1 i d) T fv fv64 _ HRT.out (by unfold maxLen; omega)).mono ?_
                       rw [HL.out, HEE.out.1, HEE.out.2.1]
                       rintro e w5 ⟨v5, rfl, u5, rfl, hob5, c5⟩
                       obtain ⟨A5, d5, rfl⟩ : ∃ A c, u5 = .slice A n5 c := by have := hob5.form; rwa [HEE.out.2.2] at this
                       have z0' := (HC.out.2.2.2.2.keep c5 (fun f => f)).cell 0
                       have z1' := (HC.out.2.2.2.2.keep c5 (fun f => f)).cell 1
                       have zf' := (HC.out.2.2.2.2.keep c5 (fun f => f)).frozen
                       have q0 := (HC.out.2.2.2.1.keep c5 (fun f => f)).cell 0
                       have q1 := (HC.out.2.2.2.1.keep c5 (fun f => f)).cell 1
                       simp at z0' z1' q0 q1
                       have H5 := Lib.hid (And.intro hob5 c5)
                       clear hob5 c5 z0 z1 zf x0 x1 xf)
                    | (go_at_call 12
                       refine (Same00_any _ _ ev l _ S _ (H5.out.1.bytes HEB.out) (HX.out.keep (HC.out.2.2.1.trans H5.out.2) (fun _ _ f => f))).mono ?_
                       rw [HQ.out]
                       rintro e w6 ⟨rfl, c6⟩
                       have z0'' := (HC.out.2.2.2.2.keep (H5.out.2.trans c6) (fun f => f)).cell 0
                       have z1'' := (HC.out.2.2.2.2.keep (H5.out.2.trans c6) (fun f => f)).cell 1
                       have zf'' := (HC.out.2.2.2.2.keep (H5.out.2.trans c6) (fun f => f)).frozen
                       have q0' := (HC.out.2.2.2.1.keep (H5.out.2.trans c6) (fun f => f)).cell 0
                       have q1' := (HC.out.2.2.2.1.keep (H5.out.2.trans c6) (fun f => f)).cell 1
                       simp at z0'' z1'' q0' q1'
                       have H6 := Lib.hid (H5.out.2.trans c6)
                       clear c6 z0' z1' zf' q0 q1)
                    | fail)
                  refine bodyPost_ret (v := .tuple #[.agg #[.slice none 0 0, .int .i64 0], .int .i64 180]) (by simp [results, Tryz.results7, go_sem, z0'', z1'']) rfl (Ret.mk ?_)
                  rw [HD.out.1, HD.out.2.1, HD.out.2.2]
                  refine ⟨_, [], rfl, rfl, ⟨Slc.nil _ _ _, by simp⟩, ?_⟩
                  repeat (with_reducible first | exact HC.out.2.2.1.trans H6.out | exact Chg.refl _ _ | refine Chg.setCell ?_ (.inr (by simp)) _ | refine Chg.alloc ?_ _)
                · have hel : encI L fv = l := by rw [← hev2]; exact of_decide_eq_true hq
                  have HD := Lib.hid (dCut_ok hDL (by rw [hfv]; exact hee) (by rw [hfv]; exact hel))
                  rw [hfv] at HD
                  clear hee hev hn5 hev2 hEB hq hDL hL hrun hfv hel
                  go_wp2_with (first
                    | (go_at_call 11
                       refine (Encode18_any (.slice A1 i d) T fv fv64 _ HRT.out (by unfold maxLen; omega)).mono ?_
                       rw [HL.out, HEE.out.1, HEE.out.2.1]
                       rintro e w5 ⟨v5, rfl, u5, rfl, hob5, c5⟩
                       obtain ⟨A5, d5, rfl⟩ : ∃ A c, u5 = .slice A n5 c := by have := hob5.form; rwa [HEE.out.2.2] at this
                       have z0' := (HC.out.2.2.2.2.keep c5 (fun f => f)).cell 0
                       have z1' := (HC.out.2.2.2.2.keep c5 (fun f => f)).cell 1
                       have zf' := (HC.out.2.2.2.2.keep c5 (fun f => f)).frozen
                       have q0 := (HC.out.2.2.2.1.keep c5 (fun f => f)).cell 0
                       have q1 := (HC.out.2.2.2.1.keep c5 (fun f => f)).cell 1
                       simp at z0' z1' q0 q1
                       have H5 := Lib.hid (And.intro hob5 c5)
                       clear hob5 c5 z0 z1 zf x0 x1 xf)
                    | (go_at_call 12
                       refine (Same00_any _ _ ev l _ S _ (H5.out.1.bytes HEB.out) (HX.out.keep (HC.out.2.2.1.trans H5.out.2) (fun _ _ f => f))).mono ?_
                       rw [HQ.out]
                       rintro e w6 ⟨rfl, c6⟩
                       have z0'' := (HC.out.2.2.2.2.keep (H5.out.2.trans c6) (fun f => f)).cell 0
                       have z1'' := (HC.out.2.2.2.2.keep (H5.out.2.trans c6) (fun f => f)).cell 1
                       have zf'' := (HC.out.2.2.2.2.keep (H5.out.2.trans c6) (fun f => f)).frozen
                       have q0' := (HC.out.2.2.2.1.keep (H5.out.2.trans c6) (fun f => f)).cell 0
                       have q1' := (HC.out.2.2.2.1.keep (H5.out.2.trans c6) (fun f => f)).cell 1
                       simp at z0'' z1'' q0' q1'
                       have H6 := Lib.hid (H5.out.2.trans c6)
                       clear c6 z0' z1' zf' q0 q1)
                    | fail)
                  refine bodyPost_ret (v := .tuple #[.agg #[.slice A1 i d, .int .i64 fv], .int .i64 0]) (by simp [results, Tryz.results7, go_sem, z0'', z1'']) rfl (Ret.mk ?_)
                  rw [HD.out.1, HD.out.2.1, HD.out.2.2]
                  have cF : Chg (fun b => b = w.heap.size) wr ((w6.setCell ⟨w.heap.size, 0, none⟩ (.slice A1 i d)).setCell ⟨w.heap.size, 1, none⟩ (.int .i64 fv)) := Chg.setCell (F := fun b => b = w.heap.size) (Chg.setCell (F := fun b => b = w.heap.size) H6.out.no (.inl rfl) _) (.inl rfl) _
                  refine ⟨_, T, rfl, HL.out, ⟨?_, fun t ht => ((HC.out.2.1 t ht).keep cF (fun b hb e => by omega)).more (fun b _ hb => by omega)⟩, Chg.then HC.out.2.2.1 cF (fun k hk h => by omega)⟩
                  exact ((Slc.of_own HC.out.1).keep cF (fun b hb e => by have := own_ge HC.out.1 hb; omega)).more (fun b _ hb => by have := own_ge HC.out.1 hb; omega)
              · have te : (ee != 0) = true := by simpa using he
                have HD := Lib.hid (dCut_no (b := l) (fun M hM e _ => by
                  rw [hDL] at hM
                  cases hM
                  rw [hfv, hee] at e
                  exact he e))
                clear hee hev hn5 hDL hL hrun hfv he
                go_wp2_with (first
                  | (go_at_call 11
                     refine (Encode18_any (.slice A1 i d) T fv fv64 _ HRT.out (by unfold maxLen; omega)).mono ?_
                     rw [HL.out, HEE.out.1, HEE.out.2.1]
                     rintro e w5 ⟨v5, rfl, u5, rfl, hob5, c5⟩
                     obtain ⟨A5, d5, rfl⟩ : ∃ A c, u5 = .slice A n5 c := by have := hob5.form; rwa [HEE.out.2.2] at this
                     have z0' := (HC.out.2.2.2.2.keep c5 (fun f => f)).cell 0
                     have z1' := (HC.out.2.2.2.2.keep c5 (fun f => f)).cell 1
                     have zf' := (HC.out.2.2.2.2.keep c5 (fun f => f)).frozen
                     have q0 := (HC.out.2.2.2.1.keep c5 (fun f => f)).cell 0
                     have q1 := (HC.out.2.2.2.1.keep c5 (fun f => f)).cell 1
                     simp at z0' z1' q0 q1
                     have H5 := Lib.hid (And.intro hob5 c5)
                     clear hob5 c5 z0 z1 zf x0 x1 xf)
                  | fail)
                refine bodyPost_ret (v := .tuple #[.agg #[.slice none 0 0, .int .i64 0], .int .i64 180]) (by simp [results, Tryz.results7, go_sem, z0', z1']) rfl (Ret.mk ?_)
                rw [HD.out.1, HD.out.2.1, HD.out.2.2]
                refine ⟨_, [], rfl, rfl, ⟨Slc.nil _ _ _, by simp⟩, ?_⟩
                repeat (with_reducible first | exact HC.out.2.2.1.trans H5.out.2 | exact Chg.refl _ _ | refine Chg.setCell ?_ (.inr (by simp)) _ | refine Chg.alloc ?_ _)
    · have te : (e4 != 0) = true := by simpa using hE4
      have hd : dCut l = none := by
        rw [hdc, if_neg]
        unfold dHead
        rw [he4, decide_eq_false hE4]
        simp
      clear hn hnv hfv he0 he4 hdc hE4
      have HD := Lib.hid (dCut_no (b := l) (fun L hL => by rw [hd] at hL; cases hL))
      have zz := HZ.out.cell 0
      have zz1 := HZ.out.cell 1
      simp at zz zz1
      clear hd
      go_enter Tryz.func7, Tryz.ntmps7
      go_wp2_with (first
        | (go_at_call 20
           have _t := tok1
           clear tok1
           refine (Get01_any _ l S _ (HX.out.keep HC0.out (fun _ _ f => f)) 0 i0).mono ?_
           rw [HG.out.1, HG.out.2.1]
           rintro e w' ⟨rfl, rfl⟩)
          | (go_at_call 20
             refine (Get01_any _ l S _ (HX.out.keep HC0.out (fun _ _ f => f)) 4 i4).mono ?_
             rw [HG.out.2.2.1, HG.out.2.2.2]
             rintro e w' ⟨rfl, rfl⟩)
        | fail)
      refine bodyPost_ret (v := .tuple #[.agg #[.slice none 0 0, .int .i64 0], .int .i64 180]) (by simp [results, Tryz.results7, go_sem, zz, zz1]) rfl (Ret.mk ?_)
      rw [HD.out.1, HD.out.2.1, HD.out.2.2]
      refine ⟨_, [], rfl, rfl, ⟨Slc.nil _ _ _, by simp⟩, ?_⟩
      repeat (with_reducible first | exact HC0.out | exact Chg.refl _ _ | refine Chg.setCell ?_ (.inr (by simp)) _ | refine Chg.alloc ?_ _)
  · have te : (e0 != 0) = true := by simpa using hE0
    have hd : dCut l = none := by
      rw [hdc, if_neg]
      unfold dHead
      rw [he0, decide_eq_false hE0]
      simp
    clear hn hnv hfv he0 he4 hdc hE0
    have HD := Lib.hid (dCut_no (b := l) (fun L hL => by rw [hd] at hL; cases hL))
    have zz := HZ.out.cell 0
    have zz1 := HZ.out.cell 1
    simp at zz zz1
    clear hd
    go_enter Tryz.func7, Tryz.ntmps7
    go_wp2_with (first
      | (go_at_call 20
         have _t := tok1
         clear tok1
         refine (Get01_any _ l S _ (HX.out.keep HC0.out (fun _ _ f => f)) 0 i0).mono ?_
         rw [HG.out.1, HG.out.2.1]
         rintro e w' ⟨rfl, rfl⟩)
        | (go_at_call 20
           refine (Get01_any _ l S _ (HX.out.keep HC0.out (fun _ _ f => f)) 4 i4).mono ?_
           rw [HG.out.2.2.1, HG.out.2.2.2]
           rintro e w' ⟨rfl, rfl⟩)
      | fail)
    refine bodyPost_ret (v := .tuple #[.agg #[.slice none 0 0, .int .i64 0], .int .i64 180]) (by simp [results, Tryz.results7, go_sem, zz, zz1]) rfl (Ret.mk ?_)
    rw [HD.out.1, HD.out.2.1, HD.out.2.2]
    refine ⟨_, [], rfl, rfl, ⟨Slc.nil _ _ _, by simp⟩, ?_⟩
    repeat (with_reducible first | exact HC0.out | exact Chg.refl _ _ | refine Chg.setCell ?_ (.inr (by simp)) _ | refine Chg.alloc ?_ _)

end Go.Proofs.YtifcigjminbllaaGreatDoor
