/- The document on an image's bytes: websterref18.Encode. -/
import Derived.Test.YtifcigjminbllaaGreatDoorImgV
import Derived.Test.YtifcigjminbllaaGreatDoorImgP
namespace Go.Proofs.YtifcigjminbllaaGreatDoor
set_option linter.unusedVariables false
set_option linter.unusedSimpArgs false
open Go.RowKit

set_option maxRecDepth 100000 in
set_option maxHeartbeats 2000000 in
theorem Encode18_any (lv : Value) (T : List T3) (f : Int) (f64 : In64 f) (w : World) (h : RefT w (fun _ => True) lv T) (hm : T.length ≤ maxLen) : Calls Tryz.prog 11 #[.agg #[lv, .int .i64 f]] w (Ret (ImgEnc w (encV (T.map (·.1)) f) (encE (T.map (·.1)) f))) := by
  obtain ⟨A, n, c, rfl⟩ : ∃ A n c, lv = .slice A n c := by
    obtain ⟨⟨A, c, e, -⟩, -⟩ := h
    exact ⟨A, _, c, e⟩
  obtain rfl : T.length = n := by
    obtain ⟨⟨A', c', e, -⟩, -⟩ := h
    exact (Value.slice.inj e).2.1.symm
  have HT := Lib.hid h
  clear h
  generalize hn : T.length = n at *
  have HTN := Lib.hid hn
  have HN := Lib.hid (show (T.map (·.1)).length = n by rw [List.length_map]; exact hn)
  have row := Row.new w 26 #[.slice A n c, .int .i64 f]
  have cA : Chg No w (w.alloc (.cells #[.slice A n c, .int .i64 f] 26)) := (Chg.refl _ _).alloc _
  have HA := Lib.hid (And.intro row cA)
  clear row cA hn
  unfold encV
  by_cases hok : imgOk (T.map (·.1)) f = true
  · have HCK := Lib.hid (show imgE (T.map (·.1)) f = 0 by unfold imgE; rw [if_pos hok])
    obtain ⟨hall, hn2, -⟩ := imgOk_all hok
    rw [HN.out] at hn2
    have HALL := Lib.hid hall
    have hee : encE (T.map (·.1)) f = if (encI (T.map (·.1)) f).length ≤ 262144 then 0 else 3 := by unfold encE; rw [if_pos hok]
    obtain ⟨ee, hee2⟩ : ∃ x, encE (T.map (·.1)) f = x := ⟨_, rfl⟩
    rw [hee2] at hee ⊢
    obtain ⟨ev, hev⟩ : ∃ v, (if ee = 0 then encI (T.map (·.1)) f else []) = v := ⟨_, rfl⟩
    rw [hev]
    have HEV := Lib.hid hev
    clear hev
    have HEE := Lib.hid hee
    have n64 : In64 (n : Int) := by unfold In64; omega
    clear hok hall hee hee2
    go_enter Tryz.func11, Tryz.ntmps11
    go_wp2_with (first
      | (go_at_call 14
         refine (Check18_any _ T f f64 _ (HT.out.keep HA.out.2 (fun _ _ g => g)) (by rw [HTN.out]; exact hm)).mono ?_
         rw [HCK.out]
         rintro e w1 ⟨rfl, c1⟩
         have r1 := HA.out.1.keep c1 (fun g => g)
         have xI := r1.cell 0
         have xF := r1.cell 1
         simp at xI xF
         have HRW := Lib.hid r1
         have H1 := Lib.hid (HA.out.2.trans c1)
         clear c1 r1)
      | (go_at_call 26
         refine (All01_any _ [(n : Int), f] _ _ (Int2.ofRow (Row.new _ _ _) n64 f64) (by simp)).mono ?_
         rintro e w2 ⟨v2, rfl, ho2, c2⟩
         obtain ⟨A2, d2, rfl⟩ : ∃ A c, v2 = .slice A 8 c := ho2.form
         have cA2 : Chg No w1 (w1.alloc (.cells #[.int .i64 (n : Int), .int .i64 f] 3)) := (Chg.refl _ _).alloc _
         have rR := HRW.out.keep (cA2.trans c2) (fun g => g)
         have hs2 := (cA2.trans c2).size
         have H2 := Lib.hid (And.intro (ho2.base (base' := w.heap.size + 1) (by have := HRW.out.lt; have := cA2.size; omega)) (And.intro (H1.out.trans (cA2.trans c2)) rR))
         clear ho2 c2 cA2 rR xI xF)
      | fail)
    go_loopg [5, 6] n (fun j v5 v6 wr => ∃ (i p : Nat) (A5 : Option Addr) (d5 : Nat), v6 = .int .i64 (i : Int) ∧ v5 = .slice A5 p d5 ∧ i ≤ n ∧ n - i ≤ j ∧ OwnB wr (w.heap.size + 1) (.slice A5 p d5) (allB [(n : Int), f] ++ ((T.map (·.1)).take i).flatMap recB) ∧ p ≤ 8 + 5016 * i ∧ (allB [(n : Int), f] ++ ((T.map (·.1)).take i).flatMap recB).length = p ∧ Chg No w wr ∧ Row wr w.heap.size 26 #[.slice A n c, .int .i64 f])
    case atStart => exact ⟨0, 8, A2, d2, rfl, rfl, by omega, by omega, by rw [List.take_zero, List.flatMap_nil, List.append_nil]; exact H2.out.1, by omega, rfl, H2.out.2.1, H2.out.2.2⟩
    case round =>
      obtain ⟨i, p, A5, d5, rfl, rfl, i1, i2, own, hp, hpl, cw, rX⟩ := hrel
      have x0 := rX.cell 0
      simp at x0
      by_cases hi : i < n
      · have t6 : decide ((i : Int) < (n : Int)) = true := decide_eq_true (by omega)
        have l6 : (i : Int) < (n : Int) := by omega
        obtain ⟨⟨x, wv2, bv2⟩, hti⟩ : ∃ t, T[i]? = some t := ⟨_, List.getElem?_eq_getElem (by rw [HTN.out]; exact hi)⟩
        have hokx : okB x = true := List.all_eq_true.1 HALL.out x (List.mem_map.2 ⟨_, List.mem_of_getElem? hti, rfl⟩)
        have hxl := okB_encB hokx
        obtain ⟨b, off, rfl, -, hbl, hok, z0, z1, z2, z3⟩ := (HT.out.keep cw (fun _ _ g => g)).at hti
        dsimp only at hok z0 z1 z2 z3
        have HO := Lib.hid (show ObjR wr _ (.agg (cells2 x wv2 bv2)) x from ⟨wv2, bv2, rfl, hok⟩)
        have HBB := Lib.hid (encB_bd (o := x) hok.2.1.2)
        obtain ⟨A4, c4, hA4, -⟩ := hok.1.form
        obtain ⟨A6, c6, hA6, -⟩ := hok.2.1.form
        dsimp only at hA4 hA6
        subst hA4 hA6
        have hsn : allB [(n : Int), f] ++ ((T.map (·.1)).take (i + 1)).flatMap recB = (allB [(n : Int), f] ++ ((T.map (·.1)).take i).flatMap recB) ++ putB (encB x).length ++ encB x := by
          rw [List.take_add_one, List.getElem?_map, hti]
          simp [recB]
        obtain ⟨acc, hacc⟩ : ∃ acc, allB [(n : Int), f] ++ ((T.map (·.1)).take i).flatMap recB = acc := ⟨_, rfl⟩
        rw [hacc] at own hpl hsn
        have HS := Lib.hid (And.intro hsn hpl)
        have HC := Lib.hid (And.intro own (And.intro cw rX))
        have HKX := Lib.hid hokx
        have hs1 := rX.lt
        clear hok hti own cw hsn hacc hokx hpl rX
        simp only [cells2] at HO
        obtain ⟨nb, hnb⟩ : ∃ nb, (encB x).length = nb := ⟨_, rfl⟩
        rw [hnb] at hxl
        have HNB := Lib.hid hnb
        have nb64 : In64 (nb : Int) := by unfold In64; omega
        clear hnb
        go_wp2_with (first
          | (go_at_call 27
             refine (Encode05_ok _ x _ _ HO.out HKX.out).mono ?_
             rintro e w5 ⟨v5, rfl, u5, rfl, ho5, c5⟩
             obtain ⟨A7, d7, rfl⟩ : ∃ A c, u5 = .slice A nb c := by have := ho5.form; rwa [HNB.out] at this
             have H5 := Lib.hid (And.intro ho5 c5)
             clear ho5 c5)
          | (go_at_call 28
             refine (Put01_any (nb : Int) nb64 w5).mono ?_
             rintro e w6 ⟨v6, rfl, rfl, ho6, c6⟩
             have c06 := H5.out.2.trans c6
             obtain ⟨A8, d8, w7, hr7, ho7, cg7⟩ := app_bytes2 (HC.out.1.keep c06 (fun _ _ f => f)) (ho6.bytes (putB_bd _)) (by rw [HS.out.2]; simp [putB]; omega) (by have := c06.size; omega) 22
             have hb7 : ByteS w7 _ (.slice A7 nb d7) (encB x) := ((H5.out.1.bytes HBB.out).keep c6 (fun _ _ f => f)).keep cg7 (fun b hb h => by
               have := (HC.out.1.lt _ h).2
               have hb' : wr.heap.size ≤ b := hb
               omega)
             have c07 : Chg No w w7 := (HC.out.2.1.trans c06).then cg7 (fun k hk h => absurd (HC.out.1.lt _ h).1 (by omega))
             have rX7 := (HC.out.2.2.keep c06 (fun f => f)).keep cg7 (fun h => absurd (HC.out.1.lt _ h).1 (by omega))
             have hq4 : (acc ++ putB (nb : Int)).length = p + 4 := by rw [List.length_append, HS.out.2]; rfl
             obtain ⟨A9, d9, w8, hr8, ho8, cg8⟩ := app_bytes2 ho7 hb7 (by rw [hq4, HNB.out]; omega) (by have := rX7.lt; omega) 22
             have hq8 : (acc ++ putB (nb : Int) ++ encB x).length = p + 4 + nb := by rw [List.length_append, hq4, HNB.out]
             have c08 : Chg No w w8 := c07.then cg8 (fun k hk h => absurd (ho7.lt _ h).1 (by omega))
             have rX8 := rX7.keep cg8 (fun h => absurd (ho7.lt _ h).1 (by omega))
             rw [hq4] at hr7 hr8 ho7
             rw [hq8] at hr8 ho8
             have HR7 := Lib.hid hr7
             have HR8 := Lib.hid hr8
             have H8 := Lib.hid (And.intro ho8 (And.intro hq8 (And.intro c08 rX8)))
             clear ho6 c6 c06 hr7 ho7 cg7 hb7 c07 hq4 hr8 ho8 cg8 hq8 c08 rX7 rX8)
          | (at_builtin; refine wpList_append_run rfl _ _ _ rfl rfl rfl HR7.out ?_)
          | (at_builtin; refine wpList_append_run rfl _ _ _ rfl rfl rfl HR8.out ?_)
          | fail)
        go_roundg (n - (i + 1))
        case measure => omega
        case rel =>
          refine ⟨i + 1, p + 4 + nb, A9, d9, by go_num, rfl, by omega, by omega, ?_, by omega, ?_, H8.out.2.2.1, H8.out.2.2.2⟩
          · rw [HS.out.1, HNB.out]
            exact H8.out.1
          · rw [HS.out.1, HNB.out]
            exact H8.out.2.1
      · have t6 : decide ((i : Int) < (n : Int)) = false := decide_eq_false (by omega)
        obtain rfl : i = n := by omega
        rw [List.take_of_length_le (by rw [HN.out]; exact Nat.le_refl _), show allB [(i : Int), f] ++ (T.map (·.1)).flatMap recB = encI (T.map (·.1)) f by unfold encI; rw [HN.out]] at own hpl
        rw [hpl] at HEE
        have HC := Lib.hid (And.intro own cw)
        by_cases hbig : 262144 < p
        · have t7 : decide (262144 < (p : Int)) = true := decide_eq_true (by omega)
          obtain rfl : ee = 3 := by rw [HEE.out, if_neg (by omega)]
          obtain rfl : ev = [] := by rw [← HEV.out, if_neg (by decide)]
          clear own hpl cw
          go_wp2_with fail
          go_ret2
          exact Ret.mk ⟨_, rfl, OwnB.nil _ _, HC.out.2⟩
        · have t7 : decide (262144 < (p : Int)) = false := decide_eq_false (by omega)
          obtain rfl : ee = 0 := by rw [HEE.out, if_pos (by omega)]
          obtain rfl : ev = encI (T.map (·.1)) f := by rw [← HEV.out, if_pos rfl]
          clear own hpl cw
          go_wp2_with fail
          go_ret2
          exact Ret.mk ⟨_, rfl, HC.out.1.base (by omega), HC.out.2⟩
  · have hok' : imgOk (T.map (·.1)) f = false := by simpa using hok
    have HCK := Lib.hid (show imgE (T.map (·.1)) f = 180 by unfold imgE; rw [if_neg hok])
    have hee : encE (T.map (·.1)) f = 180 := by unfold encE; rw [if_neg hok]
    rw [hee, if_neg (by decide)]
    clear hok hok' hee
    go_enter Tryz.func11, Tryz.ntmps11
    go_wp2_with (first
      | (go_at_call 14
         refine (Check18_any _ T f f64 _ (HT.out.keep HA.out.2 (fun _ _ g => g)) (by rw [HTN.out]; exact hm)).mono ?_
         rw [HCK.out]
         rintro e w1 ⟨rfl, c1⟩
         have r1 := HA.out.1.keep c1 (fun g => g)
         have xI := r1.cell 0
         have xF := r1.cell 1
         simp at xI xF
         have HRW := Lib.hid r1
         have H1 := Lib.hid (HA.out.2.trans c1)
         clear c1 r1)
      | fail)
    go_ret2
    exact Ret.mk ⟨_, rfl, OwnB.nil _ _, H1.out⟩

end Go.Proofs.YtifcigjminbllaaGreatDoor
