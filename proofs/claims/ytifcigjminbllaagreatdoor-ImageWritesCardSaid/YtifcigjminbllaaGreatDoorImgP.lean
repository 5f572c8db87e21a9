/- The document on images (websterref18): names, Check. -/
import Derived.Test.YtifcigjminbllaaGreatDoorImgO
import Derived.Test.YtifcigjminbllaaGreatDoorImgM
import Derived.Test.YtifcigjminbllaaGreatDoorRead14
import Derived.Test.YtifcigjminbllaaGreatDoorRefs05
namespace Go.Proofs.YtifcigjminbllaaGreatDoor
set_option linter.unusedVariables false
set_option linter.unusedSimpArgs false
open Go.RowKit

theorem refsO_len (o : O) : (refsO o).length ≤ o.W.length + 1 := by
  unfold refsO
  exact Nat.le_trans (List.length_filterMap_le _ _) (by simp)
set_option maxRecDepth 100000 in
set_option maxHeartbeats 1000000 in
theorem names18_any (v : Value) (o : O) (N : Int) (S : Nat → Prop) (w : World) (h : ObjR w S v o) (hW : o.W.length ≤ 1000000) : Calls Tryz.prog 36 #[v, .int .i64 N] w fun e w' => e = .returned (.bool (namedB o N)) ∧ Chg No w w' := by
  have HO := Lib.hid h
  have HI : ∀ x ∈ refsO o, In64 x := by
    obtain ⟨wv, bv, -, h1, -, c64, -⟩ := h
    exact refsO_in c64 h1.2
  have HIN := Lib.hid HI
  obtain ⟨r, hr⟩ : ∃ r, namedB o N = r := ⟨_, rfl⟩
  rw [hr]
  have HR := Lib.hid (show (refsO o).all (upTo N) = r from hr)
  obtain ⟨A, ca, B, cb, rfl⟩ := h.shape
  have hlen := refsO_len o
  clear h HI hr
  have cA : Chg No w (w.alloc (.cells #[.int .i64 o.cls, .int .i64 o.kind, .slice A o.W.length ca, .slice B o.B.length cb] 50)) := (Chg.refl _ _).alloc _
  have HA := Lib.hid cA
  clear cA
  obtain ⟨m, hm⟩ : ∃ m, (refsO o).length = m := ⟨_, rfl⟩
  have HM := Lib.hid hm
  rw [hm] at hlen
  clear hm
  go_enter Tryz.func36, Tryz.ntmps36
  go_wp2_with (first
    | (go_at_call 58
       refine (Refs05_any _ o S _ (HO.out.keep HA.out (fun _ _ f => f)) hW).mono ?_
       rintro e w1 ⟨v1, rfl, ho, c1⟩
       obtain ⟨A1, d1, rfl⟩ : ∃ A c, v1 = .slice A m c := by have := ho.form; rwa [HM.out] at this
       have H1 := Lib.hid (And.intro (show IntS w1 (fun _ => True) _ (refsO o) from ⟨(Slc.of_own ho).more fun _ _ _ => trivial, HIN.out⟩) (HA.out.trans c1))
       clear ho c1)
    | fail)
  go_loopg [6] m (fun j v6 wr => ∃ i : Nat, v6 = .int .i64 (i : Int) ∧ i ≤ m ∧ m - i ≤ j ∧ wr = w1 ∧ ((refsO o).take i).all (upTo N) = true)
  case atStart => exact ⟨0, rfl, by omega, by omega, rfl, by simp⟩
  case round =>
    obtain ⟨i, rfl, i1, i2, rfl, hall⟩ := hrel
    by_cases hi : i < m
    · have t1 : decide ((i : Int) < (m : Int)) = true := decide_eq_true (by omega)
      have l1 : (i : Int) < (m : Int) := by omega
      obtain ⟨b, off, rfl⟩ := H1.out.1.some' (by rw [HM.out]; omega)
      obtain ⟨y0, v64⟩ := H1.out.1.lay' (i := i) (by rw [HM.out]; exact hi)
      cases hu : upTo N ((refsO o)[i]?.getD 0)
      · obtain rfl : r = false := HR.out.symm.trans (all_false_at (by rw [HM.out]; exact hi) hu)
        have t2 : decide (N < (refsO o)[i]?.getD 0) = true := by unfold upTo at hu; simp at hu; simpa using hu
        generalize (refsO o)[i]?.getD 0 = x at *
        clear hu hall
        go_wp2_with fail
        go_ret
        exact ⟨rfl, H1.out.2⟩
      · have HX := Lib.hid (all_take_succ (by rw [HM.out]; exact hi) hall hu)
        have t2 : decide (N < (refsO o)[i]?.getD 0) = false := by unfold upTo at hu; simp at hu; exact decide_eq_false (by omega)
        generalize (refsO o)[i]?.getD 0 = x at *
        clear hu hall
        go_wp2_with fail
        go_roundg (m - (i + 1))
        case measure => omega
        case rel => exact ⟨i + 1, by go_num, by omega, by omega, rfl, HX.out⟩
    · have t1 : decide ((i : Int) < (m : Int)) = false := decide_eq_false (by omega)
      obtain rfl : i = m := by omega
      obtain rfl : r = true := by
        rw [← HR.out]
        rwa [List.take_of_length_le (by rw [HM.out]; exact Nat.le_refl _)] at hall
      go_wp2_with fail
      go_ret
      exact ⟨rfl, H1.out.2⟩

theorem imgOk_parts {L : List O} {f : Int} (h : imgOk L f = true) : L.all okB = true ∧ L.length ≤ 2000 ∧ 4 ≤ L.length ∧ namedOk f = true ∧ namedV f ≤ L.length ∧ (ob L 3).kind = 1 ∧ 12 ≤ (ob L 3).W.length ∧ ∀ i, i < L.length → namedB (ob L i) L.length = true ∧ codedB L (2 * ((i : Int) + 1)) = true := by
  unfold imgOk at h
  simp only [Bool.and_eq_true, decide_eq_true_eq, beq_iff_eq, List.all_eq_true, List.mem_range] at h
  exact ⟨by rw [List.all_eq_true]; exact h.2.2.2.2.2.2.1, h.2.1, h.1, h.2.2.2.2.1, h.2.2.2.2.2.1, h.2.2.1, h.2.2.2.1, h.2.2.2.2.2.2.2⟩
theorem named_even {f : Int} : namedOk f = true → f % 2 = 0 ∧ 2 ≤ f ∧ f ≤ 2147483646 ∧ namedV f = f / 2 := by
  intro h
  unfold namedOk at h
  have h2 := of_decide_eq_true h
  exact ⟨h2.1, h2.2.1, h2.2.2, by unfold namedV; rw [if_pos h2]⟩
theorem ob_map {T : List T3} {i : Nat} {t : T3} (h : T[i]? = some t) : ob (T.map (·.1)) i = t.1 := by rw [ob, List.getElem?_map, h]; rfl
set_option maxRecDepth 100000 in
set_option maxHeartbeats 2000000 in
theorem Check18_any (lv : Value) (T : List T3) (f : Int) (f64 : In64 f) (w : World) (h : RefT w (fun _ => True) lv T) (hm : T.length ≤ maxLen) : Calls Tryz.prog 14 #[.agg #[lv, .int .i64 f]] w fun e w' => e = .returned (.int .i64 (imgE (T.map (·.1)) f)) ∧ Chg No w w' := by
  obtain ⟨A, n, c, rfl⟩ : ∃ A n c, lv = .slice A n c := by
    obtain ⟨⟨A, c, e, -⟩, -⟩ := h
    exact ⟨A, _, c, e⟩
  obtain rfl : T.length = n := by
    obtain ⟨⟨A', c', e, -⟩, -⟩ := h
    exact (Value.slice.inj e).2.1.symm
  have hmax : T.length ≤ 9223372036854775807 := by unfold maxLen at hm; simp at hm; omega
  have HT := Lib.hid h
  obtain ⟨r, hr⟩ : ∃ r, imgE (T.map (·.1)) f = r := ⟨_, rfl⟩
  rw [hr]
  have HR := Lib.hid hr
  clear h hr hm
  generalize hn : T.length = n at *
  have HN := Lib.hid (show (T.map (·.1)).length = n by rw [List.length_map]; exact hn)
  have HTN := Lib.hid hn
  have row := Row.new w 26 #[.slice A n c, .int .i64 f]
  have cA : Chg No w (w.alloc (.cells #[.slice A n c, .int .i64 f] 26)) := (Chg.refl _ _).alloc _
  have HA := Lib.hid (And.intro row cA)
  clear row cA hn
  have tm := tmod_two f
  by_cases h4 : n < 4
  · have t1 : decide ((n : Int) < 4) = true := decide_eq_true (by omega)
    obtain rfl : r = 180 := by
      rw [← HR.out, imgE, if_neg]
      intro hI
      obtain ⟨a1, a2, a3, a4, a5, a6, a7, a8⟩ := imgOk_parts hI
      rw [HN.out] at a2 a3 a5
      omega
    go_enter Tryz.func14, Tryz.ntmps14
    go_wp2_with fail
    go_ret
    exact ⟨rfl, HA.out.2⟩
  have t1 : decide ((n : Int) < 4) = false := decide_eq_false (by omega)
  by_cases h2 : 2000 < n
  · have t2 : decide (2000 < (n : Int)) = true := decide_eq_true (by omega)
    obtain rfl : r = 180 := by
      rw [← HR.out, imgE, if_neg]
      intro hI
      obtain ⟨a1, a2, a3, a4, a5, a6, a7, a8⟩ := imgOk_parts hI
      rw [HN.out] at a2 a3 a5
      omega
    go_enter Tryz.func14, Tryz.ntmps14
    go_wp2_with fail
    go_ret
    exact ⟨rfl, HA.out.2⟩
  have t2 : decide (2000 < (n : Int)) = false := decide_eq_false (by omega)
  have w2n : IntKind.i64.wrap (2 * (n : Int)) = 2 * (n : Int) := IntWalk.i64_in _ (by omega)
  obtain ⟨z, hz⟩ : ∃ z, f.tmod 2 = z := ⟨_, rfl⟩
  rw [hz] at tm
  have wz : IntKind.i64.wrap z = z := IntWalk.i64_in _ (by split at tm <;> omega)
  by_cases hz0 : z = 0
  · subst hz0
    by_cases hf2 : f < 2
    · have t3 : decide (f < 2) = true := decide_eq_true hf2
      obtain rfl : r = 180 := by
        rw [← HR.out, imgE, if_neg]
        intro hI
        obtain ⟨a1, a2, a3, a4, a5, a6, a7, a8⟩ := imgOk_parts hI
        rw [HN.out] at a2 a3 a5
        have := (named_even a4).2.1
        omega
      clear tm
      go_enter Tryz.func14, Tryz.ntmps14
      go_wp2_with fail
      go_ret
      exact ⟨rfl, HA.out.2⟩
    have t3 : decide (f < 2) = false := decide_eq_false hf2
    by_cases hfn : 2 * (n : Int) < f
    · have t4 : decide (2 * (n : Int) < f) = true := decide_eq_true hfn
      obtain rfl : r = 180 := by
        rw [← HR.out, imgE, if_neg]
        intro hI
        obtain ⟨a1, a2, a3, a4, a5, a6, a7, a8⟩ := imgOk_parts hI
        rw [HN.out] at a2 a3 a5
        have := named_even a4
        omega
      clear tm
      go_enter Tryz.func14, Tryz.ntmps14
      go_wp2_with fail
      go_ret
      exact ⟨rfl, HA.out.2⟩
    have t4 : decide (2 * (n : Int) < f) = false := decide_eq_false hfn
    have hfo : namedOk f = true ∧ namedV f ≤ (n : Int) := by
      have h1 : f % 2 = 0 := by split at tm <;> omega
      have h2 : namedOk f = true := by unfold namedOk; exact decide_eq_true ⟨h1, by omega, by omega⟩
      exact ⟨h2, by rw [(named_even h2).2.2.2]; omega⟩
    have HFO := Lib.hid hfo
    clear tm hfo hfn hf2
    obtain ⟨⟨x3, wv, bv⟩, hti⟩ : ∃ t, T[3]? = some t := ⟨_, List.getElem?_eq_getElem (by rw [HTN.out]; omega)⟩
    have HO3 := Lib.hid (ob_map hti)
    obtain ⟨b, off, rfl, -, hb, hok, y0, y1, y2, y3⟩ := (HT.out.keep HA.out.2 (fun _ _ f => f)).at hti
    dsimp only at hok y0 y1 y2 y3
    obtain ⟨A1, c1, hA1, hm1, hm2, -⟩ := hok.1.form
    dsimp only at hA1
    subst hA1
    have l3 : (3 : Int) < (n : Int) := by omega
    have l3n : 3 < n := by omega
    clear hok hti hm1 hm2
    by_cases hk3 : x3.kind = 1
    · have t5 : (x3.kind != 1) = false := by simp [hk3]
      by_cases h12 : x3.W.length < 12
      · have t6 : decide ((x3.W.length : Int) < 12) = true := decide_eq_true (by omega)
        obtain rfl : r = 180 := by
          rw [← HR.out, imgE, if_neg]
          intro hI
          obtain ⟨a1, a2, a3, a4, a5, a6, a7, a8⟩ := imgOk_parts hI
          rw [HN.out] at a2 a3 a5
          rw [HO3.out] at a7
          dsimp only at a7
          omega
        go_enter Tryz.func14, Tryz.ntmps14
        go_wp2_with fail
        go_ret
        exact ⟨rfl, HA.out.2⟩
      have t6 : decide ((x3.W.length : Int) < 12) = false := decide_eq_false (by omega)
      have HK := Lib.hid (show (ob (T.map (·.1)) 3).kind = 1 ∧ 12 ≤ (ob (T.map (·.1)) 3).W.length by rw [HO3.out]; exact ⟨hk3, by dsimp only; omega⟩)
      clear hk3 h12
      generalize x3.W.length = nw at *
      generalize x3.kind = k3 at *
      generalize x3.cls = cl3 at *
      obtain ⟨W2, hW2⟩ : ∃ W, (w.alloc (.cells #[.slice (some ⟨b, off, none⟩) n c, .int .i64 f] 26)).alloc (.cells #[.slice (some ⟨b, off, none⟩) n c] 71) = W := ⟨_, rfl⟩
      have rI2 : Row W2 w.heap.size 26 #[.slice (some ⟨b, off, none⟩) n c, .int .i64 f] := by rw [← hW2]; exact HA.out.1.alloc _
      have rM2 : Row W2 (w.heap.size + 1) 71 #[.slice (some ⟨b, off, none⟩) n c] := by rw [← hW2]; exact Row.newB w _ _ _
      have cW2 : Chg No w W2 := by rw [← hW2]; exact HA.out.2.alloc _
      have HB := Lib.hid (And.intro rI2 (And.intro rM2 cW2))
      clear rI2 rM2 cW2
      go_enter Tryz.func14, Tryz.ntmps14
      go_wp2_with fail
      try rw [hW2]
      clear hW2 y0 y1 y2 y3 HO3
      go_loopg [5] n (fun j v5 wr => ∃ i : Nat, v5 = .int .i64 (i : Int) ∧ i ≤ n ∧ n - i ≤ j ∧ Chg No W2 wr ∧ ∀ k, k < i → okB (ob (T.map (·.1)) k) = true ∧ namedB (ob (T.map (·.1)) k) (n : Int) = true)
      case atStart => exact ⟨0, rfl, by omega, by omega, Chg.refl _ _, fun k hk => by omega⟩
      case round =>
        obtain ⟨i, rfl, i1, i2, cw, hpre⟩ := hrel
        have xI := (HB.out.1.keep cw (fun f => f)).cell 0
        simp at xI
        by_cases hi : i < n
        · have t7 : decide ((i : Int) < (n : Int)) = true := decide_eq_true (by omega)
          have l7 : (i : Int) < (n : Int) := by omega
          obtain ⟨⟨x, wv2, bv2⟩, hti⟩ : ∃ t, T[i]? = some t := ⟨_, List.getElem?_eq_getElem (by rw [HTN.out]; exact hi)⟩
          have hob := ob_map hti
          obtain ⟨b', off', eb, -, hbl, hok, z0, z1, z2, z3⟩ := (HT.out.keep (HB.out.2.2.trans cw) (fun _ _ f => f)).at hti
          obtain ⟨rfl, rfl⟩ : b = b' ∧ off = off' := by simpa using Option.some.inj eb
          dsimp only at hok z0 z1 z2 z3 hob
          have HO := Lib.hid (show ObjR wr _ (.agg (cells2 x wv2 bv2)) x from ⟨wv2, bv2, rfl, hok⟩)
          obtain ⟨A4, c4, hA4, -⟩ := hok.1.form
          obtain ⟨A5, c5, hA5, -⟩ := hok.2.1.form
          dsimp only at hA4 hA5
          subst hA4 hA5
          have HC := Lib.hid (And.intro cw (And.intro hpre hob))
          clear hok hti hob cw hpre eb
          simp only [cells2] at HO
          cases hxx : okB x
          · have hck : chk x = 2 := by simp [chk, hxx]
            obtain rfl : r = 180 := by
              rw [← HR.out, imgE, if_neg]
              intro hI
              have a1 := (imgOk_parts hI).1
              have := List.all_eq_true.1 a1 (ob (T.map (·.1)) i) (by unfold ob; rw [List.getElem?_eq_getElem (by rw [HN.out]; exact hi)]; exact List.getElem_mem _)
              rw [HC.out.2.2, hxx] at this
              cases this
            have HCK := Lib.hid hck
            clear hck hxx
            go_wp2_with (first
              | (go_at_call 35
                 refine (Check05_any _ x _ _ HO.out).mono ?_
                 rw [HCK.out]
                 rintro e w5 ⟨rfl, c5⟩)
              | fail)
            go_ret
            exact ⟨rfl, (HB.out.2.2.trans HC.out.1).trans c5⟩
          · have hck : chk x = 0 := by simp [chk, hxx]
            have hwx : x.W.length ≤ 1000000 := by have := (okB_cases hxx).2.1; omega
            have HCK := Lib.hid (And.intro hck hxx)
            obtain ⟨nb, hnb⟩ : ∃ nb, namedB x (n : Int) = nb := ⟨_, rfl⟩
            have HNB := Lib.hid hnb
            clear hck hxx hnb
            cases nb
            · obtain rfl : r = 180 := by
                rw [← HR.out, imgE, if_neg]
                intro hI
                have := ((imgOk_parts hI).2.2.2.2.2.2.2 i (by rw [HN.out]; exact hi)).1
                rw [HC.out.2.2, HN.out, HNB.out] at this
                cases this
              go_wp2_with (first
                | (go_at_call 35
                   refine (Check05_any _ x _ _ HO.out).mono ?_
                   rw [HCK.out.1]
                   rintro e w5 ⟨rfl, c5⟩
                   have z0' := (c5.cell hbl (fun f => f)).trans z0
                   have z1' := (c5.cell hbl (fun f => f)).trans z1
                   have z2' := (c5.cell hbl (fun f => f)).trans z2
                   have z3' := (c5.cell hbl (fun f => f)).trans z3
                   have xI' := (HB.out.1.keep (HC.out.1.trans c5) (fun f => f)).cell 0
                   simp at xI'
                   have H5 := Lib.hid c5
                   clear c5)
                | (go_at_call 36
                   refine (names18_any _ x (n : Int) _ _ (HO.out.keep H5.out (fun _ _ f => f)) hwx).mono ?_
                   rw [HNB.out]
                   rintro e w6 ⟨rfl, c6⟩
                   have H6 := Lib.hid (H5.out.trans c6)
                   clear c6)
                | fail)
              go_ret
              exact ⟨rfl, (HB.out.2.2.trans HC.out.1).trans H6.out⟩
            · go_wp2_with (first
                | (go_at_call 35
                   refine (Check05_any _ x _ _ HO.out).mono ?_
                   rw [HCK.out.1]
                   rintro e w5 ⟨rfl, c5⟩
                   have z0' := (c5.cell hbl (fun f => f)).trans z0
                   have z1' := (c5.cell hbl (fun f => f)).trans z1
                   have z2' := (c5.cell hbl (fun f => f)).trans z2
                   have z3' := (c5.cell hbl (fun f => f)).trans z3
                   have xI' := (HB.out.1.keep (HC.out.1.trans c5) (fun f => f)).cell 0
                   simp at xI'
                   have H5 := Lib.hid c5
                   clear c5)
                | (go_at_call 36
                   refine (names18_any _ x (n : Int) _ _ (HO.out.keep H5.out (fun _ _ f => f)) hwx).mono ?_
                   rw [HNB.out]
                   rintro e w6 ⟨rfl, c6⟩
                   have H6 := Lib.hid (H5.out.trans c6)
                   clear c6)
                | fail)
              go_roundg (n - (i + 1))
              case measure => omega
              case rel =>
                refine ⟨i + 1, by go_num, by omega, by omega, HC.out.1.trans H6.out, fun k hk => ?_⟩
                rcases Nat.lt_or_ge k i with h | h
                · exact HC.out.2.1 k h
                · obtain rfl : k = i := by omega
                  rw [HC.out.2.2]
                  exact ⟨HCK.out.2, HNB.out⟩
        · have t7 : decide ((i : Int) < (n : Int)) = false := decide_eq_false (by omega)
          obtain rfl : i = n := by omega
          have HP := Lib.hid hpre
          have HC := Lib.hid cw
          clear hpre cw
          go_wp2_with fail
          obtain ⟨wa, rfl⟩ : ∃ x, x = wr := ⟨_, rfl⟩
          clear xI
          have hokL : ∀ k, (ob (T.map (·.1)) k).kind ≠ 0 → (ob (T.map (·.1)) k).ok := fun k hk => by
            have hkl := ob_lt hk
            rw [HN.out] at hkl
            obtain ⟨t, ht⟩ : ∃ t, T[k]? = some t := ⟨_, List.getElem?_eq_getElem (by rw [HTN.out]; exact hkl)⟩
            have h1 := (HP.out k hkl).1
            rw [ob_map ht] at h1 ⊢
            exact (okB_iff (HT.out.2 t (List.mem_of_getElem? ht)).2.1.2).1 h1
          have HOKL := Lib.hid hokL
          clear hokL
          go_loopg [7] i (fun j v7 wr => ∃ k : Nat, v7 = .int .i64 (k : Int) ∧ k ≤ i ∧ i - k ≤ j ∧ Chg No wa wr ∧ ∀ q, q < k → codedB (T.map (·.1)) (2 * ((q : Int) + 1)) = true)
          case atStart => exact ⟨0, rfl, by omega, by omega, Chg.refl _ _, fun q hq => by omega⟩
          case round =>
            obtain ⟨k, rfl, k1, k2, cw, hcod⟩ := hrel
            by_cases hk : k < i
            · have t8 : decide ((k : Int) < (i : Int)) = true := decide_eq_true (by omega)
              have wk1 : IntKind.i64.wrap ((k : Int) + 1) = (k : Int) + 1 := IntWalk.i64_in _ (by omega)
              have wk2 : IntKind.i64.wrap (2 * ((k : Int) + 1)) = 2 * ((k : Int) + 1) := IntWalk.i64_in _ (by omega)
              have o64 : In64 (2 * ((k : Int) + 1)) := by unfold In64; omega
              have cww := (HB.out.2.2.trans HC.out).trans cw
              have xM := (HB.out.2.1.keep (HC.out.trans cw) (fun f => f)).cell 0
              simp at xM
              obtain ⟨cb, hcb⟩ : ∃ cb, codedB (T.map (·.1)) (2 * ((k : Int) + 1)) = cb := ⟨_, rfl⟩
              have HCB := Lib.hid hcb
              unfold codedB at hcb
              have c64 := readM_in HOKL.out (2 * ((k : Int) + 1))
              obtain ⟨M, hM⟩ : ∃ M, readM (T.map (·.1)) (2 * ((k : Int) + 1)) = M := ⟨_, rfl⟩
              obtain ⟨ma, mt, mp, mc, ml, me⟩ := M
              rw [hM] at hcb c64
              dsimp only at hcb c64
              have hbl := objV_len HOKL.out mc
              obtain ⟨oe, hoe⟩ : ∃ x, objE (T.map (·.1)) mc = x := ⟨_, rfl⟩
              obtain ⟨x, hx⟩ : ∃ x, objV (T.map (·.1)) mc = x := ⟨_, rfl⟩
              rw [hoe, hx] at hcb
              rw [hx] at hbl
              have HRM := Lib.hid hM
              have HV := Lib.hid (And.intro hoe hx)
              have HC2 := Lib.hid (And.intro cw (And.intro cww hcod))
              clear hM hoe hx cw cww hcod
              by_cases he : me = 0
              · subst he
                rw [if_neg (by simp)] at hcb
                by_cases ho : oe = 0
                · subst ho
                  rw [if_neg (by simp)] at hcb
                  by_cases hk2 : x.kind = 2
                  · rw [if_neg (by simp [hk2])] at hcb
                    have t9 : (x.kind == 2) = true := by simp [hk2]
                    have HJ := Lib.hid hcb
                    clear hcb hk2
                    cases cb
                    · obtain rfl : r = 180 := by
                        rw [← HR.out, imgE, if_neg]
                        intro hI
                        have := ((imgOk_parts hI).2.2.2.2.2.2.2 k (by rw [HN.out]; exact hk)).2
                        rw [HCB.out] at this
                        cases this
                      go_wp2_with (first
                        | (go_at_call 37
                           refine (Read14_any _ (fun _ => True) (T.map (·.1)) _ ⟨_, rfl, (HT.out.keep HC2.out.2.1 (fun _ _ f => f)).toL⟩ HOKL.out (2 * ((k : Int) + 1)) o64).mono ?_
                           rw [HRM.out]
                           rintro e w5 ⟨rfl, c5⟩
                           simp only [ME.cells]
                           have rW := Row.new w5 74 #[.int .i64 ma, .int .i64 mt, .int .i64 mp, .int .i64 mc, .int .i64 ml]
                           have x3 := rW.cell 3
                           simp at x3
                           have xM5 := ((HB.out.2.1.keep ((HC.out.trans HC2.out.1).trans c5) (fun f => f)).alloc (.cells #[.int .i64 ma, .int .i64 mt, .int .i64 mp, .int .i64 mc, .int .i64 ml] 74)).cell 0
                           simp at xM5
                           have H5 := Lib.hid c5
                           clear c5 rW)
                        | (go_at_call 38
                           refine (Get14_any _ (fun _ => True) (T.map (·.1)) _ ⟨_, rfl, (HT.out.keep (HC2.out.2.1.trans (H5.out.alloc _)) (fun _ _ f => f)).toL⟩ mc c64).mono ?_
                           rw [HV.out.1, HV.out.2]
                           rintro e w6 ⟨v6, rfl, u6, rfl, hr6, c6⟩
                           obtain ⟨wv6, bv6, rfl, hI6, hB6, -, -⟩ := hr6
                           obtain ⟨A7, c7, rfl, -⟩ := hI6.form
                           obtain ⟨A8, c8, rfl, -⟩ := hB6.form
                           simp only [cells2]
                           have H6 := Lib.hid (And.intro hB6 ((H5.out.alloc _).trans c6))
                           clear hI6 hB6 c6)
                        | (go_at_call 39
                           refine (Jumps12_any _ x.B _ _ (H6.out.1.keep ((Chg.refl No _).alloc _) (fun _ _ f => f)) (by omega)).mono ?_
                           rw [HJ.out]
                           rintro e w7 ⟨rfl, c7'⟩
                           have H7 := Lib.hid ((H6.out.2.alloc _).trans c7')
                           clear c7')
                        | fail)
                      go_ret
                      exact ⟨rfl, HC2.out.2.1.trans H7.out⟩
                    · go_wp2_with (first
                        | (go_at_call 37
                           refine (Read14_any _ (fun _ => True) (T.map (·.1)) _ ⟨_, rfl, (HT.out.keep HC2.out.2.1 (fun _ _ f => f)).toL⟩ HOKL.out (2 * ((k : Int) + 1)) o64).mono ?_
                           rw [HRM.out]
                           rintro e w5 ⟨rfl, c5⟩
                           simp only [ME.cells]
                           have rW := Row.new w5 74 #[.int .i64 ma, .int .i64 mt, .int .i64 mp, .int .i64 mc, .int .i64 ml]
                           have x3 := rW.cell 3
                           simp at x3
                           have xM5 := ((HB.out.2.1.keep ((HC.out.trans HC2.out.1).trans c5) (fun f => f)).alloc (.cells #[.int .i64 ma, .int .i64 mt, .int .i64 mp, .int .i64 mc, .int .i64 ml] 74)).cell 0
                           simp at xM5
                           have H5 := Lib.hid c5
                           clear c5 rW)
                        | (go_at_call 38
                           refine (Get14_any _ (fun _ => True) (T.map (·.1)) _ ⟨_, rfl, (HT.out.keep (HC2.out.2.1.trans (H5.out.alloc _)) (fun _ _ f => f)).toL⟩ mc c64).mono ?_
                           rw [HV.out.1, HV.out.2]
                           rintro e w6 ⟨v6, rfl, u6, rfl, hr6, c6⟩
                           obtain ⟨wv6, bv6, rfl, hI6, hB6, -, -⟩ := hr6
                           obtain ⟨A7, c7, rfl, -⟩ := hI6.form
                           obtain ⟨A8, c8, rfl, -⟩ := hB6.form
                           simp only [cells2]
                           have H6 := Lib.hid (And.intro hB6 ((H5.out.alloc _).trans c6))
                           clear hI6 hB6 c6)
                        | (go_at_call 39
                           refine (Jumps12_any _ x.B _ _ (H6.out.1.keep ((Chg.refl No _).alloc _) (fun _ _ f => f)) (by omega)).mono ?_
                           rw [HJ.out]
                           rintro e w7 ⟨rfl, c7'⟩
                           have H7 := Lib.hid ((H6.out.2.alloc _).trans c7')
                           clear c7')
                        | fail)
                      go_roundg (i - (k + 1))
                      case measure => omega
                      case rel =>
                        refine ⟨k + 1, by go_num, by omega, by omega, HC2.out.1.trans H7.out, fun q hq => ?_⟩
                        rcases Nat.lt_or_ge q k with h | h
                        · exact HC2.out.2.2 q h
                        · obtain rfl : q = k := by omega
                          exact HCB.out
                  · rw [if_pos hk2] at hcb
                    obtain rfl := hcb
                    have t9 : (x.kind == 2) = false := by simpa using hk2
                    clear hk2
                    go_wp2_with (first
                      | (go_at_call 37
                         refine (Read14_any _ (fun _ => True) (T.map (·.1)) _ ⟨_, rfl, (HT.out.keep HC2.out.2.1 (fun _ _ f => f)).toL⟩ HOKL.out (2 * ((k : Int) + 1)) o64).mono ?_
                         rw [HRM.out]
                         rintro e w5 ⟨rfl, c5⟩
                         simp only [ME.cells]
                         have rW := Row.new w5 74 #[.int .i64 ma, .int .i64 mt, .int .i64 mp, .int .i64 mc, .int .i64 ml]
                         have x3 := rW.cell 3
                         simp at x3
                         have xM5 := ((HB.out.2.1.keep ((HC.out.trans HC2.out.1).trans c5) (fun f => f)).alloc (.cells #[.int .i64 ma, .int .i64 mt, .int .i64 mp, .int .i64 mc, .int .i64 ml] 74)).cell 0
                         simp at xM5
                         have H5 := Lib.hid c5
                         clear c5 rW)
                      | (go_at_call 38
                         refine (Get14_any _ (fun _ => True) (T.map (·.1)) _ ⟨_, rfl, (HT.out.keep (HC2.out.2.1.trans (H5.out.alloc _)) (fun _ _ f => f)).toL⟩ mc c64).mono ?_
                         rw [HV.out.1, HV.out.2]
                         rintro e w6 ⟨v6, rfl, u6, rfl, hr6, c6⟩
                         obtain ⟨wv6, bv6, rfl, hI6, hB6, -, -⟩ := hr6
                         obtain ⟨A7, c7, rfl, -⟩ := hI6.form
                         obtain ⟨A8, c8, rfl, -⟩ := hB6.form
                         simp only [cells2]
                         have H6 := Lib.hid (And.intro hB6 ((H5.out.alloc _).trans c6))
                         clear hI6 hB6 c6)
                      | fail)
                    go_roundg (i - (k + 1))
                    case measure => omega
                    case rel =>
                      refine ⟨k + 1, by go_num, by omega, by omega, HC2.out.1.trans (H6.out.2.alloc _), fun q hq => ?_⟩
                      rcases Nat.lt_or_ge q k with h | h
                      · exact HC2.out.2.2 q h
                      · obtain rfl : q = k := by omega
                        exact HCB.out
                · rw [if_pos ho] at hcb
                  obtain rfl := hcb
                  have t9 : (oe == 0) = false := by simpa using ho
                  clear ho
                  go_wp2_with (first
                    | (go_at_call 37
                       refine (Read14_any _ (fun _ => True) (T.map (·.1)) _ ⟨_, rfl, (HT.out.keep HC2.out.2.1 (fun _ _ f => f)).toL⟩ HOKL.out (2 * ((k : Int) + 1)) o64).mono ?_
                       rw [HRM.out]
                       rintro e w5 ⟨rfl, c5⟩
                       simp only [ME.cells]
                       have rW := Row.new w5 74 #[.int .i64 ma, .int .i64 mt, .int .i64 mp, .int .i64 mc, .int .i64 ml]
                       have x3 := rW.cell 3
                       simp at x3
                       have xM5 := ((HB.out.2.1.keep ((HC.out.trans HC2.out.1).trans c5) (fun f => f)).alloc (.cells #[.int .i64 ma, .int .i64 mt, .int .i64 mp, .int .i64 mc, .int .i64 ml] 74)).cell 0
                       simp at xM5
                       have H5 := Lib.hid c5
                       clear c5 rW)
                    | (go_at_call 38
                       refine (Get14_any _ (fun _ => True) (T.map (·.1)) _ ⟨_, rfl, (HT.out.keep (HC2.out.2.1.trans (H5.out.alloc _)) (fun _ _ f => f)).toL⟩ mc c64).mono ?_
                       rw [HV.out.1, HV.out.2]
                       rintro e w6 ⟨v6, rfl, u6, rfl, hr6, c6⟩
                       obtain ⟨wv6, bv6, rfl, hI6, hB6, -, -⟩ := hr6
                       obtain ⟨A7, c7, rfl, -⟩ := hI6.form
                       obtain ⟨A8, c8, rfl, -⟩ := hB6.form
                       simp only [cells2]
                       have H6 := Lib.hid (And.intro hB6 ((H5.out.alloc _).trans c6))
                       clear hI6 hB6 c6)
                    | fail)
                  go_roundg (i - (k + 1))
                  case measure => omega
                  case rel =>
                    refine ⟨k + 1, by go_num, by omega, by omega, HC2.out.1.trans (H6.out.2.alloc _), fun q hq => ?_⟩
                    rcases Nat.lt_or_ge q k with h | h
                    · exact HC2.out.2.2 q h
                    · obtain rfl : q = k := by omega
                      exact HCB.out
              · rw [if_pos he] at hcb
                obtain rfl := hcb
                have t9 : (me != 0) = true := by simpa using he
                clear he
                go_wp2_with (first
                  | (go_at_call 37
                     refine (Read14_any _ (fun _ => True) (T.map (·.1)) _ ⟨_, rfl, (HT.out.keep HC2.out.2.1 (fun _ _ f => f)).toL⟩ HOKL.out (2 * ((k : Int) + 1)) o64).mono ?_
                     rw [HRM.out]
                     rintro e w5 ⟨rfl, c5⟩
                     simp only [ME.cells]
                     have rW := Row.new w5 74 #[.int .i64 ma, .int .i64 mt, .int .i64 mp, .int .i64 mc, .int .i64 ml]
                     have x3 := rW.cell 3
                     simp at x3
                     have xM5 := ((HB.out.2.1.keep ((HC.out.trans HC2.out.1).trans c5) (fun f => f)).alloc (.cells #[.int .i64 ma, .int .i64 mt, .int .i64 mp, .int .i64 mc, .int .i64 ml] 74)).cell 0
                     simp at xM5
                     have H5 := Lib.hid c5
                     clear c5 rW)
                  | fail)
                go_roundg (i - (k + 1))
                case measure => omega
                case rel =>
                  refine ⟨k + 1, by go_num, by omega, by omega, HC2.out.1.trans (H5.out.alloc _), fun q hq => ?_⟩
                  rcases Nat.lt_or_ge q k with h | h
                  · exact HC2.out.2.2 q h
                  · obtain rfl : q = k := by omega
                    exact HCB.out
            · have t8 : decide ((k : Int) < (i : Int)) = false := decide_eq_false (by omega)
              obtain rfl : k = i := by omega
              obtain rfl : r = 0 := by
                rw [← HR.out, imgE, if_pos]
                unfold imgOk
                rw [HN.out, HFO.out.1, decide_eq_true HFO.out.2, decide_eq_true HK.out.2, decide_eq_true (show 4 ≤ k by omega), decide_eq_true (show k ≤ 2000 by omega), show ((ob (T.map (·.1)) 3).kind == 1) = true from beq_iff_eq.2 HK.out.1]
                simp only [Bool.true_and, Bool.and_eq_true, List.all_eq_true, List.mem_range]
                refine ⟨fun y hy => ?_, fun q hq => ⟨(HP.out q hq).2, hcod q hq⟩⟩
                obtain ⟨q, hq, e⟩ := List.getElem_of_mem hy
                have := (HP.out q (by rw [← HN.out]; exact hq)).1
                unfold ob at this
                rw [List.getElem?_eq_getElem hq] at this
                rw [← e]
                exact this
              go_wp2_with fail
              go_ret
              exact ⟨rfl, (HB.out.2.2.trans HC.out).trans cw⟩
    · have t5 : (x3.kind != 1) = true := by simpa using hk3
      obtain rfl : r = 180 := by
        rw [← HR.out, imgE, if_neg]
        intro hI
        obtain ⟨a1, a2, a3, a4, a5, a6, a7, a8⟩ := imgOk_parts hI
        rw [HN.out] at a2 a3 a5
        rw [HO3.out] at a6
        exact hk3 a6
      clear hk3
      go_enter Tryz.func14, Tryz.ntmps14
      go_wp2_with fail
      go_ret
      exact ⟨rfl, HA.out.2⟩
  · have t3 : (z != 0) = true := by simpa using hz0
    obtain rfl : r = 180 := by
      rw [← HR.out, imgE, if_neg]
      intro hI
      obtain ⟨a1, a2, a3, a4, a5, a6, a7, a8⟩ := imgOk_parts hI
      rw [HN.out] at a2 a3 a5
      have := (named_even a4).1
      split at tm <;> omega
    clear tm hz0
    go_enter Tryz.func14, Tryz.ntmps14
    go_wp2_with fail
    go_ret
    exact ⟨rfl, HA.out.2⟩

end Go.Proofs.YtifcigjminbllaaGreatDoor
