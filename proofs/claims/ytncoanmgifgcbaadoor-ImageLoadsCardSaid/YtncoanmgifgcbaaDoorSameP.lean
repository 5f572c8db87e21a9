/- The program's own Same: slices.Equal over numbers, wide.Same, slices.EqualFunc over objects, image.Same; told in full. -/
import Derived.Test.YtncoanmgifgcbaaDoorImgT
namespace Go.Proofs.YtncoanmgifgcbaaDoor
set_option linter.unusedVariables false
set_option linter.unusedSimpArgs false
open Go.RowKit

set_option maxRecDepth 100000 in
set_option maxHeartbeats 1000000 in
theorem EqI_any (a b : Value) (l m : List Int) (S S2 : Nat → Prop) (w : World) (ha : IntS w S a l) (hb : IntS w S2 b m) :
    Calls Tryd.prog 36 #[a, b] w fun e w' => e = .returned (.bool (decide (l = m))) ∧ Chg No w w' := by
  obtain ⟨A, c, rfl, h1, h2, h3, h4⟩ := ha.form
  obtain ⟨B, c', rfl, h1', h2', h3', h4'⟩ := hb.form
  have HA := Lib.hid (And.intro ha h4)
  have HB := Lib.hid (And.intro hb h4')
  have hmax : l.length ≤ 9223372036854775807 := by unfold maxLen at h2; omega
  obtain ⟨r, hr⟩ : ∃ r, decide (l = m) = r := ⟨_, rfl⟩
  rw [hr]
  clear ha hb h3 h3' h4 h4' h1 h1' h2 h2'
  by_cases hn : l.length = m.length
  · have HRr := Lib.hid hr
    have HN := Lib.hid hn
    rw [← hn]
    clear hn hr
    generalize hn : l.length = n at *
    go_enter Tryd.func36, Tryd.ntmps36
    go_wp2_with fail
    go_loopg [13] n (fun j v13 wr => ∃ k : Nat, v13 = .int .i64 k ∧ k ≤ n ∧ n - k ≤ j ∧ Chg No w wr ∧ l.take k = m.take k)
    case atStart => exact ⟨0, rfl, by omega, by omega, Chg.refl _ _, rfl⟩
    case round =>
      obtain ⟨k, rfl, k1, k2, ck, htk⟩ := hrel
      by_cases hkn : k < n
      · have t1 : decide ((k : Int) < (n : Int)) = true := decide_eq_true (by omega)
        have l1 : (k : Int) < (n : Int) := by omega
        obtain ⟨b, off, rfl, _, hb, hcx, _⟩ := HA.out.2 k hkn
        obtain ⟨b', off', rfl, _, hb', hcy, _⟩ := HB.out.2 k (by rw [← HN.out]; exact hkn)
        replace hcx := (ck.cell (p := ⟨b, off + k, none⟩) hb (fun f => f)).trans hcx
        replace hcy := (ck.cell (p := ⟨b', off' + k, none⟩) hb' (fun f => f)).trans hcy
        have hne := take_ne2 (by rw [hn]; exact hkn) (by rw [← HN.out]; exact hkn) htk
        by_cases hxy : l[k]?.getD 0 = m[k]?.getD 0
        · have HT := Lib.hid (hne.2 hxy)
          rw [hxy] at hcx
          generalize m[k]?.getD 0 = x at *
          clear hne hxy htk
          go_wp2_with fail
          go_quiet (fail)
          go_wp2_with fail
          go_roundg (n - (k + 1))
          case measure => omega
          case rel => exact ⟨k + 1, by go_num, by omega, by omega, ck.drewN _, HT.out⟩
        · obtain rfl : r = false := by
            rw [← HRr.out]
            refine decide_eq_false fun e => hxy ?_
            rw [e]
          have t2 : (l[k]?.getD 0 == m[k]?.getD 0) = false := beq_eq_false_iff_ne.2 hxy
          have t3 : (l[k]?.getD 0 != m[k]?.getD 0) = true := by simpa using hxy
          clear hne hxy
          generalize l[k]?.getD 0 = x at *
          generalize m[k]?.getD 0 = y at *
          clear htk
          go_wp2_with fail
          go_quiet (fail)
          go_wp2_with fail
          go_ret
          exact ⟨rfl, ck.drewN _⟩
      · obtain rfl : k = n := by omega
        have t1 : decide ((k : Int) < (k : Int)) = false := decide_eq_false (by omega)
        obtain rfl : r = true := by
          rw [← HRr.out]
          rw [List.take_of_length_le (by omega), List.take_of_length_le (by rw [← HN.out]; exact Nat.le_refl _)] at htk
          exact decide_eq_true htk
        go_wp2_with fail
        go_ret
        exact ⟨rfl, ck⟩
  · obtain rfl : r = false := by
      rw [← hr]
      exact decide_eq_false fun e => hn (by rw [e])
    have t1 : (l.length == m.length) = false := beq_eq_false_iff_ne.2 hn
    have t2 : ((l.length : Int) == (m.length : Int)) = false := beq_eq_false_iff_ne.2 (by omega)
    have t3 : ((l.length : Int) != (m.length : Int)) = true := by simp [bne, t2]
    have t4 : (l.length != m.length) = true := by simp [bne, t1]
    clear hn hr
    go_enter Tryd.func36, Tryd.ntmps36
    go_wp2_with fail
    go_ret
    exact ⟨rfl, Chg.refl _ _⟩

set_option maxRecDepth 100000 in
set_option maxHeartbeats 1000000 in
theorem SameW_any (a b : Value) (o x : O) (S S2 : Nat → Prop) (w : World) (ha : ObjR w S a o) (hb : ObjR w S2 b x) :
    Calls Tryd.prog 38 #[a, b] w fun e w' => e = .returned (.bool (decide (o = x))) ∧ Chg No w w' := by
  obtain ⟨aw, ab, rfl, h1, h2, -⟩ := ha
  obtain ⟨bw, bb, rfl, h3, h4, -⟩ := hb
  have H := Lib.hid (And.intro (And.intro h1 h2) (And.intro h3 h4))
  obtain ⟨A1, c1, rfl, -⟩ := h1.form
  obtain ⟨A2, c2, rfl, -⟩ := h2.form
  obtain ⟨A3, c3, rfl, -⟩ := h3.form
  obtain ⟨A4, c4, rfl, -⟩ := h4.form
  clear h1 h2 h3 h4
  simp only [cells2]
  obtain ⟨r, hr⟩ : ∃ r, decide (o = x) = r := ⟨_, rfl⟩
  have hr2 : r = (decide (o.cls = x.cls) && (decide (o.kind = x.kind) && (decide (o.W = x.W) && decide (o.B = x.B)))) := by
    rw [← hr, Bool.eq_iff_iff]
    simp [O.eq_iff]
  rw [hr]
  clear hr
  obtain ⟨b1, hb1⟩ : ∃ b, decide (o.W = x.W) = b := ⟨_, rfl⟩
  obtain ⟨b2, hb2⟩ : ∃ b, decide (o.B = x.B) = b := ⟨_, rfl⟩
  rw [hb1, hb2] at hr2
  have HWD := Lib.hid hb1
  have HBD := Lib.hid hb2
  clear hb1 hb2
  by_cases hc : o.cls = x.cls
  · have t1 : (o.cls == x.cls) = true := by simpa using hc
    by_cases hk : o.kind = x.kind
    · have t2 : (o.kind == x.kind) = true := by simpa using hk
      cases b1
      · obtain rfl : r = false := by rw [hr2]; simp
        clear hr2 hc hk
        go_enter Tryd.func38, Tryd.ntmps38
        go_wp2_with (first
          | (go_at_call 36
             refine (EqI_any _ _ o.W x.W S S2 _ (H.out.1.1.keep (((Chg.refl No _).alloc _).alloc _) (fun _ _ f => f)) (H.out.2.1.keep (((Chg.refl No _).alloc _).alloc _) (fun _ _ f => f))).mono ?_
             rw [HWD.out]
             rintro e w1 ⟨rfl, g1⟩
             have hs := g1.size
             have q1 : Row w1 w.heap.size 41 #[.int .i64 o.cls, .int .i64 o.kind, .slice A1 o.W.length c1, .slice A2 o.B.length c2] := Row.keep ((Row.new w _ _).alloc _) g1 (fun f => f)
             have q2 : Row w1 (w.heap.size + 1) 41 #[.int .i64 x.cls, .int .i64 x.kind, .slice A3 x.W.length c3, .slice A4 x.B.length c4] := Row.keep (by simpa using Row.new (w.alloc _) _ _) g1 (fun f => f)
             have r1 := q1.four
             have r2 := q2.four
             clear q1 q2)
          | fail)
        go_ret
        exact ⟨rfl, (((Chg.refl No _).alloc _).alloc _).trans g1⟩
      · obtain rfl : r = b2 := by rw [hr2]; simp [hc, hk]
        clear hr2 hc hk
        go_enter Tryd.func38, Tryd.ntmps38
        go_wp2_with (first
          | (go_at_call 36
             refine (EqI_any _ _ o.W x.W S S2 _ (H.out.1.1.keep (((Chg.refl No _).alloc _).alloc _) (fun _ _ f => f)) (H.out.2.1.keep (((Chg.refl No _).alloc _).alloc _) (fun _ _ f => f))).mono ?_
             rw [HWD.out]
             rintro e w1 ⟨rfl, g1⟩
             have hs := g1.size
             have q1 : Row w1 w.heap.size 41 #[.int .i64 o.cls, .int .i64 o.kind, .slice A1 o.W.length c1, .slice A2 o.B.length c2] := Row.keep ((Row.new w _ _).alloc _) g1 (fun f => f)
             have q2 : Row w1 (w.heap.size + 1) 41 #[.int .i64 x.cls, .int .i64 x.kind, .slice A3 x.W.length c3, .slice A4 x.B.length c4] := Row.keep (by simpa using Row.new (w.alloc _) _ _) g1 (fun f => f)
             have r1 := q1.four
             have r2 := q2.four
             clear q1 q2)
          | (go_at_call 55
             refine (EqB_any _ _ o.B x.B S S2 _ (H.out.1.2.keep ((((Chg.refl No _).alloc _).alloc _).trans g1) (fun _ _ f => f)) (H.out.2.2.keep ((((Chg.refl No _).alloc _).alloc _).trans g1) (fun _ _ f => f))).mono ?_
             rw [HBD.out]
             rintro e w2 ⟨rfl, g2⟩)
          | fail)
        go_ret
        exact ⟨rfl, ((((Chg.refl No _).alloc _).alloc _).trans g1).trans g2⟩
    · have t2 : (o.kind == x.kind) = false := by simpa using hk
      obtain rfl : r = false := by rw [hr2]; simp [hk]
      clear hr2 hc hk
      go_enter Tryd.func38, Tryd.ntmps38
      go_wp2_with fail
      go_ret
      exact ⟨rfl, ((Chg.refl No _).alloc _).alloc _⟩
  · have t1 : (o.cls == x.cls) = false := by simpa using hc
    obtain rfl : r = false := by rw [hr2]; simp [hc]
    clear hr2 hc
    go_enter Tryd.func38, Tryd.ntmps38
    go_wp2_with fail
    go_ret
    exact ⟨rfl, ((Chg.refl No _).alloc _).alloc _⟩

set_option maxRecDepth 100000 in
set_option maxHeartbeats 1000000 in
theorem EqF_any (lv mv : Value) (L M : List O) (S S2 : Nat → Prop) (w : World) (h : RefL w S lv L) (h2 : RefL w S2 mv M) (hmax : L.length ≤ 9223372036854775807) :
    Calls Tryd.prog 37 #[lv, mv, .func (.func 38) #[] #[]] w fun e w' => e = .returned (.bool (decide (L = M))) ∧ Chg No w w' := by
  obtain ⟨A, c, rfl⟩ : ∃ A c, lv = .slice A L.length c := by
    obtain ⟨T, rfl, ⟨A, c, e, -⟩, -⟩ := h
    exact ⟨A, c, by simpa using e⟩
  obtain ⟨B, d, rfl⟩ : ∃ A c, mv = .slice A M.length c := by
    obtain ⟨T, rfl, ⟨A, c, e, -⟩, -⟩ := h2
    exact ⟨A, c, by simpa using e⟩
  obtain ⟨r, hr⟩ : ∃ r, decide (L = M) = r := ⟨_, rfl⟩
  rw [hr]
  have HL := Lib.hid h
  have HM := Lib.hid h2
  clear h h2
  by_cases hn : L.length = M.length
  · have HR := Lib.hid hr
    clear hr
    generalize hnL : L.length = n at *
    generalize hnM : M.length = m at *
    subst hn
    have HN2 := Lib.hid hnL
    have HNM := Lib.hid hnM
    have tn : ((n : Int) != (n : Int)) = false := by simp
    clear hnL hnM
    go_enter Tryd.func37, Tryd.ntmps37
    go_wp2_with fail
    go_loopg [17] n (fun j v17 wr => ∃ k : Nat, v17 = .int .i64 k ∧ k ≤ n ∧ n - k ≤ j ∧ Chg No w wr ∧ L.take k = M.take k)
    case atStart => exact ⟨0, rfl, by omega, by omega, Chg.refl _ _, rfl⟩
    case round =>
      obtain ⟨k, rfl, k1, k2, ck, htk⟩ := hrel
      by_cases hkn : k < n
      · have hk1 : k < L.length := by rw [HN2.out]; exact hkn
        have hk2 : k < M.length := by rw [HNM.out]; exact hkn
        obtain ⟨b, off, c', wv, bv, e1, -, hb, hO, x0, x1, x2, x3⟩ := (HL.out.keep ck (fun _ _ f => f)).at hk1
        obtain ⟨b', off', c'', wv', bv', e2, -, hb', hO', y0, y1, y2, y3⟩ := (HM.out.keep ck (fun _ _ f => f)).at hk2
        obtain ⟨rfl, -, -⟩ := Value.slice.inj e1
        obtain ⟨rfl, -, -⟩ := Value.slice.inj e2
        clear e1 e2
        obtain ⟨q, hq⟩ : ∃ q, decide (ob L k = ob M k) = q := ⟨_, rfl⟩
        have hne := take_neO hk1 hk2 htk
        have t1 : decide ((k : Int) < (n : Int)) = true := decide_eq_true (by omega)
        have l1 : (k : Int) < (n : Int) := by omega
        obtain ⟨A1, c1, A2, c2, e1⟩ := hO.shape
        obtain ⟨A3, c3, A4, c4, e2⟩ := hO'.shape
        simp only [cells2, Value.agg.injEq, Array.mk.injEq, List.cons.injEq, and_true, true_and] at e1 e2
        obtain ⟨rfl, rfl⟩ := e1
        obtain ⟨rfl, rfl⟩ := e2
        have v0 : wr.cell? ⟨b, off + k * 4, none⟩ = some (.int .i64 (ob L k).cls) := by rw [Nat.mul_comm]; exact x0
        have v1 : wr.cell? ⟨b, off + k * 4 + 1, none⟩ = some (.int .i64 (ob L k).kind) := by rw [Nat.mul_comm, Nat.add_assoc]; exact x1
        have v2 : wr.cell? ⟨b, off + k * 4 + 2, none⟩ = some (.slice A1 (ob L k).W.length c1) := by rw [Nat.mul_comm, Nat.add_assoc]; exact x2
        have v3 : wr.cell? ⟨b, off + k * 4 + 3, none⟩ = some (.slice A2 (ob L k).B.length c2) := by rw [Nat.mul_comm, Nat.add_assoc]; exact x3
        have cA : Chg No wr (wr.alloc (.cells #[.int .i64 (ob L k).cls, .int .i64 (ob L k).kind, .slice A1 (ob L k).W.length c1, .slice A2 (ob L k).B.length c2] 41)) := (Chg.refl _ _).alloc _
        have z0 : wr.cell? ⟨b', off' + k * 4, none⟩ = some (.int .i64 (ob M k).cls) := by rw [Nat.mul_comm]; exact y0
        have v0' := (cA.cell (p := ⟨b', off' + k * 4, none⟩) hb' (fun f => f)).trans z0
        have z1 : wr.cell? ⟨b', off' + k * 4 + 1, none⟩ = some (.int .i64 (ob M k).kind) := by rw [Nat.mul_comm, Nat.add_assoc]; exact y1
        have v1' := (cA.cell (p := ⟨b', off' + k * 4 + 1, none⟩) hb' (fun f => f)).trans z1
        have z2 : wr.cell? ⟨b', off' + k * 4 + 2, none⟩ = some (.slice A3 (ob M k).W.length c3) := by rw [Nat.mul_comm, Nat.add_assoc]; exact y2
        have v2' := (cA.cell (p := ⟨b', off' + k * 4 + 2, none⟩) hb' (fun f => f)).trans z2
        have z3 : wr.cell? ⟨b', off' + k * 4 + 3, none⟩ = some (.slice A4 (ob M k).B.length c4) := by rw [Nat.mul_comm, Nat.add_assoc]; exact y3
        have v3' := (cA.cell (p := ⟨b', off' + k * 4 + 3, none⟩) hb' (fun f => f)).trans z3
        have HQ := Lib.hid hq
        have HO := Lib.hid (And.intro hO hO')
        have HNE := Lib.hid hne
        have HCK := Lib.hid (And.intro ck htk)
        clear hq hO hO' hne ck htk x0 x1 x2 x3 y0 y1 y2 y3 z0 z1 z2 z3 cA
        simp only [cells2] at HO
        go_wp2_with (first
          | (go_at_call 38
             refine (SameW_any _ _ (ob L k) (ob M k) _ _ _ (HO.out.1.keep (((Chg.refl No _).alloc _).alloc _) (fun _ _ f => f)) (HO.out.2.keep (((Chg.refl No _).alloc _).alloc _) (fun _ _ f => f))).mono ?_
             rw [HQ.out]
             rintro e w5 ⟨rfl, g5⟩
             have H5 := Lib.hid ((((Chg.refl No wr).alloc _).alloc _).trans g5)
             clear g5
             cases q)
          | fail)
        · obtain rfl : r = false := by
            rw [← HR.out]
            refine decide_eq_false fun e => absurd HQ.out ?_
            rw [e]
            simp
          go_ret
          exact ⟨rfl, HCK.out.1.trans H5.out⟩
        · go_roundg (n - (k + 1))
          case measure => omega
          case rel => exact ⟨k + 1, by go_num, by omega, by omega, HCK.out.1.trans H5.out, HNE.out.2 (of_decide_eq_true HQ.out)⟩
      · obtain rfl : k = n := by omega
        obtain rfl : r = true := by
          rw [← HR.out]
          rw [List.take_of_length_le (by rw [HN2.out]; exact Nat.le_refl _), List.take_of_length_le (by rw [HNM.out]; exact Nat.le_refl _)] at htk
          exact decide_eq_true htk
        have t1 : decide ((k : Int) < (k : Int)) = false := decide_eq_false (by omega)
        go_wp2_with fail
        go_ret
        exact ⟨rfl, ck⟩
  · obtain rfl : r = false := by
      rw [← hr]
      exact decide_eq_false fun e => hn (by rw [e])
    have tn : ((L.length : Int) != (M.length : Int)) = true := by simp [bne]; omega
    clear hr hn
    go_enter Tryd.func37, Tryd.ntmps37
    go_wp2_with fail
    go_ret
    exact ⟨rfl, Chg.refl _ _⟩

set_option maxRecDepth 100000 in
set_option maxHeartbeats 1000000 in
theorem SameImg_any (lv mv : Value) (L M : List O) (f f2 : Int) (S S2 : Nat → Prop) (w : World) (h : RefL w S lv L) (h2 : RefL w S2 mv M) (hmax : L.length ≤ 9223372036854775807) :
    Calls Tryd.prog 14 #[.agg #[lv, .int .i64 f], .agg #[mv, .int .i64 f2]] w fun e w' => e = .returned (.bool (decide (f = f2 ∧ L = M))) ∧ Chg No w w' := by
  obtain ⟨A, n, c, rfl⟩ : ∃ A n c, lv = .slice A n c := by
    obtain ⟨T, rfl, ⟨A, c, e, -⟩, -⟩ := h
    exact ⟨A, _, c, e⟩
  obtain ⟨B, m, d, rfl⟩ : ∃ A n c, mv = .slice A n c := by
    obtain ⟨T, rfl, ⟨A, c, e, -⟩, -⟩ := h2
    exact ⟨A, _, c, e⟩
  obtain ⟨r, hr⟩ : ∃ r, decide (f = f2 ∧ L = M) = r := ⟨_, rfl⟩
  rw [hr]
  have HL := Lib.hid h
  have HM := Lib.hid h2
  clear h h2
  by_cases hf : f = f2
  · subst hf
    have tf : (f == f) = true := by simp
    have HR := Lib.hid (show decide (L = M) = r by rw [← hr]; simp)
    clear hr
    go_enter Tryd.func14, Tryd.ntmps14
    go_wp2_with (first
      | (go_at_call 37
         refine (EqF_any _ _ L M _ _ _ (HL.out.keep (((Chg.refl No _).alloc _).alloc _) (fun _ _ f => f)) (HM.out.keep (((Chg.refl No _).alloc _).alloc _) (fun _ _ f => f)) hmax).mono ?_
         rw [HR.out]
         rintro e w5 ⟨rfl, g5⟩
         have H5 := Lib.hid ((((Chg.refl No w).alloc _).alloc _).trans g5)
         clear g5)
      | fail)
    go_ret
    exact ⟨rfl, H5.out⟩
  · have tf : (f == f2) = false := by simpa using hf
    obtain rfl : r = false := by
      rw [← hr]
      exact decide_eq_false fun e => hf e.1
    clear hr hf
    go_enter Tryd.func14, Tryd.ntmps14
    go_wp2_with fail
    go_ret
    exact ⟨rfl, ((Chg.refl No w).alloc _).alloc _⟩

end Go.Proofs.YtncoanmgifgcbaaDoor
