/- Without the document's answer: an object that is stored is fetched so, and no other one is changed; what is none, or there is none of, is refused. -/
import Derived.Test.YtdpmmafkomchaaaSecW
import Derived.Test.YtdpmmafkomchaaaSecY
namespace Go.Proofs.Ytdpmmafkomchaaa
set_option linter.unusedVariables false
set_option linter.unusedSimpArgs false
open Go.RowKit
open Go.ChangeMaps (setBlock)

theorem enc_n {o : O} (h : okB o = true) : 1 ≤ secN (encB o).length ∧ secN (encB o).length ≤ 63 := by
  have h0 := encB_len o
  obtain ⟨-, h1, h2, -, h3⟩ := okB_cases h
  unfold secN
  rcases h3 with ⟨-, h3⟩ | ⟨-, h3⟩ <;> (rw [h3] at h0; simp at h0; omega)
theorem lk_two1 (x y : O) (f g : Nat) : lk [⟨1, x, f⟩, ⟨2, y, g⟩] 1 = some ⟨1, x, f⟩ := rfl
theorem lk_two2 (x y : O) (f g : Nat) : lk [⟨1, x, f⟩, ⟨2, y, g⟩] 2 = some ⟨2, y, g⟩ := rfl
theorem lk_two3 (x y : O) (f g : Nat) : lk [⟨1, x, f⟩, ⟨2, y, g⟩] 3 = none := rfl
/-- two made, and the first stored anew -/
theorem two_made {a b : O} (h1 : mkE 400 [] 0 a = 0) (h2 : mkE 400 (mkL 400 [] 0 a) (mkM 400 [] 0 a) b = 0) :
    mkI 400 [] 0 a = 1 ∧ mkI 400 (mkL 400 [] 0 a) (mkM 400 [] 0 a) b = 2 ∧ mkM 400 (mkL 400 [] 0 a) (mkM 400 [] 0 a) b = 2 ∧ ∃ fa fb, mkL 400 (mkL 400 [] 0 a) (mkM 400 [] 0 a) b = [⟨1, a, fa⟩, ⟨2, b, fb⟩] ∧ fb + secN (encB b).length ≤ 400 ∧ okB b = true := by
  obtain ⟨fa, hf, ka⟩ := mkE_ok h1
  obtain ⟨e1, e2, e3⟩ := mkL_some hf
  rw [e1, e2] at h2 ⊢
  obtain ⟨fb, hg, kb⟩ := mkE_ok h2
  obtain ⟨e4, e5, e6⟩ := mkL_some hg
  refine ⟨e3, e6, e5, fa, fb, e4, ?_, kb⟩
  unfold mkF at hg
  split at hg
  · exact place_fits hg
  · cases hg
theorem two_stored {a b c : O} {fa fb : Nat} (hb : fb + secN (encB b).length ≤ 400) (kb : okB b = true) (kc : okB c = true) :
    stE 400 [⟨1, a, fa⟩, ⟨2, b, fb⟩] 1 c = 0 ∧ ∃ f, stL 400 [⟨1, a, fa⟩, ⟨2, b, fb⟩] 1 c = [⟨1, c, f⟩, ⟨2, b, fb⟩] := by
  have h : ∃ f, stF 400 [⟨1, a, fa⟩, ⟨2, b, fb⟩] 1 c = some f := by
    unfold stF
    rw [lk_two1]
    dsimp only
    rw [if_pos kc, show (delR [⟨1, a, fa⟩, ⟨2, b, fb⟩] 1).map Rw.xt = [⟨fb, encB b⟩] from rfl]
    unfold setF
    split
    · exact ⟨_, rfl⟩
    · exact place_one _ hb (by have := enc_n kb; have := enc_n kc; unfold Xt.n; dsimp only; omega)
  obtain ⟨f, hf⟩ := h
  refine ⟨stE_ok.2 ⟨f, hf⟩, f, ?_⟩
  rw [(stL_some hf).1]
  rfl
theorem two_bad {a b c : O} {fa fb : Nat} (kc : okB c = false) :
    stE 400 [⟨1, a, fa⟩, ⟨2, b, fb⟩] 1 c = 2 ∧ stL 400 [⟨1, a, fa⟩, ⟨2, b, fb⟩] 1 c = [⟨1, a, fa⟩, ⟨2, b, fb⟩] := by
  have h : stF 400 [⟨1, a, fa⟩, ⟨2, b, fb⟩] 1 c = none := by
    unfold stF
    rw [lk_two1, kc]
    rfl
  refine ⟨?_, stL_none h⟩
  unfold stE
  rw [lk_two1, kc]
  rfl

/-- three objects that came in, and stand in blocks of the call's own -/
def St3 (m : Nat) (a b c : O) (xa xb xc : Array Value) (W : World) : Prop :=
  (Row W m 33 xa ∧ Row W (m + 1) 33 xb ∧ Row W (m + 1 + 1) 33 xc) ∧ ObjR W (fun k => k < m) (.agg xa) a ∧ ObjR W (fun k => k < m) (.agg xb) b ∧ ObjR W (fun k => k < m) (.agg xc) c
theorem St3.keep {m : Nat} {a b c : O} {xa xb xc : Array Value} {W W' : World} {F : Nat → Prop} (h : St3 m a b c xa xb xc W) (g : Chg F W W') (hF : ∀ k, F k → m + 3 ≤ k) : St3 m a b c xa xb xc W' := by
  have q : ∀ k, k < m + 3 → ¬ F k := fun k hk hf => by have := hF k hf; omega
  obtain ⟨⟨h1, h2, h3⟩, h4, h5, h6⟩ := h
  exact ⟨⟨h1.keep g (q _ (by omega)), h2.keep g (q _ (by omega)), h3.keep g (q _ (by omega))⟩, h4.keep g (fun b hb => q b (by omega)), h5.keep g (fun b hb => q b (by omega)), h6.keep g (fun b hb => q b (by omega))⟩


set_option maxRecDepth 100000 in
set_option maxHeartbeats 1000000 in
theorem stores_no {a b c : O} {va vb vc : Value} {S1 S2 S3 : Nat → Prop} {w : World} (ha : ObjR w S1 va a) (hb : ObjR w S2 vb b) (hc : ObjR w S3 vc c) (h : ¬ (mkE 400 [] 0 a = 0 ∧ mkE 400 (mkL 400 [] 0 a) (mkM 400 [] 0 a) b = 0)) :
    Calls Try.prog 4 #[va, vb, vc] w fun e w' => e = .returned (.bool true) ∧ Chg No w w' := by
  obtain ⟨av, aw, rfl, ha1, ha2, ha3⟩ := ha
  obtain ⟨bv, bw, rfl, hb1, hb2, hb3⟩ := hb
  obtain ⟨cv, cw, rfl, hc1, hc2, hc3⟩ := hc
  obtain ⟨A1, d1, rfl, -⟩ := ha1.form
  obtain ⟨A2, d2, rfl, -⟩ := ha2.form
  obtain ⟨B1, e1, rfl, -⟩ := hb1.form
  obtain ⟨B2, e2, rfl, -⟩ := hb2.form
  obtain ⟨D1, g1, rfl, -⟩ := hc1.form
  obtain ⟨D2, g2, rfl, -⟩ := hc2.form
  simp only [cells2]
  obtain ⟨W0, hW0⟩ : ∃ W, ((w.alloc (.cells #[.int .i64 a.cls, .int .i64 a.kind, .slice A1 a.W.length d1, .slice A2 a.B.length d2] 33)).alloc (.cells #[.int .i64 b.cls, .int .i64 b.kind, .slice B1 b.W.length e1, .slice B2 b.B.length e2] 33)).alloc (.cells #[.int .i64 c.cls, .int .i64 c.kind, .slice D1 c.W.length g1, .slice D2 c.B.length g2] 33) = W := ⟨_, rfl⟩
  have c0 : Chg No w W0 := by rw [← hW0]; exact (((Chg.refl _ _).alloc _).alloc _).alloc _
  have s0 : W0.heap.size = w.heap.size + 3 := by rw [← hW0]; simp
  have st0 : St3 w.heap.size a b c #[.int .i64 a.cls, .int .i64 a.kind, .slice A1 a.W.length d1, .slice A2 a.B.length d2] #[.int .i64 b.cls, .int .i64 b.kind, .slice B1 b.W.length e1, .slice B2 b.B.length e2] #[.int .i64 c.cls, .int .i64 c.kind, .slice D1 c.W.length g1, .slice D2 c.B.length g2] W0 := by
    refine ⟨?_, ?_, ?_, ?_⟩
    · rw [← hW0]
      refine ⟨((Row.new w _ _).alloc _).alloc _, ?_, ?_⟩
      · have h := (Row.new (w.alloc (.cells #[.int .i64 a.cls, .int .i64 a.kind, .slice A1 a.W.length d1, .slice A2 a.B.length d2] 33)) 33 #[.int .i64 b.cls, .int .i64 b.kind, .slice B1 b.W.length e1, .slice B2 b.B.length e2])
        rw [show (w.alloc (.cells #[.int .i64 a.cls, .int .i64 a.kind, .slice A1 a.W.length d1, .slice A2 a.B.length d2] 33)).heap.size = w.heap.size + 1 by simp] at h
        exact h.alloc _
      · have h := (Row.new ((w.alloc (.cells #[.int .i64 a.cls, .int .i64 a.kind, .slice A1 a.W.length d1, .slice A2 a.B.length d2] 33)).alloc (.cells #[.int .i64 b.cls, .int .i64 b.kind, .slice B1 b.W.length e1, .slice B2 b.B.length e2] 33)) 33 #[.int .i64 c.cls, .int .i64 c.kind, .slice D1 c.W.length g1, .slice D2 c.B.length g2])
        rw [show ((w.alloc (.cells #[.int .i64 a.cls, .int .i64 a.kind, .slice A1 a.W.length d1, .slice A2 a.B.length d2] 33)).alloc (.cells #[.int .i64 b.cls, .int .i64 b.kind, .slice B1 b.W.length e1, .slice B2 b.B.length e2] 33)).heap.size = w.heap.size + 1 + 1 by simp] at h
        exact h
    · exact ⟨_, _, rfl, (ha1.more (S' := fun k => k < w.heap.size) (fun b hb _ => hb)).keep c0 (fun _ _ f => f), (ha2.more (S' := fun k => k < w.heap.size) (fun b hb _ => hb)).keep c0 (fun _ _ f => f), ha3⟩
    · exact ⟨_, _, rfl, (hb1.more (S' := fun k => k < w.heap.size) (fun b hb _ => hb)).keep c0 (fun _ _ f => f), (hb2.more (S' := fun k => k < w.heap.size) (fun b hb _ => hb)).keep c0 (fun _ _ f => f), hb3⟩
    · exact ⟨_, _, rfl, (hc1.more (S' := fun k => k < w.heap.size) (fun b hb _ => hb)).keep c0 (fun _ _ f => f), (hc2.more (S' := fun k => k < w.heap.size) (fun b hb _ => hb)).keep c0 (fun _ _ f => f), hc3⟩
  have H0 := Lib.hid (And.intro c0 (And.intro s0 st0))
  have HW0 := Lib.hid hW0
  have HN := Lib.hid (secNew_ok 400 (by omega) W0)
  clear ha1 ha2 ha3 hb1 hb2 hb3 hc1 hc2 hc3 c0 s0 st0 hW0
  generalize hE1 : mkE 400 [] 0 a = x1 at *
  generalize hE2 : mkE 400 (mkL 400 [] 0 a) (mkM 400 [] 0 a) b = x2 at *
  have HE1 := Lib.hid hE1
  have HE2 := Lib.hid hE2
  clear hE1 hE2
  by_cases h1 : x1 = 0
  · subst h1
    have h2 : (x2 == 0) = false := beq_eq_false_iff_ne.2 (fun e => h ⟨rfl, e⟩)
    clear h
    go_enter Try.func4, Try.ntmps4
    go_wp2_with (first
      | (rw [HW0.out])
      | (go_at_call 8
         refine HN.out.mono ?_
         rintro e w1 ⟨v1, rfl, Q, rfl, hs, hge, c1⟩
         have hst := H0.out.2.2.keep c1 (fun _ f => f.elim)
         have y1 := hst.1.1.four
         have y2 := hst.1.2.1.four
         have y3 := hst.1.2.2.four
         have HM1 := Lib.hid (secMake_any hs _ a _ hst.2.1)
         have HK := Lib.hid (show ∀ k, Q.has k → w.heap.size + 3 ≤ k from fun k hk => by have := hge k hk; have := H0.out.2.1; omega)
         have C1 := Lib.hid (And.intro (H0.out.1.trans c1) hst)
         clear hs hge c1 hst HN)
      | (go_at_call 10
         (with_reducible refine HM1.out.mono ?_)
         rw [HE1.out]
         rintro e w2 ⟨rfl, hs2, c2⟩
         have hst := C1.out.2.keep c2 HK.out
         have y1 := hst.1.1.four
         have y2 := hst.1.2.1.four
         have y3 := hst.1.2.2.four
         have HM2 := Lib.hid (secMake_any hs2 _ b _ hst.2.2.1)
         have C2 := Lib.hid (And.intro (Chg.fresh C1.out.1 c2 (fun k hk => by have := HK.out k hk; omega)) hst)
         clear HM1 hs2 c2 hst)
      | (go_at_call 10
         (with_reducible refine HM2.out.mono ?_)
         rw [HE2.out]
         rintro e w3 ⟨rfl, hs3, c3⟩
         have hst := C2.out.2.keep c3 HK.out
         have y1 := hst.1.1.four
         have y2 := hst.1.2.1.four
         have y3 := hst.1.2.2.four
         have C3 := Lib.hid (And.intro (Chg.fresh C2.out.1 c3 (fun k hk => by have := HK.out k hk; omega)) (And.intro hst hs3))
         clear HM2 hs3 c3 hst)
      | (go_at_call 7; refine (known06_any _).mono ?_; rintro e w4 ⟨rfl, c4⟩)
      | fail)
    go_ret
    exact ⟨rfl, C3.out.1.trans c4⟩
  · have h2 : (x1 == 0) = false := beq_eq_false_iff_ne.2 h1
    clear h h1
    go_enter Try.func4, Try.ntmps4
    go_wp2_with (first
      | (rw [HW0.out])
      | (go_at_call 8
         refine HN.out.mono ?_
         rintro e w1 ⟨v1, rfl, Q, rfl, hs, hge, c1⟩
         have hst := H0.out.2.2.keep c1 (fun _ f => f.elim)
         have y1 := hst.1.1.four
         have y2 := hst.1.2.1.four
         have y3 := hst.1.2.2.four
         have HM1 := Lib.hid (secMake_any hs _ a _ hst.2.1)
         have HK := Lib.hid (show ∀ k, Q.has k → w.heap.size + 3 ≤ k from fun k hk => by have := hge k hk; have := H0.out.2.1; omega)
         have C1 := Lib.hid (And.intro (H0.out.1.trans c1) hst)
         clear hs hge c1 hst HN)
      | (go_at_call 10
         (with_reducible refine HM1.out.mono ?_)
         rw [HE1.out]
         rintro e w2 ⟨rfl, hs2, c2⟩
         have hst := C1.out.2.keep c2 HK.out
         have y1 := hst.1.1.four
         have y2 := hst.1.2.1.four
         have y3 := hst.1.2.2.four
         have HM2 := Lib.hid (secMake_any hs2 _ b _ hst.2.2.1)
         have C2 := Lib.hid (And.intro (Chg.fresh C1.out.1 c2 (fun k hk => by have := HK.out k hk; omega)) hst)
         clear HM1 hs2 c2 hst)
      | (go_at_call 10
         (with_reducible refine HM2.out.mono ?_)
         rw [HE2.out]
         rintro e w3 ⟨rfl, hs3, c3⟩
         have hst := C2.out.2.keep c3 HK.out
         have y1 := hst.1.1.four
         have y2 := hst.1.2.1.four
         have y3 := hst.1.2.2.four
         have C3 := Lib.hid (And.intro (Chg.fresh C2.out.1 c3 (fun k hk => by have := HK.out k hk; omega)) (And.intro hst hs3))
         clear HM2 hs3 c3 hst)
      | (go_at_call 7; refine (known06_any _).mono ?_; rintro e w4 ⟨rfl, c4⟩)
      | fail)
    go_ret
    exact ⟨rfl, C3.out.1.trans c4⟩


set_option maxRecDepth 100000 in
set_option maxHeartbeats 1000000 in
theorem stores_ok {a b c : O} {va vb vc : Value} {S1 S2 S3 : Nat → Prop} {w : World} (ha : ObjR w S1 va a) (hb : ObjR w S2 vb b) (hc : ObjR w S3 vc c) (h1 : mkE 400 [] 0 a = 0) (h2 : mkE 400 (mkL 400 [] 0 a) (mkM 400 [] 0 a) b = 0) (kc : okB c = true) :
    Calls Try.prog 4 #[va, vb, vc] w fun e w' => e = .returned (.bool true) ∧ Chg No w w' := by
  obtain ⟨i1, i2, hm, fa, fb, hL, hfb, kb⟩ := two_made h1 h2
  obtain ⟨hse, f3, hsl⟩ := two_stored (a := a) (fa := fa) hfb kb kc
  obtain ⟨x, hx⟩ : ∃ x, c = x := ⟨_, rfl⟩
  have HX := Lib.hid hx
  rw [show [(⟨1, c, f3⟩ : Rw), ⟨2, b, fb⟩] = [⟨1, x, f3⟩, ⟨2, b, fb⟩] by rw [hx]] at hsl
  clear hx
  obtain ⟨av, aw, rfl, ha1, ha2, ha3⟩ := ha
  obtain ⟨bv, bw, rfl, hb1, hb2, hb3⟩ := hb
  obtain ⟨cv, cw, rfl, hc1, hc2, hc3⟩ := hc
  obtain ⟨A1, d1, rfl, -⟩ := ha1.form
  obtain ⟨A2, d2, rfl, -⟩ := ha2.form
  obtain ⟨B1, e1, rfl, -⟩ := hb1.form
  obtain ⟨B2, e2, rfl, -⟩ := hb2.form
  obtain ⟨D1, g1, rfl, -⟩ := hc1.form
  obtain ⟨D2, g2, rfl, -⟩ := hc2.form
  simp only [cells2]
  obtain ⟨W0, hW0⟩ : ∃ W, ((w.alloc (.cells #[.int .i64 a.cls, .int .i64 a.kind, .slice A1 a.W.length d1, .slice A2 a.B.length d2] 33)).alloc (.cells #[.int .i64 b.cls, .int .i64 b.kind, .slice B1 b.W.length e1, .slice B2 b.B.length e2] 33)).alloc (.cells #[.int .i64 c.cls, .int .i64 c.kind, .slice D1 c.W.length g1, .slice D2 c.B.length g2] 33) = W := ⟨_, rfl⟩
  have c0 : Chg No w W0 := by rw [← hW0]; exact (((Chg.refl _ _).alloc _).alloc _).alloc _
  have s0 : W0.heap.size = w.heap.size + 3 := by rw [← hW0]; simp
  have st0 : St3 w.heap.size a b c #[.int .i64 a.cls, .int .i64 a.kind, .slice A1 a.W.length d1, .slice A2 a.B.length d2] #[.int .i64 b.cls, .int .i64 b.kind, .slice B1 b.W.length e1, .slice B2 b.B.length e2] #[.int .i64 c.cls, .int .i64 c.kind, .slice D1 c.W.length g1, .slice D2 c.B.length g2] W0 := by
    refine ⟨?_, ?_, ?_, ?_⟩
    · rw [← hW0]
      refine ⟨((Row.new w _ _).alloc _).alloc _, ?_, ?_⟩
      · have h := (Row.new (w.alloc (.cells #[.int .i64 a.cls, .int .i64 a.kind, .slice A1 a.W.length d1, .slice A2 a.B.length d2] 33)) 33 #[.int .i64 b.cls, .int .i64 b.kind, .slice B1 b.W.length e1, .slice B2 b.B.length e2])
        rw [show (w.alloc (.cells #[.int .i64 a.cls, .int .i64 a.kind, .slice A1 a.W.length d1, .slice A2 a.B.length d2] 33)).heap.size = w.heap.size + 1 by simp] at h
        exact h.alloc _
      · have h := (Row.new ((w.alloc (.cells #[.int .i64 a.cls, .int .i64 a.kind, .slice A1 a.W.length d1, .slice A2 a.B.length d2] 33)).alloc (.cells #[.int .i64 b.cls, .int .i64 b.kind, .slice B1 b.W.length e1, .slice B2 b.B.length e2] 33)) 33 #[.int .i64 c.cls, .int .i64 c.kind, .slice D1 c.W.length g1, .slice D2 c.B.length g2])
        rw [show ((w.alloc (.cells #[.int .i64 a.cls, .int .i64 a.kind, .slice A1 a.W.length d1, .slice A2 a.B.length d2] 33)).alloc (.cells #[.int .i64 b.cls, .int .i64 b.kind, .slice B1 b.W.length e1, .slice B2 b.B.length e2] 33)).heap.size = w.heap.size + 1 + 1 by simp] at h
        exact h
    · exact ⟨_, _, rfl, (ha1.more (S' := fun k => k < w.heap.size) (fun b hb _ => hb)).keep c0 (fun _ _ f => f), (ha2.more (S' := fun k => k < w.heap.size) (fun b hb _ => hb)).keep c0 (fun _ _ f => f), ha3⟩
    · exact ⟨_, _, rfl, (hb1.more (S' := fun k => k < w.heap.size) (fun b hb _ => hb)).keep c0 (fun _ _ f => f), (hb2.more (S' := fun k => k < w.heap.size) (fun b hb _ => hb)).keep c0 (fun _ _ f => f), hb3⟩
    · exact ⟨_, _, rfl, (hc1.more (S' := fun k => k < w.heap.size) (fun b hb _ => hb)).keep c0 (fun _ _ f => f), (hc2.more (S' := fun k => k < w.heap.size) (fun b hb _ => hb)).keep c0 (fun _ _ f => f), hc3⟩
  have H0 := Lib.hid (And.intro c0 (And.intro s0 st0))
  have HW0 := Lib.hid hW0
  have HN := Lib.hid (secNew_ok 400 (by omega) W0)
  clear ha1 ha2 ha3 hb1 hb2 hb3 hc1 hc2 hc3 c0 s0 st0 hW0
  have HE1 := Lib.hid (And.intro h1 i1)
  have HE2 := Lib.hid h2
  have HI2 := Lib.hid i2
  have HM := Lib.hid hm
  have HL2 := Lib.hid hL
  have HSE := Lib.hid hse
  have HSL := Lib.hid hsl
  have HD := Lib.hid (show decide (x = c) = true from decide_eq_true HX.out.symm)
  have HDB := Lib.hid (show decide (b = b) = true from decide_eq_true rfl)
  have HKC := Lib.hid (show chk c = 0 by unfold chk; rw [if_pos kc])
  clear h1 h2 i1 i2 hm hL hfb kb hse hsl kc
  go_enter Try.func4, Try.ntmps4
  go_wp2_with (first
    | (rw [HW0.out])
    | (go_at_call 8
       refine HN.out.mono ?_
       rintro e w1 ⟨v1, rfl, Q, rfl, hs, hge, c1⟩
       have hst := H0.out.2.2.keep c1 (fun _ f => f.elim)
       have y1 := hst.1.1.four
       have y2 := hst.1.2.1.four
       have y3 := hst.1.2.2.four
       have HM1 := Lib.hid (secMake_any hs _ a _ hst.2.1)
       have HK := Lib.hid (show ∀ k, Q.has k → w.heap.size + 3 ≤ k from fun k hk => by have := hge k hk; have := H0.out.2.1; omega)
       have C1 := Lib.hid (And.intro (H0.out.1.trans c1) hst)
       clear hs hge c1 hst HN)
    | (go_at_call 10
       (with_reducible refine HM1.out.mono ?_)
       rw [HE1.out.1, HE1.out.2]
       rintro e w2 ⟨rfl, hs2, c2⟩
       have hst := C1.out.2.keep c2 HK.out
       have y1 := hst.1.1.four
       have y2 := hst.1.2.1.four
       have y3 := hst.1.2.2.four
       have HM2 := Lib.hid (secMake_any hs2 _ b _ hst.2.2.1)
       have C2 := Lib.hid (And.intro (Chg.fresh C1.out.1 c2 (fun k hk => by have := HK.out k hk; omega)) hst)
       clear HM1 hs2 c2 hst)
    | (go_at_call 10
       (with_reducible refine HM2.out.mono ?_)
       rw [HE2.out, HI2.out, HM.out]
       rintro e w3 ⟨rfl, hs3, c3⟩
       rw [HL2.out] at hs3
       have hst := C2.out.2.keep c3 HK.out
       have y1 := hst.1.1.four
       have y2 := hst.1.2.1.four
       have y3 := hst.1.2.2.four
       have HST := Lib.hid (secStore_any hs3 1 _ c _ hst.2.2.2)
       have C3 := Lib.hid (And.intro (Chg.fresh C2.out.1 c3 (fun k hk => by have := HK.out k hk; omega)) hst)
       clear HM2 hs3 c3 hst)
    | (go_at_call 16
       (with_reducible refine HST.out.mono ?_)
       rw [HSE.out]
       rintro e w4 ⟨rfl, hs4, c4⟩
       rw [HSL.out] at hs4
       have hst := C3.out.2.keep c4 HK.out
       have y1 := hst.1.1.four
       have y2 := hst.1.2.1.four
       have y3 := hst.1.2.2.four
       have HF1 := Lib.hid (show Calls _ _ _ _ (Ret (Fetched w4 Q 400 _ 2 x 0)) from secFetch_some hs4 (lk_two1 x b f3 fb))
       have C4 := Lib.hid (And.intro (Chg.fresh C3.out.1 c4 (fun k hk => by have := HK.out k hk; omega)) (And.intro hst (hs4.lt (k := Q.B.d) (.inr (.inr (.inr (.inl rfl)))))))
       clear HST hs4 c4 hst)
    | (go_at_call 17
       (with_reducible refine HF1.out.mono ?_)
       rintro e w5 ⟨v5, rfl, u5, rfl, ho5, hs5, c5⟩
       obtain ⟨wv5, bv5, rfl, hI5, hB5, i5, k5⟩ := ho5
       obtain ⟨P1, p1, rfl, -⟩ := hI5.form
       obtain ⟨P2, p2, rfl, -⟩ := hB5.form
       obtain ⟨W6, hW6⟩ : ∃ W, w5.alloc (.cells #[.int .i64 x.cls, .int .i64 x.kind, .slice P1 x.W.length p1, .slice P2 x.B.length p2] 33) = W := ⟨_, rfl⟩
       have c6 : Chg No w5 W6 := by rw [← hW6]; exact (Chg.refl _ _).alloc _
       have rp : Row W6 w5.heap.size 33 #[.int .i64 x.cls, .int .i64 x.kind, .slice P1 x.W.length p1, .slice P2 x.B.length p2] := by rw [← hW6]; exact Row.new _ _ _
       have yp := rp.four
       have hst := (C4.out.2.1.keep c5 (fun k hk => HK.out k (by rw [hk]; exact .inr (.inr (.inr (.inl rfl)))))).keep c6 (fun _ f => f.elim)
       have y1 := hst.1.1.four
       have y2 := hst.1.2.1.four
       have y3 := hst.1.2.2.four
       have hs6 := hs5.keep c6 (fun _ _ f => f)
       have hqp : ¬ w5.heap.size = Q.B.d := fun e => by have := hs5.lt (k := Q.B.d) (.inr (.inr (.inr (.inl rfl)))); omega
       have HF2 := Lib.hid (show Calls _ _ _ _ (Ret (Fetched W6 Q 400 _ 2 b 0)) from secFetch_some hs6 (lk_two2 x b f3 fb))
       have hop : ObjR W6 (fun k => w4.heap.size ≤ k ∧ k < W6.heap.size) (.agg #[.int .i64 x.cls, .int .i64 x.kind, .slice P1 x.W.length p1, .slice P2 x.B.length p2]) x := ObjR.more ⟨_, _, rfl, hI5.keep c6 (fun _ _ f => f), hB5.keep c6 (fun _ _ f => f), i5, k5⟩ (fun _ h1 h2 => ⟨h2, h1⟩)
       have C6 := Lib.hid (And.intro (Chg.fresh C4.out.1 (c5.trans c6.no) (fun k hk => by have := HK.out k (by rw [hk]; exact .inr (.inr (.inr (.inl rfl)))); omega)) (And.intro hst (And.intro rp (And.intro hqp hop))))
       have HW6 := Lib.hid hW6
       simp only [cells2]
       clear HF1 hI5 hB5 i5 k5 hs5 c5 c6 hW6 hst hs6 rp hqp hop)
    | (rw [HW6.out])
    | (go_at_call 17
       (with_reducible refine HF2.out.mono ?_)
       rintro e w7 ⟨v7, rfl, u7, rfl, ho7, hs7, c7⟩
       obtain ⟨wv7, bv7, rfl, hI7, hB7, i7, k7⟩ := ho7
       obtain ⟨Q1, q1, rfl, -⟩ := hI7.form
       obtain ⟨Q2, q2, rfl, -⟩ := hB7.form
       obtain ⟨W8, hW8⟩ : ∃ W, w7.alloc (.cells #[.int .i64 b.cls, .int .i64 b.kind, .slice Q1 b.W.length q1, .slice Q2 b.B.length q2] 33) = W := ⟨_, rfl⟩
       have c8 : Chg No w7 W8 := by rw [← hW8]; exact (Chg.refl _ _).alloc _
       have rq : Row W8 w7.heap.size 33 #[.int .i64 b.cls, .int .i64 b.kind, .slice Q1 b.W.length q1, .slice Q2 b.B.length q2] := by rw [← hW8]; exact Row.new _ _ _
       obtain ⟨W9, hW9⟩ : ∃ W, W8.alloc (.cells #[.int .i64 c.cls, .int .i64 c.kind, .slice D1 c.W.length g1, .slice D2 c.B.length g2] 33) = W := ⟨_, rfl⟩
       have c9 : Chg No W8 W9 := by rw [← hW9]; exact (Chg.refl _ _).alloc _
       have rw9 : Row W9 W8.heap.size 33 #[.int .i64 c.cls, .int .i64 c.kind, .slice D1 c.W.length g1, .slice D2 c.B.length g2] := by rw [← hW9]; exact Row.new _ _ _
       have hst8 := (C6.out.2.1.keep c7 (fun k hk => HK.out k (by rw [hk]; exact .inr (.inr (.inr (.inl rfl)))))).keep c8 (fun _ f => f.elim)
       have z3 := hst8.1.2.2.four
       have hst := hst8.keep c9 (fun _ f => f.elim)
       have y1 := hst.1.1.four
       have y2 := hst.1.2.1.four
       have y3 := hst.1.2.2.four
       have rp := ((C6.out.2.2.1.keep c7 C6.out.2.2.2.1).keep c8 (fun f => f)).keep c9 (fun f => f)
       have yp := rp.four
       have rq9 := rq.keep c9 (fun f => f)
       have yq := rq9.four
       have yw := rw9.four
       have hop := ((C6.out.2.2.2.2.keep c7 (fun k hk e => by have := C4.out.2.2; have := hk.1; omega)).keep c8 (fun _ _ f => f)).keep c9 (fun _ _ f => f)
       have hoq : ObjR W9 (fun k => k < W8.heap.size) (.agg #[.int .i64 b.cls, .int .i64 b.kind, .slice Q1 b.W.length q1, .slice Q2 b.B.length q2]) b := (ObjR.more (S := fun k => W6.heap.size ≤ k) (w := W8) ⟨_, _, rfl, hI7.keep c8 (fun _ _ f => f), hB7.keep c8 (fun _ _ f => f), i7, k7⟩ (fun _ h1 _ => h1)).keep c9 (fun _ _ f => f)
       have HZ := Lib.hid (And.intro (show w.heap.size + 3 ≤ W8.heap.size from hst8.1.2.2.lt) (And.intro (show ¬ w5.heap.size = W8.heap.size from fun e => by have := ((C6.out.2.2.1.keep c7 C6.out.2.2.2.1).keep c8 (fun f => f)).lt; omega) (And.intro (show ¬ w7.heap.size = W8.heap.size from fun e => by have := rq.lt; omega) (And.intro (show ∀ k, k < w.heap.size → ¬ k = W8.heap.size from fun k hk e => by have := hst8.1.2.2.lt; omega) (And.intro (show ∀ k, w4.heap.size ≤ k ∧ k < W6.heap.size → ¬ k = W8.heap.size from fun k hk e => by have := c7.size; have := c8.size; omega) (And.intro (show ∀ k, k < W8.heap.size → ¬ k = W8.heap.size from fun k hk e => by omega) (show ∀ k, Q.has k → ¬ k = W8.heap.size from fun k hk e => by have := hs7.lt hk; have := c8.size; omega)))))))
       have HC1 := Lib.hid (Check05_any _ c _ _ hst.2.2.2)
       have C9 := Lib.hid (And.intro (Chg.fresh C6.out.1 (c7.trans (c8.trans c9).no) (fun k hk => by have := HK.out k (by rw [hk]; exact .inr (.inr (.inr (.inl rfl)))); omega)) (And.intro hst (And.intro rp (And.intro rq9 (And.intro rw9 (And.intro hop (And.intro hoq ((hs7.keep c8 (fun _ _ f => f)).keep c9 (fun _ _ f => f)))))))))
       have HW8 := Lib.hid hW8
       have HW9 := Lib.hid hW9
       simp only [cells2]
       clear HF2 hI7 hB7 i7 k7 hs7 c7 c8 c9 hW8 hW9 hst8 hst rp rq rw9 rq9 hop hoq)
    | (rw [HW8.out])
    | (rw [HW9.out])
    | (go_at_call 18
       (with_reducible refine HC1.out.mono ?_)
       rw [HKC.out]
       rintro e w10 ⟨rfl, c10⟩
       have hst := C9.out.2.1.keep c10 (fun _ f => f.elim)
       have y1 := hst.1.1.four
       have y2 := hst.1.2.1.four
       have y3 := hst.1.2.2.four
       have yp := (C9.out.2.2.1.keep c10 (fun f => f)).four
       have yq := (C9.out.2.2.2.1.keep c10 (fun f => f)).four
       have yw := (C9.out.2.2.2.2.1.keep c10 (fun f => f)).four
       have HC2 := Lib.hid (Check05_any _ c _ _ hst.2.2.2)
       have C10 := Lib.hid (And.intro (C9.out.1.trans c10) (And.intro hst (And.intro (C9.out.2.2.1.keep c10 (fun f => f)) (And.intro (C9.out.2.2.2.1.keep c10 (fun f => f)) (And.intro (C9.out.2.2.2.2.1.keep c10 (fun f => f)) (And.intro (C9.out.2.2.2.2.2.1.keep c10 (fun _ _ f => f)) (And.intro (C9.out.2.2.2.2.2.2.1.keep c10 (fun _ _ f => f)) (C9.out.2.2.2.2.2.2.2.keep c10 (fun _ _ f => f)))))))))
       clear HC1 c10 hst)
    | (go_at_call 18
       (with_reducible refine HC2.out.mono ?_)
       rw [HKC.out]
       rintro e w11 ⟨rfl, c11⟩
       have hst := C10.out.2.1.keep c11 (fun _ f => f.elim)
       have y1 := hst.1.1.four
       have y2 := hst.1.2.1.four
       have y3 := hst.1.2.2.four
       have yp := (C10.out.2.2.1.keep c11 (fun f => f)).four
       have yq := (C10.out.2.2.2.1.keep c11 (fun f => f)).four
       have yw := (C10.out.2.2.2.2.1.keep c11 (fun f => f)).four
       have HS1 := Lib.hid (Same05_any _ _ x c _ _ _ (C10.out.2.2.2.2.2.1.keep c11 (fun _ _ f => f)) hst.2.2.2)
       have C11 := Lib.hid (And.intro (C10.out.1.trans c11) (And.intro hst (And.intro (C10.out.2.2.2.1.keep c11 (fun f => f)) (And.intro (C10.out.2.2.2.2.2.2.1.keep c11 (fun _ _ f => f)) (C10.out.2.2.2.2.2.2.2.keep c11 (fun _ _ f => f))))))
       clear HC2 c11 hst)
    | (go_at_call 19
       (with_reducible refine HS1.out.mono ?_)
       rw [HD.out]
       rintro e w12 ⟨rfl, c12⟩
       have hst := C11.out.2.1.keep c12 (fun _ f => f.elim)
       have y1 := hst.1.1.four
       have y2 := hst.1.2.1.four
       have y3 := hst.1.2.2.four
       have yq := (C11.out.2.2.1.keep c12 (fun f => f)).four
       have HS2 := Lib.hid (Same05_any _ _ b b _ _ _ (C11.out.2.2.2.1.keep c12 (fun _ _ f => f)) hst.2.2.1)
       have C12 := Lib.hid (And.intro (C11.out.1.trans c12) (And.intro hst (C11.out.2.2.2.2.keep c12 (fun _ _ f => f))))
       clear HS1 c12 hst)
      | (go_at_call 19
         (with_reducible refine HS2.out.mono ?_)
         rw [HDB.out]
         rintro e w13 ⟨rfl, c13⟩
         have hst := C12.out.2.1.keep c13 (fun _ f => f.elim)
         have y3 := hst.1.2.2.four
         have HS3 := Lib.hid (secStore_none (C12.out.2.2.keep c13 (fun _ _ f => f)) 3 _ c _ hst.2.2.2 (lk_two3 x b f3 fb))
         have C13 := Lib.hid (And.intro (C12.out.1.trans c13) (C12.out.2.2.keep c13 (fun _ _ f => f)))
         clear HS2 c13 hst)
      | (go_at_call 16
         (with_reducible refine HS3.out.mono ?_)
         rintro e w14 ⟨rfl, c14⟩
         have C14 := Lib.hid (And.intro (C13.out.1.trans c14) (C13.out.2.keep c14 (fun _ _ f => f)))
         clear HS3 c14)
      | (go_at_call 12; refine (secMade_any C14.out.2).mono ?_; rintro e w' ⟨rfl, rfl⟩)
      | (go_at_call 7; refine (known06_any _).mono ?_; rintro e w15 ⟨rfl, c15⟩)
    | fail)
  go_ret
  exact ⟨rfl, C14.out.1.trans c15⟩

set_option maxRecDepth 100000 in
set_option maxHeartbeats 1000000 in
theorem stores_bad {a b c : O} {va vb vc : Value} {S1 S2 S3 : Nat → Prop} {w : World} (ha : ObjR w S1 va a) (hb : ObjR w S2 vb b) (hc : ObjR w S3 vc c) (h1 : mkE 400 [] 0 a = 0) (h2 : mkE 400 (mkL 400 [] 0 a) (mkM 400 [] 0 a) b = 0) (kc : okB c = false) :
    Calls Try.prog 4 #[va, vb, vc] w fun e w' => e = .returned (.bool true) ∧ Chg No w w' := by
  obtain ⟨i1, i2, hm, fa, fb, hL, hfb, kb⟩ := two_made h1 h2
  obtain ⟨hse, hsl⟩ := two_bad (a := a) (b := b) (c := c) (fa := fa) (fb := fb) kc
  obtain ⟨f3, hf3⟩ : ∃ f, fa = f := ⟨_, rfl⟩
  subst hf3
  obtain ⟨x, hx⟩ : ∃ x, a = x := ⟨_, rfl⟩
  have HX := Lib.hid hx
  replace hsl := hsl.trans (show [(⟨1, a, fa⟩ : Rw), ⟨2, b, fb⟩] = [⟨1, x, fa⟩, ⟨2, b, fb⟩] by rw [hx])
  clear hx
  obtain ⟨av, aw, rfl, ha1, ha2, ha3⟩ := ha
  obtain ⟨bv, bw, rfl, hb1, hb2, hb3⟩ := hb
  obtain ⟨cv, cw, rfl, hc1, hc2, hc3⟩ := hc
  obtain ⟨A1, d1, rfl, -⟩ := ha1.form
  obtain ⟨A2, d2, rfl, -⟩ := ha2.form
  obtain ⟨B1, e1, rfl, -⟩ := hb1.form
  obtain ⟨B2, e2, rfl, -⟩ := hb2.form
  obtain ⟨D1, g1, rfl, -⟩ := hc1.form
  obtain ⟨D2, g2, rfl, -⟩ := hc2.form
  simp only [cells2]
  obtain ⟨W0, hW0⟩ : ∃ W, ((w.alloc (.cells #[.int .i64 a.cls, .int .i64 a.kind, .slice A1 a.W.length d1, .slice A2 a.B.length d2] 33)).alloc (.cells #[.int .i64 b.cls, .int .i64 b.kind, .slice B1 b.W.length e1, .slice B2 b.B.length e2] 33)).alloc (.cells #[.int .i64 c.cls, .int .i64 c.kind, .slice D1 c.W.length g1, .slice D2 c.B.length g2] 33) = W := ⟨_, rfl⟩
  have c0 : Chg No w W0 := by rw [← hW0]; exact (((Chg.refl _ _).alloc _).alloc _).alloc _
  have s0 : W0.heap.size = w.heap.size + 3 := by rw [← hW0]; simp
  have st0 : St3 w.heap.size a b c #[.int .i64 a.cls, .int .i64 a.kind, .slice A1 a.W.length d1, .slice A2 a.B.length d2] #[.int .i64 b.cls, .int .i64 b.kind, .slice B1 b.W.length e1, .slice B2 b.B.length e2] #[.int .i64 c.cls, .int .i64 c.kind, .slice D1 c.W.length g1, .slice D2 c.B.length g2] W0 := by
    refine ⟨?_, ?_, ?_, ?_⟩
    · rw [← hW0]
      refine ⟨((Row.new w _ _).alloc _).alloc _, ?_, ?_⟩
      · have h := (Row.new (w.alloc (.cells #[.int .i64 a.cls, .int .i64 a.kind, .slice A1 a.W.length d1, .slice A2 a.B.length d2] 33)) 33 #[.int .i64 b.cls, .int .i64 b.kind, .slice B1 b.W.length e1, .slice B2 b.B.length e2])
        rw [show (w.alloc (.cells #[.int .i64 a.cls, .int .i64 a.kind, .slice A1 a.W.length d1, .slice A2 a.B.length d2] 33)).heap.size = w.heap.size + 1 by simp] at h
        exact h.alloc _
      · have h := (Row.new ((w.alloc (.cells #[.int .i64 a.cls, .int .i64 a.kind, .slice A1 a.W.length d1, .slice A2 a.B.length d2] 33)).alloc (.cells #[.int .i64 b.cls, .int .i64 b.kind, .slice B1 b.W.length e1, .slice B2 b.B.length e2] 33)) 33 #[.int .i64 c.cls, .int .i64 c.kind, .slice D1 c.W.length g1, .slice D2 c.B.length g2])
        rw [show ((w.alloc (.cells #[.int .i64 a.cls, .int .i64 a.kind, .slice A1 a.W.length d1, .slice A2 a.B.length d2] 33)).alloc (.cells #[.int .i64 b.cls, .int .i64 b.kind, .slice B1 b.W.length e1, .slice B2 b.B.length e2] 33)).heap.size = w.heap.size + 1 + 1 by simp] at h
        exact h
    · exact ⟨_, _, rfl, (ha1.more (S' := fun k => k < w.heap.size) (fun b hb _ => hb)).keep c0 (fun _ _ f => f), (ha2.more (S' := fun k => k < w.heap.size) (fun b hb _ => hb)).keep c0 (fun _ _ f => f), ha3⟩
    · exact ⟨_, _, rfl, (hb1.more (S' := fun k => k < w.heap.size) (fun b hb _ => hb)).keep c0 (fun _ _ f => f), (hb2.more (S' := fun k => k < w.heap.size) (fun b hb _ => hb)).keep c0 (fun _ _ f => f), hb3⟩
    · exact ⟨_, _, rfl, (hc1.more (S' := fun k => k < w.heap.size) (fun b hb _ => hb)).keep c0 (fun _ _ f => f), (hc2.more (S' := fun k => k < w.heap.size) (fun b hb _ => hb)).keep c0 (fun _ _ f => f), hc3⟩
  have H0 := Lib.hid (And.intro c0 (And.intro s0 st0))
  have HW0 := Lib.hid hW0
  have HN := Lib.hid (secNew_ok 400 (by omega) W0)
  clear ha1 ha2 ha3 hb1 hb2 hb3 hc1 hc2 hc3 c0 s0 st0 hW0
  have HE1 := Lib.hid (And.intro h1 i1)
  have HE2 := Lib.hid h2
  have HI2 := Lib.hid i2
  have HM := Lib.hid hm
  have HL2 := Lib.hid hL
  have HSE := Lib.hid hse
  have HSL := Lib.hid hsl
  have HD := Lib.hid (show decide (x = a) = true from decide_eq_true HX.out.symm)
  have HDB := Lib.hid (show decide (b = b) = true from decide_eq_true rfl)
  have HKC := Lib.hid (show chk c = 2 by unfold chk; rw [if_neg (by simp [kc])])
  clear h1 h2 i1 i2 hm hL hfb kb hse hsl kc
  go_enter Try.func4, Try.ntmps4
  go_wp2_with (first
    | (rw [HW0.out])
    | (go_at_call 8
       refine HN.out.mono ?_
       rintro e w1 ⟨v1, rfl, Q, rfl, hs, hge, c1⟩
       have hst := H0.out.2.2.keep c1 (fun _ f => f.elim)
       have y1 := hst.1.1.four
       have y2 := hst.1.2.1.four
       have y3 := hst.1.2.2.four
       have HM1 := Lib.hid (secMake_any hs _ a _ hst.2.1)
       have HK := Lib.hid (show ∀ k, Q.has k → w.heap.size + 3 ≤ k from fun k hk => by have := hge k hk; have := H0.out.2.1; omega)
       have C1 := Lib.hid (And.intro (H0.out.1.trans c1) hst)
       clear hs hge c1 hst HN)
    | (go_at_call 10
       (with_reducible refine HM1.out.mono ?_)
       rw [HE1.out.1, HE1.out.2]
       rintro e w2 ⟨rfl, hs2, c2⟩
       have hst := C1.out.2.keep c2 HK.out
       have y1 := hst.1.1.four
       have y2 := hst.1.2.1.four
       have y3 := hst.1.2.2.four
       have HM2 := Lib.hid (secMake_any hs2 _ b _ hst.2.2.1)
       have C2 := Lib.hid (And.intro (Chg.fresh C1.out.1 c2 (fun k hk => by have := HK.out k hk; omega)) hst)
       clear HM1 hs2 c2 hst)
    | (go_at_call 10
       (with_reducible refine HM2.out.mono ?_)
       rw [HE2.out, HI2.out, HM.out]
       rintro e w3 ⟨rfl, hs3, c3⟩
       rw [HL2.out] at hs3
       have hst := C2.out.2.keep c3 HK.out
       have y1 := hst.1.1.four
       have y2 := hst.1.2.1.four
       have y3 := hst.1.2.2.four
       have HST := Lib.hid (secStore_any hs3 1 _ c _ hst.2.2.2)
       have C3 := Lib.hid (And.intro (Chg.fresh C2.out.1 c3 (fun k hk => by have := HK.out k hk; omega)) hst)
       clear HM2 hs3 c3 hst)
    | (go_at_call 16
       (with_reducible refine HST.out.mono ?_)
       rw [HSE.out]
       rintro e w4 ⟨rfl, hs4, c4⟩
       rw [HSL.out] at hs4
       have hst := C3.out.2.keep c4 HK.out
       have y1 := hst.1.1.four
       have y2 := hst.1.2.1.four
       have y3 := hst.1.2.2.four
       have HF1 := Lib.hid (show Calls _ _ _ _ (Ret (Fetched w4 Q 400 _ 2 x 0)) from secFetch_some hs4 (lk_two1 x b fa fb))
       have C4 := Lib.hid (And.intro (Chg.fresh C3.out.1 c4 (fun k hk => by have := HK.out k hk; omega)) (And.intro hst (hs4.lt (k := Q.B.d) (.inr (.inr (.inr (.inl rfl)))))))
       clear HST hs4 c4 hst)
    | (go_at_call 17
       (with_reducible refine HF1.out.mono ?_)
       rintro e w5 ⟨v5, rfl, u5, rfl, ho5, hs5, c5⟩
       obtain ⟨wv5, bv5, rfl, hI5, hB5, i5, k5⟩ := ho5
       obtain ⟨P1, p1, rfl, -⟩ := hI5.form
       obtain ⟨P2, p2, rfl, -⟩ := hB5.form
       obtain ⟨W6, hW6⟩ : ∃ W, w5.alloc (.cells #[.int .i64 x.cls, .int .i64 x.kind, .slice P1 x.W.length p1, .slice P2 x.B.length p2] 33) = W := ⟨_, rfl⟩
       have c6 : Chg No w5 W6 := by rw [← hW6]; exact (Chg.refl _ _).alloc _
       have rp : Row W6 w5.heap.size 33 #[.int .i64 x.cls, .int .i64 x.kind, .slice P1 x.W.length p1, .slice P2 x.B.length p2] := by rw [← hW6]; exact Row.new _ _ _
       have yp := rp.four
       have hst := (C4.out.2.1.keep c5 (fun k hk => HK.out k (by rw [hk]; exact .inr (.inr (.inr (.inl rfl)))))).keep c6 (fun _ f => f.elim)
       have y1 := hst.1.1.four
       have y2 := hst.1.2.1.four
       have y3 := hst.1.2.2.four
       have hs6 := hs5.keep c6 (fun _ _ f => f)
       have hqp : ¬ w5.heap.size = Q.B.d := fun e => by have := hs5.lt (k := Q.B.d) (.inr (.inr (.inr (.inl rfl)))); omega
       have HF2 := Lib.hid (show Calls _ _ _ _ (Ret (Fetched W6 Q 400 _ 2 b 0)) from secFetch_some hs6 (lk_two2 x b fa fb))
       have hop : ObjR W6 (fun k => w4.heap.size ≤ k ∧ k < W6.heap.size) (.agg #[.int .i64 x.cls, .int .i64 x.kind, .slice P1 x.W.length p1, .slice P2 x.B.length p2]) x := ObjR.more ⟨_, _, rfl, hI5.keep c6 (fun _ _ f => f), hB5.keep c6 (fun _ _ f => f), i5, k5⟩ (fun _ h1 h2 => ⟨h2, h1⟩)
       have C6 := Lib.hid (And.intro (Chg.fresh C4.out.1 (c5.trans c6.no) (fun k hk => by have := HK.out k (by rw [hk]; exact .inr (.inr (.inr (.inl rfl)))); omega)) (And.intro hst (And.intro rp (And.intro hqp hop))))
       have HW6 := Lib.hid hW6
       simp only [cells2]
       clear HF1 hI5 hB5 i5 k5 hs5 c5 c6 hW6 hst hs6 rp hqp hop)
    | (rw [HW6.out])
    | (go_at_call 17
       (with_reducible refine HF2.out.mono ?_)
       rintro e w7 ⟨v7, rfl, u7, rfl, ho7, hs7, c7⟩
       obtain ⟨wv7, bv7, rfl, hI7, hB7, i7, k7⟩ := ho7
       obtain ⟨Q1, q1, rfl, -⟩ := hI7.form
       obtain ⟨Q2, q2, rfl, -⟩ := hB7.form
       obtain ⟨W8, hW8⟩ : ∃ W, w7.alloc (.cells #[.int .i64 b.cls, .int .i64 b.kind, .slice Q1 b.W.length q1, .slice Q2 b.B.length q2] 33) = W := ⟨_, rfl⟩
       have c8 : Chg No w7 W8 := by rw [← hW8]; exact (Chg.refl _ _).alloc _
       have rq : Row W8 w7.heap.size 33 #[.int .i64 b.cls, .int .i64 b.kind, .slice Q1 b.W.length q1, .slice Q2 b.B.length q2] := by rw [← hW8]; exact Row.new _ _ _
       obtain ⟨W9, hW9⟩ : ∃ W, W8.alloc (.cells #[.int .i64 c.cls, .int .i64 c.kind, .slice D1 c.W.length g1, .slice D2 c.B.length g2] 33) = W := ⟨_, rfl⟩
       have c9 : Chg No W8 W9 := by rw [← hW9]; exact (Chg.refl _ _).alloc _
       have rw9 : Row W9 W8.heap.size 33 #[.int .i64 c.cls, .int .i64 c.kind, .slice D1 c.W.length g1, .slice D2 c.B.length g2] := by rw [← hW9]; exact Row.new _ _ _
       have hst8 := (C6.out.2.1.keep c7 (fun k hk => HK.out k (by rw [hk]; exact .inr (.inr (.inr (.inl rfl)))))).keep c8 (fun _ f => f.elim)
       have z3 := hst8.1.2.2.four
       have hst := hst8.keep c9 (fun _ f => f.elim)
       have y1 := hst.1.1.four
       have y2 := hst.1.2.1.four
       have y3 := hst.1.2.2.four
       have rp := ((C6.out.2.2.1.keep c7 C6.out.2.2.2.1).keep c8 (fun f => f)).keep c9 (fun f => f)
       have yp := rp.four
       have rq9 := rq.keep c9 (fun f => f)
       have yq := rq9.four
       have yw := rw9.four
       have hop := ((C6.out.2.2.2.2.keep c7 (fun k hk e => by have := C4.out.2.2; have := hk.1; omega)).keep c8 (fun _ _ f => f)).keep c9 (fun _ _ f => f)
       have hoq : ObjR W9 (fun k => k < W8.heap.size) (.agg #[.int .i64 b.cls, .int .i64 b.kind, .slice Q1 b.W.length q1, .slice Q2 b.B.length q2]) b := (ObjR.more (S := fun k => W6.heap.size ≤ k) (w := W8) ⟨_, _, rfl, hI7.keep c8 (fun _ _ f => f), hB7.keep c8 (fun _ _ f => f), i7, k7⟩ (fun _ h1 _ => h1)).keep c9 (fun _ _ f => f)
       have HZ := Lib.hid (And.intro (show w.heap.size + 3 ≤ W8.heap.size from hst8.1.2.2.lt) (And.intro (show ¬ w5.heap.size = W8.heap.size from fun e => by have := ((C6.out.2.2.1.keep c7 C6.out.2.2.2.1).keep c8 (fun f => f)).lt; omega) (And.intro (show ¬ w7.heap.size = W8.heap.size from fun e => by have := rq.lt; omega) (And.intro (show ∀ k, k < w.heap.size → ¬ k = W8.heap.size from fun k hk e => by have := hst8.1.2.2.lt; omega) (And.intro (show ∀ k, w4.heap.size ≤ k ∧ k < W6.heap.size → ¬ k = W8.heap.size from fun k hk e => by have := c7.size; have := c8.size; omega) (And.intro (show ∀ k, k < W8.heap.size → ¬ k = W8.heap.size from fun k hk e => by omega) (show ∀ k, Q.has k → ¬ k = W8.heap.size from fun k hk e => by have := hs7.lt hk; have := c8.size; omega)))))))
       have HC1 := Lib.hid (Check05_any _ c _ _ hst.2.2.2)
       have C9 := Lib.hid (And.intro (Chg.fresh C6.out.1 (c7.trans (c8.trans c9).no) (fun k hk => by have := HK.out k (by rw [hk]; exact .inr (.inr (.inr (.inl rfl)))); omega)) (And.intro hst (And.intro rp (And.intro rq9 (And.intro rw9 (And.intro hop (And.intro hoq ((hs7.keep c8 (fun _ _ f => f)).keep c9 (fun _ _ f => f)))))))))
       have HW8 := Lib.hid hW8
       have HW9 := Lib.hid hW9
       simp only [cells2]
       clear HF2 hI7 hB7 i7 k7 hs7 c7 c8 c9 hW8 hW9 hst8 hst rp rq rw9 rq9 hop hoq)
    | (rw [HW8.out])
    | (rw [HW9.out])
    | (go_at_call 18
       (with_reducible refine HC1.out.mono ?_)
       rw [HKC.out]
       rintro e w0 ⟨rfl, c0⟩
       obtain ⟨w10, hV⟩ : ∃ W, (((w0.setCell ⟨W8.heap.size, 0, none⟩ (.int .i64 a.cls)).setCell ⟨W8.heap.size, 1, none⟩ (.int .i64 a.kind)).setCell ⟨W8.heap.size, 2, none⟩ (.slice A1 a.W.length d1)).setCell ⟨W8.heap.size, 3, none⟩ (.slice A2 a.B.length d2) = W := ⟨_, rfl⟩
       have cV : Chg (fun k => k = W8.heap.size) w0 w10 := by rw [← hV]; repeat (first | exact Chg.refl _ _ | refine Chg.setCell ?_ (.inl (by simp)) _)
       have rw10 : Row w10 W8.heap.size 33 #[.int .i64 a.cls, .int .i64 a.kind, .slice A1 a.W.length d1, .slice A2 a.B.length d2] := by rw [← hV]; exact (((((C9.out.2.2.2.2.1.keep c0 (fun f => f)).set 0 _).set 1 _).set 2 _).set 3 _)
       have z1 := (C9.out.2.1.keep c0 (fun _ f => f.elim)).1.1.four
       have zw := (C9.out.2.2.2.2.1.keep c0 (fun f => f)).four
       have c10 : Chg (fun k => k = W8.heap.size) W9 w10 := c0.no.trans cV
       have HV := Lib.hid hV
       have hst := C9.out.2.1.keep c10 (fun k hk => by have := HZ.out.1; omega)
       have y1 := hst.1.1.four
       have y2 := hst.1.2.1.four
       have y3 := hst.1.2.2.four
       have yp := (C9.out.2.2.1.keep c10 HZ.out.2.1).four
       have yq := (C9.out.2.2.2.1.keep c10 HZ.out.2.2.1).four
       have yw := rw10.four
       have HC2 := Lib.hid (Check05_any _ c _ _ hst.2.2.2)
       have C10 := Lib.hid (And.intro (C9.out.1.then c10 HZ.out.2.2.2.1) (And.intro hst (And.intro (C9.out.2.2.1.keep c10 HZ.out.2.1) (And.intro (C9.out.2.2.2.1.keep c10 HZ.out.2.2.1) (And.intro rw10 (And.intro (C9.out.2.2.2.2.2.1.keep c10 HZ.out.2.2.2.2.1) (And.intro (C9.out.2.2.2.2.2.2.1.keep c10 HZ.out.2.2.2.2.2.1) (C9.out.2.2.2.2.2.2.2.keep c10 HZ.out.2.2.2.2.2.2))))))))
       clear HC1 c10 hst)
    | (rw [HV.out])
    | (go_at_call 18
       (with_reducible refine HC2.out.mono ?_)
       rw [HKC.out]
       rintro e w11 ⟨rfl, c11⟩
       have hst := C10.out.2.1.keep c11 (fun _ f => f.elim)
       have y1 := hst.1.1.four
       have y2 := hst.1.2.1.four
       have y3 := hst.1.2.2.four
       have yp := (C10.out.2.2.1.keep c11 (fun f => f)).four
       have yq := (C10.out.2.2.2.1.keep c11 (fun f => f)).four
       have yw := (C10.out.2.2.2.2.1.keep c11 (fun f => f)).four
       have HS1 := Lib.hid (Same05_any _ _ x a _ _ _ (C10.out.2.2.2.2.2.1.keep c11 (fun _ _ f => f)) hst.2.1)
       have C11 := Lib.hid (And.intro (C10.out.1.trans c11) (And.intro hst (And.intro (C10.out.2.2.2.1.keep c11 (fun f => f)) (And.intro (C10.out.2.2.2.2.2.2.1.keep c11 (fun _ _ f => f)) (C10.out.2.2.2.2.2.2.2.keep c11 (fun _ _ f => f))))))
       clear HC2 c11 hst)
    | (go_at_call 19
       (with_reducible refine HS1.out.mono ?_)
       rw [HD.out]
       rintro e w12 ⟨rfl, c12⟩
       have hst := C11.out.2.1.keep c12 (fun _ f => f.elim)
       have y1 := hst.1.1.four
       have y2 := hst.1.2.1.four
       have y3 := hst.1.2.2.four
       have yq := (C11.out.2.2.1.keep c12 (fun f => f)).four
       have HS2 := Lib.hid (Same05_any _ _ b b _ _ _ (C11.out.2.2.2.1.keep c12 (fun _ _ f => f)) hst.2.2.1)
       have C12 := Lib.hid (And.intro (C11.out.1.trans c12) (And.intro hst (C11.out.2.2.2.2.keep c12 (fun _ _ f => f))))
       clear HS1 c12 hst)
      | (go_at_call 19
         (with_reducible refine HS2.out.mono ?_)
         rw [HDB.out]
         rintro e w13 ⟨rfl, c13⟩
         have hst := C12.out.2.1.keep c13 (fun _ f => f.elim)
         have y3 := hst.1.2.2.four
         have HS3 := Lib.hid (secStore_none (C12.out.2.2.keep c13 (fun _ _ f => f)) 3 _ c _ hst.2.2.2 (lk_two3 x b fa fb))
         have C13 := Lib.hid (And.intro (C12.out.1.trans c13) (C12.out.2.2.keep c13 (fun _ _ f => f)))
         clear HS2 c13 hst)
      | (go_at_call 16
         (with_reducible refine HS3.out.mono ?_)
         rintro e w14 ⟨rfl, c14⟩
         have C14 := Lib.hid (And.intro (C13.out.1.trans c14) (C13.out.2.keep c14 (fun _ _ f => f)))
         clear HS3 c14)
      | (go_at_call 12; refine (secMade_any C14.out.2).mono ?_; rintro e w' ⟨rfl, rfl⟩)
      | (go_at_call 7; refine (known06_any _).mono ?_; rintro e w15 ⟨rfl, c15⟩)
    | fail)
  go_ret
  exact ⟨rfl, C14.out.1.trans c15⟩

theorem SecondStores_row {a b c : O} {va vb vc : Value} {S1 S2 S3 : Nat → Prop} (w : World) (ha : ObjR w S1 va a) (hb : ObjR w S2 vb b) (hc : ObjR w S3 vc c) :
    Calls Try.prog 4 #[va, vb, vc] w fun e w' => e = .returned (.bool true) ∧ Below w.heap.size w w' := by
  have key : Calls Try.prog 4 #[va, vb, vc] w fun e w' => e = .returned (.bool true) ∧ Chg No w w' := by
    by_cases h : mkE 400 [] 0 a = 0 ∧ mkE 400 (mkL 400 [] 0 a) (mkM 400 [] 0 a) b = 0
    · cases kc : okB c
      · exact stores_bad ha hb hc h.1 h.2 kc
      · exact stores_ok ha hb hc h.1 h.2 kc
    · exact stores_no ha hb hc h
  exact key.mono fun _ _ h => ⟨h.1, h.2.below⟩

end Go.Proofs.Ytdpmmafkomchaaa
