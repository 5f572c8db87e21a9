/- Objects on a disk, by the document: websterref06's Store. -/
import Derived.Test.YtdpmmafkomchaaaGreatSecS8
namespace Go.Proofs.YtdpmmafkomchaaaGreat
set_option linter.unusedVariables false
set_option linter.unusedSimpArgs false
open Go.RowKit

/-- what Set tells, at once -/
def setP (X : List Xt) (N : Nat) (x : Xt) (l : List Int) : Int × Int × Int × Int := match setF X N x l with | some f => (f, secN l.length, l.length, 0) | none => (0, 0, 0, 3)
theorem Set04_any (v bv : Value) (T : List T4) (l : List Int) (S S2 : Nat → Prop) (w : World) (h : Row4 w S v T) (N : Nat) (hN : N ≤ 20000) (hb : ByteS w S2 bv l) (hl : l.length ≤ 1000000) {k : Nat} {t : T4} (H : Set4 T N k t) :
    Calls Tryz.prog 37 #[v, .int .i64 N, .agg #[.int .i64 t.1.f, .int .i64 t.1.n, .int .i64 t.1.b.length], bv] w (Ret fun u w' => ∃ A n c, u = .tuple #[.slice A n c, .agg #[.int .i64 (setP ((T.eraseIdx k).map (·.1)) N t.1 l).1, .int .i64 (setP ((T.eraseIdx k).map (·.1)) N t.1 l).2.1, .int .i64 (setP ((T.eraseIdx k).map (·.1)) N t.1 l).2.2.1], .int .i64 (setP ((T.eraseIdx k).map (·.1)) N t.1 l).2.2.2] ∧ Chg No w w') := by
  unfold setP setF
  by_cases hs : secN l.length = t.1.n
  · rw [if_pos hs]
    exact Set04_same v bv T l S S2 w h N hN hb hl H hs
  · rw [if_neg hs]
    cases hp : placeX ((T.eraseIdx k).map (·.1)) N (secN l.length) with
    | none => exact Set04_none v bv T l S S2 w h N hN hb hl H hs hp
    | some f => exact Set04_some v bv T l S S2 w h N hN hb hl H hs hp
/-- one row is another one -/
theorem Own8.set {wr : World} {base g n c : Nat} {T : List T8} (h : Own8 wr base (.slice (some ⟨g, 0, none⟩) n c) T) {k : Nat} (hk : k < T.length) (t : T8) {W : World}
    (hW : W = (((((((wr.setCell ⟨g, k * 8, none⟩ (.int .i64 t.1.id)).setCell ⟨g, k * 8 + 1, none⟩ (.int .i64 t.1.o.cls)).setCell ⟨g, k * 8 + 2, none⟩ (.int .i64 t.1.o.kind)).setCell ⟨g, k * 8 + 3, none⟩ t.2.1).setCell ⟨g, k * 8 + 4, none⟩ t.2.2).setCell ⟨g, k * 8 + 5, none⟩ (.int .i64 t.1.f)).setCell ⟨g, k * 8 + 6, none⟩ (.int .i64 t.1.xt.n)).setCell ⟨g, k * 8 + 7, none⟩ (.int .i64 (encB t.1.o).length)) :
    Own8 W base (.slice (some ⟨g, 0, none⟩) n c) (T.set k t) ∧ Chg (fun b => b = g) wr W := by
  subst hW
  have hn : n = T.length := by obtain ⟨A, c', e⟩ := own_form h; exact (Value.slice.inj e).2.1
  subst hn
  have s1 := h.stored (k * 8) (.int .i64 t.1.id)
  have s2 := s1.1.stored (k * 8 + 1) (.int .i64 t.1.o.cls)
  have s3 := s2.1.stored (k * 8 + 2) (.int .i64 t.1.o.kind)
  have s4 := s3.1.stored (k * 8 + 3) t.2.1
  have s5 := s4.1.stored (k * 8 + 4) t.2.2
  have s6 := s5.1.stored (k * 8 + 5) (.int .i64 t.1.f)
  have s7 := s6.1.stored (k * 8 + 6) (.int .i64 t.1.xt.n)
  have s8 := s7.1.stored (k * 8 + 7) (.int .i64 (encB t.1.o).length)
  refine ⟨?_, (((((((Chg.one wr g (k * 8) _).trans (Chg.one _ g (k * 8 + 1) _)).trans (Chg.one _ g (k * 8 + 2) _)).trans (Chg.one _ g (k * 8 + 3) _)).trans (Chg.one _ g (k * 8 + 4) _)).trans (Chg.one _ g (k * 8 + 5) _)).trans (Chg.one _ g (k * 8 + 6) _)).trans (Chg.one _ g (k * 8 + 7) _)⟩
  show World.ownsRow _ _ _ _ _ (T.set k t).length (cellsS (T.set k t))
  rw [List.length_set, cellsS_set T k t hk]
  exact s8.1

set_option maxRecDepth 100000 in
set_option maxHeartbeats 800000 in
theorem Store06_no (v ov : Value) (T : List T8) (S So : Nat → Prop) (w : World) (h : R8 w S v T) (hm : T.length ≤ 1048576) (N made : Nat) (id : Int) (o : O) (ho : ObjR w So ov o) (hk : lk (T.map (·.1)) id = none) :
    Calls Tryz.prog 13 #[.agg #[v, .int .i64 N, .int .i64 made], .int .i64 id, ov] w (Ret fun u w' => ∃ x, u = .tuple #[x, .int .i64 4] ∧ Spd w S N (T.map (·.1)) made x w') := by
  obtain ⟨wv, bv, rfl, hI, hB, k1, k2⟩ := ho
  obtain ⟨Aw, cw0, rfl, -⟩ := hI.form
  obtain ⟨Ab, cb0, rfl, -⟩ := hB.form
  obtain ⟨A, c, rfl, -⟩ := h.form
  simp only [cells2]
  have HO := Lib.hid (show ObjR w (fun b => b < w.heap.size) (.agg #[.int .i64 o.cls, .int .i64 o.kind, .slice Aw o.W.length cw0, .slice Ab o.B.length cb0]) o from ⟨_, _, rfl, hI.more (fun b hb _ => hb), hB.more (fun b hb _ => hb), k1, k2⟩)
  have HV := Lib.hid h
  obtain ⟨W, hW⟩ : ∃ W, ((w.alloc (.cells #[.slice A T.length c, .int .i64 N, .int .i64 made] 32)).alloc (.cells #[.int .i64 o.cls, .int .i64 o.kind, .slice Aw o.W.length cw0, .slice Ab o.B.length cb0] 35)).alloc (.cells #[.slice none 0 0, .int .i64 0, .int .i64 0] 32) = W := ⟨_, rfl⟩
  have cW : Chg No w W := by rw [← hW]; exact (((Chg.refl _ _).alloc _).alloc _).alloc _
  have sW : W.heap.size = w.heap.size + 1 + 1 + 1 := by rw [← hW]; simp
  have r0 : Row W w.heap.size 32 #[.slice A T.length c, .int .i64 N, .int .i64 made] := by rw [← hW]; exact ((Row.new w _ _).alloc _).alloc _
  have r1 : Row W (w.heap.size + 1) 35 #[.int .i64 o.cls, .int .i64 o.kind, .slice Aw o.W.length cw0, .slice Ab o.B.length cb0] := by rw [← hW]; exact Row.alloc (by simpa using Row.new (w.alloc _) _ _) _
  have r2 : Row W (w.heap.size + 1 + 1) 32 #[.slice none 0 0, .int .i64 0, .int .i64 0] := by rw [← hW]; simpa using Row.new ((w.alloc (.cells #[.slice A T.length c, .int .i64 N, .int .i64 made] 32)).alloc (.cells #[.int .i64 o.cls, .int .i64 o.kind, .slice Aw o.W.length cw0, .slice Ab o.B.length cb0] 35)) 32 #[.slice none 0 0, .int .i64 0, .int .i64 0]
  have HR := Lib.hid (And.intro cW (And.intro sW (And.intro r0 (And.intro r1 r2))))
  have HW := Lib.hid hW
  obtain ⟨i0, i1, i2, i3, -⟩ := r1.four
  obtain ⟨j0, j1, j2, -⟩ := r0.three
  clear hI hB k1 k2 h hW r0 r1 r2 cW sW
  generalize hn : T.length = n at *
  have HN := Lib.hid hn
  clear hn
  have sW := HR.out.2.1
  have HPO := Lib.hid (posR_none hk)
  clear hk
  go_enter Tryz.func13, Tryz.ntmps13
  go_wp2_with (first
    | (rw [HW.out])
    | (go_at_call 10
       refine (Find06_any _ T S _ (HV.out.keep HR.out.1 (fun _ _ f => f)) (by rw [HN.out]; exact hm) N made id).mono ?_
       rw [HPO.out]
       rintro e w1 ⟨rfl, c1⟩
       clear i0 i1 i2 i3 j0 j1 j2
       have q0 := HR.out.2.2.1.keep c1 (fun f => f)
       have q1 := HR.out.2.2.2.1.keep c1 (fun f => f)
       have q2 := HR.out.2.2.2.2.keep c1 (fun f => f)
       obtain ⟨a0, a1, a2, af⟩ := q0.three
       obtain ⟨b0, b1, b2, b3, bf⟩ := q1.four
       obtain ⟨d0, d1, d2, df⟩ := q2.three
       clear q0 q1 q2
       have H1 := Lib.hid c1
       have sw1 := c1.size
       clear c1)
    | fail)
  obtain ⟨z0, z1, z2, -⟩ := ((HR.out.2.2.2.2.keep (H1.out) (fun f => f)).set3 (.slice A n c) (.int .i64 N) (.int .i64 made)).three
  exact bodyPost_ret (v := .tuple #[.agg #[.slice A n c, .int .i64 N, .int .i64 made], .int .i64 4]) (by simp [results, Tryz.results13, go_sem, z0, z1, z2]) rfl (Ret.mk ⟨_, rfl, Spd.same HV.out ((HR.out.1.trans (H1.out)).three (by omega) _ _ _)⟩)

set_option maxRecDepth 100000 in
set_option maxHeartbeats 800000 in
theorem Store06_bad (v ov : Value) (T : List T8) (S So : Nat → Prop) (w : World) (h : R8 w S v T) (hm : T.length ≤ 1048576) (N made : Nat) (id : Int) (o : O) (ho : ObjR w So ov o) {k : Nat} (hp : posR (T.map (·.1)) id = k) (hk : okB o = false) :
    Calls Tryz.prog 13 #[.agg #[v, .int .i64 N, .int .i64 made], .int .i64 id, ov] w (Ret fun u w' => ∃ x, u = .tuple #[x, .int .i64 2] ∧ Spd w S N (T.map (·.1)) made x w') := by
  obtain ⟨wv, bv, rfl, hI, hB, k1, k2⟩ := ho
  obtain ⟨Aw, cw0, rfl, -⟩ := hI.form
  obtain ⟨Ab, cb0, rfl, -⟩ := hB.form
  obtain ⟨A, c, rfl, -⟩ := h.form
  simp only [cells2]
  have HO := Lib.hid (show ObjR w (fun b => b < w.heap.size) (.agg #[.int .i64 o.cls, .int .i64 o.kind, .slice Aw o.W.length cw0, .slice Ab o.B.length cb0]) o from ⟨_, _, rfl, hI.more (fun b hb _ => hb), hB.more (fun b hb _ => hb), k1, k2⟩)
  have HV := Lib.hid h
  obtain ⟨W, hW⟩ : ∃ W, ((w.alloc (.cells #[.slice A T.length c, .int .i64 N, .int .i64 made] 32)).alloc (.cells #[.int .i64 o.cls, .int .i64 o.kind, .slice Aw o.W.length cw0, .slice Ab o.B.length cb0] 35)).alloc (.cells #[.slice none 0 0, .int .i64 0, .int .i64 0] 32) = W := ⟨_, rfl⟩
  have cW : Chg No w W := by rw [← hW]; exact (((Chg.refl _ _).alloc _).alloc _).alloc _
  have sW : W.heap.size = w.heap.size + 1 + 1 + 1 := by rw [← hW]; simp
  have r0 : Row W w.heap.size 32 #[.slice A T.length c, .int .i64 N, .int .i64 made] := by rw [← hW]; exact ((Row.new w _ _).alloc _).alloc _
  have r1 : Row W (w.heap.size + 1) 35 #[.int .i64 o.cls, .int .i64 o.kind, .slice Aw o.W.length cw0, .slice Ab o.B.length cb0] := by rw [← hW]; exact Row.alloc (by simpa using Row.new (w.alloc _) _ _) _
  have r2 : Row W (w.heap.size + 1 + 1) 32 #[.slice none 0 0, .int .i64 0, .int .i64 0] := by rw [← hW]; simpa using Row.new ((w.alloc (.cells #[.slice A T.length c, .int .i64 N, .int .i64 made] 32)).alloc (.cells #[.int .i64 o.cls, .int .i64 o.kind, .slice Aw o.W.length cw0, .slice Ab o.B.length cb0] 35)) 32 #[.slice none 0 0, .int .i64 0, .int .i64 0]
  have HR := Lib.hid (And.intro cW (And.intro sW (And.intro r0 (And.intro r1 r2))))
  have HW := Lib.hid hW
  obtain ⟨i0, i1, i2, i3, -⟩ := r1.four
  obtain ⟨j0, j1, j2, -⟩ := r0.three
  clear hI hB k1 k2 h hW r0 r1 r2 cW sW
  generalize hn : T.length = n at *
  have HN := Lib.hid hn
  clear hn
  have sW := HR.out.2.1
  have HPO := Lib.hid hp
  have t0 : decide ((k : Int) < 0) = false := decide_eq_false (by omega)
  clear hp
  go_enter Tryz.func13, Tryz.ntmps13
  go_wp2_with (first
    | (rw [HW.out])
    | (go_at_call 10
       refine (Find06_any _ T S _ (HV.out.keep HR.out.1 (fun _ _ f => f)) (by rw [HN.out]; exact hm) N made id).mono ?_
       rw [HPO.out]
       rintro e w1 ⟨rfl, c1⟩
       clear i0 i1 i2 i3 j0 j1 j2
       have q0 := HR.out.2.2.1.keep c1 (fun f => f)
       have q1 := HR.out.2.2.2.1.keep c1 (fun f => f)
       have q2 := HR.out.2.2.2.2.keep c1 (fun f => f)
       obtain ⟨a0, a1, a2, af⟩ := q0.three
       obtain ⟨b0, b1, b2, b3, bf⟩ := q1.four
       obtain ⟨d0, d1, d2, df⟩ := q2.three
       clear q0 q1 q2
       have H1 := Lib.hid c1
       have sw1 := c1.size
       clear c1)
    | (go_at_call 28
       refine (Encode05_bad _ o _ _ (HO.out.keep (HR.out.1.trans H1.out) (fun _ _ f => f)) hk).mono ?_
       rintro e w2 ⟨rfl, c2⟩
       have c12 := H1.out.trans c2
       clear a0 a1 a2 af b0 b1 b2 b3 bf d0 d1 d2 df
       have q0 := HR.out.2.2.1.keep c12 (fun f => f)
       have q1 := HR.out.2.2.2.1.keep c12 (fun f => f)
       have q2 := HR.out.2.2.2.2.keep c12 (fun f => f)
       obtain ⟨a0, a1, a2, af⟩ := q0.three
       obtain ⟨b0, b1, b2, b3, bf⟩ := q1.four
       obtain ⟨d0, d1, d2, df⟩ := q2.three
       clear q0 q1 q2
       have H2 := Lib.hid c12
       clear c2 c12)
    | fail)
  obtain ⟨z0, z1, z2, -⟩ := ((HR.out.2.2.2.2.keep (H2.out) (fun f => f)).set3 (.slice A n c) (.int .i64 N) (.int .i64 made)).three
  exact bodyPost_ret (v := .tuple #[.agg #[.slice A n c, .int .i64 N, .int .i64 made], .int .i64 2]) (by simp [results, Tryz.results13, go_sem, z0, z1, z2]) rfl (Ret.mk ⟨_, rfl, Spd.same HV.out ((HR.out.1.trans (H2.out)).three (by omega) _ _ _)⟩)

theorem set4_of {N made k : Nat} {L : List Rw} {r : Rw} {Q : List T4} (hQ : Q.map (·.1) = L.map Rw.xt) (G : Good N L made) (hk : L[k]? = some r) : ∃ q, Q[k]? = some q ∧ q.1 = r.xt ∧ Set4 Q N k q := by
  have hl : Q.length = L.length := by have := congrArg List.length hQ; simpa using this
  obtain ⟨hkl, hkr⟩ := List.getElem?_eq_some_iff.1 hk
  obtain ⟨q, hq⟩ : ∃ q, Q[k]? = some q := ⟨_, List.getElem?_eq_getElem (by omega)⟩
  have key : ∀ (j : Nat) (u : T4), Q[j]? = some u → (L.map Rw.xt)[j]? = some u.1 := fun j u hu => by rw [← hQ, List.getElem?_map, hu]; rfl
  have hq1 : q.1 = r.xt := by
    have h1 := key k q hq
    rw [List.getElem?_map, hk] at h1
    exact (Option.some.inj h1).symm
  refine ⟨q, hq, hq1, ⟨by rw [hl]; exact G.len, by rw [hQ]; exact G.fits, hq, fun j u hj hu => ?_⟩⟩
  have h1 := key j u hu
  have h2 := key k q hq
  obtain ⟨a1, b1⟩ := List.getElem?_eq_some_iff.1 h1
  obtain ⟨a2, b2⟩ := List.getElem?_eq_some_iff.1 h2
  have h3 := (List.pairwise_iff_getElem.1 G.apart) j k a1 a2 hj
  rw [b1, b2] at h3
  exact h3.ne

theorem map_erase {α β : Type} (f : α → β) : ∀ (l : List α) (k : Nat), (l.map f).eraseIdx k = (l.eraseIdx k).map f
  | [], k => by simp
  | x :: l, 0 => rfl
  | x :: l, k + 1 => by simp [map_erase f l k]
set_option maxRecDepth 100000 in
set_option maxHeartbeats 1600000 in
theorem Store06_full (v ov : Value) (T : List T8) (S So : Nat → Prop) (w : World) (h : R8 w S v T) (hm : T.length ≤ 1048576) (N made : Nat) (id : Int) (o : O) (ho : ObjR w So ov o) {k : Nat} {t : T8} (hp : posR (T.map (·.1)) id = k) (ht : T[k]? = some t) (hk : okB o = true) (G : Good N (T.map (·.1)) made) (hN : N ≤ 20000) (hF : setF (((T.map (·.1)).map Rw.xt).eraseIdx k) N t.1.xt (encB o) = none) :
    Calls Tryz.prog 13 #[.agg #[v, .int .i64 N, .int .i64 made], .int .i64 id, ov] w (Ret fun u w' => ∃ x, u = .tuple #[x, .int .i64 3] ∧ Spd w S N (T.map (·.1)) made x w') := by
  obtain ⟨wv, bv, rfl, hI, hB, k1, k2⟩ := ho
  obtain ⟨Aw, cw0, rfl, -⟩ := hI.form
  obtain ⟨Ab, cb0, rfl, -⟩ := hB.form
  obtain ⟨A, c, rfl, -⟩ := h.form
  simp only [cells2]
  have HO := Lib.hid (show ObjR w (fun b => b < w.heap.size) (.agg #[.int .i64 o.cls, .int .i64 o.kind, .slice Aw o.W.length cw0, .slice Ab o.B.length cb0]) o from ⟨_, _, rfl, hI.more (fun b hb _ => hb), hB.more (fun b hb _ => hb), k1, k2⟩)
  have HV := Lib.hid h
  obtain ⟨W, hW⟩ : ∃ W, ((w.alloc (.cells #[.slice A T.length c, .int .i64 N, .int .i64 made] 32)).alloc (.cells #[.int .i64 o.cls, .int .i64 o.kind, .slice Aw o.W.length cw0, .slice Ab o.B.length cb0] 35)).alloc (.cells #[.slice none 0 0, .int .i64 0, .int .i64 0] 32) = W := ⟨_, rfl⟩
  have cW : Chg No w W := by rw [← hW]; exact (((Chg.refl _ _).alloc _).alloc _).alloc _
  have sW : W.heap.size = w.heap.size + 1 + 1 + 1 := by rw [← hW]; simp
  have r0 : Row W w.heap.size 32 #[.slice A T.length c, .int .i64 N, .int .i64 made] := by rw [← hW]; exact ((Row.new w _ _).alloc _).alloc _
  have r1 : Row W (w.heap.size + 1) 35 #[.int .i64 o.cls, .int .i64 o.kind, .slice Aw o.W.length cw0, .slice Ab o.B.length cb0] := by rw [← hW]; exact Row.alloc (by simpa using Row.new (w.alloc _) _ _) _
  have r2 : Row W (w.heap.size + 1 + 1) 32 #[.slice none 0 0, .int .i64 0, .int .i64 0] := by rw [← hW]; simpa using Row.new ((w.alloc (.cells #[.slice A T.length c, .int .i64 N, .int .i64 made] 32)).alloc (.cells #[.int .i64 o.cls, .int .i64 o.kind, .slice Aw o.W.length cw0, .slice Ab o.B.length cb0] 35)) 32 #[.slice none 0 0, .int .i64 0, .int .i64 0]
  have HR := Lib.hid (And.intro cW (And.intro sW (And.intro r0 (And.intro r1 r2))))
  have HW := Lib.hid hW
  obtain ⟨i0, i1, i2, i3, -⟩ := r1.four
  obtain ⟨j0, j1, j2, -⟩ := r0.three
  clear hI hB k1 k2 h hW r0 r1 r2 cW sW
  generalize hn : T.length = n at *
  have HN := Lib.hid hn
  clear hn
  have sW := HR.out.2.1
  have HPO := Lib.hid hp
  have HT := Lib.hid ht
  have hel : (encB o).length ≤ 1000000 := by have h1 := okB_cases hk; have h2 := encB_len o; omega
  have t0 : decide ((k : Int) < 0) = false := decide_eq_false (by omega)
  obtain ⟨p0, p1, p2, pe, hP⟩ : ∃ p0 p1 p2 pe, setP (((T.map (·.1)).map Rw.xt).eraseIdx k) N t.1.xt (encB o) = (p0, p1, p2, pe) := ⟨_, _, _, _, rfl⟩
  have hpe : pe = 3 := by
    unfold setP at hP
    rw [hF] at hP
    simp at hP
    exact hP.2.2.2.symm
  have HPP := Lib.hid hpe
  have HP := Lib.hid (And.intro hP (And.intro G hk))
  clear hP G hp ht hpe hF
  go_enter Tryz.func13, Tryz.ntmps13
  go_wp2_with (first
                | (rw [HW.out])
                | (go_at_call 10
                   refine (Find06_any _ T S _ (HV.out.keep HR.out.1 (fun _ _ f => f)) (by rw [HN.out]; exact hm) N made id).mono ?_
                   rw [HPO.out]
                   rintro e w1 ⟨rfl, c1⟩
                   clear i0 i1 i2 i3 j0 j1 j2
                   have q0 := HR.out.2.2.1.keep c1 (fun f => f)
                   have q1 := HR.out.2.2.2.1.keep c1 (fun f => f)
                   have q2 := HR.out.2.2.2.2.keep c1 (fun f => f)
                   obtain ⟨a0, a1, a2, af⟩ := q0.three
                   obtain ⟨b0, b1, b2, b3, bf⟩ := q1.four
                   obtain ⟨d0, d1, d2, df⟩ := q2.three
                   clear q0 q1 q2
                   have H1 := Lib.hid c1
                   have sw1 := c1.size
                   clear c1)
                | (go_at_call 28
                   refine (Encode05_ok _ o _ _ (HO.out.keep (HR.out.1.trans H1.out) (fun _ _ f => f)) hk).mono ?_
                   rintro e w2 ⟨v2, rfl, u2, rfl, ho2, c2⟩
                   obtain ⟨A2, k2, rfl⟩ := ho2.form
                   clear a0 a1 a2 af b0 b1 b2 b3 bf d0 d1 d2 df
                   have cW2 := H1.out.trans c2
                   have hbB : ∀ x ∈ o.B, 0 ≤ x ∧ x ≤ 255 := by
                     obtain ⟨wv, bv, -, -, hB, -⟩ := HO.out
                     exact hB.2
                   have H2 := Lib.hid (And.intro (ho2.bytes (encB_bd hbB)) (And.intro cW2 (HR.out.1.trans cW2)))
                   have sw2 := cW2.size
                   clear ho2 c2 cW2 hbB)
                | fail)
  have a0 : ∀ v, Chg No w2 v → v.cell? ⟨w.heap.size, 0, none⟩ = some (.slice A n c) := fun v hv => ((HR.out.2.2.1.keep H2.out.2.1 (fun f => f)).keep hv (fun f => f)).cell 0
  have a1 : ∀ v, Chg No w2 v → v.cell? ⟨w.heap.size, 1, none⟩ = some (.int .i64 N) := fun v hv => ((HR.out.2.2.1.keep H2.out.2.1 (fun f => f)).keep hv (fun f => f)).cell 1
  have a2 : ∀ v, Chg No w2 v → v.cell? ⟨w.heap.size, 2, none⟩ = some (.int .i64 made) := fun v hv => ((HR.out.2.2.1.keep H2.out.2.1 (fun f => f)).keep hv (fun f => f)).cell 2
  obtain ⟨bT, offT, A31, c31, A32, c32, rfl, -, et1, et2, hcT⟩ := HV.out.elem HT.out
  have hkn : k < n := by rw [← HN.out]; exact (List.getElem?_eq_some_iff.1 HT.out).1
  have t1 : (k : Int) < (n : Int) := by omega
  have y0 : ∀ v, Chg No w2 v → v.cell? ⟨bT, offT + k * 8 + 5, none⟩ = some (.int .i64 t.1.f) ∧ v.cell? ⟨bT, offT + k * 8 + 5 + 1, none⟩ = some (.int .i64 t.1.xt.n) ∧ v.cell? ⟨bT, offT + k * 8 + 5 + 2, none⟩ = some (.int .i64 (encB t.1.o).length) := fun v hv => by
    obtain ⟨-, -, -, -, -, -, -, u5, u6, u7⟩ := hcT v (H2.out.2.2.trans hv)
    exact ⟨u5, u6, u7⟩
  have HCT := Lib.hid hcT
  clear hcT et1 et2
  go_cut [11, 12, 13] from 15 to 67 (fun s9 s10 s11 wq => PutAt w2 p0 p1 p2 pe s9 s10 s11 wq)
  case first =>
    go_region_held3 (fun w' => Chg No w2 w') (repeat (with_reducible first | assumption | exact Chg.refl _ _ | refine Chg.drew ?_ | refine Chg.alloc ?_ _ | refine Chg.setCell ?_ (.inr (by dsimp only; omega)) _))
      (first
        | (go_at_call 30
           refine (Calls.heldC (F := No) (W := w2) (by assumption) (Rows06_any _ T S _ (HV.out.keep (H2.out.2.2.trans (by assumption)) (fun _ _ f => f)) (by rw [HN.out]; exact hm) (fun t ht => HP.out.2.1.ok _ (List.mem_map.2 ⟨t, ht, rfl⟩)) N made)).mono ?_
           rintro e w3 ⟨⟨v3, rfl, Q, hQ, hR, c3⟩, hh⟩
           obtain ⟨A3, c3', rfl, -⟩ := hR.form
           have hC3 : Chg No w2 w3 := hh.trans c3
           have hs3 := hC3.size
           have H3 := Lib.hid (And.intro hQ (And.intro hR hC3))
           first
             | (have rz3 : Row w3 w2.heap.size 47 #[.int .i64 0, .int .i64 0, .int .i64 0] := Row.keep (Row.new w2.drew _ _) c3 (fun f => f)
                have HZ := Lib.hid rz3
                clear rz3)
             | (have rz3 : Row w3 w2.heap.size 47 #[.int .i64 0, .int .i64 0, .int .i64 0] := Row.keep (w := (w2.alloc (.cells #[.int .i64 0, .int .i64 0, .int .i64 0] 47)).drew) (Row.new w2 _ _) c3 (fun f => f)
                have HZ := Lib.hid rz3
                clear rz3)
             | skip
           clear hQ hR c3)
        | (go_at_call 37
           have hmk : (T.map (·.1))[k]? = some t.1 := by rw [List.getElem?_map, HT.out]; rfl
           obtain ⟨q, hq0, hq1, hq4⟩ := set4_of H3.out.1 HP.out.2.1 hmk
           have hset := fun W (hW : Chg No w3 W) (hW2 : Chg No w2 W) => Set04_any _ _ Q (encB o) _ _ W (H3.out.2.1.keep (F := No) hW (fun _ _ f => f)) N hN (H2.out.1.keep (F := No) hW2 (fun _ _ f => f)) hel hq4
           rw [hq1, ← map_erase, H3.out.1, HP.out.1] at hset
           refine (Calls.heldC (F := No) (W := w2) (by assumption) (hset _ (by repeat (with_reducible first | exact Chg.refl _ _ | refine Chg.drew ?_ | refine Chg.alloc ?_ _)) (by assumption))).mono ?_
           rintro e w4 ⟨⟨v4, rfl, A4, n4, k4, rfl, c4⟩, hh⟩
           have hC4 : Chg No w2 w4 := hh.trans c4
           have hs4 := hC4.size
           first
             | (have rz4 : Row w4 w2.heap.size 47 #[.int .i64 0, .int .i64 0, .int .i64 0] := HZ.out.keep c4 (fun f => f)
                obtain ⟨f0, f1, f2, fz⟩ := rz4.three
                have HZ4 := Lib.hid rz4
                clear rz4)
             | (have rz4 : Row w4 w3.heap.size 47 #[.int .i64 0, .int .i64 0, .int .i64 0] := Row.keep (Row.new w3 _ _) c4 (fun f => f)
                obtain ⟨f0, f1, f2, fz⟩ := rz4.three
                have HZ4 := Lib.hid rz4
                clear rz4)
             | skip
           clear c4 hset hq0 hq1 hq4 hmk)
        | fail)
    all_goals
      go_wp2_with fail
      go_meet
      case rel =>
        refine ⟨A4, n4, k4, _, rfl, rfl, rfl, ?_, ?_, ?_⟩
        · first | exact Nat.le_refl _ | omega
        · first | exact HZ4.out.set3 _ _ _ | exact Row.new _ _ _
        · first | exact hC4.three (by omega) _ _ _ | exact (hC4.three (by omega) _ _ _).drew | exact hC4.alloc _ | exact (hC4.alloc _).drew
  obtain ⟨A4, n4, k4, xb, rfl, rfl, rfl, hxb, hrow, c4⟩ := hcut
  obtain rfl := HPP.out
  have c04 := H2.out.2.1.trans c4
  have q0 := HR.out.2.2.1.keep c04 (fun f => f)
  have q1 := HR.out.2.2.2.1.keep c04 (fun f => f)
  have q2 := HR.out.2.2.2.2.keep c04 (fun f => f)
  obtain ⟨a0, a1, a2, af⟩ := q0.three
  obtain ⟨b0, b1, b2, b3, bf⟩ := q1.four
  obtain ⟨d0, d1, d2, df⟩ := q2.three
  clear q0 q1 q2
  have H4 := Lib.hid c04
  clear hrow c4 c04
  go_wp2_with fail
  obtain ⟨z0, z1, z2, -⟩ := ((HR.out.2.2.2.2.keep (H4.out) (fun f => f)).set3 (.slice (some ⟨bT, offT, none⟩) n c) (.int .i64 N) (.int .i64 made)).three
  exact bodyPost_ret (v := .tuple #[.agg #[.slice (some ⟨bT, offT, none⟩) n c, .int .i64 N, .int .i64 made], .int .i64 3]) (by simp [results, Tryz.results13, go_sem, z0, z1, z2]) rfl (Ret.mk ⟨_, rfl, Spd.same HV.out ((HR.out.1.trans (H4.out)).three (by omega) _ _ _)⟩)

set_option maxRecDepth 100000 in
set_option maxHeartbeats 1600000 in
theorem Store06_some (v ov : Value) (T : List T8) (S So : Nat → Prop) (w : World) (h : R8 w S v T) (hm : T.length ≤ 1048576) (N made : Nat) (id : Int) (o : O) (ho : ObjR w So ov o) {k f : Nat} {t : T8} (hp : posR (T.map (·.1)) id = k) (ht : T[k]? = some t) (hid : t.1.id = id) (hk : okB o = true) (G : Good N (T.map (·.1)) made) (hN : N ≤ 20000) (hF : setF (((T.map (·.1)).map Rw.xt).eraseIdx k) N t.1.xt (encB o) = some f) :
    Calls Tryz.prog 13 #[.agg #[v, .int .i64 N, .int .i64 made], .int .i64 id, ov] w (Ret fun u w' => ∃ x, u = .tuple #[x, .int .i64 0] ∧ Spd w S N ((T.map (·.1)).set k ⟨id, o, f⟩) made x w') := by
  obtain ⟨wv, bv, rfl, hI, hB, k1, k2⟩ := ho
  obtain ⟨Aw, cw0, rfl, -⟩ := hI.form
  obtain ⟨Ab, cb0, rfl, -⟩ := hB.form
  obtain ⟨A, c, rfl, -⟩ := h.form
  simp only [cells2]
  have HO := Lib.hid (show ObjR w (fun b => b < w.heap.size) (.agg #[.int .i64 o.cls, .int .i64 o.kind, .slice Aw o.W.length cw0, .slice Ab o.B.length cb0]) o from ⟨_, _, rfl, hI.more (fun b hb _ => hb), hB.more (fun b hb _ => hb), k1, k2⟩)
  have HV := Lib.hid h
  obtain ⟨W, hW⟩ : ∃ W, ((w.alloc (.cells #[.slice A T.length c, .int .i64 N, .int .i64 made] 32)).alloc (.cells #[.int .i64 o.cls, .int .i64 o.kind, .slice Aw o.W.length cw0, .slice Ab o.B.length cb0] 35)).alloc (.cells #[.slice none 0 0, .int .i64 0, .int .i64 0] 32) = W := ⟨_, rfl⟩
  have cW : Chg No w W := by rw [← hW]; exact (((Chg.refl _ _).alloc _).alloc _).alloc _
  have sW : W.heap.size = w.heap.size + 1 + 1 + 1 := by rw [← hW]; simp
  have r0 : Row W w.heap.size 32 #[.slice A T.length c, .int .i64 N, .int .i64 made] := by rw [← hW]; exact ((Row.new w _ _).alloc _).alloc _
  have r1 : Row W (w.heap.size + 1) 35 #[.int .i64 o.cls, .int .i64 o.kind, .slice Aw o.W.length cw0, .slice Ab o.B.length cb0] := by rw [← hW]; exact Row.alloc (by simpa using Row.new (w.alloc _) _ _) _
  have r2 : Row W (w.heap.size + 1 + 1) 32 #[.slice none 0 0, .int .i64 0, .int .i64 0] := by rw [← hW]; simpa using Row.new ((w.alloc (.cells #[.slice A T.length c, .int .i64 N, .int .i64 made] 32)).alloc (.cells #[.int .i64 o.cls, .int .i64 o.kind, .slice Aw o.W.length cw0, .slice Ab o.B.length cb0] 35)) 32 #[.slice none 0 0, .int .i64 0, .int .i64 0]
  have HR := Lib.hid (And.intro cW (And.intro sW (And.intro r0 (And.intro r1 r2))))
  have HW := Lib.hid hW
  obtain ⟨i0, i1, i2, i3, -⟩ := r1.four
  obtain ⟨j0, j1, j2, -⟩ := r0.three
  clear hI hB k1 k2 h hW r0 r1 r2 cW sW
  generalize hn : T.length = n at *
  have HN := Lib.hid hn
  clear hn
  have sW := HR.out.2.1
  have HPO := Lib.hid hp
  have HT := Lib.hid ht
  have hel : (encB o).length ≤ 1000000 := by have h1 := okB_cases hk; have h2 := encB_len o; omega
  have t0 : decide ((k : Int) < 0) = false := decide_eq_false (by omega)
  obtain ⟨p0, p1, p2, pe, hP⟩ : ∃ p0 p1 p2 pe, setP (((T.map (·.1)).map Rw.xt).eraseIdx k) N t.1.xt (encB o) = (p0, p1, p2, pe) := ⟨_, _, _, _, rfl⟩
  have hpp : p0 = f ∧ p1 = secN (encB o).length ∧ p2 = (encB o).length ∧ pe = 0 := by
    unfold setP at hP
    rw [hF] at hP
    simp at hP
    exact ⟨hP.1.symm, hP.2.1.symm, hP.2.2.1.symm, hP.2.2.2.symm⟩
  have HPP := Lib.hid hpp
  have HP := Lib.hid (And.intro hP (And.intro G hk))
  have HID := Lib.hid hid
  clear hP G hp ht hpp hF hid
  go_enter Tryz.func13, Tryz.ntmps13
  go_wp2_with (first
                | (rw [HW.out])
                | (go_at_call 10
                   refine (Find06_any _ T S _ (HV.out.keep HR.out.1 (fun _ _ f => f)) (by rw [HN.out]; exact hm) N made id).mono ?_
                   rw [HPO.out]
                   rintro e w1 ⟨rfl, c1⟩
                   clear i0 i1 i2 i3 j0 j1 j2
                   have q0 := HR.out.2.2.1.keep c1 (fun f => f)
                   have q1 := HR.out.2.2.2.1.keep c1 (fun f => f)
                   have q2 := HR.out.2.2.2.2.keep c1 (fun f => f)
                   obtain ⟨a0, a1, a2, af⟩ := q0.three
                   obtain ⟨b0, b1, b2, b3, bf⟩ := q1.four
                   obtain ⟨d0, d1, d2, df⟩ := q2.three
                   clear q0 q1 q2
                   have H1 := Lib.hid c1
                   have sw1 := c1.size
                   clear c1)
                | (go_at_call 28
                   refine (Encode05_ok _ o _ _ (HO.out.keep (HR.out.1.trans H1.out) (fun _ _ f => f)) hk).mono ?_
                   rintro e w2 ⟨v2, rfl, u2, rfl, ho2, c2⟩
                   obtain ⟨A2, k2, rfl⟩ := ho2.form
                   clear a0 a1 a2 af b0 b1 b2 b3 bf d0 d1 d2 df
                   have cW2 := H1.out.trans c2
                   have hbB : ∀ x ∈ o.B, 0 ≤ x ∧ x ≤ 255 := by
                     obtain ⟨wv, bv, -, -, hB, -⟩ := HO.out
                     exact hB.2
                   have H2 := Lib.hid (And.intro (ho2.bytes (encB_bd hbB)) (And.intro cW2 (HR.out.1.trans cW2)))
                   have sw2 := cW2.size
                   clear ho2 c2 cW2 hbB)
                | fail)
  have a0 : ∀ v, Chg No w2 v → v.cell? ⟨w.heap.size, 0, none⟩ = some (.slice A n c) := fun v hv => ((HR.out.2.2.1.keep H2.out.2.1 (fun f => f)).keep hv (fun f => f)).cell 0
  have a1 : ∀ v, Chg No w2 v → v.cell? ⟨w.heap.size, 1, none⟩ = some (.int .i64 N) := fun v hv => ((HR.out.2.2.1.keep H2.out.2.1 (fun f => f)).keep hv (fun f => f)).cell 1
  have a2 : ∀ v, Chg No w2 v → v.cell? ⟨w.heap.size, 2, none⟩ = some (.int .i64 made) := fun v hv => ((HR.out.2.2.1.keep H2.out.2.1 (fun f => f)).keep hv (fun f => f)).cell 2
  obtain ⟨bT, offT, A31, c31, A32, c32, rfl, -, et1, et2, hcT⟩ := HV.out.elem HT.out
  have hkn : k < n := by rw [← HN.out]; exact (List.getElem?_eq_some_iff.1 HT.out).1
  have t1 : (k : Int) < (n : Int) := by omega
  have y0 : ∀ v, Chg No w2 v → v.cell? ⟨bT, offT + k * 8 + 5, none⟩ = some (.int .i64 t.1.f) ∧ v.cell? ⟨bT, offT + k * 8 + 5 + 1, none⟩ = some (.int .i64 t.1.xt.n) ∧ v.cell? ⟨bT, offT + k * 8 + 5 + 2, none⟩ = some (.int .i64 (encB t.1.o).length) := fun v hv => by
    obtain ⟨-, -, -, -, -, -, -, u5, u6, u7⟩ := hcT v (H2.out.2.2.trans hv)
    exact ⟨u5, u6, u7⟩
  have HCT := Lib.hid hcT
  clear hcT et1 et2
  go_cut [11, 12, 13] from 15 to 67 (fun s9 s10 s11 wq => PutAt w2 p0 p1 p2 pe s9 s10 s11 wq)
  case first =>
    go_region_held3 (fun w' => Chg No w2 w') (repeat (with_reducible first | assumption | exact Chg.refl _ _ | refine Chg.drew ?_ | refine Chg.alloc ?_ _ | refine Chg.setCell ?_ (.inr (by dsimp only; omega)) _))
      (first
        | (go_at_call 30
           refine (Calls.heldC (F := No) (W := w2) (by assumption) (Rows06_any _ T S _ (HV.out.keep (H2.out.2.2.trans (by assumption)) (fun _ _ f => f)) (by rw [HN.out]; exact hm) (fun t ht => HP.out.2.1.ok _ (List.mem_map.2 ⟨t, ht, rfl⟩)) N made)).mono ?_
           rintro e w3 ⟨⟨v3, rfl, Q, hQ, hR, c3⟩, hh⟩
           obtain ⟨A3, c3', rfl, -⟩ := hR.form
           have hC3 : Chg No w2 w3 := hh.trans c3
           have hs3 := hC3.size
           have H3 := Lib.hid (And.intro hQ (And.intro hR hC3))
           first
             | (have rz3 : Row w3 w2.heap.size 47 #[.int .i64 0, .int .i64 0, .int .i64 0] := Row.keep (Row.new w2.drew _ _) c3 (fun f => f)
                have HZ := Lib.hid rz3
                clear rz3)
             | (have rz3 : Row w3 w2.heap.size 47 #[.int .i64 0, .int .i64 0, .int .i64 0] := Row.keep (w := (w2.alloc (.cells #[.int .i64 0, .int .i64 0, .int .i64 0] 47)).drew) (Row.new w2 _ _) c3 (fun f => f)
                have HZ := Lib.hid rz3
                clear rz3)
             | skip
           clear hQ hR c3)
        | (go_at_call 37
           have hmk : (T.map (·.1))[k]? = some t.1 := by rw [List.getElem?_map, HT.out]; rfl
           obtain ⟨q, hq0, hq1, hq4⟩ := set4_of H3.out.1 HP.out.2.1 hmk
           have hset := fun W (hW : Chg No w3 W) (hW2 : Chg No w2 W) => Set04_any _ _ Q (encB o) _ _ W (H3.out.2.1.keep (F := No) hW (fun _ _ f => f)) N hN (H2.out.1.keep (F := No) hW2 (fun _ _ f => f)) hel hq4
           rw [hq1, ← map_erase, H3.out.1, HP.out.1] at hset
           refine (Calls.heldC (F := No) (W := w2) (by assumption) (hset _ (by repeat (with_reducible first | exact Chg.refl _ _ | refine Chg.drew ?_ | refine Chg.alloc ?_ _)) (by assumption))).mono ?_
           rintro e w4 ⟨⟨v4, rfl, A4, n4, k4, rfl, c4⟩, hh⟩
           have hC4 : Chg No w2 w4 := hh.trans c4
           have hs4 := hC4.size
           first
             | (have rz4 : Row w4 w2.heap.size 47 #[.int .i64 0, .int .i64 0, .int .i64 0] := HZ.out.keep c4 (fun f => f)
                obtain ⟨f0, f1, f2, fz⟩ := rz4.three
                have HZ4 := Lib.hid rz4
                clear rz4)
             | (have rz4 : Row w4 w3.heap.size 47 #[.int .i64 0, .int .i64 0, .int .i64 0] := Row.keep (Row.new w3 _ _) c4 (fun f => f)
                obtain ⟨f0, f1, f2, fz⟩ := rz4.three
                have HZ4 := Lib.hid rz4
                clear rz4)
             | skip
           clear c4 hset hq0 hq1 hq4 hmk)
        | fail)
    all_goals
      go_wp2_with fail
      go_meet
      case rel =>
        refine ⟨A4, n4, k4, _, rfl, rfl, rfl, ?_, ?_, ?_⟩
        · first | exact Nat.le_refl _ | omega
        · first | exact HZ4.out.set3 _ _ _ | exact Row.new _ _ _
        · first | exact hC4.three (by omega) _ _ _ | exact (hC4.three (by omega) _ _ _).drew | exact hC4.alloc _ | exact (hC4.alloc _).drew
  obtain ⟨A4, n4, k4, xb, rfl, rfl, rfl, hxb, hrow, c4⟩ := hcut
  obtain ⟨rfl, rfl, rfl, rfl⟩ := HPP.out
  have hlx := hrow.lt
  obtain ⟨A5, k5, W5, hr5, ho5, cg5, -⟩ := Own8.apps (T := []) (T' := T) (Own8.nil wc wc.heap.size) (HV.out.keep (H2.out.2.2.trans c4) (fun _ _ f => f)).1 (R8.ones (HV.out.keep (H2.out.2.2.trans c4) (fun _ _ f => f))) (Nat.le_refl _) (by simp; rw [HN.out]; omega) 30
  rw [HN.out] at hr5 ho5
  rw [List.nil_append] at ho5
  simp only [List.length_nil, Nat.zero_add] at hr5 ho5
  have c5 : Chg No wc W5 := cg5.mono (fun k hk e => by simp [Value.ownBlock] at e)
  obtain ⟨g, rfl⟩ : ∃ g, A5 = some ⟨g, 0, none⟩ := by
    rcases ho5.2 with ⟨e, h0⟩ | ⟨g, cap, cur, e, -⟩
    · rw [HN.out] at h0; omega
    · exact ⟨g, (Value.slice.inj e).1⟩
  have hgw : wc.heap.size ≤ g := own_ge ho5 rfl
  have r0 : Row wc _ _ _ := ((HR.out.2.2.1.keep H2.out.2.1 (fun f => f)).keep c4 (fun f => f))
  have r1 : Row wc _ _ _ := ((HR.out.2.2.2.1.keep H2.out.2.1 (fun f => f)).keep c4 (fun f => f))
  have r2 : Row wc _ _ _ := ((HR.out.2.2.2.2.keep H2.out.2.1 (fun f => f)).keep c4 (fun f => f))
  have H5 := Lib.hid (And.intro ho5 (And.intro c5 (And.intro r0 (And.intro r1 (And.intro r2 (And.intro hrow c4))))))
  have HR5 := Lib.hid hr5
  have e1 : ∀ v, Chg No wc v → v.cell? ⟨w.heap.size + 1, 0, none⟩ = some (.int .i64 o.cls) ∧ v.cell? ⟨w.heap.size + 1, 1, none⟩ = some (.int .i64 o.kind) ∧ v.cell? ⟨w.heap.size + 1, 2, none⟩ = some (.slice Aw o.W.length cw0) ∧ v.cell? ⟨w.heap.size + 1, 3, none⟩ = some (.slice Ab o.B.length cb0) := fun v hv => by
    obtain ⟨u0, u1, u2, u3, -⟩ := (H5.out.2.2.2.1.keep hv (fun f => f)).four
    exact ⟨u0, u1, u2, u3⟩
  have e2 : ∀ v, Chg No wc v → v.cell? ⟨xb, 0, none⟩ = some (.int .i64 f) ∧ v.cell? ⟨xb, 1, none⟩ = some (.int .i64 (secN (encB o).length)) ∧ v.cell? ⟨xb, 2, none⟩ = some (.int .i64 (encB o).length) := fun v hv => by
    obtain ⟨u0, u1, u2, -⟩ := (H5.out.2.2.2.2.2.1.keep hv (fun f => f)).three
    exact ⟨u0, u1, u2⟩
  have q0 := r0.cell 0
  have hsw : w.heap.size + 1 + 1 < wc.heap.size := r2.lt
  have s5 := c5.size
  simp at q0
  have hgl : g < W5.heap.size := by
    obtain ⟨cs, hrw⟩ := own_block ho5 (b := g) rfl
    exact hrw.lt
  clear hr5 ho5 cg5 c5 r0 r1 r2 hrow c4 a0 a1 a2 y0
  go_wp2_with (first
    | (at_builtin; refine wpList_append_run rfl _ _ _ rfl rfl rfl HR5.out ?_)
    | fail)
  have hC0 : Chg No wc W5 := H5.out.2.1
  go_region_held3 (fun w' => Chg No wc w') (repeat (with_reducible first | assumption | exact Chg.refl _ _ | refine Chg.drew ?_ | refine Chg.alloc ?_ _ | refine Chg.setCell ?_ (.inr (by dsimp only; omega)) _))
    (first
      | (go_at_call 31
         have c5d : Chg No W5 W5.drew := (Chg.refl _ _).drew
         have hok := okB_cases hk
         refine (Copy05_any _ o _ _ ((HO.out.keep (H2.out.2.2.trans (H5.out.2.2.2.2.2.2.trans H5.out.2.1)) (fun _ _ f => f)).keep c5d (fun _ _ f => f)) (by omega) (by omega)).mono ?_
         rintro e w6 ⟨v6, rfl, wv6, bv6, rfl, c6, hI6, hB6⟩
         obtain ⟨A6, d6, rfl⟩ := own_form hI6
         obtain ⟨A7, d7, rfl⟩ := own_form hB6
         simp only [cells2]
         have c56 : Chg No W5 w6 := c5d.trans c6
         have hC6 : Chg No wc w6 := H5.out.2.1.trans c56
         have hs6 := c56.size
         have hok6 := okT.copied hI6 hB6 HO.out
         have ho6 : Own8 w6 wc.heap.size (.slice (some ⟨g, 0, none⟩) n k5) T := own_keep (F := No) H5.out.1 c56 (fun _ _ f => f)
         have ho6n : w6.ownsRow wc.heap.size 49 8 (.slice (some ⟨g, 0, none⟩) n k5) n (cellsS T) := by
           have h6 := ho6
           unfold Own8 at h6
           rw [HN.out] at h6
           exact h6
         have hc6 := fun j (hj : j < 8) => (ho6n.cellAt (8 * k + j) (by omega)).trans (cellsS_at T k t HT.out j hj)
         have m0 : w6.cell? ⟨g, k * 8, none⟩ = some (.int .i64 t.1.id) := by rw [Nat.mul_comm]; exact hc6 0 (by omega)
         have m1 : w6.cell? ⟨g, k * 8 + 1, none⟩ = some (.int .i64 t.1.o.cls) := by rw [Nat.mul_comm]; exact hc6 1 (by omega)
         have m2 : w6.cell? ⟨g, k * 8 + 2, none⟩ = some (.int .i64 t.1.o.kind) := by rw [Nat.mul_comm]; exact hc6 2 (by omega)
         have m3 : w6.cell? ⟨g, k * 8 + 3, none⟩ = some t.2.1 := by rw [Nat.mul_comm]; exact hc6 3 (by omega)
         have m4 : w6.cell? ⟨g, k * 8 + 4, none⟩ = some t.2.2 := by rw [Nat.mul_comm]; exact hc6 4 (by omega)
         have m5 : w6.cell? ⟨g, k * 8 + 5, none⟩ = some (.int .i64 t.1.f) := by rw [Nat.mul_comm]; exact hc6 5 (by omega)
         have m6 : w6.cell? ⟨g, k * 8 + 6, none⟩ = some (.int .i64 t.1.xt.n) := by rw [Nat.mul_comm]; exact hc6 6 (by omega)
         have m7 : w6.cell? ⟨g, k * 8 + 7, none⟩ = some (.int .i64 (encB t.1.o).length) := by rw [Nat.mul_comm]; exact hc6 7 (by omega)
         have mf : ∀ j, w6.frozen? ⟨g, j, none⟩ = false := fun j => ho6n.frozenAt j
         obtain ⟨W8, hW8⟩ : ∃ W, (((((((w6.setCell ⟨g, k * 8, none⟩ (.int .i64 id)).setCell ⟨g, k * 8 + 1, none⟩ (.int .i64 o.cls)).setCell ⟨g, k * 8 + 2, none⟩ (.int .i64 o.kind)).setCell ⟨g, k * 8 + 3, none⟩ (.slice A6 o.W.length d6)).setCell ⟨g, k * 8 + 4, none⟩ (.slice A7 o.B.length d7)).setCell ⟨g, k * 8 + 5, none⟩ (.int .i64 f)).setCell ⟨g, k * 8 + 6, none⟩ (.int .i64 (secN (encB o).length))).setCell ⟨g, k * 8 + 7, none⟩ (.int .i64 (encB o).length) = W := ⟨_, rfl⟩
         obtain ⟨ho8, c8⟩ := ho6.set (k := k) (by rw [HN.out]; exact hkn) (⟨id, o, f⟩, .slice A6 o.W.length d6, .slice A7 o.B.length d7) hW8.symm
         have H8 := Lib.hid (And.intro ho8 (And.intro c8 (And.intro hok6 (And.intro (hC6.then c8 (fun b hb e => by have e' : b = g := e; omega)) c56))))
         have HW8 := Lib.hid hW8
         clear c5d c6 c56 hI6 hB6 hok6 ho6 ho6n hc6 ho8 c8 hW8 hok)
      | fail)
  rw [HW8.out]
  have hC8 := H8.out.2.2.2.1
  have cw8 : Chg No w W8 := H2.out.2.2.trans (H5.out.2.2.2.2.2.2.trans hC8)
  have r0 := H5.out.2.2.1.keep hC8 (fun f => f)
  have r2 := H5.out.2.2.2.2.1.keep hC8 (fun f => f)
  obtain ⟨a0, a1, a2, -⟩ := r0.three
  obtain ⟨d0, d1, d2, df⟩ := r2.three
  have hok8 : ∀ u ∈ T.set k ((⟨id, o, f⟩ : Rw), Value.slice A6 o.W.length d6, Value.slice A7 o.B.length d7), ok8 W8 (fun b => (S b ∧ b < w.heap.size) ∨ wc.heap.size ≤ b) u := by
    intro u hu
    rcases List.mem_or_eq_of_mem_set hu with h1 | rfl
    · exact (((HV.out.2 u h1).more (S' := fun b => S b ∧ b < w.heap.size) (fun b hb hS => ⟨hS, hb⟩)).keep cw8 (fun _ _ f => f)).more (fun b _ hb => .inl hb)
    · refine ⟨by rw [← HID.out]; exact (HCT.out w (Chg.refl _ _)).2.1, (H8.out.2.2.1.keep H8.out.2.1 (fun b hb hv => ?_)).more (fun b _ hb => .inr (by have h2 : W5.heap.size ≤ b := hb; omega))⟩
      have h2 : W5.heap.size ≤ b := hb
      have h3 : b = g := hv
      omega
  have H9 := Lib.hid (And.intro r2 (And.intro (H8.out.1.rows hok8) cw8))
  clear r0 r2 e1 e2 hok8 m0 m1 m2 m3 m4 m5 m6 m7 mf
  go_wp2_with fail
  have r3 := H9.out.1.set3 (.slice (some ⟨g, 0, none⟩) n k5) (.int .i64 N) (.int .i64 made)
  obtain ⟨z0, z1, z2, -⟩ := r3.three
  have c9 : Chg (fun b => b = w.heap.size + 1 + 1) W8 (((W8.setCell ⟨w.heap.size + 1 + 1, 0, none⟩ (.slice (some ⟨g, 0, none⟩) n k5)).setCell ⟨w.heap.size + 1 + 1, 1, none⟩ (.int .i64 N)).setCell ⟨w.heap.size + 1 + 1, 2, none⟩ (.int .i64 made)) := ((Chg.one _ _ _ _).trans (Chg.one _ _ _ _)).trans (Chg.one _ _ _ _)
  have hR9 := H9.out.2.1.keep c9 (fun b hb e => by
    have e' : b = w.heap.size + 1 + 1 := e
    rcases hb with (hb | hb) | hb
    · omega
    · omega
    · omega)
  refine bodyPost_ret (v := .tuple #[.agg #[.slice (some ⟨g, 0, none⟩) n k5, .int .i64 N, .int .i64 made], .int .i64 0]) (by simp [results, Tryz.results13, go_sem, z0, z1, z2]) rfl (Ret.mk ⟨_, rfl, _, _, rfl, ?_, hR9.more (fun b _ hb => by
    rcases hb with (hb | hb) | hb
    · exact .inl hb.1
    · exact .inr (by omega)
    · exact .inr (by omega)), (H9.out.2.2.three (by omega) _ _ _)⟩)
  rw [List.map_set]

end Go.Proofs.YtdpmmafkomchaaaGreat
