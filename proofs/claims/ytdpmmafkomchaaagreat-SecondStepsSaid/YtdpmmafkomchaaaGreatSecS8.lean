/- Objects on a disk, by the document: websterref06's Make. -/
import Derived.Test.YtdpmmafkomchaaaGreatSecS47
import Derived.Test.YtdpmmafkomchaaaGreatSecS26
import Derived.Deep.CutRange
namespace Go.Proofs.YtdpmmafkomchaaaGreat
set_option linter.unusedVariables false
set_option linter.unusedSimpArgs false
open Go.RowKit

/-- a space of the rows L -/
def Spd (w : World) (S : Nat → Prop) (N : Int) (L : List Rw) (made : Int) (x : Value) (w' : World) : Prop := ∃ v T, x = .agg #[v, .int .i64 N, .int .i64 made] ∧ T.map (·.1) = L ∧ R8 w' (fun b => S b ∨ w.heap.size ≤ b) v T ∧ Chg No w w'
theorem Spd.same {w w' : World} {S : Nat → Prop} {N made : Int} {v : Value} {T : List T8} (h : R8 w S v T) (c : Chg No w w') : Spd w S N (T.map (·.1)) made (.agg #[v, .int .i64 N, .int .i64 made]) w' := ⟨v, T, rfl, rfl, (h.keep c (fun _ _ f => f)).more (fun b _ hb => .inl hb), c⟩

/-- what Put tells, at once -/
def putR (X : List Xt) (N : Nat) (l : List Int) : Int × Int × Int × Int := match placeX X N (secN l.length) with | some f => (f, secN l.length, l.length, 0) | none => (0, 0, 0, 3)
theorem Put04_any (v bv : Value) (T : List T4) (l : List Int) (S S2 : Nat → Prop) (w : World) (h : Row4 w S v T) (hm : T.length ≤ 1048576) (N : Nat) (hN : N ≤ 20000) (hf : ∀ x ∈ T.map (·.1), x.f + x.n ≤ N) (hb : ByteS w S2 bv l) (hl : l.length ≤ 1000000) :
    Calls Tryz.prog 29 #[v, .int .i64 N, bv] w (Ret fun u w' => ∃ A n c, u = .tuple #[.slice A n c, .agg #[.int .i64 (putR (T.map (·.1)) N l).1, .int .i64 (putR (T.map (·.1)) N l).2.1, .int .i64 (putR (T.map (·.1)) N l).2.2.1], .int .i64 (putR (T.map (·.1)) N l).2.2.2] ∧ Chg No w w') := by
  unfold putR
  cases hp : placeX (T.map (·.1)) N (secN l.length) with
  | none =>
    obtain ⟨A, c, e, -⟩ := h.form
    refine (Put04_none v bv T l S S2 w h hm N hN hf hb hl hp).mono ?_
    rintro e' w' ⟨u, rfl, rfl, c'⟩
    exact ⟨_, rfl, A, T.length, c, by rw [e], c'⟩
  | some f => exact Put04_some v bv T l S S2 w h hm N hN hf hb hl hp
/-- what stands behind Put: the rows, the extent's cell, the error -/
def PutAt (w2 : World) (p0 p1 p2 pe : Int) (s9 s10 s11 : Value) (wq : World) : Prop := ∃ A n c b, s9 = .slice A n c ∧ s10 = .pointer (some ⟨b, 0, none⟩) ∧ s11 = .int .i64 pe ∧ w2.heap.size ≤ b ∧ Row wq b 47 #[.int .i64 p0, .int .i64 p1, .int .i64 p2] ∧ Chg No w2 wq
/-- rows of the document's space, of the call's own -/
def Own8 (w : World) (base : Nat) (v : Value) (T : List T8) : Prop := w.ownsRow base 49 8 v T.length (cellsS T)
theorem Own8.nil (w : World) (base : Nat) : Own8 w base (.slice none 0 0) [] := World.ownsRow_nil _ _ _ _
theorem elem_row8 : ElemInfo Tryz.prog 30 49 8 96 := .of Tryz.underlying30 (show (Tryz.prog.info? 49).map (fun i => (i.zero, i.size, i.bytes)) = some (some (.agg #[.int .i64 0, .int .i64 0, .int .i64 0, .slice none 0 0, .slice none 0 0, .int .i64 0, .int .i64 0, .int .i64 0]), 8, 96) by kernel_rfl) rfl
theorem R8.ones {w : World} {S : Nat → Prop} {v : Value} {T : List T8} (h : R8 w S v T) : ∀ x ∈ cellsS T, x.oneCell' = true := by
  intro x hx
  unfold cellsS at hx
  obtain ⟨t, ht, hx⟩ := List.mem_flatMap.1 hx
  obtain ⟨A1, c1, e1, -⟩ := (h.2 t ht).2.1.form
  obtain ⟨A2, c2, e2, -⟩ := (h.2 t ht).2.2.1.form
  dsimp only at e1 e2
  simp [cells8] at hx
  rcases hx with rfl | rfl | rfl | rfl | rfl | rfl | rfl | rfl
  · rfl
  · rfl
  · rfl
  · rw [e1]; rfl
  · rw [e2]; rfl
  · rfl
  · rfl
  · rfl
/-- append rows, given as cells -/
theorem Own8.apps {w : World} {base : Nat} {v u : Value} {T T' : List T8} {S : Nat → Prop} (h : Own8 w base v T) (h' : Slc w S 8 u T'.length (cellsS T')) (h1 : ∀ x ∈ cellsS T', x.oneCell' = true) (hB : base ≤ w.heap.size) (hl : T.length + T'.length < 1000000000) (ty : TypeId) :
    ∃ A c w', (Builtin.append_ #[30, 30] ty #[v, u]).run Tryz.prog w = .ok (.slice A (T.length + T'.length) c) w' ∧ Own8 w' base (.slice A (T.length + T'.length) c) (T ++ T') ∧ Chg (fun k => v.ownBlock = some k) w w' ∧ (∀ k, (Value.slice A (T.length + T'.length) c).ownBlock = some k → v.ownBlock = some k ∨ w.heap.size ≤ k) := by
  obtain ⟨v', w4, hr, ho, hg, hn⟩ := run_app2 elem_row8 (by decide) h h' h1 (by unfold maxLen; omega) (by omega) hB ty
  obtain ⟨A, c, rfl⟩ := own_form ho
  refine ⟨A, c, w4, hr, ?_, (Chg.refl _ _).grown hg (fun k hk => .inl hk), hn⟩
  show World.ownsRow _ _ _ _ _ (T ++ T').length (cellsS (T ++ T'))
  rw [cellsS_app, List.length_append]
  exact ho
/-- rows of the call's own, as rows -/
theorem Own8.rows {w : World} {base : Nat} {v : Value} {T : List T8} {S : Nat → Prop} (h : Own8 w base v T) (hok : ∀ t ∈ T, ok8 w S t) : R8 w (fun b => S b ∨ base ≤ b) v T :=
  ⟨(Slc.of_own h).more (fun b _ hb => .inr (own_ge h hb)), fun t ht => (hok t ht).more (fun b _ hb => .inl hb)⟩

set_option maxRecDepth 100000 in
set_option maxHeartbeats 800000 in
theorem Make06_bad (v ov : Value) (T : List T8) (S So : Nat → Prop) (w : World) (h : R8 w S v T) (hm : T.length ≤ 1048576) (N made : Int) (o : O) (ho : ObjR w So ov o) (hk : okB o = false) :
    Calls Tryz.prog 8 #[.agg #[v, .int .i64 N, .int .i64 made], ov] w (Ret fun u w' => ∃ x, u = .tuple #[x, .int .i64 0, .int .i64 2] ∧ Spd w S N (T.map (·.1)) made x w') := by
  obtain ⟨wv, bv, rfl, hI, hB, k1, k2⟩ := ho
  obtain ⟨Aw, cw0, rfl, -⟩ := hI.form
  obtain ⟨Ab, cb0, rfl, -⟩ := hB.form
  obtain ⟨A, c, rfl, -⟩ := h.form
  simp only [cells2]
  have HO := Lib.hid (show ObjR w (fun b => b < w.heap.size) (.agg #[.int .i64 o.cls, .int .i64 o.kind, .slice Aw o.W.length cw0, .slice Ab o.B.length cb0]) o from ⟨_, _, rfl, hI.more (fun b hb _ => hb), hB.more (fun b hb _ => hb), k1, k2⟩)
  have HV := Lib.hid h
  obtain ⟨W, hW⟩ : ∃ W, ((w.alloc (.cells #[.slice A T.length c, .int .i64 N, .int .i64 made] 32)).alloc (.cells #[.int .i64 o.cls, .int .i64 o.kind, .slice Aw o.W.length cw0, .slice Ab o.B.length cb0] 35)).alloc (.cells #[.slice none 0 0, .int .i64 0, .int .i64 0] 32) = W := ⟨_, rfl⟩
  have cW : Chg No w W := by rw [← hW]; exact (((Chg.refl _ _).alloc _).alloc _).alloc _
  have sW : W.heap.size = w.heap.size + 1 + 1 + 1 := by rw [← hW]; simp
  have r0 : Row W w.heap.size 32 #[.slice A T.length c, .int .i64 N, .int .i64 made] := by rw [← hW]; exact ((Row.new w _ _).alloc _).alloc _
  have r1 : Row W (w.heap.size + 1) 35 #[.int .i64 o.cls, .int .i64 o.kind, .slice Aw o.W.length cw0, .slice Ab o.B.length cb0] := by rw [← hW]; exact Row.alloc (by simpa using Row.new (w.alloc _) _ _) _
  have r2 : Row W (w.heap.size + 1 + 1) 32 #[.slice none 0 0, .int .i64 0, .int .i64 0] := by rw [← hW]; simpa using Row.new ((w.alloc (.cells #[.slice A T.length c, .int .i64 N, .int .i64 made] 32)).alloc (.cells #[.int .i64 o.cls, .int .i64 o.kind, .slice Aw o.W.length cw0, .slice Ab o.B.length cb0] 35)) 32 #[.slice none 0 0, .int .i64 0, .int .i64 0]
  have HR := Lib.hid (And.intro cW (And.intro sW (And.intro r0 (And.intro r1 r2))))
  have HW := Lib.hid hW
  obtain ⟨i0, i1, i2, i3, -⟩ := r1.four
  obtain ⟨j0, j1, j2, -⟩ := r0.three
  clear hI hB k1 k2 h hW r0 r1 r2 cW sW
  generalize hn : T.length = n at *
  have HN := Lib.hid hn
  clear hn
  go_enter Tryz.func8, Tryz.ntmps8
  go_wp2_with (first
    | (rw [HW.out])
    | (go_at_call 28
       refine (Encode05_bad _ o _ _ (HO.out.keep HR.out.1 (fun _ _ f => f)) hk).mono ?_
       rintro e w2 ⟨rfl, c2⟩
       have q0 := HR.out.2.2.1.keep c2 (fun f => f)
       have q1 := HR.out.2.2.2.1.keep c2 (fun f => f)
       have q2 := HR.out.2.2.2.2.keep c2 (fun f => f)
       obtain ⟨a0, a1, a2, af⟩ := q0.three
       obtain ⟨b0, b1, b2, b3, bf⟩ := q1.four
       obtain ⟨d0, d1, d2, df⟩ := q2.three
       clear q0 q1 q2
       have H2 := Lib.hid c2
       clear c2)
    | fail)
  obtain ⟨z0, z1, z2, -⟩ := ((HR.out.2.2.2.2.keep H2.out (fun f => f)).set3 (.slice A n c) (.int .i64 N) (.int .i64 made)).three
  exact bodyPost_ret (v := .tuple #[.agg #[.slice A n c, .int .i64 N, .int .i64 made], .int .i64 0, .int .i64 2]) (by simp [results, Tryz.results8, go_sem, z0, z1, z2]) rfl (Ret.mk ⟨_, rfl, Spd.same HV.out ((HR.out.1.trans H2.out).three (by omega) _ _ _)⟩)

set_option maxRecDepth 100000 in
set_option maxHeartbeats 1600000 in
theorem Make06_full (v ov : Value) (T : List T8) (S So : Nat → Prop) (w : World) (h : R8 w S v T) (hm : T.length ≤ 1048576) (N made : Nat) (o : O) (ho : ObjR w So ov o) (hk : okB o = true) (G : Good N (T.map (·.1)) made) (hN : N ≤ 20000) (hF : mkF N (T.map (·.1)) made o = none) :
    Calls Tryz.prog 8 #[.agg #[v, .int .i64 N, .int .i64 made], ov] w (Ret fun u w' => ∃ x, u = .tuple #[x, .int .i64 0, .int .i64 3] ∧ Spd w S N (T.map (·.1)) made x w') := by
  obtain ⟨wv, bv, rfl, hI, hB, k1, k2⟩ := ho
  obtain ⟨Aw, cw0, rfl, -⟩ := hI.form
  obtain ⟨Ab, cb0, rfl, -⟩ := hB.form
  obtain ⟨A, c, rfl, -⟩ := h.form
  simp only [cells2]
  have HO := Lib.hid (show ObjR w (fun b => b < w.heap.size) (.agg #[.int .i64 o.cls, .int .i64 o.kind, .slice Aw o.W.length cw0, .slice Ab o.B.length cb0]) o from ⟨_, _, rfl, hI.more (fun b hb _ => hb), hB.more (fun b hb _ => hb), k1, k2⟩)
  have HV := Lib.hid h
  obtain ⟨W, hW⟩ : ∃ W, ((w.alloc (.cells #[.slice A T.length c, .int .i64 N, .int .i64 made] 32)).alloc (.cells #[.int .i64 o.cls, .int .i64 o.kind, .slice Aw o.W.length cw0, .slice Ab o.B.length cb0] 35)).alloc (.cells #[.slice none 0 0, .int .i64 0, .int .i64 0] 32) = W := ⟨_, rfl⟩
  have cW : Chg No w W := by rw [← hW]; exact (((Chg.refl _ _).alloc _).alloc _).alloc _
  have sW : W.heap.size = w.heap.size + 1 + 1 + 1 := by rw [← hW]; simp
  have r0 : Row W w.heap.size 32 #[.slice A T.length c, .int .i64 N, .int .i64 made] := by rw [← hW]; exact ((Row.new w _ _).alloc _).alloc _
  have r1 : Row W (w.heap.size + 1) 35 #[.int .i64 o.cls, .int .i64 o.kind, .slice Aw o.W.length cw0, .slice Ab o.B.length cb0] := by rw [← hW]; exact Row.alloc (by simpa using Row.new (w.alloc _) _ _) _
  have r2 : Row W (w.heap.size + 1 + 1) 32 #[.slice none 0 0, .int .i64 0, .int .i64 0] := by rw [← hW]; simpa using Row.new ((w.alloc (.cells #[.slice A T.length c, .int .i64 N, .int .i64 made] 32)).alloc (.cells #[.int .i64 o.cls, .int .i64 o.kind, .slice Aw o.W.length cw0, .slice Ab o.B.length cb0] 35)) 32 #[.slice none 0 0, .int .i64 0, .int .i64 0]
  have HR := Lib.hid (And.intro cW (And.intro sW (And.intro r0 (And.intro r1 r2))))
  have HW := Lib.hid hW
  obtain ⟨i0, i1, i2, i3, -⟩ := r1.four
  obtain ⟨j0, j1, j2, -⟩ := r0.three
  clear hI hB k1 k2 h hW r0 r1 r2 cW sW
  generalize hn : T.length = n at *
  have HN := Lib.hid hn
  clear hn
  have hel : (encB o).length ≤ 1000000 := by have h1 := okB_cases hk; have h2 := encB_len o; omega
  obtain ⟨p0, p1, p2, pe, hP⟩ : ∃ p0 p1 p2 pe, putR ((T.map (·.1)).map Rw.xt) N (encB o) = (p0, p1, p2, pe) := ⟨_, _, _, _, rfl⟩
  have hpe : pe ≠ 0 ∨ 1048576 ≤ made := by
    unfold mkF at hF
    by_cases hmax : made = 1048576
    · exact .inr (by omega)
    · rw [if_pos ⟨hk, hmax⟩] at hF
      unfold putR at hP
      rw [hF] at hP
      simp at hP
      omega
  have HP := Lib.hid (And.intro hP (And.intro G hk))
  clear hP G
  go_enter Tryz.func8, Tryz.ntmps8
  go_wp2_with (first
                | (rw [HW.out])
                | (go_at_call 28
                   refine (Encode05_ok _ o _ _ (HO.out.keep HR.out.1 (fun _ _ f => f)) hk).mono ?_
                   rintro e w2 ⟨v2, rfl, u2, rfl, ho2, c2⟩
                   obtain ⟨A2, k2, rfl⟩ := ho2.form
                   clear i0 i1 i2 i3 j0 j1 j2
                   have cw2 := HR.out.1.trans c2
                   have hbB : ∀ x ∈ o.B, 0 ≤ x ∧ x ≤ 255 := by
                     obtain ⟨wv, bv, -, -, hB, -⟩ := HO.out
                     exact hB.2
                   have H2 := Lib.hid (And.intro (ho2.bytes (encB_bd hbB)) (And.intro c2 cw2))
                   have sw2 := c2.size
                   clear ho2 c2 cw2 hbB)
                | fail)
  have a0 : ∀ v, Chg No w2 v → v.cell? ⟨w.heap.size, 0, none⟩ = some (.slice A n c) := fun v hv => ((HR.out.2.2.1.keep H2.out.2.1 (fun f => f)).keep hv (fun f => f)).cell 0
  have a1 : ∀ v, Chg No w2 v → v.cell? ⟨w.heap.size, 1, none⟩ = some (.int .i64 N) := fun v hv => ((HR.out.2.2.1.keep H2.out.2.1 (fun f => f)).keep hv (fun f => f)).cell 1
  have a2 : ∀ v, Chg No w2 v → v.cell? ⟨w.heap.size, 2, none⟩ = some (.int .i64 made) := fun v hv => ((HR.out.2.2.1.keep H2.out.2.1 (fun f => f)).keep hv (fun f => f)).cell 2
  go_cut [9, 10, 11] from 13 to 63 (fun s9 s10 s11 wq => PutAt w2 p0 p1 p2 pe s9 s10 s11 wq)
  case first =>
    go_region_held3 (fun w' => Chg No w2 w') (repeat (with_reducible first | assumption | exact Chg.refl _ _ | refine Chg.drew ?_ | refine Chg.alloc ?_ _ | refine Chg.setCell ?_ (.inr (by dsimp only; omega)) _))
      (first
        | (go_at_call 30
           refine (Calls.heldC (F := No) (W := w2) (by assumption) (Rows06_any _ T S _ (HV.out.keep (H2.out.2.2.trans (by assumption)) (fun _ _ f => f)) (by rw [HN.out]; exact hm) (fun t ht => HP.out.2.1.ok _ (List.mem_map.2 ⟨t, ht, rfl⟩)) N made)).mono ?_
           rintro e w3 ⟨⟨v3, rfl, Q, hQ, hR, c3⟩, hh⟩
           obtain ⟨A3, c3', rfl, -⟩ := hR.form
           have hC3 : Chg No w2 w3 := hh.trans c3
           have hs3 := hC3.size
           have H3 := Lib.hid (And.intro hQ (And.intro hR hC3))
           first
             | (have rz3 : Row w3 w2.heap.size 47 #[.int .i64 0, .int .i64 0, .int .i64 0] := Row.keep (Row.new w2.drew _ _) c3 (fun f => f)
                have HZ := Lib.hid rz3
                clear rz3)
             | (have rz3 : Row w3 w2.heap.size 47 #[.int .i64 0, .int .i64 0, .int .i64 0] := Row.keep (w := (w2.alloc (.cells #[.int .i64 0, .int .i64 0, .int .i64 0] 47)).drew) (Row.new w2 _ _) c3 (fun f => f)
                have HZ := Lib.hid rz3
                clear rz3)
             | skip
           clear hQ hR c3)
        | (go_at_call 29
           refine (Calls.heldC (F := No) (W := w2) (by assumption) (Put04_any _ _ Q (encB o) _ _ _ (H3.out.2.1.keep (F := No) (show Chg No w3 _ from by repeat (with_reducible first | exact Chg.refl _ _ | refine Chg.drew ?_ | refine Chg.alloc ?_ _)) (fun _ _ f => f)) (by have := congrArg List.length H3.out.1; rw [List.length_map, List.length_map, List.length_map, HN.out] at this; omega) N hN (by rw [H3.out.1]; exact HP.out.2.1.fits) (H2.out.1.keep (F := No) (by assumption) (fun _ _ f => f)) hel)).mono ?_
           rw [H3.out.1, HP.out.1]
           rintro e w4 ⟨⟨v4, rfl, A4, n4, k4, rfl, c4⟩, hh⟩
           have hC4 : Chg No w2 w4 := hh.trans c4
           have hs4 := hC4.size
           first
             | (have rz4 : Row w4 w2.heap.size 47 #[.int .i64 0, .int .i64 0, .int .i64 0] := HZ.out.keep c4 (fun f => f)
                obtain ⟨f0, f1, f2, fz⟩ := rz4.three
                have HZ4 := Lib.hid rz4
                clear rz4)
             | (have rz4 : Row w4 w3.heap.size 47 #[.int .i64 0, .int .i64 0, .int .i64 0] := Row.keep (Row.new w3 _ _) c4 (fun f => f)
                obtain ⟨f0, f1, f2, fz⟩ := rz4.three
                have HZ4 := Lib.hid rz4
                clear rz4)
             | skip
           clear c4)
        | fail)
    all_goals
      go_wp2_with fail
      go_meet
      case rel =>
        refine ⟨A4, n4, k4, _, rfl, rfl, rfl, ?_, ?_, ?_⟩
        · first | exact Nat.le_refl _ | omega
        · first | exact HZ4.out.set3 _ _ _ | exact Row.new _ _ _
        · first | exact hC4.three (by omega) _ _ _ | exact (hC4.three (by omega) _ _ _).drew | exact hC4.alloc _ | exact (hC4.alloc _).drew
  obtain ⟨A4, n4, k4, xb, rfl, rfl, rfl, hxb, hrow, c4⟩ := hcut
  have H4 := Lib.hid (And.intro hrow c4)
  have q0 := a0 wc c4
  have q1 := a1 wc c4
  have q2 := a2 wc c4
  have r2 := (HR.out.2.2.2.2.keep H2.out.2.1 (fun f => f)).keep c4 (fun f => f)
  obtain ⟨d0, d1, d2, df⟩ := r2.three
  have H5 := Lib.hid r2
  clear hrow c4 r2 a0 a1 a2
  have hb : (pe != 0) = true ∨ ((pe != 0) = false ∧ decide ((1048576 : Int) ≤ (made : Int)) = true) := by
    by_cases h : pe = 0
    · refine .inr ⟨by rw [h]; rfl, decide_eq_true (by have := hpe.resolve_left (fun hn => hn h); omega)⟩
    · exact .inl (by simpa using h)
  clear hpe
  rcases hb with n1 | ⟨n1, n2⟩
  · go_wp2_with fail
    obtain ⟨z0, z1, z2, -⟩ := (H5.out.set3 (.slice A n c) (.int .i64 N) (.int .i64 made)).three
    exact bodyPost_ret (v := .tuple #[.agg #[.slice A n c, .int .i64 N, .int .i64 made], .int .i64 0, .int .i64 3]) (by simp [results, Tryz.results8, go_sem, z0, z1, z2]) rfl (Ret.mk ⟨_, rfl, Spd.same HV.out ((H2.out.2.2.trans H4.out.2).three (by omega) _ _ _)⟩)
  · go_wp2_with fail
    obtain ⟨z0, z1, z2, -⟩ := (H5.out.set3 (.slice A n c) (.int .i64 N) (.int .i64 made)).three
    exact bodyPost_ret (v := .tuple #[.agg #[.slice A n c, .int .i64 N, .int .i64 made], .int .i64 0, .int .i64 3]) (by simp [results, Tryz.results8, go_sem, z0, z1, z2]) rfl (Ret.mk ⟨_, rfl, Spd.same HV.out ((H2.out.2.2.trans H4.out.2).three (by omega) _ _ _)⟩)

theorem okT.copied {w w' : World} {o : O} {wv bv : Value} (hI : w'.ownsRow w.heap.size 3 1 wv o.W.length (o.W.map (.int .i64))) (hB : w'.ownsRow w.heap.size 5 1 bv o.B.length (o.B.map (.int .u8))) {w0 : World} {S : Nat → Prop} {v : Value} (h : ObjR w0 S v o) : okT w' (fun b => w.heap.size ≤ b) (o, wv, bv) := by
  obtain ⟨wv0, bv0, -, h1, h2, h3, h4⟩ := h
  exact ⟨IntS.of_own hI h1.2, ByteS.of_own hB h2.2, h3, h4⟩
set_option maxRecDepth 100000 in
set_option maxHeartbeats 1600000 in
theorem Make06_some (v ov : Value) (T : List T8) (S So : Nat → Prop) (w : World) (h : R8 w S v T) (hm : T.length ≤ 1048576) (N made : Nat) (o : O) (ho : ObjR w So ov o) (hk : okB o = true) (G : Good N (T.map (·.1)) made) (hN : N ≤ 20000) {f : Nat} (hF : mkF N (T.map (·.1)) made o = some f) :
    Calls Tryz.prog 8 #[.agg #[v, .int .i64 N, .int .i64 made], ov] w (Ret fun u w' => ∃ x, u = .tuple #[x, .int .i64 ((made + 1 : Nat) : Int), .int .i64 0] ∧ Spd w S N (T.map (·.1) ++ [⟨((made + 1 : Nat) : Int), o, f⟩]) ((made + 1 : Nat) : Int) x w') := by
  obtain ⟨wv, bv, rfl, hI, hB, k1, k2⟩ := ho
  obtain ⟨Aw, cw0, rfl, -⟩ := hI.form
  obtain ⟨Ab, cb0, rfl, -⟩ := hB.form
  obtain ⟨A, c, rfl, -⟩ := h.form
  simp only [cells2]
  have HO := Lib.hid (show ObjR w (fun b => b < w.heap.size) (.agg #[.int .i64 o.cls, .int .i64 o.kind, .slice Aw o.W.length cw0, .slice Ab o.B.length cb0]) o from ⟨_, _, rfl, hI.more (fun b hb _ => hb), hB.more (fun b hb _ => hb), k1, k2⟩)
  have HV := Lib.hid h
  obtain ⟨W, hW⟩ : ∃ W, ((w.alloc (.cells #[.slice A T.length c, .int .i64 N, .int .i64 made] 32)).alloc (.cells #[.int .i64 o.cls, .int .i64 o.kind, .slice Aw o.W.length cw0, .slice Ab o.B.length cb0] 35)).alloc (.cells #[.slice none 0 0, .int .i64 0, .int .i64 0] 32) = W := ⟨_, rfl⟩
  have cW : Chg No w W := by rw [← hW]; exact (((Chg.refl _ _).alloc _).alloc _).alloc _
  have sW : W.heap.size = w.heap.size + 1 + 1 + 1 := by rw [← hW]; simp
  have r0 : Row W w.heap.size 32 #[.slice A T.length c, .int .i64 N, .int .i64 made] := by rw [← hW]; exact ((Row.new w _ _).alloc _).alloc _
  have r1 : Row W (w.heap.size + 1) 35 #[.int .i64 o.cls, .int .i64 o.kind, .slice Aw o.W.length cw0, .slice Ab o.B.length cb0] := by rw [← hW]; exact Row.alloc (by simpa using Row.new (w.alloc _) _ _) _
  have r2 : Row W (w.heap.size + 1 + 1) 32 #[.slice none 0 0, .int .i64 0, .int .i64 0] := by rw [← hW]; simpa using Row.new ((w.alloc (.cells #[.slice A T.length c, .int .i64 N, .int .i64 made] 32)).alloc (.cells #[.int .i64 o.cls, .int .i64 o.kind, .slice Aw o.W.length cw0, .slice Ab o.B.length cb0] 35)) 32 #[.slice none 0 0, .int .i64 0, .int .i64 0]
  have HR := Lib.hid (And.intro cW (And.intro sW (And.intro r0 (And.intro r1 r2))))
  have HW := Lib.hid hW
  obtain ⟨i0, i1, i2, i3, -⟩ := r1.four
  obtain ⟨j0, j1, j2, -⟩ := r0.three
  clear hI hB k1 k2 h hW r0 r1 r2 cW sW
  generalize hn : T.length = n at *
  have HN := Lib.hid hn
  clear hn
  have hel : (encB o).length ≤ 1000000 := by have h1 := okB_cases hk; have h2 := encB_len o; omega
  have hmax : made < 1048576 := by
    have := G.max
    unfold mkF at hF
    split at hF
    · next h1 => have := h1.2; omega
    · cases hF
  obtain ⟨p0, p1, p2, pe, hP⟩ : ∃ p0 p1 p2 pe, putR ((T.map (·.1)).map Rw.xt) N (encB o) = (p0, p1, p2, pe) := ⟨_, _, _, _, rfl⟩
  have hpp : p0 = f ∧ p1 = secN (encB o).length ∧ p2 = (encB o).length ∧ pe = 0 := by
    unfold mkF at hF
    rw [if_pos ⟨hk, by omega⟩] at hF
    unfold putR at hP
    rw [hF] at hP
    simp at hP
    exact ⟨hP.1.symm, hP.2.1.symm, hP.2.2.1.symm, hP.2.2.2.symm⟩
  have HPP := Lib.hid hpp
  have HP := Lib.hid (And.intro hP (And.intro G hk))
  clear hP G hF hpp
  go_enter Tryz.func8, Tryz.ntmps8
  go_wp2_with (first
                | (rw [HW.out])
                | (go_at_call 28
                   refine (Encode05_ok _ o _ _ (HO.out.keep HR.out.1 (fun _ _ f => f)) hk).mono ?_
                   rintro e w2 ⟨v2, rfl, u2, rfl, ho2, c2⟩
                   obtain ⟨A2, k2, rfl⟩ := ho2.form
                   clear i0 i1 i2 i3 j0 j1 j2
                   have cw2 := HR.out.1.trans c2
                   have hbB : ∀ x ∈ o.B, 0 ≤ x ∧ x ≤ 255 := by
                     obtain ⟨wv, bv, -, -, hB, -⟩ := HO.out
                     exact hB.2
                   have H2 := Lib.hid (And.intro (ho2.bytes (encB_bd hbB)) (And.intro c2 cw2))
                   have sw2 := c2.size
                   clear ho2 c2 cw2 hbB)
                | fail)
  have a0 : ∀ v, Chg No w2 v → v.cell? ⟨w.heap.size, 0, none⟩ = some (.slice A n c) := fun v hv => ((HR.out.2.2.1.keep H2.out.2.1 (fun f => f)).keep hv (fun f => f)).cell 0
  have a1 : ∀ v, Chg No w2 v → v.cell? ⟨w.heap.size, 1, none⟩ = some (.int .i64 N) := fun v hv => ((HR.out.2.2.1.keep H2.out.2.1 (fun f => f)).keep hv (fun f => f)).cell 1
  have a2 : ∀ v, Chg No w2 v → v.cell? ⟨w.heap.size, 2, none⟩ = some (.int .i64 made) := fun v hv => ((HR.out.2.2.1.keep H2.out.2.1 (fun f => f)).keep hv (fun f => f)).cell 2
  go_cut [9, 10, 11] from 13 to 63 (fun s9 s10 s11 wq => PutAt w2 p0 p1 p2 pe s9 s10 s11 wq)
  case first =>
    go_region_held3 (fun w' => Chg No w2 w') (repeat (with_reducible first | assumption | exact Chg.refl _ _ | refine Chg.drew ?_ | refine Chg.alloc ?_ _ | refine Chg.setCell ?_ (.inr (by dsimp only; omega)) _))
      (first
        | (go_at_call 30
           refine (Calls.heldC (F := No) (W := w2) (by assumption) (Rows06_any _ T S _ (HV.out.keep (H2.out.2.2.trans (by assumption)) (fun _ _ f => f)) (by rw [HN.out]; exact hm) (fun t ht => HP.out.2.1.ok _ (List.mem_map.2 ⟨t, ht, rfl⟩)) N made)).mono ?_
           rintro e w3 ⟨⟨v3, rfl, Q, hQ, hR, c3⟩, hh⟩
           obtain ⟨A3, c3', rfl, -⟩ := hR.form
           have hC3 : Chg No w2 w3 := hh.trans c3
           have hs3 := hC3.size
           have H3 := Lib.hid (And.intro hQ (And.intro hR hC3))
           first
             | (have rz3 : Row w3 w2.heap.size 47 #[.int .i64 0, .int .i64 0, .int .i64 0] := Row.keep (Row.new w2.drew _ _) c3 (fun f => f)
                have HZ := Lib.hid rz3
                clear rz3)
             | (have rz3 : Row w3 w2.heap.size 47 #[.int .i64 0, .int .i64 0, .int .i64 0] := Row.keep (w := (w2.alloc (.cells #[.int .i64 0, .int .i64 0, .int .i64 0] 47)).drew) (Row.new w2 _ _) c3 (fun f => f)
                have HZ := Lib.hid rz3
                clear rz3)
             | skip
           clear hQ hR c3)
        | (go_at_call 29
           refine (Calls.heldC (F := No) (W := w2) (by assumption) (Put04_any _ _ Q (encB o) _ _ _ (H3.out.2.1.keep (F := No) (show Chg No w3 _ from by repeat (with_reducible first | exact Chg.refl _ _ | refine Chg.drew ?_ | refine Chg.alloc ?_ _)) (fun _ _ f => f)) (by have := congrArg List.length H3.out.1; rw [List.length_map, List.length_map, List.length_map, HN.out] at this; omega) N hN (by rw [H3.out.1]; exact HP.out.2.1.fits) (H2.out.1.keep (F := No) (by assumption) (fun _ _ f => f)) hel)).mono ?_
           rw [H3.out.1, HP.out.1]
           rintro e w4 ⟨⟨v4, rfl, A4, n4, k4, rfl, c4⟩, hh⟩
           have hC4 : Chg No w2 w4 := hh.trans c4
           have hs4 := hC4.size
           first
             | (have rz4 : Row w4 w2.heap.size 47 #[.int .i64 0, .int .i64 0, .int .i64 0] := HZ.out.keep c4 (fun f => f)
                obtain ⟨f0, f1, f2, fz⟩ := rz4.three
                have HZ4 := Lib.hid rz4
                clear rz4)
             | (have rz4 : Row w4 w3.heap.size 47 #[.int .i64 0, .int .i64 0, .int .i64 0] := Row.keep (Row.new w3 _ _) c4 (fun f => f)
                obtain ⟨f0, f1, f2, fz⟩ := rz4.three
                have HZ4 := Lib.hid rz4
                clear rz4)
             | skip
           clear c4)
        | fail)
    all_goals
      go_wp2_with fail
      go_meet
      case rel =>
        refine ⟨A4, n4, k4, _, rfl, rfl, rfl, ?_, ?_, ?_⟩
        · first | exact Nat.le_refl _ | omega
        · first | exact HZ4.out.set3 _ _ _ | exact Row.new _ _ _
        · first | exact hC4.three (by omega) _ _ _ | exact (hC4.three (by omega) _ _ _).drew | exact hC4.alloc _ | exact (hC4.alloc _).drew
  obtain ⟨A4, n4, k4, xb, rfl, rfl, rfl, hxb, hrow, c4⟩ := hcut
  obtain ⟨rfl, rfl, rfl, rfl⟩ := HPP.out
  have hlx := hrow.lt
  obtain ⟨A5, k5, W5, hr5, ho5, cg5, -⟩ := Own8.apps (T := []) (T' := T) (Own8.nil wc wc.heap.size) (HV.out.keep (H2.out.2.2.trans c4) (fun _ _ f => f)).1 (R8.ones (HV.out.keep (H2.out.2.2.trans c4) (fun _ _ f => f))) (Nat.le_refl _) (by simp; rw [HN.out]; omega) 30
  rw [HN.out] at hr5 ho5
  rw [List.nil_append] at ho5
  simp only [List.length_nil, Nat.zero_add] at hr5 ho5
  have c5 : Chg No wc W5 := cg5.mono (fun k hk e => by simp [Value.ownBlock] at e)
  have r0 : Row wc _ _ _ := ((HR.out.2.2.1.keep H2.out.2.1 (fun f => f)).keep c4 (fun f => f))
  have r1 : Row wc _ _ _ := ((HR.out.2.2.2.1.keep H2.out.2.1 (fun f => f)).keep c4 (fun f => f))
  have r2 : Row wc _ _ _ := ((HR.out.2.2.2.2.keep H2.out.2.1 (fun f => f)).keep c4 (fun f => f))
  have H5 := Lib.hid (And.intro ho5 (And.intro c5 (And.intro r0 (And.intro r1 (And.intro r2 (And.intro hrow c4))))))
  have HR5 := Lib.hid hr5
  have e0 : ∀ v, Chg No wc v → v.cell? ⟨w.heap.size, 2, none⟩ = some (.int .i64 made) := fun v hv => (H5.out.2.2.1.keep hv (fun f => f)).cell 2
  have e1 : ∀ v, Chg No wc v → v.cell? ⟨w.heap.size + 1, 0, none⟩ = some (.int .i64 o.cls) ∧ v.cell? ⟨w.heap.size + 1, 1, none⟩ = some (.int .i64 o.kind) ∧ v.cell? ⟨w.heap.size + 1, 2, none⟩ = some (.slice Aw o.W.length cw0) ∧ v.cell? ⟨w.heap.size + 1, 3, none⟩ = some (.slice Ab o.B.length cb0) := fun v hv => by
    obtain ⟨u0, u1, u2, u3, -⟩ := (H5.out.2.2.2.1.keep hv (fun f => f)).four
    exact ⟨u0, u1, u2, u3⟩
  have e2 : ∀ v, Chg No wc v → v.cell? ⟨xb, 0, none⟩ = some (.int .i64 f) ∧ v.cell? ⟨xb, 1, none⟩ = some (.int .i64 (secN (encB o).length)) ∧ v.cell? ⟨xb, 2, none⟩ = some (.int .i64 (encB o).length) := fun v hv => by
    obtain ⟨u0, u1, u2, -⟩ := (H5.out.2.2.2.2.2.1.keep hv (fun f => f)).three
    exact ⟨u0, u1, u2⟩
  have q0 := r0.cell 0
  have q2 := r0.cell 2
  have hw1 : IntKind.i64.wrap ((made : Int) + 1) = (made : Int) + 1 := IntWalk.i64_in _ (by omega)
  have n2 : decide ((1048576 : Int) ≤ (made : Int)) = false := decide_eq_false (by omega)
  have n3 : decide (1048576 ≤ made) = false := decide_eq_false (by omega)
  have hsw : w.heap.size + 1 + 1 < wc.heap.size := r2.lt
  have s5 := c5.size
  simp at q0 q2
  clear hr5 ho5 cg5 c5 r0 r1 r2 hrow c4 a0 a1 a2
  go_wp2_with (first
    | (at_builtin; refine wpList_append_run rfl _ _ _ rfl rfl rfl HR5.out ?_)
    | fail)
  have hC0 : Chg No wc W5 := H5.out.2.1
  go_region_held3 (fun w' => Chg No wc w') (repeat (with_reducible first | assumption | exact Chg.refl _ _ | refine Chg.drew ?_ | refine Chg.alloc ?_ _ | refine Chg.setCell ?_ (.inr (by dsimp only; omega)) _))
    (first
      | (refine step_append_run rfl (.tmp 44) (.tmp 52) 30 rfl rfl rfl HR8.out ?_)
      | (go_at_call 31
         have c5d : Chg No W5 W5.drew := (Chg.refl _ _).drew
         have hok := okB_cases hk
         refine (Copy05_any _ o _ _ ((HO.out.keep (H2.out.2.2.trans (H5.out.2.2.2.2.2.2.trans H5.out.2.1)) (fun _ _ f => f)).keep c5d (fun _ _ f => f)) (by omega) (by omega)).mono ?_
         rintro e w6 ⟨v6, rfl, wv6, bv6, rfl, c6, hI6, hB6⟩
         obtain ⟨A6, d6, rfl⟩ := own_form hI6
         obtain ⟨A7, d7, rfl⟩ := own_form hB6
         simp only [cells2]
         have c56 : Chg No W5 w6 := c5d.trans c6
         have hC6 : Chg No wc w6 := H5.out.2.1.trans c56
         have hs6 := c56.size
         have hok6 := okT.copied hI6 hB6 HO.out
         have ho6 := own_keep (F := No) H5.out.1 (c56.alloc (.cells #[.int .i64 ((made : Int) + 1), .int .i64 o.cls, .int .i64 o.kind, .slice A6 o.W.length d6, .slice A7 o.B.length d7, .int .i64 f, .int .i64 (secN (encB o).length), .int .i64 (encB o).length] 49)) (fun _ _ f => f)
         have hrow := Slc.row (S := fun _ => True) (Row.new w6 49 #[.int .i64 ((made : Int) + 1), .int .i64 o.cls, .int .i64 o.kind, .slice A6 o.W.length d6, .slice A7 o.B.length d7, .int .i64 f, .int .i64 (secN (encB o).length), .int .i64 (encB o).length]) 1 8 rfl (by unfold maxLen; omega) trivial
         obtain ⟨A8, d8, W8, hr8, ho8, cg8, hn8⟩ := Own8.apps (T := T) (T' := [(⟨(made : Int) + 1, o, f⟩, .slice A6 o.W.length d6, .slice A7 o.B.length d7)]) (show Own8 _ wc.heap.size (.slice A5 n k5) T from ho6) hrow (by simp [cellsS, cells8, Value.oneCell']) (by simp; omega) (by simp; rw [HN.out]; omega) 30
         rw [HN.out] at hr8 ho8
         simp only [List.length_cons, List.length_nil, Nat.zero_add] at hr8 ho8
         have hC8 : Chg No wc W8 := (hC6.alloc _).then cg8 (fun b hb e => by have := own_ge H5.out.1 e; omega)
         have HR8 := Lib.hid hr8
         have H8 := Lib.hid (And.intro ho8 (And.intro cg8 (And.intro hok6 (And.intro hC8 c56))))
         clear c5d c6 c56 hI6 hB6 hok6 ho6 hrow hr8 ho8 cg8 hn8 hok)
      | fail)
  have cw8 : Chg No w W8 := H2.out.2.2.trans (H5.out.2.2.2.2.2.2.trans hC8)
  have r0 := H5.out.2.2.1.keep hC8 (fun f => f)
  have r2 := H5.out.2.2.2.2.1.keep hC8 (fun f => f)
  have g0 : ∀ v, Chg (fun b => b = w.heap.size + 1 + 1) W8 v → v.cell? ⟨w.heap.size, 1, none⟩ = some (.int .i64 N) := fun v hv => (r0.keep hv (by omega)).cell 1
  have g1 : ∀ v, Chg (fun b => b = w.heap.size + 1 + 1) W8 v → v.cell? ⟨w.heap.size, 2, none⟩ = some (.int .i64 made) := fun v hv => (r0.keep hv (by omega)).cell 2
  obtain ⟨d0, d1, d2, df⟩ := r2.three
  have hok8 : ∀ t ∈ T ++ [((⟨(made : Int) + 1, o, f⟩ : Rw), Value.slice A6 o.W.length d6, Value.slice A7 o.B.length d7)], ok8 W8 (fun b => (S b ∧ b < w.heap.size) ∨ wc.heap.size ≤ b) t := by
    intro t ht
    rcases List.mem_append.1 ht with h1 | h1
    · exact (((HV.out.2 t h1).more (S' := fun b => S b ∧ b < w.heap.size) (fun b hb hS => ⟨hS, hb⟩)).keep cw8 (fun _ _ f => f)).more (fun b _ hb => .inl hb)
    · rw [List.mem_singleton.1 h1]
      have hown : ∀ b, (Value.slice A5 n k5).ownBlock = some b → b < W5.heap.size := fun b hb => by
        obtain ⟨cs, hrw⟩ := own_block H5.out.1 hb
        exact hrw.lt
      refine ⟨by unfold In64; dsimp only; omega, ((H8.out.2.2.1.keep (F := No) ((Chg.refl _ _).alloc _) (fun _ _ f => f)).keep H8.out.2.1 (fun b hb hv => ?_)).more (fun b _ hb => .inr (by have h2 : W5.heap.size ≤ b := hb; omega))⟩
      have h2 : W5.heap.size ≤ b := hb
      have := hown b hv
      omega
  have H9 := Lib.hid (And.intro r2 (And.intro (H8.out.1.rows hok8) cw8))
  clear r0 r2 e0 e1 e2 hok8
  go_wp2_with fail
  go_region_held3 (fun w' => Chg (fun b => b = w.heap.size + 1 + 1) W8 w') (repeat (with_reducible first | assumption | exact Chg.refl _ _ | refine Chg.drew ?_ | refine Chg.setCell ?_ (.inl (by simp)) _)) (fail)
  all_goals
    go_wp2_with fail
    have r3 := H9.out.1.set3 (.slice A8 (n + 1) d8) (.int .i64 N) (.int .i64 ((made : Int) + 1))
    obtain ⟨z0, z1, z2, -⟩ := r3.three
    have c9 : Chg (fun b => b = w.heap.size + 1 + 1) W8 (((W8.setCell ⟨w.heap.size + 1 + 1, 0, none⟩ (.slice A8 (n + 1) d8)).setCell ⟨w.heap.size + 1 + 1, 1, none⟩ (.int .i64 N)).setCell ⟨w.heap.size + 1 + 1, 2, none⟩ (.int .i64 ((made : Int) + 1))) := ((Chg.one _ _ _ _).trans (Chg.one _ _ _ _)).trans (Chg.one _ _ _ _)
    have hR9 := H9.out.2.1.keep c9 (fun b hb e => by
      have e' : b = w.heap.size + 1 + 1 := e
      rcases hb with (hb | hb) | hb
      · omega
      · omega
      · omega)
    refine bodyPost_ret (v := .tuple #[.agg #[.slice A8 (n + 1) d8, .int .i64 N, .int .i64 ((made : Int) + 1)], .int .i64 ((made : Int) + 1), .int .i64 0]) (by simp [results, Tryz.results8, go_sem, z0, z1, z2]) rfl (Ret.mk ⟨.agg #[.slice A8 (n + 1) d8, .int .i64 N, .int .i64 ((made : Int) + 1)], by simp, .slice A8 (n + 1) d8, _, by simp, ?_, (hR9.keep (F := No) ((Chg.refl _ _).drew) (fun _ _ f => f)).more (fun b _ hb => by
      rcases hb with (hb | hb) | hb
      · exact .inl hb.1
      · exact .inr (by omega)
      · exact .inr (by omega)), (H9.out.2.2.three (by omega) _ _ _).drew⟩)
    simp

end Go.Proofs.YtdpmmafkomchaaaGreat
