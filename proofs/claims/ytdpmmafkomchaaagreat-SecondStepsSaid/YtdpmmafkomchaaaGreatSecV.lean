/- Objects on a disk: second.Space.Store. -/
import Derived.Test.YtdpmmafkomchaaaGreatSecU
namespace Go.Proofs.YtdpmmafkomchaaaGreat
set_option linter.unusedVariables false
set_option linter.unusedSimpArgs false
open Go.RowKit
open Go.ChangeMaps (setBlock)


/-- where other bytes come to lie, if there is room -/
def setF (X : List Xt) (N : Nat) (x : Xt) (l : List Int) : Option Nat := if secN l.length = x.n then some x.f else placeX X N (secN l.length)
section
variable {w : World} {B : Blk} {N : Nat} {X : List Xt} {x : Xt}
theorem Set_some (H : ExtS w B N (x :: X)) (bv : Value) (l : List Int) (S : Nat → Prop) (hb : ByteS w S bv l) (hS : ∀ k, S k → ¬ B.has k) (hl1 : 1 ≤ l.length) (hl2 : l.length ≤ 1000000) {f : Nat} (hf : setF X N x l = some f) :
    Calls Tryz.prog 36 #[.pointer (some ⟨B.r, 0, none⟩), .agg #[.int .i64 x.f, .int .i64 x.n, .int .i64 x.b.length], bv] w (Ret (Stood w B N X ⟨f, l⟩)) := by
  unfold setF at hf
  split at hf
  · rename_i he
    cases hf
    exact Set_same H bv l S hb hS hl1 hl2 he
  · rename_i he
    exact Set_move H bv l S hb hS hl1 hl2 he hf
theorem Set_none (H : ExtS w B N (x :: X)) (bv : Value) (l : List Int) (S : Nat → Prop) (hb : ByteS w S bv l) (hS : ∀ k, S k → ¬ B.has k) (hl2 : l.length ≤ 1000000) (hf : setF X N x l = none) :
    Calls Tryz.prog 36 #[.pointer (some ⟨B.r, 0, none⟩), .agg #[.int .i64 x.f, .int .i64 x.n, .int .i64 x.b.length], bv] w fun e w' => e = .returned (.tuple #[.agg #[.int .i64 0, .int .i64 0, .int .i64 0], .int .i64 3]) ∧ ExtS w' B N (x :: X) ∧ Chg B.has w w' := by
  unfold setF at hf
  split at hf
  · cases hf
  · rename_i he
    exact Set_full H bv l S hb hS hl2 he hf
end

section
variable {w : World} {Q : SB} {N made : Nat} {L : List Rw}


set_option maxRecDepth 100000 in
set_option maxHeartbeats 1000000 in
theorem secStore_none (H : SecS w Q N L made) (k : Int) (v : Value) (o : O) (S : Nat → Prop) (ho : ObjR w S v o) (hr : lk L k = none) :
    Calls Tryz.prog 12 #[.pointer (some ⟨Q.s, 0, none⟩), .int .i64 k, v] w fun e w' => e = .returned (.int .i64 4) ∧ Chg No w w' := by
  obtain ⟨wv, bv, rfl, h1, h2, c64, k64⟩ := ho
  obtain ⟨A, ca, rfl, -⟩ := h1.form
  obtain ⟨Bb, cb, rfl, -⟩ := h2.form
  simp only [cells2]
  obtain ⟨W1, hW1⟩ : ∃ W, w.alloc (.cells #[.int .i64 o.cls, .int .i64 o.kind, .slice A o.W.length ca, .slice Bb o.B.length cb] 35) = W := ⟨_, rfl⟩
  have c1 : Chg No w W1 := by rw [← hW1]; exact (Chg.refl _ _).alloc _
  have r1 : Row W1 w.heap.size 35 #[.int .i64 o.cls, .int .i64 o.kind, .slice A o.W.length ca, .slice Bb o.B.length cb] := by rw [← hW1]; exact Row.new w _ _
  have HO := Lib.hid (show ∀ V, Chg No w V → ObjR V S (.agg #[.int .i64 o.cls, .int .i64 o.kind, .slice A o.W.length ca, .slice Bb o.B.length cb]) o from fun V c => ⟨_, _, rfl, h1.keep c (fun _ _ f => f), h2.keep c (fun _ _ f => f), c64, k64⟩)
  have HW := Lib.hid hW1
  have HC := Lib.hid (And.intro c1 r1)
  have HQ := Lib.hid (secAt_none (H.keep c1 (fun _ _ f => f)) hr)
  clear h1 h2 hW1 c1 r1 H hr
  go_enter Tryz.func12, Tryz.ntmps12
  go_wp2_with (first
    | (rw [HW.out])
    | (go_at_call 32; refine HQ.out.mono ?_; rintro e w2 ⟨rfl, c2⟩; have H2 := Lib.hid (HC.out.1.trans c2); clear c2)
    | fail)
  go_ret
  exact ⟨rfl, H2.out.alloc _⟩


set_option maxRecDepth 100000 in
set_option maxHeartbeats 1000000 in
theorem secStore_bad (H : SecS w Q N L made) (k : Int) (v : Value) (o : O) (S : Nat → Prop) (ho : ObjR w S v o) {r : Rw} (hr : lk L k = some r) (hk : okB o = false) :
    Calls Tryz.prog 12 #[.pointer (some ⟨Q.s, 0, none⟩), .int .i64 k, v] w fun e w' => e = .returned (.int .i64 2) ∧ Chg No w w' := by
  obtain ⟨wv, bv, rfl, h1, h2, c64, k64⟩ := ho
  obtain ⟨A, ca, rfl, -⟩ := h1.form
  obtain ⟨Bb, cb, rfl, -⟩ := h2.form
  simp only [cells2]
  obtain ⟨W1, hW1⟩ : ∃ W, w.alloc (.cells #[.int .i64 o.cls, .int .i64 o.kind, .slice A o.W.length ca, .slice Bb o.B.length cb] 35) = W := ⟨_, rfl⟩
  have c1 : Chg No w W1 := by rw [← hW1]; exact (Chg.refl _ _).alloc _
  have r1 : Row W1 w.heap.size 35 #[.int .i64 o.cls, .int .i64 o.kind, .slice A o.W.length ca, .slice Bb o.B.length cb] := by rw [← hW1]; exact Row.new w _ _
  have HO := Lib.hid (show ∀ V, Chg No w V → ObjR V S (.agg #[.int .i64 o.cls, .int .i64 o.kind, .slice A o.W.length ca, .slice Bb o.B.length cb]) o from fun V c => ⟨_, _, rfl, h1.keep c (fun _ _ f => f), h2.keep c (fun _ _ f => f), c64, k64⟩)
  have HW := Lib.hid hW1
  have HC := Lib.hid (And.intro c1 r1)
  have HQ := Lib.hid (secAt_some (H.keep c1 (fun _ _ f => f)) hr)
  have HK := Lib.hid hk
  generalize r.xt.f = xf at *
  generalize r.xt.n = xn at *
  generalize r.xt.b.length = xl at *
  clear h1 h2 hW1 c1 r1 H hr hk
  go_enter Tryz.func12, Tryz.ntmps12
  go_wp2_with (first
    | (rw [HW.out])
    | (go_at_call 32
       refine HQ.out.mono ?_
       rintro e w2 ⟨rfl, c2⟩
       obtain ⟨W3, hW3⟩ : ∃ W, w2.alloc (.cells #[.int .i64 xf, .int .i64 xn, .int .i64 xl] 47) = W := ⟨_, rfl⟩
       have c3 : Chg No w2 W3 := by rw [← hW3]; exact (Chg.refl _ _).alloc _
       have rx : Row W3 w2.heap.size 47 #[.int .i64 xf, .int .i64 xn, .int .i64 xl] := by rw [← hW3]; exact Row.new _ _ _
       have z := ((HC.out.2.keep c2 (fun f => f)).keep c3 (fun f => f)).four
       have hs2 := (HC.out.1.trans c2).size
       have H3 := Lib.hid (And.intro (HC.out.1.trans (c2.trans c3)) rx)
       have HW3 := Lib.hid hW3
       clear c2 c3 hW3 rx)
      | (rw [HW3.out])
    | (go_at_call 26; refine (Encode_bad _ o S _ (HO.out _ H3.out.1) HK.out).mono ?_; rintro e w4 ⟨rfl, c4⟩; have H4 := Lib.hid (H3.out.1.trans c4); clear c4)
    | fail)
  go_ret
  exact ⟨rfl, H4.out⟩



set_option maxRecDepth 100000 in
set_option maxHeartbeats 1000000 in
theorem secStore_full (H : SecS w Q N L made) (k : Int) (v : Value) (o : O) (S : Nat → Prop) (ho : ObjR w S v o) {r : Rw} (hr : lk L k = some r) (hk : okB o = true) (hs : setF ((delR L k).map Rw.xt) N r.xt (encB o) = none) :
    Calls Tryz.prog 12 #[.pointer (some ⟨Q.s, 0, none⟩), .int .i64 k, v] w fun e w' => e = .returned (.int .i64 3) ∧ SecS w' Q N L made ∧ Chg Q.has w w' := by
  have HLT := Lib.hid (fun k (hk : Q.has k) => H.lt hk)
  have HB := Lib.hid (show ∀ z ∈ o.B, 0 ≤ z ∧ z ≤ 255 by obtain ⟨wv, bv, -, -, h2, -⟩ := ho; exact h2.2)
  obtain ⟨wv, bv, rfl, h1, h2, c64, k64⟩ := ho
  obtain ⟨A, ca, rfl, -⟩ := h1.form
  obtain ⟨Bb, cb, rfl, -⟩ := h2.form
  simp only [cells2]
  obtain ⟨W1, hW1⟩ : ∃ W, w.alloc (.cells #[.int .i64 o.cls, .int .i64 o.kind, .slice A o.W.length ca, .slice Bb o.B.length cb] 35) = W := ⟨_, rfl⟩
  have c1 : Chg No w W1 := by rw [← hW1]; exact (Chg.refl _ _).alloc _
  have r1 : Row W1 w.heap.size 35 #[.int .i64 o.cls, .int .i64 o.kind, .slice A o.W.length ca, .slice Bb o.B.length cb] := by rw [← hW1]; exact Row.new w _ _
  have HO := Lib.hid (show ∀ V, Chg No w V → ObjR V S (.agg #[.int .i64 o.cls, .int .i64 o.kind, .slice A o.W.length ca, .slice Bb o.B.length cb]) o from fun V c => ⟨_, _, rfl, h1.keep c (fun _ _ f => f), h2.keep c (fun _ _ f => f), c64, k64⟩)
  have HW := Lib.hid hW1
  have HC := Lib.hid (And.intro c1 r1)
  have HQ := Lib.hid (secAt_some (H.keep c1 (fun _ _ f => f)) hr)
  have HK := Lib.hid hk
  obtain ⟨es, H⟩ := H
  have hle : 1 ≤ (encB o).length ∧ (encB o).length ≤ 1000000 := by have := encB_len o; have := okB_cases hk; omega
  have hpm := (del_perm H.rise hr).map Rw.xt
  rw [List.map_cons] at hpm
  have HE := Lib.hid (And.intro H (And.intro (H.ext.perm hpm) (And.intro hle (And.intro hs hr))))
  have HNE := Lib.hid H.ne
  generalize hxf : r.xt.f = xf at *
  generalize hxn : r.xt.n = xn at *
  generalize hxl : r.xt.b.length = xl at *
  have HX := Lib.hid (And.intro hxf (And.intro hxn hxl))
  clear h1 h2 hW1 c1 r1 H hr hk hle hpm hs hxf hxn hxl
  go_enter Tryz.func12, Tryz.ntmps12
  go_wp2_with (first
    | (rw [HW.out])
    | (go_at_call 32
       refine HQ.out.mono ?_
       rintro e w2 ⟨rfl, c2⟩
       obtain ⟨W3, hW3⟩ : ∃ W, w2.alloc (.cells #[.int .i64 xf, .int .i64 xn, .int .i64 xl] 47) = W := ⟨_, rfl⟩
       have c3 : Chg No w2 W3 := by rw [← hW3]; exact (Chg.refl _ _).alloc _
       have rx : Row W3 w2.heap.size 47 #[.int .i64 xf, .int .i64 xn, .int .i64 xl] := by rw [← hW3]; exact Row.new _ _ _
       have z := ((HC.out.2.keep c2 (fun f => f)).keep c3 (fun f => f)).four
       have hs2 := (HC.out.1.trans c2).size
       have H3 := Lib.hid (And.intro (HC.out.1.trans (c2.trans c3)) rx)
       have HW3 := Lib.hid hW3
       clear c2 c3 hW3 rx)
      | (rw [HW3.out])
    | (go_at_call 26
       refine (Encode_ok _ o S _ (HO.out _ H3.out.1) HK.out).mono ?_
       rintro e w4 ⟨v4, rfl, u4, rfl, ho4, c4⟩
       obtain ⟨A4, d4, rfl⟩ := ho4.form
       have hb4 := ho4.bytes (encB_bd HB.out)
       have rx4 := H3.out.2.keep c4 (fun f => f)
       have hs3 := H3.out.1.size
       have H4 := Lib.hid (And.intro (H3.out.1.trans c4) (And.intro hb4 rx4))
       clear ho4 hb4 c4 rx4)
    | fail)
  have fr : ∀ v, Chg Q.B.has w4 v → v.cell? ⟨Q.s, 0, none⟩ = some (.pointer (some ⟨Q.B.r, 0, none⟩)) := fun v hv => ((HE.out.1.row.keep H4.out.1 (fun f => f)).keep hv HNE.out.2.1).cell 0
  have hxr : ∀ v, Chg Q.B.has w4 v → Row v w2.heap.size 47 #[.int .i64 xf, .int .i64 xn, .int .i64 xl] := fun v hv => H4.out.2.2.keep hv (fun h => by have := HLT.out w2.heap.size (.inr (.inr h)); omega)
  have g0 : ∀ v, Chg Q.B.has w4 v → v.cell? ⟨w2.heap.size, 0, none⟩ = some (.int .i64 xf) := fun v hv => (hxr v hv).cell 0
  have g1 : ∀ v, Chg Q.B.has w4 v → v.cell? ⟨w2.heap.size, 1, none⟩ = some (.int .i64 xn) := fun v hv => (hxr v hv).cell 1
  have g2 : ∀ v, Chg Q.B.has w4 v → v.cell? ⟨w2.heap.size, 2, none⟩ = some (.int .i64 xl) := fun v hv => (hxr v hv).cell 2
  have HSET := Lib.hid (fun V (hV : Chg No w4 V) => by
    have h := Set_none (HE.out.2.1.keep (H4.out.1.trans hV) (fun _ _ f => f)) _ _ _ (H4.out.2.1.keep hV (fun _ _ f => f)) (fun q hq hb => by have := HLT.out q (.inr (.inr hb)); omega) HE.out.2.2.1.2 HE.out.2.2.2.1
    rw [HX.out.1, HX.out.2.1, HX.out.2.2] at h
    exact h)
  clear hxr
  have hnb : ¬ Q.B.has w4.heap.size := fun h => by have := HLT.out _ (.inr (.inr h)); have := H4.out.1.size; omega
  have hs4 := H4.out.1.size
  go_region_held3 (fun w' => Chg Q.B.has w4 w') (repeat (with_reducible first | assumption | exact Chg.refl _ _ | refine Chg.drew ?_ | refine Chg.alloc ?_ _ | refine Chg.setCell ?_ (.inr (by first | exact Nat.le_refl _ | assumption | (simp; done) | (simp; omega))) _))
    (first
    | (go_at_call 36
       refine (Calls.heldC (F := No) (W := w4) (by repeat (with_reducible first | assumption | exact Chg.refl _ _ | refine Chg.drew ?_ | refine Chg.alloc ?_ _)) (HSET.out _ (by repeat (with_reducible first | assumption | exact Chg.refl _ _ | refine Chg.drew ?_ | refine Chg.alloc ?_ _)))).mono ?_
       rintro e w5 ⟨⟨rfl, he5, c5⟩, hh5⟩
       have c9 : Chg Q.B.has w4 w5 := hh5.no.trans c5
       have H5 := Lib.hid (And.intro he5 c9)
       try (have rn := Row.keep (F := Q.B.has) (Row.drew2 (Row.new w4 47 #[.int .i64 0, .int .i64 0, .int .i64 0])) c5 hnb; have zn := IExt.cells rn; have RN := Lib.hid rn; clear rn)
       have hs5 := c9.size
       clear he5 c5 hh5)
    | fail)
  all_goals
    go_wp2_with fail
    go_ret
    have cF : ∀ U, Chg (fun q => q = w4.heap.size) w5 U → SecS U Q N L made ∧ Chg Q.has w U := fun U hU => by
      have hE := HE.out.1
      have hq4 : ∀ q, Q.has q → q ≠ w4.heap.size := fun q hq e => by have := HLT.out q hq; have := H4.out.1.size; omega
      have hpm := (del_perm hE.rise HE.out.2.2.2.2).map Rw.xt
      refine ⟨⟨es, ((hE.row.keep H4.out.1 (fun f => f)).keep H5.out.2 HNE.out.2.1).keep hU (hq4 _ (.inl rfl)), (H5.out.1.perm hpm.symm).keep hU (fun q hq => hq4 q (.inr (.inr hq))), ((hE.tab.keep H4.out.1 (fun f => f)).keep H5.out.2 HNE.out.2.2).keep hU (hq4 _ (.inr (.inl rfl))), hE.get, hE.rise, hE.ids, hE.ok, hE.max, hE.tv⟩, ?_⟩
      exact (H4.out.1.no.trans (H5.out.2.mono fun q _ h => .inr (.inr h))).then hU (fun q hq e => by have := H4.out.1.size; omega)
    refine ⟨rfl, cF _ ?_⟩
    repeat (with_reducible first | exact Chg.refl _ _ | refine Chg.alloc ?_ _ | refine Chg.setCell ?_ (.inl (by simp)) _)

/-- what Store gives -/
def Storedd (w : World) (Q : SB) (N : Nat) (L : List Rw) (made : Nat) (k : Int) (o : O) (f : Nat) (e : Ending) (w' : World) : Prop := e = .returned (.int .i64 0) ∧ SecS w' Q N (setR L k ⟨k, o, f⟩) made ∧ Chg Q.has w w'


set_option maxRecDepth 100000 in
set_option maxHeartbeats 1000000 in
theorem secStore_ok (H : SecS w Q N L made) (k : Int) (v : Value) (o : O) (S : Nat → Prop) (ho : ObjR w S v o) {r : Rw} (hr : lk L k = some r) (hk : okB o = true) {f2 : Nat} (hs : setF ((delR L k).map Rw.xt) N r.xt (encB o) = some f2) :
    Calls Tryz.prog 12 #[.pointer (some ⟨Q.s, 0, none⟩), .int .i64 k, v] w (Storedd w Q N L made k o f2) := by
  have HLT := Lib.hid (fun k (hk : Q.has k) => H.lt hk)
  have HB := Lib.hid (show ∀ z ∈ o.B, 0 ≤ z ∧ z ≤ 255 by obtain ⟨wv, bv, -, -, h2, -⟩ := ho; exact h2.2)
  obtain ⟨wv, bv, rfl, h1, h2, c64, k64⟩ := ho
  obtain ⟨A, ca, rfl, -⟩ := h1.form
  obtain ⟨Bb, cb, rfl, -⟩ := h2.form
  simp only [cells2]
  obtain ⟨W1, hW1⟩ : ∃ W, w.alloc (.cells #[.int .i64 o.cls, .int .i64 o.kind, .slice A o.W.length ca, .slice Bb o.B.length cb] 35) = W := ⟨_, rfl⟩
  have c1 : Chg No w W1 := by rw [← hW1]; exact (Chg.refl _ _).alloc _
  have r1 : Row W1 w.heap.size 35 #[.int .i64 o.cls, .int .i64 o.kind, .slice A o.W.length ca, .slice Bb o.B.length cb] := by rw [← hW1]; exact Row.new w _ _
  have HO := Lib.hid (show ∀ V, Chg No w V → ObjR V S (.agg #[.int .i64 o.cls, .int .i64 o.kind, .slice A o.W.length ca, .slice Bb o.B.length cb]) o from fun V c => ⟨_, _, rfl, h1.keep c (fun _ _ f => f), h2.keep c (fun _ _ f => f), c64, k64⟩)
  have HW := Lib.hid hW1
  have HC := Lib.hid (And.intro c1 r1)
  have HQ := Lib.hid (secAt_some (H.keep c1 (fun _ _ f => f)) hr)
  have HK := Lib.hid hk
  obtain ⟨es, H⟩ := H
  have hle : 1 ≤ (encB o).length ∧ (encB o).length ≤ 1000000 := by have := encB_len o; have := okB_cases hk; omega
  have hpm := (del_perm H.rise hr).map Rw.xt
  rw [List.map_cons] at hpm
  have HE := Lib.hid (And.intro H (And.intro (H.ext.perm hpm) (And.intro hle (And.intro hs hr))))
  have HNE := Lib.hid H.ne
  generalize hxf : r.xt.f = xf at *
  generalize hxn : r.xt.n = xn at *
  generalize hxl : r.xt.b.length = xl at *
  have HX := Lib.hid (And.intro hxf (And.intro hxn hxl))
  clear h1 h2 hW1 c1 r1 H hr hk hle hpm hs hxf hxn hxl
  show Calls _ _ _ _ (fun e w' => e = .returned (.int .i64 0) ∧ SecS w' Q N (setR L k ⟨k, o, f2⟩) made ∧ Chg Q.has w w')
  go_enter Tryz.func12, Tryz.ntmps12
  go_wp2_with (first
    | (rw [HW.out])
    | (go_at_call 32
       refine HQ.out.mono ?_
       rintro e w2 ⟨rfl, c2⟩
       obtain ⟨W3, hW3⟩ : ∃ W, w2.alloc (.cells #[.int .i64 xf, .int .i64 xn, .int .i64 xl] 47) = W := ⟨_, rfl⟩
       have c3 : Chg No w2 W3 := by rw [← hW3]; exact (Chg.refl _ _).alloc _
       have rx : Row W3 w2.heap.size 47 #[.int .i64 xf, .int .i64 xn, .int .i64 xl] := by rw [← hW3]; exact Row.new _ _ _
       have z := ((HC.out.2.keep c2 (fun f => f)).keep c3 (fun f => f)).four
       have hs2 := (HC.out.1.trans c2).size
       have H3 := Lib.hid (And.intro (HC.out.1.trans (c2.trans c3)) rx)
       have HW3 := Lib.hid hW3
       clear c2 c3 hW3 rx)
      | (rw [HW3.out])
    | (go_at_call 26
       refine (Encode_ok _ o S _ (HO.out _ H3.out.1) HK.out).mono ?_
       rintro e w4 ⟨v4, rfl, u4, rfl, ho4, c4⟩
       obtain ⟨A4, d4, rfl⟩ := ho4.form
       have hb4 := ho4.bytes (encB_bd HB.out)
       have rx4 := H3.out.2.keep c4 (fun f => f)
       have hs3 := H3.out.1.size
       have H4 := Lib.hid (And.intro (H3.out.1.trans c4) (And.intro hb4 rx4))
       clear ho4 hb4 c4 rx4)
    | fail)
  have fr : ∀ v, Chg Q.B.has w4 v → v.cell? ⟨Q.s, 0, none⟩ = some (.pointer (some ⟨Q.B.r, 0, none⟩)) := fun v hv => ((HE.out.1.row.keep H4.out.1 (fun f => f)).keep hv HNE.out.2.1).cell 0
  have hxr : ∀ v, Chg Q.B.has w4 v → Row v w2.heap.size 47 #[.int .i64 xf, .int .i64 xn, .int .i64 xl] := fun v hv => H4.out.2.2.keep hv (fun h => by have := HLT.out w2.heap.size (.inr (.inr h)); omega)
  have g0 : ∀ v, Chg Q.B.has w4 v → v.cell? ⟨w2.heap.size, 0, none⟩ = some (.int .i64 xf) := fun v hv => (hxr v hv).cell 0
  have g1 : ∀ v, Chg Q.B.has w4 v → v.cell? ⟨w2.heap.size, 1, none⟩ = some (.int .i64 xn) := fun v hv => (hxr v hv).cell 1
  have g2 : ∀ v, Chg Q.B.has w4 v → v.cell? ⟨w2.heap.size, 2, none⟩ = some (.int .i64 xl) := fun v hv => (hxr v hv).cell 2
  have HSET := Lib.hid (fun V (hV : Chg No w4 V) => by
    have h := Set_some (HE.out.2.1.keep (H4.out.1.trans hV) (fun _ _ f => f)) _ _ _ (H4.out.2.1.keep hV (fun _ _ f => f)) (fun q hq hb => by have := HLT.out q (.inr (.inr hb)); omega) HE.out.2.2.1.1 HE.out.2.2.1.2 HE.out.2.2.2.1
    rw [HX.out.1, HX.out.2.1, HX.out.2.2] at h
    exact h)
  clear hxr
  have hnb : ¬ Q.B.has w4.heap.size := fun h => by have := HLT.out _ (.inr (.inr h)); have := H4.out.1.size; omega
  have hs4 := H4.out.1.size
  go_region_held3 (fun w' => Chg Q.B.has w4 w') (repeat (with_reducible first | assumption | exact Chg.refl _ _ | refine Chg.drew ?_ | refine Chg.alloc ?_ _ | refine Chg.setCell ?_ (.inr (by first | exact Nat.le_refl _ | assumption | (simp; done) | (simp; omega))) _))
    (first
    | (go_at_call 36
       refine (Calls.heldC (F := No) (W := w4) (by repeat (with_reducible first | assumption | exact Chg.refl _ _ | refine Chg.drew ?_ | refine Chg.alloc ?_ _)) (HSET.out _ (by repeat (with_reducible first | assumption | exact Chg.refl _ _ | refine Chg.drew ?_ | refine Chg.alloc ?_ _)))).mono ?_
       rintro e w5 ⟨⟨v5, rfl, rfl, he5, c5⟩, hh5⟩
       have c9 : Chg Q.B.has w4 w5 := hh5.no.trans c5
       have H5 := Lib.hid (And.intro he5 c9)
       try (have rn := Row.keep (F := Q.B.has) (Row.drew2 (Row.new w4 47 #[.int .i64 0, .int .i64 0, .int .i64 0])) c5 hnb; have zn := IExt.cells rn; have RN := Lib.hid rn; clear rn)
       have hs5 := c9.size
       clear he5 c5 hh5)
    | fail)
  · generalize hV : World.alloc w5 _ = V
    have rV : Row V w5.heap.size 47 #[.int .i64 f2, .int .i64 (Xt.n ⟨f2, encB o⟩), .int .i64 (encB o).length] := by rw [← hV]; exact Row.new _ _ _
    have cV : Chg (fun q => q = w5.heap.size) w5 V := by
      rw [← hV]
      repeat (first | exact Chg.refl _ _ | refine Chg.alloc ?_ _ | refine Chg.setCell ?_ (.inl (by simp)) _)
    have hq4 : ∀ q, Q.has q → q ≠ w5.heap.size := fun q hq e => by have := HLT.out q hq; have := H4.out.1.size; omega
    have rowV := ((HE.out.1.row.keep H4.out.1 (fun f => f)).keep H5.out.2 HNE.out.2.1).keep cV (hq4 _ (.inl rfl))
    have htab := ((HE.out.1.tab.keep H4.out.1 (fun f => f)).keep H5.out.2 HNE.out.2.2).keep cV (hq4 _ (.inr (.inl rfl)))
    have hext := H5.out.1.keep cV (fun q hq => hq4 q (.inr (.inr hq)))
    obtain ⟨ob, hob⟩ := htab.updates (P := Tryz.prog) elem_tab Tryz.underlying3 k (.agg #[.int .i64 f2, .int .i64 (Xt.n ⟨f2, encB o⟩), .int .i64 (encB o).length])
    obtain ⟨hrun, hmap⟩ := hob V.drew rfl
    have c6 : Chg (fun q => q = Q.t) V (setBlock V.drew Q.t ob) := Chg.setBlock (F := fun q => q = Q.t) (Chg.refl _ _).drew (.inl rfl) _
    generalize setBlock V.drew Q.t ob = W6 at *
    have p1 : V.cell? ⟨Q.s, 1, none⟩ = some (.map (some Q.t)) := rowV.cell 1
    obtain ⟨x0, x1, x3, -⟩ := IExt.cells rV
    have HF := Lib.hid (show SecS W6 Q N (setR L k ⟨k, o, f2⟩) made ∧ Chg Q.has w W6 from by
      have hE := HE.out.1
      refine ⟨⟨_, rowV.keep c6 HNE.out.1, (hext.perm ?_).keep c6 (fun q hq e => HNE.out.2.2 (by rw [← e]; exact hq)), hmap, fun j => ?_, set_rising hE.rise rfl, fun r' hr' => ?_, fun r' hr' => ?_, hE.max, hE.tv⟩, ?_⟩
      · have hp := (set_perm (x := ⟨k, o, f2⟩) hE.rise HE.out.2.2.2.2).map Rw.xt
        exact hp.symm
      · rw [mget_mset, hE.get, lk_set (k := k) (x := ⟨k, o, f2⟩) L rfl, HE.out.2.2.2.2]
        by_cases e : j = k
        · rw [if_pos (by simpa using e), if_pos e]
          rfl
        · rw [if_neg (by simpa using e), if_neg e]
      · rcases set_mem hr' with rfl | h
        · have hm := lk_mem HE.out.2.2.2.2
          have := hE.ids _ hm.1
          rw [hm.2] at this
          exact this
        · exact hE.ids _ h
      · rcases set_mem hr' with rfl | h
        · exact ⟨HK.out, HB.out⟩
        · exact hE.ok _ h
      · exact ((H4.out.1.no.trans (H5.out.2.mono fun q _ h => .inr (.inr h))).then cV (fun q hq e => by have := H4.out.1.size; omega)).trans (c6.mono fun q _ h => .inr (.inl h)))
    clear hV cV hq4 rowV htab hext hob hmap c6 rV fr g0 g1 g2
    go_wp2_with fail
    go_region
    go_wp2_with fail
    go_ret
    exact ⟨rfl, HF.out⟩
  · generalize hV : World.setCell (World.setCell (World.setCell w5 _ _) _ _) _ _ = V
    have rV : Row V w4.heap.size 47 #[.int .i64 f2, .int .i64 (Xt.n ⟨f2, encB o⟩), .int .i64 (encB o).length] := by rw [← hV]; exact ((RN.out.set 0 _).set 1 _).set 2 _
    have cV : Chg (fun q => q = w4.heap.size) w5 V := by
      rw [← hV]
      repeat (first | exact Chg.refl _ _ | refine Chg.alloc ?_ _ | refine Chg.setCell ?_ (.inl (by simp)) _)
    have hq4 : ∀ q, Q.has q → q ≠ w4.heap.size := fun q hq e => by have := HLT.out q hq; have := H4.out.1.size; omega
    have rowV := ((HE.out.1.row.keep H4.out.1 (fun f => f)).keep H5.out.2 HNE.out.2.1).keep cV (hq4 _ (.inl rfl))
    have htab := ((HE.out.1.tab.keep H4.out.1 (fun f => f)).keep H5.out.2 HNE.out.2.2).keep cV (hq4 _ (.inr (.inl rfl)))
    have hext := H5.out.1.keep cV (fun q hq => hq4 q (.inr (.inr hq)))
    obtain ⟨ob, hob⟩ := htab.updates (P := Tryz.prog) elem_tab Tryz.underlying3 k (.agg #[.int .i64 f2, .int .i64 (Xt.n ⟨f2, encB o⟩), .int .i64 (encB o).length])
    obtain ⟨hrun, hmap⟩ := hob V.drew rfl
    have c6 : Chg (fun q => q = Q.t) V (setBlock V.drew Q.t ob) := Chg.setBlock (F := fun q => q = Q.t) (Chg.refl _ _).drew (.inl rfl) _
    generalize setBlock V.drew Q.t ob = W6 at *
    have p1 : V.cell? ⟨Q.s, 1, none⟩ = some (.map (some Q.t)) := rowV.cell 1
    obtain ⟨x0, x1, x3, -⟩ := IExt.cells rV
    have HF := Lib.hid (show SecS W6 Q N (setR L k ⟨k, o, f2⟩) made ∧ Chg Q.has w W6 from by
      have hE := HE.out.1
      refine ⟨⟨_, rowV.keep c6 HNE.out.1, (hext.perm ?_).keep c6 (fun q hq e => HNE.out.2.2 (by rw [← e]; exact hq)), hmap, fun j => ?_, set_rising hE.rise rfl, fun r' hr' => ?_, fun r' hr' => ?_, hE.max, hE.tv⟩, ?_⟩
      · have hp := (set_perm (x := ⟨k, o, f2⟩) hE.rise HE.out.2.2.2.2).map Rw.xt
        exact hp.symm
      · rw [mget_mset, hE.get, lk_set (k := k) (x := ⟨k, o, f2⟩) L rfl, HE.out.2.2.2.2]
        by_cases e : j = k
        · rw [if_pos (by simpa using e), if_pos e]
          rfl
        · rw [if_neg (by simpa using e), if_neg e]
      · rcases set_mem hr' with rfl | h
        · have hm := lk_mem HE.out.2.2.2.2
          have := hE.ids _ hm.1
          rw [hm.2] at this
          exact this
        · exact hE.ids _ h
      · rcases set_mem hr' with rfl | h
        · exact ⟨HK.out, HB.out⟩
        · exact hE.ok _ h
      · exact ((H4.out.1.no.trans (H5.out.2.mono fun q _ h => .inr (.inr h))).then cV (fun q hq e => by have := H4.out.1.size; omega)).trans (c6.mono fun q _ h => .inr (.inl h)))
    clear hV cV hq4 rowV htab hext hob hmap c6 rV fr g0 g1 g2
    go_wp2_with fail
    go_region
    go_wp2_with fail
    go_ret
    exact ⟨rfl, HF.out⟩
end

end Go.Proofs.YtdpmmafkomchaaaGreat
