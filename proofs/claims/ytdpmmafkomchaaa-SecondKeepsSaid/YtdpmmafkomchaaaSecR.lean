/- Objects on a disk: second.Space: New, Make. -/
import Derived.Test.YtdpmmafkomchaaaSecQ
namespace Go.Proofs.Ytdpmmafkomchaaa
set_option linter.unusedVariables false
set_option linter.unusedSimpArgs false
open Go.RowKit
open Go.ChangeMaps (setBlock)


/-- a space in new memory -/
def SecNew (w : World) (N : Nat) (v : Value) (w' : World) : Prop := ∃ Q : SB, v = .tuple #[.pointer (some ⟨Q.s, 0, none⟩), .int .i64 0] ∧ SecS w' Q N [] 0 ∧ (∀ k, Q.has k → w.heap.size ≤ k) ∧ Chg No w w'

set_option maxRecDepth 100000 in
set_option maxHeartbeats 1000000 in
theorem secNew_ok (N : Nat) (hN : N ≤ 20000) (w : World) : Calls Try.prog 8 #[.int .i64 N] w (Ret (SecNew w N)) := by
  have hmm := @run_makeMap Try.prog
  have HE := Lib.hid (extNew_ok N hN w)
  go_enter Try.func8, Try.ntmps8
  go_wp2_with (first
    | (go_at_call 25
       refine HE.out.mono ?_
       rintro e w1 ⟨v1, rfl, B, rfl, he, hge, c1⟩
       have H1 := Lib.hid (And.intro he (And.intro hge c1))
       have hs1 := c1.size
       clear he hge c1)
    | fail)
  go_ret2
  have c2 : Chg No w1 ((w1.alloc (.map #[] 0)).alloc (.cells #[.pointer (some ⟨B.r, 0, none⟩), .map (some w1.heap.size), .int .i64 0] 61)) := ((Chg.refl _ _).alloc _).alloc _
  have hr := Row.new (w1.alloc (.map #[] 0)) 61 #[.pointer (some ⟨B.r, 0, none⟩), .map (some w1.heap.size), .int .i64 0]
  rw [show (w1.alloc (.map #[] 0)).heap.size = w1.heap.size + 1 by simp] at hr
  have hm : IMap ((w1.alloc (.map #[] 0)).alloc (.cells #[.pointer (some ⟨B.r, 0, none⟩), .map (some w1.heap.size), .int .i64 0] 61)) w1.heap.size [] := (IMap.new w1).keep (F := No) ((Chg.refl _ _).alloc _) (fun f => f)
  have hlt := fun k (hk : B.has k) => H1.out.1.lt hk
  refine Ret.mk ⟨⟨w1.heap.size + 1, w1.heap.size, B⟩, rfl, ⟨[], hr, H1.out.1.keep c2 (fun _ _ f => f), hm, fun k => rfl, List.Pairwise.nil, (by simp), (by simp), by omega, ?_⟩, ?_, H1.out.2.2.trans c2⟩
  · have := hlt B.v (.inr (.inr (.inr (.inr (.inr rfl)))))
    dsimp only
    omega
  · rintro k (rfl | rfl | hk)
    · dsimp only; omega
    · dsimp only; omega
    · exact H1.out.2.1 k hk

set_option maxHeartbeats 400000 in
theorem secNew_bad (n : Int) (hN : n < 0 ∨ 20000 < n) (w : World) : Calls Try.prog 8 #[.int .i64 n] w fun e w' => e = .returned (.tuple #[.pointer none, .int .i64 2]) ∧ w = w' := by
  have HD := Lib.hid (extNew_bad n hN w)
  clear hN
  go_enter Try.func8, Try.ntmps8
  go_wp2_with (first
    | (go_at_call 25; refine HD.out.mono ?_; rintro e w1 ⟨rfl, rfl⟩)
    | fail)
  go_ret2
  exact ⟨rfl, rfl⟩

section
variable {w : World} {Q : SB} {N made : Nat} {L : List Rw}


set_option maxRecDepth 100000 in
set_option maxHeartbeats 1000000 in
theorem secMake_bad (s : Nat) (v : Value) (o : O) (S : Nat → Prop) (ho : ObjR w S v o) (hk : okB o = false) :
    Calls Try.prog 10 #[.pointer (some ⟨s, 0, none⟩), v] w fun e w' => e = .returned (.tuple #[.int .i64 0, .int .i64 2]) ∧ Chg No w w' := by
  obtain ⟨wv, bv, rfl, h1, h2, c64, k64⟩ := ho
  obtain ⟨A, ca, rfl, -⟩ := h1.form
  obtain ⟨Bb, cb, rfl, -⟩ := h2.form
  simp only [cells2]
  obtain ⟨W1, hW1⟩ : ∃ W, w.alloc (.cells #[.int .i64 o.cls, .int .i64 o.kind, .slice A o.W.length ca, .slice Bb o.B.length cb] 33) = W := ⟨_, rfl⟩
  have c1 : Chg No w W1 := by rw [← hW1]; exact (Chg.refl _ _).alloc _
  have r1 : Row W1 w.heap.size 33 #[.int .i64 o.cls, .int .i64 o.kind, .slice A o.W.length ca, .slice Bb o.B.length cb] := by rw [← hW1]; exact Row.new w _ _
  have HO := Lib.hid (show ObjR W1 S (.agg #[.int .i64 o.cls, .int .i64 o.kind, .slice A o.W.length ca, .slice Bb o.B.length cb]) o from ⟨_, _, rfl, h1.keep c1 (fun _ _ f => f), h2.keep c1 (fun _ _ f => f), c64, k64⟩)
  have z := r1.four
  have HW := Lib.hid hW1
  have HC := Lib.hid c1
  have HQ := Lib.hid (Encode_bad _ o S W1 HO.out hk)
  clear h1 h2 hW1 c1 r1 hk
  go_enter Try.func10, Try.ntmps10
  go_wp2_with (first
    | (rw [HW.out])
    | (go_at_call 28; refine HQ.out.mono ?_; rintro e w2 ⟨rfl, c2⟩; have H2 := Lib.hid (HC.out.trans c2); clear c2)
    | fail)
  go_ret2
  exact ⟨rfl, H2.out⟩


set_option maxRecDepth 100000 in
set_option maxHeartbeats 1000000 in
theorem secMake_max (H : SecS w Q N L made) (v : Value) (o : O) (S : Nat → Prop) (ho : ObjR w S v o) (hk : okB o = true) (hm : made = 1048576) :
    Calls Try.prog 10 #[.pointer (some ⟨Q.s, 0, none⟩), v] w fun e w' => e = .returned (.tuple #[.int .i64 0, .int .i64 3]) ∧ Chg No w w' := by
  obtain ⟨es, H⟩ := H
  have HB := Lib.hid (show ∀ z ∈ o.B, 0 ≤ z ∧ z ≤ 255 by obtain ⟨wv, bv, -, -, h2, -⟩ := ho; exact h2.2)
  obtain ⟨wv, bv, rfl, h1, h2, c64, k64⟩ := ho
  obtain ⟨A, ca, rfl, -⟩ := h1.form
  obtain ⟨Bb, cb, rfl, -⟩ := h2.form
  simp only [cells2]
  obtain ⟨W1, hW1⟩ : ∃ W, w.alloc (.cells #[.int .i64 o.cls, .int .i64 o.kind, .slice A o.W.length ca, .slice Bb o.B.length cb] 33) = W := ⟨_, rfl⟩
  have c1 : Chg No w W1 := by rw [← hW1]; exact (Chg.refl _ _).alloc _
  have r1 : Row W1 w.heap.size 33 #[.int .i64 o.cls, .int .i64 o.kind, .slice A o.W.length ca, .slice Bb o.B.length cb] := by rw [← hW1]; exact Row.new w _ _
  have HO := Lib.hid (show ObjR W1 S (.agg #[.int .i64 o.cls, .int .i64 o.kind, .slice A o.W.length ca, .slice Bb o.B.length cb]) o from ⟨_, _, rfl, h1.keep c1 (fun _ _ f => f), h2.keep c1 (fun _ _ f => f), c64, k64⟩)
  have z := r1.four
  have HW := Lib.hid hW1
  have HC := Lib.hid c1
  have HQ := Lib.hid (Encode_ok _ o S W1 HO.out hk)
  have HI := Lib.hid H
  have t1 : ((made : Int) == 1048576) = true := by rw [hm]; rfl
  clear h1 h2 hW1 c1 r1 hk H hm
  go_enter Try.func10, Try.ntmps10
  go_wp2_with (first
    | (rw [HW.out])
    | (go_at_call 28
       refine HQ.out.mono ?_
       rintro e w2 ⟨v2, rfl, u2, rfl, ho2, c2⟩
       obtain ⟨A2, d2, rfl⟩ := ho2.form
       have c12 := HC.out.trans c2
       have f0 : w2.cell? ⟨Q.s, 0, none⟩ = some (.pointer (some ⟨Q.B.r, 0, none⟩)) := (HI.out.row.keep c12 (fun f => f)).cell 0
       have f2 : w2.cell? ⟨Q.s, 2, none⟩ = some (.int .i64 made) := (HI.out.row.keep c12 (fun f => f)).cell 2
       have g2 : w2.frozen? ⟨Q.s, 2, none⟩ = false := (HI.out.row.keep c12 (fun f => f)).frozen 2
       have hb2 := ho2.bytes (encB_bd HB.out)
       have H2 := Lib.hid (And.intro hb2 (And.intro c12 (And.intro (HI.out.ext.keep c12 (fun _ _ f => f)) HC.out.size)))
       have hs2 := c12.size
       clear ho2 c2 c12 hb2)
    | fail)
  go_ret2
  exact ⟨rfl, H2.out.2.1⟩

set_option maxRecDepth 100000 in
set_option maxHeartbeats 1000000 in
theorem secMake_full (H : SecS w Q N L made) (v : Value) (o : O) (S : Nat → Prop) (ho : ObjR w S v o) (hk : okB o = true) (hm : made ≠ 1048576) (hp : placeX (L.map Rw.xt) N (secN (encB o).length) = none) :
    Calls Try.prog 10 #[.pointer (some ⟨Q.s, 0, none⟩), v] w fun e w' => e = .returned (.tuple #[.int .i64 0, .int .i64 3]) ∧ Chg No w w' := by
  obtain ⟨es, H⟩ := H
  have HB := Lib.hid (show ∀ z ∈ o.B, 0 ≤ z ∧ z ≤ 255 by obtain ⟨wv, bv, -, -, h2, -⟩ := ho; exact h2.2)
  obtain ⟨wv, bv, rfl, h1, h2, c64, k64⟩ := ho
  obtain ⟨A, ca, rfl, -⟩ := h1.form
  obtain ⟨Bb, cb, rfl, -⟩ := h2.form
  simp only [cells2]
  obtain ⟨W1, hW1⟩ : ∃ W, w.alloc (.cells #[.int .i64 o.cls, .int .i64 o.kind, .slice A o.W.length ca, .slice Bb o.B.length cb] 33) = W := ⟨_, rfl⟩
  have c1 : Chg No w W1 := by rw [← hW1]; exact (Chg.refl _ _).alloc _
  have r1 : Row W1 w.heap.size 33 #[.int .i64 o.cls, .int .i64 o.kind, .slice A o.W.length ca, .slice Bb o.B.length cb] := by rw [← hW1]; exact Row.new w _ _
  have HO := Lib.hid (show ObjR W1 S (.agg #[.int .i64 o.cls, .int .i64 o.kind, .slice A o.W.length ca, .slice Bb o.B.length cb]) o from ⟨_, _, rfl, h1.keep c1 (fun _ _ f => f), h2.keep c1 (fun _ _ f => f), c64, k64⟩)
  have z := r1.four
  have HW := Lib.hid hW1
  have HC := Lib.hid c1
  have HQ := Lib.hid (Encode_ok _ o S W1 HO.out hk)
  have HI := Lib.hid H
  have t1 : ((made : Int) == 1048576) = false := beq_eq_false_iff_ne.2 (by omega)
  have hle : (encB o).length ≤ 1000000 := by have := encB_len o; have := okB_cases hk; omega
  have HP := Lib.hid (And.intro hp hle)
  clear h1 h2 hW1 c1 r1 hk H hm hp hle
  go_enter Try.func10, Try.ntmps10
  go_wp2_with (first
    | (rw [HW.out])
    | (go_at_call 28
       refine HQ.out.mono ?_
       rintro e w2 ⟨v2, rfl, u2, rfl, ho2, c2⟩
       obtain ⟨A2, d2, rfl⟩ := ho2.form
       have c12 := HC.out.trans c2
       have f0 : w2.cell? ⟨Q.s, 0, none⟩ = some (.pointer (some ⟨Q.B.r, 0, none⟩)) := (HI.out.row.keep c12 (fun f => f)).cell 0
       have f2 : w2.cell? ⟨Q.s, 2, none⟩ = some (.int .i64 made) := (HI.out.row.keep c12 (fun f => f)).cell 2
       have g2 : w2.frozen? ⟨Q.s, 2, none⟩ = false := (HI.out.row.keep c12 (fun f => f)).frozen 2
       have hb2 := ho2.bytes (encB_bd HB.out)
       have H2 := Lib.hid (And.intro hb2 (And.intro c12 (And.intro (HI.out.ext.keep c12 (fun _ _ f => f)) HC.out.size)))
       have hs2 := c12.size
       clear ho2 c2 c12 hb2)
    | (go_at_call 29
       refine (Put_none H2.out.2.2.1 _ _ _ H2.out.1 HP.out.2 HP.out.1).mono ?_
       rintro e w3 ⟨rfl, c3⟩
       have H3 := Lib.hid (H2.out.2.1.trans c3)
       clear c3)
    | fail)
  go_ret2
  exact ⟨rfl, H3.out.alloc _⟩

/-- what Make gives -/
def Made1 (w : World) (Q : SB) (N : Nat) (L : List Rw) (made : Nat) (o : O) (f : Nat) (v : Value) (w' : World) : Prop := v = .tuple #[.int .i64 ((made + 1 : Nat) : Int), .int .i64 0] ∧ SecS w' Q N (L ++ [⟨((made + 1 : Nat) : Int), o, f⟩]) (made + 1) ∧ Chg Q.has w w'

set_option maxRecDepth 100000 in
set_option maxHeartbeats 1000000 in
theorem secMake_ok (H : SecS w Q N L made) (v : Value) (o : O) (S : Nat → Prop) (ho : ObjR w S v o) (hk : okB o = true) (hm : made ≠ 1048576) {f : Nat} (hp : placeX (L.map Rw.xt) N (secN (encB o).length) = some f) :
    Calls Try.prog 10 #[.pointer (some ⟨Q.s, 0, none⟩), v] w (Ret (Made1 w Q N L made o f)) := by
  have HLT := Lib.hid (fun k (hk : Q.has k) => H.lt hk)
  obtain ⟨es, H⟩ := H
  have HB := Lib.hid (show ∀ z ∈ o.B, 0 ≤ z ∧ z ≤ 255 by obtain ⟨wv, bv, -, -, h2, -⟩ := ho; exact h2.2)
  obtain ⟨wv, bv, rfl, h1, h2, c64, k64⟩ := ho
  obtain ⟨A, ca, rfl, -⟩ := h1.form
  obtain ⟨Bb, cb, rfl, -⟩ := h2.form
  simp only [cells2]
  obtain ⟨W1, hW1⟩ : ∃ W, w.alloc (.cells #[.int .i64 o.cls, .int .i64 o.kind, .slice A o.W.length ca, .slice Bb o.B.length cb] 33) = W := ⟨_, rfl⟩
  have c1 : Chg No w W1 := by rw [← hW1]; exact (Chg.refl _ _).alloc _
  have r1 : Row W1 w.heap.size 33 #[.int .i64 o.cls, .int .i64 o.kind, .slice A o.W.length ca, .slice Bb o.B.length cb] := by rw [← hW1]; exact Row.new w _ _
  have HO := Lib.hid (show ObjR W1 S (.agg #[.int .i64 o.cls, .int .i64 o.kind, .slice A o.W.length ca, .slice Bb o.B.length cb]) o from ⟨_, _, rfl, h1.keep c1 (fun _ _ f => f), h2.keep c1 (fun _ _ f => f), c64, k64⟩)
  have z := r1.four
  have HW := Lib.hid hW1
  have HC := Lib.hid c1
  have HQ := Lib.hid (Encode_ok _ o S W1 HO.out hk)
  have HI := Lib.hid H
  have HNE := Lib.hid H.ne
  have hmx := H.max
  have t1 : ((made : Int) == 1048576) = false := beq_eq_false_iff_ne.2 (by omega)
  have hle : 1 ≤ (encB o).length ∧ (encB o).length ≤ 1000000 := by have := encB_len o; have := okB_cases hk; omega
  have HP := Lib.hid (And.intro hp (And.intro hle hk))
  clear h1 h2 hW1 c1 r1 hk H hp hle
  go_enter Try.func10, Try.ntmps10
  go_wp2_with (first
    | (rw [HW.out])
    | (go_at_call 28
       refine HQ.out.mono ?_
       rintro e w2 ⟨v2, rfl, u2, rfl, ho2, c2⟩
       obtain ⟨A2, d2, rfl⟩ := ho2.form
       have c12 := HC.out.trans c2
       have f0 : w2.cell? ⟨Q.s, 0, none⟩ = some (.pointer (some ⟨Q.B.r, 0, none⟩)) := (HI.out.row.keep c12 (fun f => f)).cell 0
       have f2 : w2.cell? ⟨Q.s, 2, none⟩ = some (.int .i64 made) := (HI.out.row.keep c12 (fun f => f)).cell 2
       have g2 : w2.frozen? ⟨Q.s, 2, none⟩ = false := (HI.out.row.keep c12 (fun f => f)).frozen 2
       have hb2 := ho2.bytes (encB_bd HB.out)
       have H2 := Lib.hid (And.intro hb2 (And.intro c12 (And.intro (HI.out.ext.keep c12 (fun _ _ f => f)) HC.out.size)))
       have hs2 := c12.size
       clear ho2 c2 c12 hb2)
    | (go_at_call 29
       refine (Put_some H2.out.2.2.1 _ _ _ H2.out.1 (fun k hk hb => by have := HLT.out k (.inr (.inr hb)); have := H2.out.2.2.2; omega) HP.out.2.1.1 HP.out.2.1.2 HP.out.1).mono ?_
       rintro e w3 ⟨v3, rfl, rfl, he3, c3⟩
       have hr3 := (HI.out.row.keep H2.out.2.1 (fun f => f)).keep c3 HNE.out.2.1
       have x2 : w3.cell? ⟨Q.s, 2, none⟩ = some (.int .i64 made) := hr3.cell 2
       have xf := hr3.frozen 2
       have hsl := hr3.lt
       have H3 := Lib.hid (And.intro he3 (And.intro c3 hr3))
       clear he3 c3 hr3)
    | fail)
  generalize hV : World.alloc (World.setCell w3 _ _) _ = V1
  have hsz : (w3.setCell ⟨Q.s, 2, none⟩ (.int .i64 ((made : Int) + 1))).heap.size = w3.heap.size := by simp [World.setCell]
  have cV : Chg (fun k => k = Q.s) w3 V1 := by rw [← hV]; exact (Chg.setCell (F := fun k => k = Q.s) (Chg.refl _ _) (.inl rfl) _).alloc _
  have rowV : Row V1 Q.s 61 #[.pointer (some ⟨Q.B.r, 0, none⟩), .map (some Q.t), .int .i64 ((made : Int) + 1)] := by
    rw [← hV]
    exact (H3.out.2.2.set 2 (.int .i64 ((made : Int) + 1))).alloc _
  have rx : Row V1 w3.heap.size 67 #[.int .i64 f, .int .i64 (Xt.n ⟨f, encB o⟩), .int .i64 (encB o).length] := by
    rw [← hV]
    have := Row.new (w3.setCell ⟨Q.s, 2, none⟩ (.int .i64 ((made : Int) + 1))) 67 #[.int .i64 f, .int .i64 (Xt.n ⟨f, encB o⟩), .int .i64 (encB o).length]
    rw [hsz] at this
    exact this
  have htab := ((HI.out.tab.keep H2.out.2.1 (fun f => f)).keep H3.out.2.1 HNE.out.2.2).keep cV HNE.out.1.symm
  obtain ⟨ob, hob⟩ := htab.updates (P := Try.prog) elem_tab Try.underlying3 ((made : Int) + 1) (.agg #[.int .i64 f, .int .i64 (Xt.n ⟨f, encB o⟩), .int .i64 (encB o).length])
  obtain ⟨hrun, hmap⟩ := hob V1.drew rfl
  have c4 : Chg (fun k => k = Q.t) V1 (setBlock V1.drew Q.t ob) := Chg.setBlock (F := fun k => k = Q.t) (Chg.refl _ _).drew (.inl rfl) _
  generalize setBlock V1.drew Q.t ob = W4 at *
  have rowW := rowV.keep c4 HNE.out.1
  have p1 : V1.cell? ⟨Q.s, 1, none⟩ = some (.map (some Q.t)) := rowV.cell 1
  have p2 : V1.cell? ⟨Q.s, 2, none⟩ = some (.int .i64 ((made : Int) + 1)) := rowV.cell 2
  have q2 : W4.cell? ⟨Q.s, 2, none⟩ = some (.int .i64 ((made : Int) + 1)) := rowW.cell 2
  obtain ⟨x0, x1, x3, -⟩ := IExt.cells rx
  have hext := (H3.out.1.keep cV (fun k hk e => HNE.out.2.1 (by rw [← e]; exact hk))).keep c4 (fun k hk e => HNE.out.2.2 (by rw [← e]; exact hk))
  have hch : Chg Q.has w W4 := ((H2.out.2.1.no.trans (H3.out.2.1.mono fun k _ h => .inr (.inr h))).trans (cV.mono fun k _ h => .inl h)).trans (c4.mono fun k _ h => .inr (.inl h))
  have HF := Lib.hid (And.intro hext (And.intro hch (And.intro rowW hmap)))
  clear hV hsz cV rowV rx htab hob c4 rowW hext hch hmap f0 f2 g2 x2 xf
  go_region
  go_wp2_with fail
  go_ret2
  obtain ⟨hext, hch, rowW, hmap⟩ := HF.out
  have e1 : ((made + 1 : Nat) : Int) = (made : Int) + 1 := by omega
  have hlt : ∀ r ∈ L, r.id < (⟨((made + 1 : Nat) : Int), o, f⟩ : Rw).id := fun r hr => by have := HI.out.ids r hr; show r.id < ((made + 1 : Nat) : Int); omega
  refine Ret.mk ⟨by rw [e1]; rfl, ⟨_, ?_, ?_, hmap, fun k => ?_, ?_, fun r hr => ?_, fun r hr => ?_, by omega, HI.out.tv⟩, hch⟩
  · rw [e1]; exact rowW
  · rw [List.map_append]
    exact hext.perm (List.perm_append_comm (l₁ := [(⟨f, encB o⟩ : Xt)]) (l₂ := L.map Rw.xt))
  · rw [mget_mset, HI.out.get, lk_last hlt]
    show (if (k == (made : Int) + 1) = true then _ else _) = Option.map _ (if k = ((made + 1 : Nat) : Int) then _ else _)
    by_cases e : k = (made : Int) + 1
    · rw [if_pos (by simpa using e), if_pos (by omega)]
      rfl
    · rw [if_neg (by simpa using e), if_neg (by omega)]
  · rw [Rising, List.pairwise_append]
    exact ⟨HI.out.rise, List.pairwise_singleton _ _, fun a ha b hb => by rw [List.mem_singleton] at hb; rw [hb]; exact hlt a ha⟩
  · rw [List.mem_append, List.mem_singleton] at hr
    rcases hr with hr | rfl
    · have := HI.out.ids r hr; omega
    · dsimp only; omega
  · rw [List.mem_append, List.mem_singleton] at hr
    rcases hr with hr | rfl
    · exact HI.out.ok r hr
    · exact ⟨HP.out.2.2, HB.out⟩
end

end Go.Proofs.Ytdpmmafkomchaaa
