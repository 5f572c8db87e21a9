/- Objects on a disk: second.Space: at, Has, Made, Used, New, Fetch. -/
import Derived.Test.YtdpmmafkomchaaaSecO
namespace Go.Proofs.Ytdpmmafkomchaaa
set_option linter.unusedVariables false
set_option linter.unusedSimpArgs false
open Go.RowKit
open Go.ChangeMaps (setBlock)


theorem elem_tab : Try.prog.underlying 59 = some (.map 3 67) := Try.underlying59
theorem zero_ex (w : World) : (zeroValue 67).run Try.prog w = .ok (.agg #[.int .i64 0, .int .i64 0, .int .i64 0]) w := by kernel_rfl

section
variable {w : World} {Q : SB} {N made : Nat} {L : List Rw}

set_option maxRecDepth 100000 in
set_option maxHeartbeats 1000000 in
theorem secAt_some (H : SecS w Q N L made) {k : Int} {r : Rw} (hr : lk L k = some r) :
    Calls Try.prog 31 #[.pointer (some ⟨Q.s, 0, none⟩), .int .i64 k] w fun e w' => e = .returned (.tuple #[.agg #[.int .i64 r.xt.f, .int .i64 r.xt.n, .int .i64 r.xt.b.length], .int .i64 0]) ∧ Chg No w w' := by
  obtain ⟨es, H⟩ := H
  obtain ⟨W1, hW1⟩ : ∃ W, w.alloc (.cells #[.int .i64 0, .int .i64 0, .int .i64 0] 67) = W := ⟨_, rfl⟩
  have c1 : Chg No w W1 := by rw [← hW1]; exact (Chg.refl _ _).alloc _
  have ry : Row W1 w.heap.size 67 #[.int .i64 0, .int .i64 0, .int .i64 0] := by rw [← hW1]; exact Row.new w _ _
  have hl := (H.tab.keep c1 (fun f => f)).lookupOk (P := Try.prog) elem_tab Try.underlying3 zero_ex k
  rw [H.get, hr] at hl
  simp only [Option.map_some, Option.getD_some, Option.isSome_some, exV] at hl
  have f1 : W1.cell? ⟨Q.s, 1, none⟩ = some (.map (some Q.t)) := (H.row.keep c1 (fun f => f)).cell 1
  obtain ⟨W2, hW2⟩ : ∃ W, W1.alloc (.cells #[.int .i64 r.xt.f, .int .i64 r.xt.n, .int .i64 r.xt.b.length] 67) = W := ⟨_, rfl⟩
  have c2 : Chg No W1 W2 := by rw [← hW2]; exact (Chg.refl _ _).alloc _
  have y := IExt.cells (ry.keep c2 (fun f => f))
  have x := IExt.cells (show Row W2 W1.heap.size 67 #[.int .i64 r.xt.f, .int .i64 r.xt.n, .int .i64 r.xt.b.length] by rw [← hW2]; exact Row.new W1 _ _)
  have HW := Lib.hid hW1
  have HW2 := Lib.hid hW2
  have HC := Lib.hid (c1.trans c2)
  clear H hW1 hW2 c1 c2 ry hr
  go_enter Try.func31, Try.ntmps31
  go_wp2_with (first
    | (rw [HW.out])
    | (rw [HW2.out])
    | fail)
  have cF : ∀ U, Chg (fun k => k = w.heap.size) W2 U → Chg No w U := fun U hU => HC.out.then hU (fun k hk h => by omega)
  refine bodyPost_ret (v := .tuple #[.agg #[.int .i64 r.xt.f, .int .i64 r.xt.n, .int .i64 r.xt.b.length], .int .i64 0]) (by simp [results, Try.results31, go_sem, y]) rfl ⟨rfl, cF _ ?_⟩
  repeat (with_reducible first | exact Chg.refl _ _ | refine Chg.setCell ?_ (.inl (by simp)) _)

set_option maxRecDepth 100000 in
set_option maxHeartbeats 1000000 in
theorem secAt_none (H : SecS w Q N L made) {k : Int} (hr : lk L k = none) :
    Calls Try.prog 31 #[.pointer (some ⟨Q.s, 0, none⟩), .int .i64 k] w fun e w' => e = .returned (.tuple #[.agg #[.int .i64 0, .int .i64 0, .int .i64 0], .int .i64 4]) ∧ Chg No w w' := by
  obtain ⟨es, H⟩ := H
  obtain ⟨W1, hW1⟩ : ∃ W, w.alloc (.cells #[.int .i64 0, .int .i64 0, .int .i64 0] 67) = W := ⟨_, rfl⟩
  have c1 : Chg No w W1 := by rw [← hW1]; exact (Chg.refl _ _).alloc _
  have ry : Row W1 w.heap.size 67 #[.int .i64 0, .int .i64 0, .int .i64 0] := by rw [← hW1]; exact Row.new w _ _
  have hl := (H.tab.keep c1 (fun f => f)).lookupOk (P := Try.prog) elem_tab Try.underlying3 zero_ex k
  rw [H.get, hr] at hl
  simp only [Option.map_none, Option.getD_none, Option.isSome_none] at hl
  have f1 : W1.cell? ⟨Q.s, 1, none⟩ = some (.map (some Q.t)) := (H.row.keep c1 (fun f => f)).cell 1
  have y := IExt.cells ry
  have hs := ry.lt
  have HW := Lib.hid hW1
  have HC := Lib.hid c1
  clear H hW1 c1 ry hr
  go_enter Try.func31, Try.ntmps31
  go_wp2_with (first
    | (rw [HW.out])
    | fail)
  have cF : ∀ U, Chg (fun k => k = w.heap.size) W1 U → Chg No w U := fun U hU => HC.out.then hU (fun k hk h => by omega)
  refine bodyPost_ret (v := .tuple #[.agg #[.int .i64 0, .int .i64 0, .int .i64 0], .int .i64 4]) (by simp [results, Try.results31, go_sem, y, hs]) rfl ⟨rfl, cF _ ?_⟩
  repeat (with_reducible first | exact Chg.refl _ _ | refine Chg.setCell ?_ (.inl (by simp)) _ | refine Chg.alloc ?_ _)

set_option maxRecDepth 100000 in
set_option maxHeartbeats 400000 in
theorem secHas_any (H : SecS w Q N L made) (k : Int) : Calls Try.prog 14 #[.pointer (some ⟨Q.s, 0, none⟩), .int .i64 k] w fun e w' => e = .returned (.bool (lk L k).isSome) ∧ Chg No w w' := by
  cases hr : lk L k with
  | none =>
    have HQ := Lib.hid (secAt_none H hr)
    clear H hr
    go_enter Try.func14, Try.ntmps14
    go_wp2_with (first
      | (go_at_call 31; refine HQ.out.mono ?_; rintro e w1 ⟨rfl, c1⟩; have H1 := Lib.hid c1; clear c1)
      | fail)
    go_ret
    refine ⟨rfl, Chg.then (F := No) (G := fun k => w1.heap.size ≤ k) H1.out ?_ (fun k hk h => by have := H1.out.size; omega)⟩
    repeat (with_reducible first | exact Chg.refl _ _ | refine Chg.setCell ?_ (.inr (by simp)) _ | refine Chg.alloc ?_ _)
  | some r =>
    have HQ := Lib.hid (secAt_some H hr)
    clear H hr
    go_enter Try.func14, Try.ntmps14
    go_wp2_with (first
      | (go_at_call 31; refine HQ.out.mono ?_; rintro e w1 ⟨rfl, c1⟩; have H1 := Lib.hid c1; clear c1)
      | fail)
    go_ret
    refine ⟨rfl, Chg.then (F := No) (G := fun k => w1.heap.size ≤ k) H1.out ?_ (fun k hk h => by have := H1.out.size; omega)⟩
    repeat (with_reducible first | exact Chg.refl _ _ | refine Chg.setCell ?_ (.inr (by simp)) _ | refine Chg.alloc ?_ _)

set_option maxHeartbeats 400000 in
theorem secMade_any (H : SecS w Q N L made) : Calls Try.prog 12 #[.pointer (some ⟨Q.s, 0, none⟩)] w fun e w' => e = .returned (.int .i64 made) ∧ w = w' := by
  obtain ⟨es, H⟩ := H
  have f2 : w.cell? ⟨Q.s, 2, none⟩ = some (.int .i64 made) := H.row.cell 2
  clear H
  go_enter Try.func12, Try.ntmps12
  go_wp2_with fail
  go_ret
  exact ⟨rfl, rfl⟩

/-- how many sectors are taken -/
def usedL (L : List Rw) : Nat := (L.map fun r => r.xt.n).sum

set_option maxHeartbeats 400000 in
theorem secUsed_any (H : SecS w Q N L made) : Calls Try.prog 13 #[.pointer (some ⟨Q.s, 0, none⟩)] w fun e w' => e = .returned (.int .i64 (usedL L)) ∧ w = w' := by
  obtain ⟨es, H⟩ := H
  have f0 : w.cell? ⟨Q.s, 0, none⟩ = some (.pointer (some ⟨Q.B.r, 0, none⟩)) := H.row.cell 0
  have hq := extUsed_any H.ext
  rw [List.map_map] at hq
  have HQ := Lib.hid (show Calls Try.prog 30 #[.pointer (some ⟨Q.B.r, 0, none⟩)] w fun e w' => e = .returned (.int .i64 (usedL L)) ∧ w = w' from hq)
  generalize usedL L = u at *
  clear H hq
  go_enter Try.func13, Try.ntmps13
  go_wp2_with (first
    | (go_at_call 30; refine HQ.out.mono ?_; rintro e w' ⟨rfl, rfl⟩)
    | fail)
  go_ret
  exact ⟨rfl, rfl⟩

/-- an object, in memory of the call's own -/
def Fetched (w : World) (Q : SB) (N : Nat) (L : List Rw) (made : Nat) (o : O) (x : Int) (v : Value) (w' : World) : Prop := ∃ u, v = .tuple #[u, .int .i64 x] ∧ ObjR w' (fun b => w.heap.size ≤ b) u o ∧ SecS w' Q N L made ∧ Chg (fun k => k = Q.B.d) w w'

set_option maxRecDepth 100000 in
set_option maxHeartbeats 1000000 in
theorem secFetch_none (H : SecS w Q N L made) {k : Int} (hr : lk L k = none) :
    Calls Try.prog 17 #[.pointer (some ⟨Q.s, 0, none⟩), .int .i64 k] w (Ret (Fetched w Q N L made O.zero 4)) := by
  obtain ⟨W1, hW1⟩ : ∃ W, w.alloc (.cells #[.int .i64 0, .int .i64 0, .slice none 0 0, .slice none 0 0] 33) = W := ⟨_, rfl⟩
  have c1 : Chg No w W1 := by rw [← hW1]; exact (Chg.refl _ _).alloc _
  have ry : Row W1 w.heap.size 33 #[.int .i64 0, .int .i64 0, .slice none 0 0, .slice none 0 0] := by rw [← hW1]; exact Row.new w _ _
  have HQ := Lib.hid (secAt_none (H.keep c1 (fun _ _ f => f)) hr)
  have HW := Lib.hid hW1
  have H1 := Lib.hid (And.intro H (And.intro c1 ry))
  clear H hr hW1 c1 ry
  go_enter Try.func17, Try.ntmps17
  go_wp2_with (first
    | (rw [HW.out])
    | (go_at_call 31
       refine HQ.out.mono ?_
       rintro e w2 ⟨rfl, c2⟩
       have y := (H1.out.2.2.keep c2 (fun f => f)).four
       have hs := (H1.out.2.2.keep c2 (fun f => f)).lt
       have H3 := Lib.hid (H1.out.2.1.trans c2)
       clear c2)
    | fail)
  have cF : ∀ U, Chg (fun k => k = w.heap.size) w2 U → SecS U Q N L made ∧ Chg No w U := fun U hU => ⟨(H1.out.1.keep H3.out (fun _ _ f => f)).keep hU (fun k hk e => by have := H1.out.1.lt hk; omega), H3.out.then hU (fun k hk h => by omega)⟩
  refine bodyPost_ret (v := .tuple #[.agg #[.int .i64 0, .int .i64 0, .slice none 0 0, .slice none 0 0], .int .i64 4]) (by simp [results, Try.results17, go_sem, y, hs]) rfl (Ret.mk ⟨_, rfl, ObjR.zero _ _, (cF _ ?_).1, (cF _ ?_).2.no⟩)
  · repeat (with_reducible first | exact Chg.refl _ _ | refine Chg.setCell ?_ (.inl (by simp)) _ | refine Chg.alloc ?_ _)
  · repeat (with_reducible first | exact Chg.refl _ _ | refine Chg.setCell ?_ (.inl (by simp)) _ | refine Chg.alloc ?_ _)

set_option maxRecDepth 100000 in
set_option maxHeartbeats 1000000 in
theorem secFetch_some (H : SecS w Q N L made) {k : Int} {r : Rw} (hr : lk L k = some r) :
    Calls Try.prog 17 #[.pointer (some ⟨Q.s, 0, none⟩), .int .i64 k] w (Ret (Fetched w Q N L made r.o 0)) := by
  obtain ⟨W1, hW1⟩ : ∃ W, w.alloc (.cells #[.int .i64 0, .int .i64 0, .slice none 0 0, .slice none 0 0] 33) = W := ⟨_, rfl⟩
  have c1 : Chg No w W1 := by rw [← hW1]; exact (Chg.refl _ _).alloc _
  have ry : Row W1 w.heap.size 33 #[.int .i64 0, .int .i64 0, .slice none 0 0, .slice none 0 0] := by rw [← hW1]; exact Row.new w _ _
  have HQ := Lib.hid (secAt_some (H.keep c1 (fun _ _ f => f)) hr)
  have HLT := Lib.hid (fun k (hk : Q.has k) => H.lt hk)
  obtain ⟨es, H⟩ := H
  have hrm := lk_mem hr
  have hok := H.ok r hrm.1
  have hle := encB_len r.o
  have hsz := okB_cases hok.1
  have hl1 : 1 ≤ r.xt.b.length := by show 1 ≤ (encB r.o).length; omega
  have hl2 : r.xt.b.length ≤ 1000000 := by show (encB r.o).length ≤ 1000000; omega
  have HG := fun v (c : Chg No w v) => Get_ok (H.ext.keep c (fun _ _ f => f)) r.xt (List.mem_map.2 ⟨r, hrm.1, rfl⟩) hl1 hl2
  have hde := dec_enc hok.1
  have HD := Lib.hid (And.intro HG (And.intro hde (show (encB r.o).length ≤ 1000000 from hl2)))
  have HNE := Lib.hid H.ne
  have HW := Lib.hid hW1
  have H1 := Lib.hid (And.intro H (And.intro c1 ry))
  generalize hxf : r.xt.f = xf at *
  generalize hxn : r.xt.n = xn at *
  generalize hxl : r.xt.b.length = xl at *
  have HX := Lib.hid (And.intro hxf (And.intro hxn hxl))
  clear H hr hW1 c1 ry HG hok hle hsz hl1 hl2 hde hrm hxf hxn hxl
  go_enter Try.func17, Try.ntmps17
  go_wp2_with (first
    | (rw [HW.out])
    | (go_at_call 31
       refine HQ.out.mono ?_
       rintro e w2 ⟨rfl, c2⟩
       obtain ⟨W3, hW3⟩ : ∃ W, w2.alloc (.cells #[.int .i64 xf, .int .i64 xn, .int .i64 xl] 67) = W := ⟨_, rfl⟩
       have c3 : Chg No w2 W3 := by rw [← hW3]; exact (Chg.refl _ _).alloc _
       have rx : Row W3 w2.heap.size 67 #[.int .i64 xf, .int .i64 xn, .int .i64 xl] := by rw [← hW3]; exact Row.new _ _ _
       have c13 := H1.out.2.1.trans (c2.trans c3)
       have fr : ∀ v, Chg No W3 v → v.cell? ⟨Q.s, 0, none⟩ = some (.pointer (some ⟨Q.B.r, 0, none⟩)) := fun v hv => (H1.out.1.row.keep (c13.trans hv) (fun f => f)).cell 0
       have g0 : ∀ v, Chg No W3 v → v.cell? ⟨w2.heap.size, 0, none⟩ = some (.int .i64 xf) := fun v hv => (rx.keep hv (fun f => f)).cell 0
       have g1 : ∀ v, Chg No W3 v → v.cell? ⟨w2.heap.size, 1, none⟩ = some (.int .i64 xn) := fun v hv => (rx.keep hv (fun f => f)).cell 1
       have g2 : ∀ v, Chg No W3 v → v.cell? ⟨w2.heap.size, 2, none⟩ = some (.int .i64 xl) := fun v hv => (rx.keep hv (fun f => f)).cell 2
       have H3 := Lib.hid (And.intro c13 ((H1.out.2.2.keep c2 (fun f => f)).keep c3 (fun f => f)))
       have HW3 := Lib.hid hW3
       clear c2 c3 c13 hW3 rx)
    | (rw [HW3.out])
    | fail)
  refine rem_start (by kernel_rfl) (by kernel_rfl) ?_
  refine rem_quiet 5 (C := (Chg No W3)) (by kernel_rfl) (by simp only [List.toList_toArray, List.drop_succ_cons, List.drop_zero, List.take_succ_cons, List.take_zero, Nat.reduceSub, Nat.reduceAdd]; rfl) ?_ ?_
  · exact (Chg.refl _ _).drew
  repeat
    refine q_step (fun K hK => ?_)
    go_simp
    first
      | ((with_reducible refine hK _ ?_); clear hK K)
      | (refine (if_neg (by simp [undef])).mpr ?_; (with_reducible refine hK _ ?_); clear hK K)
      | (apply Exists.intro
         with_reducible refine ⟨fun v hv => ?_, hK _ ?_⟩
         · first
             | with_reducible exact rfl
             | with_reducible exact ⟨rfl, rfl⟩
             | (go_simp
                first
                  | done
                  | with_reducible exact rfl
                  | with_reducible exact ⟨rfl, rfl⟩
                  | fail)
         clear hK K)
  refine q_nil ?_
  intro V hV
  have hq := HD.out.1 V (H3.out.1.trans hV)
  have HQ2 := Lib.hid hq
  clear hq
  refine rem_one (by kernel_rfl) (by kernel_rfl) rfl (by kernel_rfl) (fun K hK => ?_)
  go_wp2_with (first
    | (go_at_call 35
       refine HQ2.out.mono ?_
       rintro e w4 ⟨v4, rfl, u4, rfl, hb4, he4, c4⟩
       obtain ⟨A4, d4, rfl, -⟩ := hb4.form
       have H4 := Lib.hid (And.intro hb4 (And.intro he4 (And.intro ((H3.out.1.trans hV).no.trans c4) (H3.out.2.keep (hV.no.trans c4) (fun e => by have := HLT.out Q.B.d (.inr (.inr (.inr (.inl rfl)))); omega)))))
       clear hb4 he4 c4 hV)
    | fail)
  refine rem_quiet 11 (C := (fun v => v = w4)) (by kernel_rfl) (by simp only [List.toList_toArray, List.drop_succ_cons, List.drop_zero, List.take_succ_cons, List.take_zero, Nat.reduceSub, Nat.reduceAdd]; rfl) ?_ ?_
  · rfl
  repeat
    refine q_step (fun K hK => ?_)
    go_simp
    first
      | ((with_reducible refine hK _ ?_); clear hK K)
      | (refine (if_neg (by simp [undef])).mpr ?_; (with_reducible refine hK _ ?_); clear hK K)
      | (apply Exists.intro
         with_reducible refine ⟨fun v hv => ?_, hK _ ?_⟩
         · first
             | with_reducible exact rfl
             | with_reducible exact ⟨rfl, rfl⟩
             | (go_simp
                first
                  | done
                  | with_reducible exact rfl
                  | with_reducible exact ⟨rfl, rfl⟩
                  | fail)
         clear hK K)
  refine q_nil ?_
  intro V4 hV4
  subst V4
  refine rem_end (by kernel_rfl) ?_
  clear fr g0 g1 g2
  go_wp2_with (first
    | (go_at_call 36
       refine (Decode_any _ _ _ _ H4.out.1 (by have := HD.out.2.2; show (encB r.o).length ≤ _; omega)).mono ?_
       rw [show r.xt.b = encB r.o from rfl, HD.out.2.1.1, HD.out.2.1.2]
       rintro e w5 ⟨v5, rfl, u5, rfl, ho5, c5⟩
       obtain ⟨wv5, bv5, rfl, hI5, hB5, i5, k5⟩ := ho5
       obtain ⟨A5, d5, rfl, -⟩ := hI5.form
       obtain ⟨A6, d6, rfl, -⟩ := hB5.form
       have y := (H4.out.2.2.2.keep c5 (fun f => f)).four
       have H5 := Lib.hid (And.intro hI5 (And.intro hB5 (And.intro i5 (And.intro k5 c5))))
       simp only [cells2]
       clear hI5 hB5 i5 k5 c5)
    | fail)
  have cF : ∀ U, Chg (fun k => k = w.heap.size) w5 U → ObjR U (fun b => w.heap.size ≤ b) (.agg (cells2 r.o (.slice A5 r.o.W.length d5) (.slice A6 r.o.B.length d6))) r.o ∧ SecS U Q N L made ∧ Chg (fun k => k = Q.B.d) w U := fun U hU => by
    obtain ⟨hI5, hB5, i5, k5, c5⟩ := H5.out
    obtain ⟨hb4, he4, c4, -⟩ := H4.out
    have hb := HLT.out
    have hne := HNE.out
    have hS := H1.out.1
    have s4 : SecS w4 Q N L made := by
      have h0 := hS.row.keep c4 (fun e => hne.2.1 (e ▸ .inr (.inl rfl)))
      exact ⟨es, h0, he4, hS.tab.keep c4 (fun e => hne.2.2 (e ▸ .inr (.inl rfl))), hS.get, hS.rise, hS.ids, hS.ok, hS.max, hS.tv⟩
    refine ⟨⟨_, _, rfl, (hI5.keep hU (fun b hb e => ?_)).more (fun b _ hb => ?_), (hB5.keep hU (fun b hb e => ?_)).more (fun b _ hb => ?_), i5, k5⟩, (s4.keep c5 (fun _ _ f => f)).keep hU (fun k hk e => by have := hb k hk; omega), (c4.trans c5.no).then hU (fun k hk e => by omega)⟩
    · have := c4.size; have := H1.out.2.2.lt; have := H1.out.2.1.size; have := H3.out.1.size; have := H3.out.2.lt; have := H4.out.2.2.2.lt; omega
    · have := c4.size; omega
    · have := c4.size; have := H4.out.2.2.2.lt; omega
    · have := c4.size; omega
  refine bodyPost_ret (v := .tuple #[.agg #[.int .i64 r.o.cls, .int .i64 r.o.kind, .slice A5 r.o.W.length d5, .slice A6 r.o.B.length d6], .int .i64 0]) (by simp [results, Try.results17, go_sem, y]) rfl (Ret.mk ⟨_, rfl, (cF _ ?_).1, (cF _ ?_).2.1, (cF _ ?_).2.2⟩)
  · repeat (with_reducible first | exact Chg.refl _ _ | refine Chg.setCell ?_ (.inl (by simp)) _)
  · repeat (with_reducible first | exact Chg.refl _ _ | refine Chg.setCell ?_ (.inl (by simp)) _)
  · repeat (with_reducible first | exact Chg.refl _ _ | refine Chg.setCell ?_ (.inl (by simp)) _)
end

end Go.Proofs.Ytdpmmafkomchaaa
