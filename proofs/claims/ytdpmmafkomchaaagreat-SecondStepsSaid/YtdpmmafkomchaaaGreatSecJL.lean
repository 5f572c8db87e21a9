/- Rows of bytes in runs of sectors: extent.Space: Get, New, Used. · Rows of bytes in runs of sectors: extent.Space: Set. · Rows of bytes in runs of sectors: extent.Space: Set, to another place. -/
import Derived.Test.YtdpmmafkomchaaaGreatSecGI
namespace Go.Proofs.YtdpmmafkomchaaaGreat
set_option linter.unusedVariables false
set_option linter.unusedSimpArgs false
open Go.RowKit
open Go.ChangeMaps (setBlock)


/-- cut to its own length -/
theorem ByteS.cap {w : World} {S : Nat → Prop} {A : Option Addr} {n c : Nat} {l : List Int} (h : ByteS w S (.slice A n c) l) (k : Nat) (hk : k ≤ l.length) (hA : A ≠ Option.none) : ByteS w S (.slice A k k) (l.take k) := by
  obtain ⟨⟨A', c', e, e1, e2, e3, e4, e5⟩, h2⟩ := h
  obtain ⟨rfl, rfl, rfl⟩ := Value.slice.inj e
  have hl : (l.take k).length = k := by rw [List.length_take]; omega
  refine ⟨⟨A, k, by rw [hl], by rw [List.length_map, hl, Nat.mul_one], by rw [hl]; exact Nat.le_refl _, by omega, fun h => absurd h hA, fun h0 => ?_⟩, fun x hx => h2 x (List.mem_of_mem_take hx)⟩
  rw [hl] at h0
  obtain ⟨b, off, e6, e7, e8, e9⟩ := e5 (by omega)
  refine ⟨b, off, e6, e7, e8, fun i u hu => e9 i u ?_⟩
  rw [List.getElem?_map] at hu ⊢
  by_cases hi : i < k
  · rw [List.getElem?_take, if_pos hi] at hu
    exact hu
  · rw [List.getElem?_eq_none (by rw [hl]; omega)] at hu
    cases hu

/-- bytes in memory of the call's own, and a number -/
def Got (w : World) (B : Blk) (N : Nat) (X : List Xt) (l : List Int) (v : Value) (w' : World) : Prop := ∃ u, v = .tuple #[u, .int .i64 0] ∧ ByteS w' (fun b => w.heap.size ≤ b) u l ∧ ExtS w' B N X ∧ Chg (fun k => k = B.d) w w'

set_option maxRecDepth 100000 in
set_option maxHeartbeats 1000000 in
theorem Get_ok {w : World} {B : Blk} {N : Nat} {X : List Xt} (H : ExtS w B N X) (x : Xt) (hx : x ∈ X) (hl1 : 1 ≤ x.b.length) (hl2 : x.b.length ≤ 1000000) :
    Calls Tryz.prog 33 #[.pointer (some ⟨B.r, 0, none⟩), .agg #[.int .i64 x.f, .int .i64 x.n, .int .i64 x.b.length]] w (Ret (Got w B N X x.b)) := by
  obtain ⟨D, ws, E, H, V⟩ := H
  obtain ⟨f, l⟩ := x
  have hn : Xt.n ⟨f, l⟩ = secN l.length := rfl
  have hfit : f + secN l.length ≤ N := V.fits _ hx
  have hlive : gget ((f : Int), (secN l.length : Int), (l.length : Int)) E = some (.bool true) := V.live _ hx
  have hdata : ∀ j, j < l.length → D[f * 64 + j]? = l[j]? := V.data _ hx
  rw [hn]
  dsimp only at hl1 hl2 ⊢
  have hrd := readD_take H.disk.len hfit (by unfold secN; omega) hdata
  have hmax := H.disk.max
  obtain ⟨W1, hW1⟩ : ∃ W, w.alloc (.cells #[.int .i64 f, .int .i64 (secN l.length), .int .i64 l.length] 47) = W := ⟨_, rfl⟩
  have c1 : Chg No w W1 := by rw [← hW1]; exact (Chg.refl _ _).alloc _
  have hs1 : W1.heap.size = w.heap.size + 1 := by rw [← hW1]; simp
  have rx : Row W1 w.heap.size 47 #[.int .i64 f, .int .i64 (secN l.length), .int .i64 l.length] := by rw [← hW1]; exact Row.new w _ _
  have HL := Lib.hid (lives_ok (H.keep c1 (fun _ _ f => f)) _ hlive)
  have HLT := Lib.hid (fun k (hk : B.has k) => H.lt hk)
  have HNE := Lib.hid H.ne
  have HW := Lib.hid hW1
  have H1 := Lib.hid (And.intro H (And.intro V (And.intro c1 rx)))
  obtain ⟨y0, y1, y2, yf⟩ := IExt.cells rx
  generalize hm : l.length = m at *
  generalize hsn : secN m = n at *
  have HM := Lib.hid hm
  have HRD := Lib.hid hrd
  have hnm : m ≤ n * 64 ∧ 1 ≤ n := by rw [← hsn]; unfold secN; omega
  clear hW1 c1 H V rx yf hm hrd hsn hlive hdata hn hx
  go_enter Tryz.func33, Tryz.ntmps33
  go_wp2_with (first
    | (rw [HW.out])
    | (go_at_call 65
       refine HL.out.mono ?_
       rintro e w2 ⟨rfl, c2⟩
       obtain ⟨z0, z1, z2, zf⟩ := IExt.cells (H1.out.2.2.2.keep c2 (fun f => f))
       have hs2 := c2.size
       have H2 := Lib.hid (H1.out.2.2.1.trans c2)
       have R2 := Lib.hid (H1.out.2.2.2.keep c2 (fun f => f))
       clear c2)
    | fail)
  go_loopg [7, 19] n (fun j v7 v19 wr => ∃ i : Nat, v19 = .int .i64 (i : Int) ∧ i ≤ n ∧ n - i ≤ j ∧ OwnB wr w2.heap.size v7 (readD D f i) ∧ DiskI wr B.d B.g N D ∧ Chg (fun k => k = B.d) w2 wr)
  case atStart => exact ⟨0, rfl, by omega, by omega, OwnB.nil _ _, (H1.out.1.disk.keep H2.out (fun f => f) (fun f => f)), Chg.refl _ _⟩
  case round =>
    clear y0 y1 y2 z0 z1 z2 zf
    obtain ⟨i, rfl, i1, i2, own, hd, cw⟩ := hrel
    have hbx : ∀ k, w.heap.size ≤ k → ¬ (k = B.d) := fun k hk h => by
      have h2 := HLT.out B.d (.inr (.inl rfl))
      omega
    have hrow := R2.out.keep cw (hbx _ (Nat.le_refl _))
    by_cases hi : i < n
    · have e4 : IntKind.i64.wrap ((f : Int) + (i : Int)) = (f : Int) + (i : Int) := IntWalk.i64_in _ (by omega)
      have t1 : decide ((i : Int) < (n : Int)) = true := decide_eq_true (by omega)
      have fr : ∀ v, Chg No wr v → v.cell? ⟨B.r, 0, none⟩ = some (.pointer (some ⟨B.d, 0, none⟩)) := fun v hv => (((H1.out.1.row.keep H2.out (fun f => f)).keep cw HNE.out.1.1).keep hv (fun f => f)).cell 0
      have fx : ∀ v, Chg No wr v → v.cell? ⟨w.heap.size, 0, none⟩ = some (.int .i64 f) := fun v hv => (hrow.keep hv (fun f => f)).cell 0
      obtain ⟨A7, c7, rfl⟩ := own.form
      have hlen := readD_len hd.len (show f + i ≤ N by omega)
      rw [hlen]
      have HD := Lib.hid (And.intro hd (And.intro own cw))
      have hsz := cw.size
      have HLN := Lib.hid hlen
      clear hrow hd own cw hlen
      go_wp2_with fail
      refine rem_start (by kernel_rfl) (by kernel_rfl) ?_
      refine rem_quiet 8 (C := (Chg No wr)) (by kernel_rfl) (by simp only [List.toList_toArray, List.drop_succ_cons, List.drop_zero, List.take_succ_cons, List.take_zero, Nat.reduceSub, Nat.reduceAdd]; rfl) ?_ ?_
      · exact (Chg.refl _ _).drew
      repeat
        refine q_step (fun K hK => ?_)
        go_simp
        first
          | ((with_reducible refine hK _ ?_); clear hK K)
          | (refine (if_neg (by simp [undef])).mpr ?_; (with_reducible refine hK _ ?_); clear hK K)
          | (apply Exists.intro
             with_reducible refine ⟨fun v hv => ?_, hK _ ?_⟩
             · first
                 | with_reducible exact rfl
                 | with_reducible exact ⟨rfl, rfl⟩
                 | (go_simp
                    first
                      | done
                      | with_reducible exact rfl
                      | with_reducible exact ⟨rfl, rfl⟩
                      | fail)
             clear hK K)
      refine q_nil ?_
      intro V hV
      have hq := diskRead_ok (HD.out.1.keep hV (fun f => f) (fun f => f)) (f + i) (by omega)
      rw [show ((f + i : Nat) : Int) = (f : Int) + (i : Int) by omega] at hq
      have HQ := Lib.hid hq
      clear hq
      refine rem_one (by kernel_rfl) (by kernel_rfl) rfl (by kernel_rfl) (fun K hK => ?_)
      go_wp2_with (first
        | (go_at_call 66
           (with_reducible refine HQ.out.mono ?_)
           rintro e1 w3 ⟨v3, rfl, u3, rfl, ho3, hd3, c3⟩
           obtain ⟨A3, d3, rfl⟩ := ho3.form
           have hl3 := secB_len HD.out.1.len (show f + i < N by omega)
           rw [hl3]
           obtain ⟨A4, d4, w4, hr4, ho4, c4⟩ := app_bytes (HD.out.2.1.keep (F := fun k => k = B.d) (hV.no.trans c3) (fun b hb e => by have := HLT.out B.d (.inr (.inl rfl)); omega)) (ho3.bytes (fun x hx => HD.out.1.byte x (List.mem_of_mem_drop (List.mem_of_mem_take hx)))) (by rw [HLN.out, hl3]; omega) (by have := c3.size; have := hV.size; omega) 33
           rw [HLN.out, hl3, ← readD_succ] at hr4
           rw [← readD_succ] at ho4
           have hls := readD_len HD.out.1.len (show f + (i + 1) ≤ N by omega)
           rw [hls] at hr4 ho4
           have HR := Lib.hid hr4
           have H4 := Lib.hid (And.intro ho4 (And.intro (hd3.keep c4 (fun h => by have := HLT.out B.d (.inr (.inl rfl)); omega) (fun h => by have := HLT.out B.g (.inr (.inr (.inl rfl))); omega)) (((HD.out.2.2.trans hV.no).trans c3).then c4 (fun k hk h => by omega))))
           clear ho3 hd3 c3 hl3 hr4 ho4 c4 hls)
        | fail)
      refine rem_quiet 14 (C := (fun v => v = w3)) (by kernel_rfl) (by simp only [List.toList_toArray, List.drop_succ_cons, List.drop_zero, List.take_succ_cons, List.take_zero, Nat.reduceSub, Nat.reduceAdd]; rfl) ?_ ?_
      · rfl
      repeat
        refine q_step (fun K hK => ?_)
        go_simp
        first
          | ((with_reducible refine hK _ ?_); clear hK K)
          | (refine (if_neg (by simp [undef])).mpr ?_; (with_reducible refine hK _ ?_); clear hK K)
          | (apply Exists.intro
             with_reducible refine ⟨fun v hv => ?_, hK _ ?_⟩
             · first
                 | with_reducible exact rfl
                 | with_reducible exact ⟨rfl, rfl⟩
                 | (go_simp
                    first
                      | done
                      | with_reducible exact rfl
                      | with_reducible exact ⟨rfl, rfl⟩
                      | fail)
             clear hK K)
      refine q_nil ?_
      intro V3 hV3
      subst V3
      refine rem_end (by kernel_rfl) ?_
      go_wp2_with (first
        | (at_builtin; refine wpList_append_run rfl _ _ _ rfl rfl rfl HR.out ?_)
        | fail)
      go_roundg (n - (i + 1))
      case measure => omega
      case rel => exact ⟨i + 1, by go_num, by omega, by omega, H4.out⟩
    · obtain rfl : i = n := by omega
      have t1 : decide ((i : Int) < (i : Int)) = false := decide_eq_false (by omega)
      obtain ⟨x0, x1, x2, xf⟩ := IExt.cells hrow
      have hlen := readD_len hd.len hfit
      obtain ⟨A7, c7, rfl⟩ := own.form
      have hby := own.bytes (fun x hx => hd.byte x (List.mem_of_mem_drop (List.mem_of_mem_take hx)))
      obtain ⟨b7, o7, rfl⟩ := hby.some (by rw [hlen]; omega)
      obtain ⟨A9, c9, e9, hc9, hc8, -⟩ := hby.form
      have e10 := (Value.slice.inj e9).2.2
      rw [← e10] at hc9 hc8
      rw [hlen] at hc9
      have hc7 : c7 ≤ 9223372036854775807 := by unfold maxLen at hc8; simp at hc8; omega
      have hcap := hby.cap m (by rw [hlen]; omega) (fun h => by cases h)
      rw [HRD.out] at hcap
      rw [hlen]
      have hmc : (m : Int) ≤ (c7 : Int) := by omega
      have hm0 : ¬ c7 = 0 := by omega
      have HX := Lib.hid (And.intro hcap (And.intro hd cw))
      clear hrow hd own cw hlen hby hcap e9 e10 hc8
      go_wp2_with fail
      go_ret2
      obtain ⟨hcap, hd, cw⟩ := HX.out
      have hE := H1.out.1
      refine Ret.mk ⟨_, rfl, hcap.more (fun b _ hb => by omega), ⟨D, ws, E, ⟨(hE.row.keep H2.out (fun f => f)).keep cw HNE.out.1.1, hd, (hE.bits.keep H2.out (fun f => f) (fun f => f)).keep cw HNE.out.2.1.2.1.symm HNE.out.2.1.2.2.1.symm, (hE.live.keep H2.out (fun f => f)).keep cw HNE.out.2.1.2.2.2.symm⟩, H1.out.2.1⟩, H2.out.no.trans cw⟩

/-- a space in new memory -/
def ExtNew (w : World) (N : Nat) (v : Value) (w' : World) : Prop := ∃ B : Blk, v = .tuple #[.pointer (some ⟨B.r, 0, none⟩), .int .i64 0] ∧ ExtS w' B N [] ∧ (∀ k, B.has k → w.heap.size ≤ k) ∧ Chg No w w'

set_option maxRecDepth 100000 in
set_option maxHeartbeats 1000000 in
theorem extNew_ok (N : Nat) (hN : N ≤ 20000) (w : World) : Calls Tryz.prog 25 #[.int .i64 N] w (Ret (ExtNew w N)) := by
  have hmm := @run_makeMap Tryz.prog
  have HD := Lib.hid (diskNew_ok N hN w)
  go_enter Tryz.func25, Tryz.ntmps25
  go_wp2_with (first
    | (go_at_call 49
       refine HD.out.mono ?_
       rintro e w1 ⟨v1, rfl, d, g, rfl, hd1, hg1, hd, c1⟩
       have HB := Lib.hid (BitsNew_ok N (by omega) w1)
       have H1 := Lib.hid (And.intro hd c1)
       have hs1 := c1.size
       clear hd c1)
    | (go_at_call 50
       refine HB.out.mono ?_
       rintro e w2 ⟨v2, rfl, b, h, rfl, hb1, hh1, hb, c2⟩
       have H2 := Lib.hid (And.intro hb c2)
       have hs2 := c2.size
       clear hb c2)
    | fail)
  go_ret2
  have c2 : Chg No w2 ((w2.alloc (.map #[] 0)).alloc (.cells #[.pointer (some ⟨d, 0, none⟩), .pointer (some ⟨b, 0, none⟩), .map (some w2.heap.size)] 107)) := ((Chg.refl _ _).alloc _).alloc _
  have hr := Row.new (w2.alloc (.map #[] 0)) 107 #[.pointer (some ⟨d, 0, none⟩), .pointer (some ⟨b, 0, none⟩), .map (some w2.heap.size)]
  rw [show (w2.alloc (.map #[] 0)).heap.size = w2.heap.size + 1 by simp] at hr
  have hm : GMap kv3 ((w2.alloc (.map #[] 0)).alloc (.cells #[.pointer (some ⟨d, 0, none⟩), .pointer (some ⟨b, 0, none⟩), .map (some w2.heap.size)] 107)) w2.heap.size [] := (GMap.new w2).keep (F := No) ((Chg.refl _ _).alloc _) (fun f => f)
  refine Ret.mk ⟨⟨w2.heap.size + 1, d, g, b, h, w2.heap.size⟩, rfl, ⟨_, _, _, ⟨hr, (H1.out.1.keep H2.out.2 (fun f => f) (fun f => f)).keep c2 (fun f => f) (fun f => f), H2.out.1.keep c2 (fun f => f) (fun f => f), hm⟩, ExtV.nil _ _ _ (fun i => bitT_zero _ _)⟩, ?_, (H1.out.2.trans H2.out.2).trans c2⟩
  rintro k (rfl | rfl | rfl | rfl | rfl | rfl) <;> (try dsimp only) <;> omega

set_option maxHeartbeats 400000 in
theorem extNew_bad (n : Int) (hN : n < 0 ∨ 20000 < n) (w : World) : Calls Tryz.prog 25 #[.int .i64 n] w fun e w' => e = .returned (.tuple #[.pointer none, .int .i64 2]) ∧ w = w' := by
  have HD := Lib.hid (diskNew_bad n hN w)
  clear hN
  go_enter Tryz.func25, Tryz.ntmps25
  go_wp2_with (first
    | (go_at_call 49; refine HD.out.mono ?_; rintro e w1 ⟨rfl, rfl⟩)
    | fail)
  go_ret2
  exact ⟨rfl, rfl⟩

set_option maxHeartbeats 400000 in
theorem extUsed_any {w : World} {B : Blk} {N : Nat} {X : List Xt} (H : ExtS w B N X) : Calls Tryz.prog 40 #[.pointer (some ⟨B.r, 0, none⟩)] w fun e w' => e = .returned (.int .i64 (X.map Xt.n).sum) ∧ w = w' := by
  obtain ⟨D, ws, E, H, V⟩ := H
  have f1 : w.cell? ⟨B.r, 1, none⟩ = some (.pointer (some ⟨B.b, 0, none⟩)) := H.row.cell 1
  have hq := Taken_any H.bits
  rw [taken_sum H.bits V] at hq
  have HQ := Lib.hid hq
  clear H V hq
  go_enter Tryz.func40, Tryz.ntmps40
  go_wp2_with (first
    | (go_at_call 76; refine HQ.out.mono ?_; rintro e w' ⟨rfl, rfl⟩)
    | fail)
  go_ret
  exact ⟨rfl, rfl⟩


/-- a run of bits turned -/
def turnT (t : Nat → Bool) (f n : Nat) (j : Nat) : Bool := if f ≤ j ∧ j < f + n then !t j else t j
theorem turn_turn (t : Nat → Bool) (f n : Nat) (j : Nat) : turnT (turnT t f n) f n j = t j := by
  unfold turnT
  by_cases h : f ≤ j ∧ j < f + n
  · rw [if_pos h, if_pos h, Bool.not_not]
  · rw [if_neg h, if_neg h]


set_option maxRecDepth 100000 in
set_option maxHeartbeats 400000 in
theorem Set_same {w : World} {B : Blk} {N : Nat} {X : List Xt} {x : Xt} (H : ExtS w B N (x :: X)) (bv : Value) (l : List Int) (S : Nat → Prop) (hb : ByteS w S bv l) (hS : ∀ k, S k → ¬ B.has k) (hl1 : 1 ≤ l.length) (hl2 : l.length ≤ 1000000) (he : secN l.length = x.n) :
    Calls Tryz.prog 36 #[.pointer (some ⟨B.r, 0, none⟩), .agg #[.int .i64 x.f, .int .i64 x.n, .int .i64 x.b.length], bv] w (Ret (Stood w B N X ⟨x.f, l⟩)) := by
  obtain ⟨D, ws, E, H, V⟩ := H
  obtain ⟨A, c, rfl, -⟩ := hb.form
  have hfit : x.f + x.n ≤ N := V.fits _ List.mem_cons_self
  have hlive : gget ((x.f : Int), (x.n : Int), (x.b.length : Int)) E = some (.bool true) := V.live _ List.mem_cons_self
  have hmax := H.disk.max
  have hn1 : 1 ≤ x.n := secN_pos _
  obtain ⟨W1, hW1⟩ : ∃ W, (w.alloc (.cells #[.int .i64 x.f, .int .i64 x.n, .int .i64 x.b.length] 47)).alloc (.cells #[.int .i64 0, .int .i64 0, .int .i64 0] 47) = W := ⟨_, rfl⟩
  have c1 : Chg No w W1 := by rw [← hW1]; exact ((Chg.refl _ _).alloc _).alloc _
  have hs1 : W1.heap.size = w.heap.size + 2 := by rw [← hW1]; simp
  have rx : Row W1 w.heap.size 47 #[.int .i64 x.f, .int .i64 x.n, .int .i64 x.b.length] := by rw [← hW1]; exact (Row.new w _ _).alloc _
  have ry : Row W1 (w.heap.size + 1) 47 #[.int .i64 0, .int .i64 0, .int .i64 0] := by
    rw [← hW1]
    have := Row.new (w.alloc (.cells #[.int .i64 x.f, .int .i64 x.n, .int .i64 x.b.length] 47)) 47 #[.int .i64 0, .int .i64 0, .int .i64 0]
    simpa using this
  have HL := Lib.hid (lives_ok (H.keep c1 (fun _ _ f => f)) _ hlive)
  have HLT := Lib.hid (fun k (hk : B.has k) => H.lt hk)
  have HNE := Lib.hid H.ne
  have HS := Lib.hid hS
  have HW := Lib.hid hW1
  have H1 := Lib.hid (And.intro H (And.intro V (And.intro c1 (And.intro rx (And.intro ry hb)))))
  obtain ⟨y0, y1, y2, yf⟩ := IExt.cells rx
  generalize hsm : secN l.length = n2 at *
  generalize hm : l.length = m at *
  have HM := Lib.hid (And.intro hm hsm)
  generalize hf : x.f = f at *
  generalize hn : x.n = n at *
  generalize hz : x.b.length = z at *
  have HX := Lib.hid (And.intro hf (And.intro hn hz))
  clear hW1 c1 H V rx ry yf hlive hb hS hm hsm hf hn hz
  subst he
  go_enter Tryz.func36, Tryz.ntmps36
  go_wp2_with (first
    | (rw [HW.out])
    | (go_at_call 65
       refine HL.out.mono ?_
       rintro e w2 ⟨rfl, c2⟩
       have hs2 := c2.size
       have H2 := Lib.hid (H1.out.2.2.1.trans c2)
       have R2 := Lib.hid (H1.out.2.2.2.1.keep c2 (fun f => f))
       have Q2 := Lib.hid (H1.out.2.2.2.2.1.keep c2 (fun f => f))
       have B2 := Lib.hid (H1.out.2.2.2.2.2.keep H2.out (fun _ _ f => f))
       have E2 := Lib.hid (H1.out.1.keep H2.out (fun _ _ f => f))
       have z1 := (IExt.cells (H1.out.2.2.2.1.keep c2 (fun f => f))).2.1
       clear c2)
    | fail)
  have fz : ∀ v, Chg No w2 v → v.cell? ⟨w.heap.size, 1, none⟩ = some (.int .i64 n2) := fun v hv => (IExt.cells (R2.out.keep hv (fun f => f))).2.1
  clear z1
  refine q_region (C := (Chg No w2)) (by kernel_rfl) (by kernel_rfl) ?_ ?_
  · exact (Chg.refl _ _).drew
  repeat
    refine q_step (fun K hK => ?_)
    go_simp
    first
      | ((with_reducible refine hK _ ?_); clear hK K)
      | (refine (if_neg (by simp [undef])).mpr ?_; (with_reducible refine hK _ ?_); clear hK K)
      | (apply Exists.intro
         with_reducible refine ⟨fun v hv => ?_, hK _ ?_⟩
         · first
             | with_reducible exact rfl
             | with_reducible exact ⟨rfl, rfl⟩
             | (go_simp
                first
                  | done
                  | with_reducible exact rfl
                  | with_reducible exact ⟨rfl, rfl⟩
                  | (go_at_call 55; refine (Sectors_any m (by omega) _).mono ?_; rw [HM.out.2]; rintro e w' ⟨rfl, rfl⟩; exact ⟨rfl, hv⟩))
         clear hK K)
  refine q_nil ?_
  intro V hV
  have fr : ∀ v, Chg No w2 v → v.cell? ⟨B.r, 2, none⟩ = some (.map (some B.v)) := fun v hv => (E2.out.row.keep hv (fun f => f)).cell 2
  have fx : ∀ v, Chg No w2 v → v.cell? ⟨w.heap.size, 0, none⟩ = some (.int .i64 f) := fun v hv => (R2.out.keep hv (fun f => f)).cell 0
  have fy : ∀ v, Chg No w2 v → v.cell? ⟨w.heap.size, 2, none⟩ = some (.int .i64 z) := fun v hv => (R2.out.keep hv (fun f => f)).cell 2
  go_wp2_with fail
  refine rem_start (by kernel_rfl) (by kernel_rfl) ?_
  refine rem_quiet 5 (C := (Chg No w2)) (by kernel_rfl) (by simp only [List.toList_toArray, List.drop_succ_cons, List.drop_zero, List.take_succ_cons, List.take_zero, Nat.reduceSub, Nat.reduceAdd]; rfl) ?_ ?_
  · exact hV.drew
  repeat
    refine q_step (fun K hK => ?_)
    go_simp
    first
      | ((with_reducible refine hK _ ?_); clear hK K)
      | (refine (if_neg (by simp [undef])).mpr ?_; (with_reducible refine hK _ ?_); clear hK K)
      | (apply Exists.intro
         with_reducible refine ⟨fun v hv => ?_, hK _ ?_⟩
         · first
             | with_reducible exact rfl
             | with_reducible exact ⟨rfl, rfl⟩
             | (go_simp
                first
                  | done
                  | with_reducible exact rfl
                  | with_reducible exact ⟨rfl, rfl⟩
                  | fail)
         clear hK K)
  refine q_nil ?_
  clear hV
  intro V2 hV2
  obtain ⟨o, hrun, hmap⟩ := (E2.out.live.keep hV2 (fun f => f)).delete (P := Tryz.prog) elem_live key3 ((f : Int), (n2 : Int), (z : Int)) 0 47
  simp only [kv3] at hrun
  have c3 : Chg (fun k => k = B.v) V2 (setBlock V2 B.v o) := Chg.setBlock (F := fun k => k = B.v) (Chg.refl _ _) (.inl rfl) _
  generalize setBlock V2 B.v o = W3 at *
  have hne := HNE.out
  have e3 : ExtI W3 B N D ws (gdel ((f : Int), (n2 : Int), (z : Int)) E) := ⟨(E2.out.row.keep hV2 (fun f => f)).keep c3 hne.1.2.2.2.2, (E2.out.disk.keep hV2 (fun f => f) (fun f => f)).keep c3 hne.2.1.2.2.2 hne.2.2.1.2.2, (E2.out.bits.keep hV2 (fun f => f) (fun f => f)).keep c3 hne.2.2.2.1.2 hne.2.2.2.2, hmap⟩
  have hvs := HLT.out B.v (.inr (.inr (.inr (.inr (.inr rfl)))))
  obtain ⟨x0, x1, x2, -⟩ := IExt.cells ((R2.out.keep hV2 (fun f => f)).keep c3 (by omega))
  have Q3 := Lib.hid ((Q2.out.keep hV2 (fun f => f)).keep c3 (by omega))
  have hl := lay_ok e3 f n2 z _ l S ((B2.out.keep hV2 (fun _ _ f => f)).keep c3 (fun k hk e => HS.out k hk (.inr (.inr (.inr (.inr (.inr e))))))) HS.out (by rw [HM.out.1, HM.out.2]) (by rw [HM.out.1]; exact hl1) (by rw [HM.out.1]; exact hl2) hfit
  rw [HM.out.1] at hl
  have HLY := Lib.hid hl
  have H3 := Lib.hid (And.intro e3 ((H2.out.trans hV2).no.trans c3))
  clear e3 c3 hV2 hmap hl hne fr fx fy fz
  refine rem_one (by kernel_rfl) (by kernel_rfl) rfl (by kernel_rfl) (fun K hK => ?_)
  go_wp2_with fail
  refine rem_end (by kernel_rfl) ?_
  go_wp2_with (first
    | (go_at_call 58
       (with_reducible refine HLY.out.mono ?_)
       rintro e w4 ⟨rfl, h4, c4⟩
       have q4 := IExt.cells (Q3.out.keep c4 (fun e => by have := HLT.out _ (has_dgv e); omega))
       have H4 := Lib.hid (And.intro h4 ((H3.out.2.mono fun k _ (h : k = B.v) => has_dgv (.inr (.inr h))).trans (c4.mono fun k _ h => has_dgv h)))
       clear h4 c4)
    | fail)
  have cF : ∀ U, Chg (fun k => k = w.heap.size + 1) w4 U → ExtS U B N (⟨f, l⟩ :: X) ∧ Chg B.has w U := fun U hU => by
    obtain ⟨hxf, hxn, hxz⟩ := HX.out
    have V := H1.out.2.1
    have hD := H1.out.1.disk.len
    have htk : ∀ j, f ≤ j ∧ j < f + n2 → bitT ws j = true := fun j hj => V.taken List.mem_cons_self (by rw [hxf]; exact hj.1) (by rw [hxf, hxn]; exact hj.2)
    have V1 : ExtV N D (turnT (bitT ws) f n2) (gdel x.ex E) X := V.cut H1.out.1.live.nodup (fun j => by rw [hxf, hxn]; rfl) (fun j _ => rfl)
    have ex : x.ex = ((f : Int), (n2 : Int), (z : Int)) := by unfold Xt.ex; rw [hxf, hxn, hxz]
    rw [ex] at V1
    have hyn : Xt.n ⟨f, l⟩ = n2 := by show secN l.length = n2; rw [HM.out.1, HM.out.2]
    have hye : Xt.ex ⟨f, l⟩ = ((f : Int), (n2 : Int), (m : Int)) := by unfold Xt.ex; rw [hyn, HM.out.1]
    have V2 : ExtV N (layD D f l n2) (bitT ws) (gset (Xt.ex ⟨f, l⟩) (.bool true) (gdel ((f : Int), (n2 : Int), (z : Int)) E)) (⟨f, l⟩ :: X) := by
      refine V1.put (y := ⟨f, l⟩) (fun i hi => ?_) (by rw [hyn]; exact hfit) (fun j => ?_) (fun j hj => layD_in hD _ hfit j ?_ hj) (fun j hj => layD_out hD _ hfit j (by rw [hyn] at hj; exact hj)) H1.out.2.2.2.2.2.2
      · rw [hyn] at hi
        unfold turnT
        rw [if_pos (by dsimp only; omega), htk _ (by dsimp only; omega)]
        rfl
      · rw [hyn]
        exact (turn_turn (bitT ws) f n2 j).symm
      · have h2 := HM.out
        unfold secN at h2
        dsimp only at hj
        omega
    rw [hye] at V2
    exact ⟨⟨_, _, _, H4.out.1.keep hU (fun k hk e => by have := HLT.out k hk; omega), V2⟩, H4.out.2.then hU (fun k hk e => by omega)⟩
  have hyn : Xt.n ⟨f, l⟩ = n2 := by show secN l.length = n2; rw [HM.out.1, HM.out.2]
  refine bodyPost_ret (v := .tuple #[.agg #[.int .i64 f, .int .i64 n2, .int .i64 m], .int .i64 0]) (by simp [results, Tryz.results36, go_sem, q4]) rfl (Ret.mk ⟨by rw [hyn, HM.out.1], cF _ ?_⟩)
  repeat (with_reducible first | exact Chg.refl _ _ | refine Chg.setCell ?_ (.inl (by simp)) _)




set_option maxRecDepth 100000 in
set_option maxHeartbeats 1000000 in
theorem Set_full {w : World} {B : Blk} {N : Nat} {X : List Xt} {x : Xt} (H : ExtS w B N (x :: X)) (bv : Value) (l : List Int) (S : Nat → Prop) (hb : ByteS w S bv l) (hS : ∀ k, S k → ¬ B.has k) (hl2 : l.length ≤ 1000000) (he : secN l.length ≠ x.n) (hp : placeX X N (secN l.length) = none) :
    Calls Tryz.prog 36 #[.pointer (some ⟨B.r, 0, none⟩), .agg #[.int .i64 x.f, .int .i64 x.n, .int .i64 x.b.length], bv] w fun e w' => e = .returned (.tuple #[.agg #[.int .i64 0, .int .i64 0, .int .i64 0], .int .i64 3]) ∧ ExtS w' B N (x :: X) ∧ Chg B.has w w' := by
  obtain ⟨D, ws, E, H, V⟩ := H
  obtain ⟨A, c, rfl, -⟩ := hb.form
  have hfit : x.f + x.n ≤ N := V.fits _ List.mem_cons_self
  have hlive : gget ((x.f : Int), (x.n : Int), (x.b.length : Int)) E = some (.bool true) := V.live _ List.mem_cons_self
  have hmax := H.disk.max
  have hn1 : 1 ≤ x.n := secN_pos _
  obtain ⟨W1, hW1⟩ : ∃ W, (w.alloc (.cells #[.int .i64 x.f, .int .i64 x.n, .int .i64 x.b.length] 47)).alloc (.cells #[.int .i64 0, .int .i64 0, .int .i64 0] 47) = W := ⟨_, rfl⟩
  have c1 : Chg No w W1 := by rw [← hW1]; exact ((Chg.refl _ _).alloc _).alloc _
  have hs1 : W1.heap.size = w.heap.size + 2 := by rw [← hW1]; simp
  have rx : Row W1 w.heap.size 47 #[.int .i64 x.f, .int .i64 x.n, .int .i64 x.b.length] := by rw [← hW1]; exact (Row.new w _ _).alloc _
  have ry : Row W1 (w.heap.size + 1) 47 #[.int .i64 0, .int .i64 0, .int .i64 0] := by
    rw [← hW1]
    have := Row.new (w.alloc (.cells #[.int .i64 x.f, .int .i64 x.n, .int .i64 x.b.length] 47)) 47 #[.int .i64 0, .int .i64 0, .int .i64 0]
    simpa using this
  have HL := Lib.hid (lives_ok (H.keep c1 (fun _ _ f => f)) _ hlive)
  have HLT := Lib.hid (fun k (hk : B.has k) => H.lt hk)
  have HNE := Lib.hid H.ne
  have HS := Lib.hid hS
  have HW := Lib.hid hW1
  have H1 := Lib.hid (And.intro H (And.intro V (And.intro c1 (And.intro rx (And.intro ry hb)))))
  obtain ⟨y0, y1, y2, yf⟩ := IExt.cells rx
  generalize hsm : secN l.length = n2 at *
  generalize hm : l.length = m at *
  have HM := Lib.hid (And.intro hm hsm)
  generalize hf : x.f = f at *
  generalize hn : x.n = n at *
  generalize hz : x.b.length = z at *
  have HX := Lib.hid (And.intro hf (And.intro hn hz))
  clear hW1 c1 H V rx ry yf hlive hb hS hm hsm hf hn hz
  have t1 : ((n2 : Int) == (n : Int)) = false := beq_eq_false_iff_ne.2 (by omega)
  have htk : ∀ j, f ≤ j ∧ j < f + n → bitT ws j = true := fun j hj => H1.out.2.1.taken List.mem_cons_self (by rw [HX.out.1]; exact hj.1) (by rw [HX.out.1, HX.out.2.1]; exact hj.2)
  have hpl : firstB (bitT (flips ws f n)) N n2 = none := by
    have V1 : ExtV N D (bitT (flips ws f n)) (gdel x.ex E) X := H1.out.2.1.cut H1.out.1.live.nodup (fun j => by rw [HX.out.1, HX.out.2.1]; exact flips_eq H1.out.1.bits hfit j) (fun j _ => rfl)
    rw [V1.t_eq]
    exact hp
  have HTK := Lib.hid htk
  have HPL := Lib.hid hpl
  clear htk hpl hp he
  go_enter Tryz.func36, Tryz.ntmps36
  go_wp2_with (first
    | (rw [HW.out])
    | (go_at_call 65
       refine HL.out.mono ?_
       rintro e w2 ⟨rfl, c2⟩
       have hs2 := c2.size
       have H2 := Lib.hid (H1.out.2.2.1.trans c2)
       have R2 := Lib.hid (H1.out.2.2.2.1.keep c2 (fun f => f))
       have Q2 := Lib.hid (H1.out.2.2.2.2.1.keep c2 (fun f => f))
       have B2 := Lib.hid (H1.out.2.2.2.2.2.keep H2.out (fun _ _ f => f))
       have E2 := Lib.hid (H1.out.1.keep H2.out (fun _ _ f => f))
       have z1 := (IExt.cells (H1.out.2.2.2.1.keep c2 (fun f => f))).2.1
       clear c2)
    | fail)
  have hb := fun v (hv : Chg No w2 v) => E2.out.bits.keep hv (fun f => f) (fun f => f)
  have fz : ∀ v, Chg No w2 v → v.cell? ⟨w.heap.size, 1, none⟩ = some (.int .i64 n) := fun v hv => (IExt.cells (R2.out.keep hv (fun f => f))).2.1
  have fx : ∀ v, Chg No w2 v → v.cell? ⟨w.heap.size, 0, none⟩ = some (.int .i64 f) := fun v hv => (R2.out.keep hv (fun f => f)).cell 0
  have fr : ∀ v, Chg No w2 v → v.cell? ⟨B.r, 1, none⟩ = some (.pointer (some ⟨B.b, 0, none⟩)) := fun v hv => (E2.out.row.keep hv (fun f => f)).cell 1
  have HB := Lib.hid hb
  clear hb z1
  refine q_region (C := (Chg No w2)) (by kernel_rfl) (by kernel_rfl) ?_ ?_
  · exact (Chg.refl _ _).drew
  repeat
    refine q_step (fun K hK => ?_)
    go_simp
    first
      | ((with_reducible refine hK _ ?_); clear hK K)
      | (refine (if_neg (by simp [undef])).mpr ?_; (with_reducible refine hK _ ?_); clear hK K)
      | (apply Exists.intro
         with_reducible refine ⟨fun v hv => ?_, hK _ ?_⟩
         · first
             | with_reducible exact rfl
             | with_reducible exact ⟨rfl, rfl⟩
             | (go_simp
                first
                  | done
                  | with_reducible exact rfl
                  | with_reducible exact ⟨rfl, rfl⟩
                  | (go_at_call 55; refine (Sectors_any m (by omega) _).mono ?_; rw [HM.out.2]; rintro e w' ⟨rfl, rfl⟩; exact ⟨rfl, hv⟩))
         clear hK K)
  refine q_nil ?_
  intro V hV
  go_wp2_with fail
  refine rem_start (by kernel_rfl) (by kernel_rfl) ?_
  refine rem_quiet 8 (C := (Chg No w2)) (by kernel_rfl) (by simp only [List.toList_toArray, List.drop_succ_cons, List.drop_zero, List.take_succ_cons, List.take_zero, Nat.reduceSub, Nat.reduceAdd]; rfl) ?_ ?_
  · exact hV.drew
  repeat
    refine q_step (fun K hK => ?_)
    go_simp
    first
      | ((with_reducible refine hK _ ?_); clear hK K)
      | (refine (if_neg (by simp [undef])).mpr ?_; (with_reducible refine hK _ ?_); clear hK K)
      | (apply Exists.intro
         with_reducible refine ⟨fun v hv => ?_, hK _ ?_⟩
         · first
             | with_reducible exact rfl
             | with_reducible exact ⟨rfl, rfl⟩
             | (go_simp
                first
                  | done
                  | with_reducible exact rfl
                  | with_reducible exact ⟨rfl, rfl⟩
                  | fail)
         clear hK K)
  refine q_nil ?_
  clear hV
  intro V2 hV2
  have HQ := Lib.hid (FreeB_ok (HB.out V2 hV2) f n hn1 hfit (fun i hi => HTK.out _ ⟨by omega, by omega⟩))
  refine rem_one (by kernel_rfl) (by kernel_rfl) rfl (by kernel_rfl) (fun K hK => ?_)
  go_wp2_with (first
    | (go_at_call 70
       (with_reducible refine HQ.out.mono ?_)
       rintro e w3 ⟨rfl, hb3, c3⟩
       have hne := HNE.out
       have e3 : ExtI w3 B N D (flips ws f n) E := ⟨(E2.out.row.keep hV2 (fun f => f)).keep c3 hne.1.2.2.2.1, (E2.out.disk.keep hV2 (fun f => f) (fun f => f)).keep c3 hne.2.1.2.2.1 hne.2.2.1.2.1, hb3, (E2.out.live.keep hV2 (fun f => f)).keep c3 hne.2.2.2.2.symm⟩
       have hbh := HLT.out B.h (.inr (.inr (.inr (.inr (.inl rfl)))))
       have E3 := Lib.hid e3
       have R3 := Lib.hid ((R2.out.keep hV2 (fun f => f)).keep c3 (by omega))
       have Q3 := Lib.hid ((Q2.out.keep hV2 (fun f => f)).keep c3 (by omega))
       have B3 := Lib.hid ((B2.out.keep hV2 (fun _ _ f => f)).keep c3 (fun k hk e => HS.out k hk (.inr (.inr (.inr (.inr (.inl e)))))))
       have C3 := Lib.hid ((H2.out.trans hV2).no.trans c3)
       have gz : ∀ v, Chg No w3 v → v.cell? ⟨w.heap.size, 1, none⟩ = some (.int .i64 n) := fun v hv => (IExt.cells (R3.out.keep hv (fun f => f))).2.1
       have gx : ∀ v, Chg No w3 v → v.cell? ⟨w.heap.size, 0, none⟩ = some (.int .i64 f) := fun v hv => (R3.out.keep hv (fun f => f)).cell 0
       have gr : ∀ v, Chg No w3 v → v.cell? ⟨B.r, 1, none⟩ = some (.pointer (some ⟨B.b, 0, none⟩)) := fun v hv => (E3.out.row.keep hv (fun f => f)).cell 1
       have HFI := Lib.hid (fun v (hv : Chg No w3 v) => by
         have h := First_any (E3.out.bits.keep hv (fun f => f) (fun f => f)) n2 (by rw [← HM.out.2]; exact secN_pos _) (by rw [← HM.out.2]; unfold secN; omega)
         rw [HPL.out] at h
         exact h)
       clear hb3 c3 hne e3 hbh)
    | fail)
  refine rem_end (by kernel_rfl) ?_
  clear fz fx fr hV2
  go_wp2_with fail
  refine q_region (C := (Chg No w3)) (by kernel_rfl) (by kernel_rfl) ?_ ?_
  · exact (Chg.refl _ _).drew
  repeat
    refine q_step (fun K hK => ?_)
    go_simp
    first
      | ((with_reducible refine hK _ ?_); clear hK K)
      | (refine (if_neg (by simp [undef])).mpr ?_; (with_reducible refine hK _ ?_); clear hK K)
      | (apply Exists.intro
         with_reducible refine ⟨fun v hv => ?_, hK _ ?_⟩
         · first
             | with_reducible exact rfl
             | with_reducible exact ⟨rfl, rfl⟩
             | (go_simp
                first
                  | done
                  | with_reducible exact rfl
                  | with_reducible exact ⟨rfl, rfl⟩
                  | (first | (go_at_call 55; refine (Sectors_any m (by omega) _).mono ?_; rw [HM.out.2]; rintro e w' ⟨rfl, rfl⟩; exact ⟨rfl, hv⟩) | (go_at_call 56; refine (HFI.out _ hv).mono ?_; rintro e w' ⟨rfl, rfl⟩; exact ⟨rfl, hv⟩)))
         clear hK K)
  refine q_nil ?_
  intro V4 hV4
  go_wp2_with fail
  refine rem_start (by kernel_rfl) (by kernel_rfl) ?_
  refine rem_quiet 8 (C := (Chg No w3)) (by kernel_rfl) (by simp only [List.toList_toArray, List.drop_succ_cons, List.drop_zero, List.take_succ_cons, List.take_zero, Nat.reduceSub, Nat.reduceAdd]; rfl) ?_ ?_
  · exact hV4.drew
  repeat
    refine q_step (fun K hK => ?_)
    go_simp
    first
      | ((with_reducible refine hK _ ?_); clear hK K)
      | (refine (if_neg (by simp [undef])).mpr ?_; (with_reducible refine hK _ ?_); clear hK K)
      | (apply Exists.intro
         with_reducible refine ⟨fun v hv => ?_, hK _ ?_⟩
         · first
             | with_reducible exact rfl
             | with_reducible exact ⟨rfl, rfl⟩
             | (go_simp
                first
                  | done
                  | with_reducible exact rfl
                  | with_reducible exact ⟨rfl, rfl⟩
                  | fail)
         clear hK K)
  refine q_nil ?_
  clear hV4
  intro V5 hV5
  have HQ5 := Lib.hid (Take_ok (E3.out.bits.keep hV5 (fun f => f) (fun f => f)) f n hn1 hfit (fun i hi => by
    rw [flips_eq E2.out.bits hfit, if_pos (by omega), HTK.out _ ⟨by omega, by omega⟩]
    rfl))
  refine rem_one (by kernel_rfl) (by kernel_rfl) rfl (by kernel_rfl) (fun K hK => ?_)
  go_wp2_with (first
    | (go_at_call 57
       (with_reducible refine HQ5.out.mono ?_)
       rintro e w6 ⟨rfl, hb6, c6⟩
       have hbh := HLT.out B.h (.inr (.inr (.inr (.inr (.inl rfl)))))
       have q6 := IExt.cells ((Q3.out.keep hV5 (fun f => f)).keep c6 (by omega))
       have H6 := Lib.hid (And.intro hb6 (And.intro hV5 c6))
       clear hb6 c6 hV5)
    | fail)
  refine rem_end (by kernel_rfl) ?_
  go_wp2_with fail
  have cF : ∀ U, Chg (fun k => k = w.heap.size + 1) w6 U → ExtS U B N (x :: X) ∧ Chg B.has w U := fun U hU => by
    obtain ⟨hb6, hV5, c6⟩ := H6.out
    have hne := HNE.out
    have e6 : ExtI w6 B N D (flips (flips ws f n) f n) E := ⟨(E3.out.row.keep hV5 (fun f => f)).keep c6 hne.1.2.2.2.1, (E3.out.disk.keep hV5 (fun f => f) (fun f => f)).keep c6 hne.2.1.2.2.1 hne.2.2.1.2.1, hb6, (E3.out.live.keep hV5 (fun f => f)).keep c6 hne.2.2.2.2.symm⟩
    have V6 : ExtV N D (bitT (flips (flips ws f n) f n)) E (x :: X) := H1.out.2.1.same fun i => by
      have e1 := flips_eq E3.out.bits hfit i
      have e2 := flips_eq E2.out.bits hfit i
      rw [e1, e2]
      exact turn_turn (bitT ws) f n i
    exact ⟨⟨_, _, _, e6.keep hU (fun k hk e => by have := HLT.out k hk; omega), V6⟩, ((C3.out.mono fun k _ h => .inr (.inr (.inr (.inr (.inl h))))).trans (hV5.no.trans (c6.mono fun k _ h => .inr (.inr (.inr (.inr (.inl h))))))).then hU (fun k hk e => by omega)⟩
  refine bodyPost_ret (v := .tuple #[.agg #[.int .i64 0, .int .i64 0, .int .i64 0], .int .i64 3]) (by simp [results, Tryz.results36, go_sem, q6]) rfl ⟨rfl, cF _ ?_⟩
  repeat (with_reducible first | exact Chg.refl _ _ | refine Chg.setCell ?_ (.inl (by simp)) _)

set_option maxRecDepth 100000 in
set_option maxHeartbeats 1000000 in
theorem Set_move {w : World} {B : Blk} {N : Nat} {X : List Xt} {x : Xt} (H : ExtS w B N (x :: X)) (bv : Value) (l : List Int) (S : Nat → Prop) (hb : ByteS w S bv l) (hS : ∀ k, S k → ¬ B.has k) (hl1 : 1 ≤ l.length) (hl2 : l.length ≤ 1000000) (he : secN l.length ≠ x.n) {f2 : Nat} (hp : placeX X N (secN l.length) = some f2) :
    Calls Tryz.prog 36 #[.pointer (some ⟨B.r, 0, none⟩), .agg #[.int .i64 x.f, .int .i64 x.n, .int .i64 x.b.length], bv] w (Ret (Stood w B N X ⟨f2, l⟩)) := by
  obtain ⟨D, ws, E, H, V⟩ := H
  obtain ⟨A, c, rfl, -⟩ := hb.form
  have hfit : x.f + x.n ≤ N := V.fits _ List.mem_cons_self
  have hlive : gget ((x.f : Int), (x.n : Int), (x.b.length : Int)) E = some (.bool true) := V.live _ List.mem_cons_self
  have hmax := H.disk.max
  have hn1 : 1 ≤ x.n := secN_pos _
  obtain ⟨W1, hW1⟩ : ∃ W, (w.alloc (.cells #[.int .i64 x.f, .int .i64 x.n, .int .i64 x.b.length] 47)).alloc (.cells #[.int .i64 0, .int .i64 0, .int .i64 0] 47) = W := ⟨_, rfl⟩
  have c1 : Chg No w W1 := by rw [← hW1]; exact ((Chg.refl _ _).alloc _).alloc _
  have hs1 : W1.heap.size = w.heap.size + 2 := by rw [← hW1]; simp
  have rx : Row W1 w.heap.size 47 #[.int .i64 x.f, .int .i64 x.n, .int .i64 x.b.length] := by rw [← hW1]; exact (Row.new w _ _).alloc _
  have ry : Row W1 (w.heap.size + 1) 47 #[.int .i64 0, .int .i64 0, .int .i64 0] := by
    rw [← hW1]
    have := Row.new (w.alloc (.cells #[.int .i64 x.f, .int .i64 x.n, .int .i64 x.b.length] 47)) 47 #[.int .i64 0, .int .i64 0, .int .i64 0]
    simpa using this
  have HL := Lib.hid (lives_ok (H.keep c1 (fun _ _ f => f)) _ hlive)
  have HLT := Lib.hid (fun k (hk : B.has k) => H.lt hk)
  have HNE := Lib.hid H.ne
  have HS := Lib.hid hS
  have HW := Lib.hid hW1
  have H1 := Lib.hid (And.intro H (And.intro V (And.intro c1 (And.intro rx (And.intro ry hb)))))
  obtain ⟨y0, y1, y2, yf⟩ := IExt.cells rx
  generalize hsm : secN l.length = n2 at *
  generalize hm : l.length = m at *
  have HM := Lib.hid (And.intro hm hsm)
  generalize hf : x.f = f at *
  generalize hn : x.n = n at *
  generalize hz : x.b.length = z at *
  have HX := Lib.hid (And.intro hf (And.intro hn hz))
  clear hW1 c1 H V rx ry yf hlive hb hS hm hsm hf hn hz
  have t1 : ((n2 : Int) == (n : Int)) = false := beq_eq_false_iff_ne.2 (by omega)
  have htk : ∀ j, f ≤ j ∧ j < f + n → bitT ws j = true := fun j hj => H1.out.2.1.taken List.mem_cons_self (by rw [HX.out.1]; exact hj.1) (by rw [HX.out.1, HX.out.2.1]; exact hj.2)
  have V1 : ExtV N (wipeD D f n) (bitT (flips ws f n)) (gdel x.ex E) X := H1.out.2.1.cut H1.out.1.live.nodup (fun j => by rw [HX.out.1, HX.out.2.1]; exact flips_eq H1.out.1.bits hfit j) (fun j hj => wipeD_out H1.out.1.disk.len n hfit j (by rw [HX.out.1, HX.out.2.1] at hj; exact hj))
  have ex : x.ex = ((f : Int), (n : Int), (z : Int)) := by unfold Xt.ex; rw [HX.out.1, HX.out.2.1, HX.out.2.2]
  rw [ex] at V1
  have hpl : firstB (bitT (flips ws f n)) N n2 = some f2 := by
    rw [V1.t_eq]
    exact hp
  obtain ⟨hfit2, hfree2, -⟩ := firstB_some hpl
  have HTK := Lib.hid htk
  have HPL := Lib.hid hpl
  have HV1 := Lib.hid (And.intro V1 hfree2)
  clear htk hpl hp he V1 ex hfree2
  go_enter Tryz.func36, Tryz.ntmps36
  go_wp2_with (first
    | (rw [HW.out])
    | (go_at_call 65
       refine HL.out.mono ?_
       rintro e w2 ⟨rfl, c2⟩
       have hs2 := c2.size
       have H2 := Lib.hid (H1.out.2.2.1.trans c2)
       have R2 := Lib.hid (H1.out.2.2.2.1.keep c2 (fun f => f))
       have Q2 := Lib.hid (H1.out.2.2.2.2.1.keep c2 (fun f => f))
       have B2 := Lib.hid (H1.out.2.2.2.2.2.keep H2.out (fun _ _ f => f))
       have E2 := Lib.hid (H1.out.1.keep H2.out (fun _ _ f => f))
       have z1 := (IExt.cells (H1.out.2.2.2.1.keep c2 (fun f => f))).2.1
       clear c2)
    | fail)
  have hb := fun v (hv : Chg No w2 v) => E2.out.bits.keep hv (fun f => f) (fun f => f)
  have fz : ∀ v, Chg No w2 v → v.cell? ⟨w.heap.size, 1, none⟩ = some (.int .i64 n) := fun v hv => (IExt.cells (R2.out.keep hv (fun f => f))).2.1
  have fx : ∀ v, Chg No w2 v → v.cell? ⟨w.heap.size, 0, none⟩ = some (.int .i64 f) := fun v hv => (R2.out.keep hv (fun f => f)).cell 0
  have fr : ∀ v, Chg No w2 v → v.cell? ⟨B.r, 1, none⟩ = some (.pointer (some ⟨B.b, 0, none⟩)) := fun v hv => (E2.out.row.keep hv (fun f => f)).cell 1
  have HB := Lib.hid hb
  clear hb z1
  refine q_region (C := (Chg No w2)) (by kernel_rfl) (by kernel_rfl) ?_ ?_
  · exact (Chg.refl _ _).drew
  repeat
    refine q_step (fun K hK => ?_)
    go_simp
    first
      | ((with_reducible refine hK _ ?_); clear hK K)
      | (refine (if_neg (by simp [undef])).mpr ?_; (with_reducible refine hK _ ?_); clear hK K)
      | (apply Exists.intro
         with_reducible refine ⟨fun v hv => ?_, hK _ ?_⟩
         · first
             | with_reducible exact rfl
             | with_reducible exact ⟨rfl, rfl⟩
             | (go_simp
                first
                  | done
                  | with_reducible exact rfl
                  | with_reducible exact ⟨rfl, rfl⟩
                  | (go_at_call 55; refine (Sectors_any m (by omega) _).mono ?_; rw [HM.out.2]; rintro e w' ⟨rfl, rfl⟩; exact ⟨rfl, hv⟩))
         clear hK K)
  refine q_nil ?_
  intro V hV
  go_wp2_with fail
  refine rem_start (by kernel_rfl) (by kernel_rfl) ?_
  refine rem_quiet 8 (C := (Chg No w2)) (by kernel_rfl) (by simp only [List.toList_toArray, List.drop_succ_cons, List.drop_zero, List.take_succ_cons, List.take_zero, Nat.reduceSub, Nat.reduceAdd]; rfl) ?_ ?_
  · exact hV.drew
  repeat
    refine q_step (fun K hK => ?_)
    go_simp
    first
      | ((with_reducible refine hK _ ?_); clear hK K)
      | (refine (if_neg (by simp [undef])).mpr ?_; (with_reducible refine hK _ ?_); clear hK K)
      | (apply Exists.intro
         with_reducible refine ⟨fun v hv => ?_, hK _ ?_⟩
         · first
             | with_reducible exact rfl
             | with_reducible exact ⟨rfl, rfl⟩
             | (go_simp
                first
                  | done
                  | with_reducible exact rfl
                  | with_reducible exact ⟨rfl, rfl⟩
                  | fail)
         clear hK K)
  refine q_nil ?_
  clear hV
  intro V2 hV2
  have HQ := Lib.hid (FreeB_ok (HB.out V2 hV2) f n hn1 hfit (fun i hi => HTK.out _ ⟨by omega, by omega⟩))
  refine rem_one (by kernel_rfl) (by kernel_rfl) rfl (by kernel_rfl) (fun K hK => ?_)
  go_wp2_with (first
    | (go_at_call 70
       (with_reducible refine HQ.out.mono ?_)
       rintro e w3 ⟨rfl, hb3, c3⟩
       have hne := HNE.out
       have e3 : ExtI w3 B N D (flips ws f n) E := ⟨(E2.out.row.keep hV2 (fun f => f)).keep c3 hne.1.2.2.2.1, (E2.out.disk.keep hV2 (fun f => f) (fun f => f)).keep c3 hne.2.1.2.2.1 hne.2.2.1.2.1, hb3, (E2.out.live.keep hV2 (fun f => f)).keep c3 hne.2.2.2.2.symm⟩
       have hbh := HLT.out B.h (.inr (.inr (.inr (.inr (.inl rfl)))))
       have E3 := Lib.hid e3
       have R3 := Lib.hid ((R2.out.keep hV2 (fun f => f)).keep c3 (by omega))
       have Q3 := Lib.hid ((Q2.out.keep hV2 (fun f => f)).keep c3 (by omega))
       have B3 := Lib.hid ((B2.out.keep hV2 (fun _ _ f => f)).keep c3 (fun k hk e => HS.out k hk (.inr (.inr (.inr (.inr (.inl e)))))))
       have C3 := Lib.hid ((H2.out.trans hV2).no.trans c3)
       have gz : ∀ v, Chg No w3 v → v.cell? ⟨w.heap.size, 1, none⟩ = some (.int .i64 n) := fun v hv => (IExt.cells (R3.out.keep hv (fun f => f))).2.1
       have gx : ∀ v, Chg No w3 v → v.cell? ⟨w.heap.size, 0, none⟩ = some (.int .i64 f) := fun v hv => (R3.out.keep hv (fun f => f)).cell 0
       have gr : ∀ v, Chg No w3 v → v.cell? ⟨B.r, 1, none⟩ = some (.pointer (some ⟨B.b, 0, none⟩)) := fun v hv => (E3.out.row.keep hv (fun f => f)).cell 1
       have HFI := Lib.hid (fun v (hv : Chg No w3 v) => by
         have h := First_any (E3.out.bits.keep hv (fun f => f) (fun f => f)) n2 (by rw [← HM.out.2]; exact secN_pos _) (by rw [← HM.out.2]; unfold secN; omega)
         rw [HPL.out] at h
         exact h)
       clear hb3 c3 hne e3 hbh)
    | fail)
  refine rem_end (by kernel_rfl) ?_
  clear fz fx fr hV2
  go_wp2_with fail
  refine q_region (C := (Chg No w3)) (by kernel_rfl) (by kernel_rfl) ?_ ?_
  · exact (Chg.refl _ _).drew
  repeat
    refine q_step (fun K hK => ?_)
    go_simp
    first
      | ((with_reducible refine hK _ ?_); clear hK K)
      | (refine (if_neg (by simp [undef])).mpr ?_; (with_reducible refine hK _ ?_); clear hK K)
      | (apply Exists.intro
         with_reducible refine ⟨fun v hv => ?_, hK _ ?_⟩
         · first
             | with_reducible exact rfl
             | with_reducible exact ⟨rfl, rfl⟩
             | (go_simp
                first
                  | done
                  | with_reducible exact rfl
                  | with_reducible exact ⟨rfl, rfl⟩
                  | (first | (go_at_call 55; refine (Sectors_any m (by omega) _).mono ?_; rw [HM.out.2]; rintro e w' ⟨rfl, rfl⟩; exact ⟨rfl, hv⟩) | (go_at_call 56; refine (HFI.out _ hv).mono ?_; rintro e w' ⟨rfl, rfl⟩; exact ⟨rfl, hv⟩)))
         clear hK K)
  refine q_nil ?_
  intro V4 hV4
  have HWP := Lib.hid (wipe_ok (E3.out.keep hV4 (fun _ _ f => f)) f n (z : Int) hfit)
  obtain ⟨x0, x1, x2, -⟩ := IExt.cells (R3.out.keep hV4 (fun f => f))
  have HV4 := Lib.hid hV4
  clear gz gx gr hV4
  go_wp2_with (first
    | (go_at_call 71
       (with_reducible refine HWP.out.mono ?_)
       rintro e w5 ⟨rfl, h5, c5⟩
       have g1 : w5.cell? ⟨B.r, 1, none⟩ = some (.pointer (some ⟨B.b, 0, none⟩)) := h5.row.cell 1
       have HQ5 := Lib.hid (Take_ok h5.bits f2 n2 (by rw [← HM.out.2]; exact secN_pos _) hfit2 (freeB_iff.1 HV1.out.2))
       have H5 := Lib.hid (And.intro h5 c5)
       clear h5 c5)
    | (go_at_call 55; refine (Sectors_any m (by omega) _).mono ?_; rw [HM.out.2]; rintro e w' ⟨rfl, rfl⟩)
    | (go_at_call 57
       (with_reducible refine HQ5.out.mono ?_)
       rintro e w6 ⟨rfl, hb6, c6⟩
       have hne := HNE.out
       have e6 : ExtI w6 B N (wipeD D f n) (flips (flips ws f n) f2 n2) (gdel ((f : Int), (n : Int), (z : Int)) E) := ⟨H5.out.1.row.keep c6 hne.1.2.2.2.1, H5.out.1.disk.keep c6 hne.2.1.2.2.1 hne.2.2.1.2.1, hb6, H5.out.1.live.keep c6 hne.2.2.2.2.symm⟩
       have hbg := HLT.out B.g (.inr (.inr (.inl rfl)))
       have hbv := HLT.out B.v (.inr (.inr (.inr (.inr (.inr rfl)))))
       have hbh := HLT.out B.h (.inr (.inr (.inr (.inr (.inl rfl)))))
       have Q6 := Lib.hid ((((Q3.out.keep HV4.out (fun f => f)).keep H5.out.2 (by omega)).keep c6 (by omega)))
       have hl := lay_ok e6 f2 n2 0 _ l S (((B3.out.keep HV4.out (fun _ _ f => f)).keep H5.out.2 (fun k hk e => HS.out k hk (e.elim (fun e => .inr (.inr (.inl e))) (fun e => .inr (.inr (.inr (.inr (.inr e)))))))).keep c6 (fun k hk e => HS.out k hk (.inr (.inr (.inr (.inr (.inl e))))))) HS.out (by rw [HM.out.1, HM.out.2]) (by rw [HM.out.1]; exact hl1) (by rw [HM.out.1]; exact hl2) hfit2
       rw [HM.out.1] at hl
       have HLY := Lib.hid hl
       have C6 := Lib.hid (show Chg B.has w w6 from (((C3.out.mono fun k _ h => .inr (.inr (.inr (.inr (.inl h))))).trans HV4.out.no).trans (H5.out.2.mono fun k _ h => h.elim (fun e => .inr (.inr (.inl e))) (fun e => .inr (.inr (.inr (.inr (.inr e))))))).trans (c6.mono fun k _ h => .inr (.inr (.inr (.inr (.inl h))))))
       clear hb6 c6 hne e6 hl hbg hbv hbh)
    | (go_at_call 58
       (with_reducible refine HLY.out.mono ?_)
       rintro e w7 ⟨rfl, h7, c7⟩
       have q7 := IExt.cells (Q6.out.keep c7 (fun e => by have := HLT.out _ (has_dgv e); omega))
       have H7 := Lib.hid (And.intro h7 (C6.out.trans (c7.mono fun k _ h => has_dgv h)))
       clear h7 c7)
    | fail)
  have hyn : Xt.n ⟨f2, l⟩ = n2 := by show secN l.length = n2; rw [HM.out.1, HM.out.2]
  have cF : ∀ U, Chg (fun k => k = w.heap.size + 1) w7 U → ExtS U B N (⟨f2, l⟩ :: X) ∧ Chg B.has w U := fun U hU => by
    have hx := H7.out.1.keep hU (fun k hk e => by have := HLT.out k hk; omega)
    exact ⟨ExtI.stood (w := w) HV1.out.1 f2 l H1.out.2.2.2.2.2.2 (by rw [HM.out.1, HM.out.2]; exact hfit2) (by rw [HM.out.1, HM.out.2]; exact HV1.out.2) (wipeD_len H1.out.1.disk.len n hfit) (ws' := flips (flips ws f n) f2 n2) (fun j => by rw [HM.out.1, HM.out.2]; exact flips_eq E3.out.bits hfit2 j) (by rw [HM.out.1, HM.out.2]; exact hx), H7.out.2.then hU (fun k hk e => by omega)⟩
  refine bodyPost_ret (v := .tuple #[.agg #[.int .i64 f2, .int .i64 n2, .int .i64 m], .int .i64 0]) (by simp [results, Tryz.results36, go_sem, q7]) rfl (Ret.mk ⟨by rw [hyn, HM.out.1], cF _ ?_⟩)
  repeat (with_reducible first | exact Chg.refl _ _ | refine Chg.setCell ?_ (.inl (by simp)) _)

end Go.Proofs.YtdpmmafkomchaaaGreat
