/- Rows of bytes in runs of sectors: extent.Space: Get, New, Used. -/
import Derived.Test.YtdpmmafkomchaaaSecI
namespace Go.Proofs.Ytdpmmafkomchaaa
set_option linter.unusedVariables false
set_option linter.unusedSimpArgs false
open Go.RowKit
open Go.ChangeMaps (setBlock)


/-- cut to its own length -/
theorem ByteS.cap {w : World} {S : Nat → Prop} {A : Option Addr} {n c : Nat} {l : List Int} (h : ByteS w S (.slice A n c) l) (k : Nat) (hk : k ≤ l.length) (hA : A ≠ Option.none) : ByteS w S (.slice A k k) (l.take k) := by
  obtain ⟨⟨A', c', e, e1, e2, e3, e4, e5⟩, h2⟩ := h
  obtain ⟨rfl, rfl, rfl⟩ := Value.slice.inj e
  have hl : (l.take k).length = k := by rw [List.length_take]; omega
  refine ⟨⟨A, k, by rw [hl], by rw [List.length_map, hl, Nat.mul_one], by rw [hl]; exact Nat.le_refl _, by omega, fun h => absurd h hA, fun h0 => ?_⟩, fun x hx => h2 x (List.mem_of_mem_take hx)⟩
  rw [hl] at h0
  obtain ⟨b, off, e6, e7, e8, e9⟩ := e5 (by omega)
  refine ⟨b, off, e6, e7, e8, fun i u hu => e9 i u ?_⟩
  rw [List.getElem?_map] at hu ⊢
  by_cases hi : i < k
  · rw [List.getElem?_take, if_pos hi] at hu
    exact hu
  · rw [List.getElem?_eq_none (by rw [hl]; omega)] at hu
    cases hu

/-- bytes in memory of the call's own, and a number -/
def Got (w : World) (B : Blk) (N : Nat) (X : List Xt) (l : List Int) (v : Value) (w' : World) : Prop := ∃ u, v = .tuple #[u, .int .i64 0] ∧ ByteS w' (fun b => w.heap.size ≤ b) u l ∧ ExtS w' B N X ∧ Chg (fun k => k = B.d) w w'

set_option maxRecDepth 100000 in
set_option maxHeartbeats 1000000 in
theorem Get_ok {w : World} {B : Blk} {N : Nat} {X : List Xt} (H : ExtS w B N X) (x : Xt) (hx : x ∈ X) (hl1 : 1 ≤ x.b.length) (hl2 : x.b.length ≤ 1000000) :
    Calls Try.prog 35 #[.pointer (some ⟨B.r, 0, none⟩), .agg #[.int .i64 x.f, .int .i64 x.n, .int .i64 x.b.length]] w (Ret (Got w B N X x.b)) := by
  obtain ⟨D, ws, E, H, V⟩ := H
  obtain ⟨f, l⟩ := x
  have hn : Xt.n ⟨f, l⟩ = secN l.length := rfl
  have hfit : f + secN l.length ≤ N := V.fits _ hx
  have hlive : gget ((f : Int), (secN l.length : Int), (l.length : Int)) E = some (.bool true) := V.live _ hx
  have hdata : ∀ j, j < l.length → D[f * 64 + j]? = l[j]? := V.data _ hx
  rw [hn]
  dsimp only at hl1 hl2 ⊢
  have hrd := readD_take H.disk.len hfit (by unfold secN; omega) hdata
  have hmax := H.disk.max
  obtain ⟨W1, hW1⟩ : ∃ W, w.alloc (.cells #[.int .i64 f, .int .i64 (secN l.length), .int .i64 l.length] 67) = W := ⟨_, rfl⟩
  have c1 : Chg No w W1 := by rw [← hW1]; exact (Chg.refl _ _).alloc _
  have hs1 : W1.heap.size = w.heap.size + 1 := by rw [← hW1]; simp
  have rx : Row W1 w.heap.size 67 #[.int .i64 f, .int .i64 (secN l.length), .int .i64 l.length] := by rw [← hW1]; exact Row.new w _ _
  have HL := Lib.hid (lives_ok (H.keep c1 (fun _ _ f => f)) _ hlive)
  have HLT := Lib.hid (fun k (hk : B.has k) => H.lt hk)
  have HNE := Lib.hid H.ne
  have HW := Lib.hid hW1
  have H1 := Lib.hid (And.intro H (And.intro V (And.intro c1 rx)))
  obtain ⟨y0, y1, y2, yf⟩ := IExt.cells rx
  generalize hm : l.length = m at *
  generalize hsn : secN m = n at *
  have HM := Lib.hid hm
  have HRD := Lib.hid hrd
  have hnm : m ≤ n * 64 ∧ 1 ≤ n := by rw [← hsn]; unfold secN; omega
  clear hW1 c1 H V rx yf hm hrd hsn hlive hdata hn hx
  go_enter Try.func35, Try.ntmps35
  go_wp2_with (first
    | (rw [HW.out])
    | (go_at_call 60
       refine HL.out.mono ?_
       rintro e w2 ⟨rfl, c2⟩
       obtain ⟨z0, z1, z2, zf⟩ := IExt.cells (H1.out.2.2.2.keep c2 (fun f => f))
       have hs2 := c2.size
       have H2 := Lib.hid (H1.out.2.2.1.trans c2)
       have R2 := Lib.hid (H1.out.2.2.2.keep c2 (fun f => f))
       clear c2)
    | fail)
  go_loopg [7, 19] n (fun j v7 v19 wr => ∃ i : Nat, v19 = .int .i64 (i : Int) ∧ i ≤ n ∧ n - i ≤ j ∧ OwnB wr w2.heap.size v7 (readD D f i) ∧ DiskI wr B.d B.g N D ∧ Chg (fun k => k = B.d) w2 wr)
  case atStart => exact ⟨0, rfl, by omega, by omega, OwnB.nil _ _, (H1.out.1.disk.keep H2.out (fun f => f) (fun f => f)), Chg.refl _ _⟩
  case round =>
    clear y0 y1 y2 z0 z1 z2 zf
    obtain ⟨i, rfl, i1, i2, own, hd, cw⟩ := hrel
    have hbx : ∀ k, w.heap.size ≤ k → ¬ (k = B.d) := fun k hk h => by
      have h2 := HLT.out B.d (.inr (.inl rfl))
      omega
    have hrow := R2.out.keep cw (hbx _ (Nat.le_refl _))
    by_cases hi : i < n
    · have e4 : IntKind.i64.wrap ((f : Int) + (i : Int)) = (f : Int) + (i : Int) := IntWalk.i64_in _ (by omega)
      have t1 : decide ((i : Int) < (n : Int)) = true := decide_eq_true (by omega)
      have fr : ∀ v, Chg No wr v → v.cell? ⟨B.r, 0, none⟩ = some (.pointer (some ⟨B.d, 0, none⟩)) := fun v hv => (((H1.out.1.row.keep H2.out (fun f => f)).keep cw HNE.out.1.1).keep hv (fun f => f)).cell 0
      have fx : ∀ v, Chg No wr v → v.cell? ⟨w.heap.size, 0, none⟩ = some (.int .i64 f) := fun v hv => (hrow.keep hv (fun f => f)).cell 0
      obtain ⟨A7, c7, rfl⟩ := own.form
      have hlen := readD_len hd.len (show f + i ≤ N by omega)
      rw [hlen]
      have HD := Lib.hid (And.intro hd (And.intro own cw))
      have hsz := cw.size
      have HLN := Lib.hid hlen
      clear hrow hd own cw hlen
      go_wp2_with fail
      refine rem_start (by kernel_rfl) (by kernel_rfl) ?_
      refine rem_quiet 8 (C := (Chg No wr)) (by kernel_rfl) (by simp only [List.toList_toArray, List.drop_succ_cons, List.drop_zero, List.take_succ_cons, List.take_zero, Nat.reduceSub, Nat.reduceAdd]; rfl) ?_ ?_
      · exact (Chg.refl _ _).drew
      repeat
        refine q_step (fun K hK => ?_)
        go_simp
        first
          | ((with_reducible refine hK _ ?_); clear hK K)
          | (refine (if_neg (by simp [undef])).mpr ?_; (with_reducible refine hK _ ?_); clear hK K)
          | (apply Exists.intro
             with_reducible refine ⟨fun v hv => ?_, hK _ ?_⟩
             · first
                 | with_reducible exact rfl
                 | with_reducible exact ⟨rfl, rfl⟩
                 | (go_simp
                    first
                      | done
                      | with_reducible exact rfl
                      | with_reducible exact ⟨rfl, rfl⟩
                      | fail)
             clear hK K)
      refine q_nil ?_
      intro V hV
      have hq := diskRead_ok (HD.out.1.keep hV (fun f => f) (fun f => f)) (f + i) (by omega)
      rw [show ((f + i : Nat) : Int) = (f : Int) + (i : Int) by omega] at hq
      have HQ := Lib.hid hq
      clear hq
      refine rem_one (by kernel_rfl) (by kernel_rfl) rfl (by kernel_rfl) (fun K hK => ?_)
      go_wp2_with (first
        | (go_at_call 63
           (with_reducible refine HQ.out.mono ?_)
           rintro e1 w3 ⟨v3, rfl, u3, rfl, ho3, hd3, c3⟩
           obtain ⟨A3, d3, rfl⟩ := ho3.form
           have hl3 := secB_len HD.out.1.len (show f + i < N by omega)
           rw [hl3]
           obtain ⟨A4, d4, w4, hr4, ho4, c4⟩ := app_bytes (HD.out.2.1.keep (F := fun k => k = B.d) (hV.no.trans c3) (fun b hb e => by have := HLT.out B.d (.inr (.inl rfl)); omega)) (ho3.bytes (fun x hx => HD.out.1.byte x (List.mem_of_mem_drop (List.mem_of_mem_take hx)))) (by rw [HLN.out, hl3]; omega) (by have := c3.size; have := hV.size; omega) 28
           rw [HLN.out, hl3, ← readD_succ] at hr4
           rw [← readD_succ] at ho4
           have hls := readD_len HD.out.1.len (show f + (i + 1) ≤ N by omega)
           rw [hls] at hr4 ho4
           have HR := Lib.hid hr4
           have H4 := Lib.hid (And.intro ho4 (And.intro (hd3.keep c4 (fun h => by have := HLT.out B.d (.inr (.inl rfl)); omega) (fun h => by have := HLT.out B.g (.inr (.inr (.inl rfl))); omega)) (((HD.out.2.2.trans hV.no).trans c3).then c4 (fun k hk h => by omega))))
           clear ho3 hd3 c3 hl3 hr4 ho4 c4 hls)
        | fail)
      refine rem_quiet 14 (C := (fun v => v = w3)) (by kernel_rfl) (by simp only [List.toList_toArray, List.drop_succ_cons, List.drop_zero, List.take_succ_cons, List.take_zero, Nat.reduceSub, Nat.reduceAdd]; rfl) ?_ ?_
      · rfl
      repeat
        refine q_step (fun K hK => ?_)
        go_simp
        first
          | ((with_reducible refine hK _ ?_); clear hK K)
          | (refine (if_neg (by simp [undef])).mpr ?_; (with_reducible refine hK _ ?_); clear hK K)
          | (apply Exists.intro
             with_reducible refine ⟨fun v hv => ?_, hK _ ?_⟩
             · first
                 | with_reducible exact rfl
                 | with_reducible exact ⟨rfl, rfl⟩
                 | (go_simp
                    first
                      | done
                      | with_reducible exact rfl
                      | with_reducible exact ⟨rfl, rfl⟩
                      | fail)
             clear hK K)
      refine q_nil ?_
      intro V3 hV3
      subst V3
      refine rem_end (by kernel_rfl) ?_
      go_wp2_with (first
        | (at_builtin; refine wpList_append_run rfl _ _ _ rfl rfl rfl HR.out ?_)
        | fail)
      go_roundg (n - (i + 1))
      case measure => omega
      case rel => exact ⟨i + 1, by go_num, by omega, by omega, H4.out⟩
    · obtain rfl : i = n := by omega
      have t1 : decide ((i : Int) < (i : Int)) = false := decide_eq_false (by omega)
      obtain ⟨x0, x1, x2, xf⟩ := IExt.cells hrow
      have hlen := readD_len hd.len hfit
      obtain ⟨A7, c7, rfl⟩ := own.form
      have hby := own.bytes (fun x hx => hd.byte x (List.mem_of_mem_drop (List.mem_of_mem_take hx)))
      obtain ⟨b7, o7, rfl⟩ := hby.some (by rw [hlen]; omega)
      obtain ⟨A9, c9, e9, hc9, hc8, -⟩ := hby.form
      have e10 := (Value.slice.inj e9).2.2
      rw [← e10] at hc9 hc8
      rw [hlen] at hc9
      have hc7 : c7 ≤ 9223372036854775807 := by unfold maxLen at hc8; simp at hc8; omega
      have hcap := hby.cap m (by rw [hlen]; omega) (fun h => by cases h)
      rw [HRD.out] at hcap
      rw [hlen]
      have hmc : (m : Int) ≤ (c7 : Int) := by omega
      have hm0 : ¬ c7 = 0 := by omega
      have HX := Lib.hid (And.intro hcap (And.intro hd cw))
      clear hrow hd own cw hlen hby hcap e9 e10 hc8
      go_wp2_with fail
      go_ret2
      obtain ⟨hcap, hd, cw⟩ := HX.out
      have hE := H1.out.1
      refine Ret.mk ⟨_, rfl, hcap.more (fun b _ hb => by omega), ⟨D, ws, E, ⟨(hE.row.keep H2.out (fun f => f)).keep cw HNE.out.1.1, hd, (hE.bits.keep H2.out (fun f => f) (fun f => f)).keep cw HNE.out.2.1.2.1.symm HNE.out.2.1.2.2.1.symm, (hE.live.keep H2.out (fun f => f)).keep cw HNE.out.2.1.2.2.2.symm⟩, H1.out.2.1⟩, H2.out.no.trans cw⟩

/-- a space in new memory -/
def ExtNew (w : World) (N : Nat) (v : Value) (w' : World) : Prop := ∃ B : Blk, v = .tuple #[.pointer (some ⟨B.r, 0, none⟩), .int .i64 0] ∧ ExtS w' B N [] ∧ (∀ k, B.has k → w.heap.size ≤ k) ∧ Chg No w w'

set_option maxRecDepth 100000 in
set_option maxHeartbeats 1000000 in
theorem extNew_ok (N : Nat) (hN : N ≤ 20000) (w : World) : Calls Try.prog 25 #[.int .i64 N] w (Ret (ExtNew w N)) := by
  have hmm := @run_makeMap Try.prog
  have HD := Lib.hid (diskNew_ok N hN w)
  go_enter Try.func25, Try.ntmps25
  go_wp2_with (first
    | (go_at_call 46
       refine HD.out.mono ?_
       rintro e w1 ⟨v1, rfl, d, g, rfl, hd1, hg1, hd, c1⟩
       have HB := Lib.hid (BitsNew_ok N (by omega) w1)
       have H1 := Lib.hid (And.intro hd c1)
       have hs1 := c1.size
       clear hd c1)
    | (go_at_call 47
       refine HB.out.mono ?_
       rintro e w2 ⟨v2, rfl, b, h, rfl, hb1, hh1, hb, c2⟩
       have H2 := Lib.hid (And.intro hb c2)
       have hs2 := c2.size
       clear hb c2)
    | fail)
  go_ret2
  have c2 : Chg No w2 ((w2.alloc (.map #[] 0)).alloc (.cells #[.pointer (some ⟨d, 0, none⟩), .pointer (some ⟨b, 0, none⟩), .map (some w2.heap.size)] 97)) := ((Chg.refl _ _).alloc _).alloc _
  have hr := Row.new (w2.alloc (.map #[] 0)) 97 #[.pointer (some ⟨d, 0, none⟩), .pointer (some ⟨b, 0, none⟩), .map (some w2.heap.size)]
  rw [show (w2.alloc (.map #[] 0)).heap.size = w2.heap.size + 1 by simp] at hr
  have hm : GMap kv3 ((w2.alloc (.map #[] 0)).alloc (.cells #[.pointer (some ⟨d, 0, none⟩), .pointer (some ⟨b, 0, none⟩), .map (some w2.heap.size)] 97)) w2.heap.size [] := (GMap.new w2).keep (F := No) ((Chg.refl _ _).alloc _) (fun f => f)
  refine Ret.mk ⟨⟨w2.heap.size + 1, d, g, b, h, w2.heap.size⟩, rfl, ⟨_, _, _, ⟨hr, (H1.out.1.keep H2.out.2 (fun f => f) (fun f => f)).keep c2 (fun f => f) (fun f => f), H2.out.1.keep c2 (fun f => f) (fun f => f), hm⟩, ExtV.nil _ _ _ (fun i => bitT_zero _ _)⟩, ?_, (H1.out.2.trans H2.out.2).trans c2⟩
  rintro k (rfl | rfl | rfl | rfl | rfl | rfl) <;> (try dsimp only) <;> omega

set_option maxHeartbeats 400000 in
theorem extNew_bad (n : Int) (hN : n < 0 ∨ 20000 < n) (w : World) : Calls Try.prog 25 #[.int .i64 n] w fun e w' => e = .returned (.tuple #[.pointer none, .int .i64 2]) ∧ w = w' := by
  have HD := Lib.hid (diskNew_bad n hN w)
  clear hN
  go_enter Try.func25, Try.ntmps25
  go_wp2_with (first
    | (go_at_call 46; refine HD.out.mono ?_; rintro e w1 ⟨rfl, rfl⟩)
    | fail)
  go_ret2
  exact ⟨rfl, rfl⟩

set_option maxHeartbeats 400000 in
theorem extUsed_any {w : World} {B : Blk} {N : Nat} {X : List Xt} (H : ExtS w B N X) : Calls Try.prog 30 #[.pointer (some ⟨B.r, 0, none⟩)] w fun e w' => e = .returned (.int .i64 (X.map Xt.n).sum) ∧ w = w' := by
  obtain ⟨D, ws, E, H, V⟩ := H
  have f1 : w.cell? ⟨B.r, 1, none⟩ = some (.pointer (some ⟨B.b, 0, none⟩)) := H.row.cell 1
  have hq := Taken_any H.bits
  rw [taken_sum H.bits V] at hq
  have HQ := Lib.hid hq
  clear H V hq
  go_enter Try.func30, Try.ntmps30
  go_wp2_with (first
    | (go_at_call 56; refine HQ.out.mono ?_; rintro e w' ⟨rfl, rfl⟩)
    | fail)
  go_ret
  exact ⟨rfl, rfl⟩

end Go.Proofs.Ytdpmmafkomchaaa
