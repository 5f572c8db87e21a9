/- Rows of bytes in runs of sectors: extent.Space.Free. -/
import Derived.Test.YtdpmmafkomchaaaSecM
namespace Go.Proofs.Ytdpmmafkomchaaa
set_option linter.unusedVariables false
set_option linter.unusedSimpArgs false
open Go.RowKit
open Go.ChangeMaps (setBlock)


set_option maxRecDepth 100000 in
set_option maxHeartbeats 1000000 in
theorem extFree_ok {w : World} {B : Blk} {N : Nat} {X Y : List Xt} (H : ExtS w B N (Y ++ X)) (v : Value) (S : Nat → Prop) (hv : ExL w S v (Y.map Xt.ex)) (hS : ∀ k, S k → ¬ B.has k) :
    Calls Try.prog 41 #[.pointer (some ⟨B.r, 0, none⟩), v] w fun e w' => e = .returned (.int .i64 0) ∧ ExtS w' B N X ∧ Chg B.has w w' := by
  obtain ⟨A, c, rfl, hcap, hcm⟩ := hv.form
  have hm : (Y.map Xt.ex).length ≤ 9223372036854775807 := by unfold maxLen at hcm; simp at hcm; omega
  have HLT := Lib.hid (fun k (hk : B.has k) => H.lt hk)
  have HS := Lib.hid hS
  have HX := Lib.hid (And.intro H hv)
  generalize hn : (Y.map Xt.ex).length = n at *
  have HN := Lib.hid hn
  have hYn : Y.length = n := by rw [← hn, List.length_map]
  have HYN := Lib.hid hYn
  have hcm2 : c ≤ 9223372036854775807 := by unfold maxLen at hcm; simp at hcm; omega
  clear H hv hS hn hYn hcm
  go_enter Try.func41, Try.ntmps41
  go_wp2_with fail
  go_loopg [13] n (fun j v13 wr => ∃ i : Nat, v13 = .int .i64 (i : Int) ∧ i ≤ n ∧ n - i ≤ j ∧ Chg No w wr)
  case atStart => exact ⟨0, rfl, by omega, by omega, Chg.refl _ _⟩
  case round =>
    obtain ⟨i, rfl, i1, i2, cw⟩ := hrel
    by_cases hi : i < n
    · have hil : i < Y.length := by rw [HYN.out]; exact hi
      obtain ⟨x, hx⟩ : ∃ x, Y[i]? = some x := ⟨_, List.getElem?_eq_getElem hil⟩
      have hxe : (Y.map Xt.ex)[i]? = some x.ex := by rw [List.getElem?_map, hx]; rfl
      obtain ⟨g, off, rfl, -, -, -, d0, d1, d2⟩ := (HX.out.2.keep cw (fun _ _ f => f)).at hxe
      have t1 : decide ((i : Int) < (n : Int)) = true := decide_eq_true (by omega)
      obtain ⟨W2, hW2⟩ : ∃ W, wr.alloc (.cells #[.int .i64 x.ex.1, .int .i64 x.ex.2.1, .int .i64 x.ex.2.2] 67) = W := ⟨_, rfl⟩
      have c2 : Chg No wr W2 := by rw [← hW2]; exact (Chg.refl _ _).alloc _
      have rx : Row W2 wr.heap.size 67 #[.int .i64 x.ex.1, .int .i64 x.ex.2.1, .int .i64 x.ex.2.2] := by rw [← hW2]; exact Row.new wr _ _
      have HW := Lib.hid hW2
      obtain ⟨D, ws, E, hE, hV⟩ := HX.out.1
      have hxm : x ∈ Y ++ X := List.mem_append_left _ (List.mem_of_getElem? hx)
      have hlive := hV.live x hxm
      have hnot : x.ex ∉ (Y.map Xt.ex).take i := by
        intro h
        rw [← List.map_take] at h
        obtain ⟨y, hy, he⟩ := List.mem_map.1 h
        have hp := (List.pairwise_append.1 hV.apart).1
        have hsp : Y = Y.take i ++ (x :: Y.drop (i + 1)) := by
          rw [← (List.getElem?_eq_some_iff.1 hx).2, ← List.drop_eq_getElem_cons hil, List.take_append_drop]
        rw [hsp, List.pairwise_append] at hp
        exact (hp.2.2 y hy x List.mem_cons_self).ne he
      have fr : ∀ v, Chg No W2 v → v.cell? ⟨B.r, 2, none⟩ = some (.map (some B.v)) := fun v hv => (hE.row.keep ((cw.trans c2).trans hv) (fun f => f)).cell 2
      have fl : ∀ v, Chg No W2 v → (Instr.lookup 95 (.map (some B.v)) (.agg #[.int .i64 x.ex.1, .int .i64 x.ex.2.1, .int .i64 x.ex.2.2]) false).run Try.prog v = .ok (.bool true) v := fun v hv => by
        have := (hE.live.keep ((cw.trans c2).trans hv) (fun f => f)).lookup (P := Try.prog) elem_live key3 zero_bool x.ex
        rw [hlive] at this
        exact this
      have g0 : ∀ v, Chg No W2 v → v.cell? ⟨wr.heap.size, 0, none⟩ = some (.int .i64 x.ex.1) := fun v hv => (rx.keep hv (fun f => f)).cell 0
      have g1 : ∀ v, Chg No W2 v → v.cell? ⟨wr.heap.size, 1, none⟩ = some (.int .i64 x.ex.2.1) := fun v hv => (rx.keep hv (fun f => f)).cell 1
      have g2 : ∀ v, Chg No W2 v → v.cell? ⟨wr.heap.size, 2, none⟩ = some (.int .i64 x.ex.2.2) := fun v hv => (rx.keep hv (fun f => f)).cell 2
      have HC := Lib.hid (fun v (hv : Chg No W2 v) => by
        have h := ContainsE_any _ _ S x.ex v (((HX.out.2.keep (cw.trans c2) (fun _ _ f => f)).keep hv (fun _ _ f => f)).take i (by rw [HN.out]; exact i1))
        rw [decide_eq_false hnot] at h
        exact h)
      have t2 : 0 ≤ (i : Int) ∧ (i : Int) ≤ (c : Int) := by omega
      have t3 : (i : Int) ≤ (c : Int) := by omega
      have HCW := Lib.hid (cw.trans c2)
      clear cw c2 rx hW2 hE hV hlive hnot hxm hx hxe
      go_wp2_with (first | (rw [HW.out]) | fail)
      refine q_region (C := (Chg No W2)) (by kernel_rfl) (by kernel_rfl) ?_ ?_
      · exact (Chg.refl _ _).drew
      repeat
        refine q_step (fun K hK => ?_)
        go_simp
        first
          | ((with_reducible refine hK _ ?_); clear hK K)
          | (refine (if_neg (by simp [undef])).mpr ?_; (with_reducible refine hK _ ?_); clear hK K)
          | (apply Exists.intro
             with_reducible refine ⟨fun v hv => ?_, hK _ ?_⟩
             · first
                 | with_reducible exact rfl
                 | with_reducible exact ⟨rfl, rfl⟩
                 | (go_simp
                    first
                      | done
                      | with_reducible exact rfl
                      | with_reducible exact ⟨rfl, rfl⟩
                      | (go_at_call 68; refine (HC.out _ hv).mono ?_; rintro e w' ⟨rfl, c5⟩; exact ⟨rfl, hv.trans c5⟩))
             clear hK K)
      refine q_nil ?_
      intro V hV
      go_wp2_with fail
      go_roundg (n - (i + 1))
      case measure => omega
      case rel => exact ⟨i + 1, by go_num, by omega, by omega, HCW.out.trans hV⟩
    · obtain rfl : i = n := by omega
      have t1 : decide ((i : Int) < (i : Int)) = false := decide_eq_false (by omega)
      have C1 := Lib.hid cw
      obtain ⟨wa, hwa⟩ : ∃ x, x = wr := ⟨_, rfl⟩
      subst hwa
      clear cw
      go_wp2_with fail
      go_loopg [35] i (fun j v35 wr => ∃ k : Nat, v35 = .int .i64 (k : Int) ∧ k ≤ i ∧ i - k ≤ j ∧ ExtS wr B N (Y.drop k ++ X) ∧ Chg B.has w wr)
      case atStart => exact ⟨0, rfl, by omega, by omega, HX.out.1.keep C1.out (fun _ _ f => f), C1.out.no⟩
      case round =>
        obtain ⟨k, rfl, k1, k2, hst, cw⟩ := hrel
        by_cases hk : k < i
        · have hkl : k < Y.length := by rw [HYN.out]; exact hk
          obtain ⟨x, hx⟩ : ∃ x, Y[k]? = some x := ⟨_, List.getElem?_eq_getElem hkl⟩
          have hxe : (Y.map Xt.ex)[k]? = some x.ex := by rw [List.getElem?_map, hx]; rfl
          obtain ⟨g, off, rfl, -, hSg, -, d0, d1, d2⟩ := (HX.out.2.keep cw HS.out).at hxe
          have hdr : Y.drop k = x :: Y.drop (k + 1) := by rw [List.drop_eq_getElem_cons hkl, (List.getElem?_eq_some_iff.1 hx).2]
          rw [hdr] at hst
          obtain ⟨D, ws, E, hE, hV⟩ := hst
          have t1 : decide ((k : Int) < (i : Int)) = true := decide_eq_true (by omega)
          obtain ⟨W2, hW2⟩ : ∃ W, wr.alloc (.cells #[.int .i64 x.ex.1, .int .i64 x.ex.2.1, .int .i64 x.ex.2.2] 67) = W := ⟨_, rfl⟩
          have c2 : Chg No wr W2 := by rw [← hW2]; exact (Chg.refl _ _).alloc _
          have rx : Row W2 wr.heap.size 67 #[.int .i64 x.ex.1, .int .i64 x.ex.2.1, .int .i64 x.ex.2.2] := by rw [← hW2]; exact Row.new wr _ _
          have HW := Lib.hid hW2
          have fr : ∀ v, Chg No W2 v → v.cell? ⟨B.r, 1, none⟩ = some (.pointer (some ⟨B.b, 0, none⟩)) := fun v hv => (hE.row.keep (c2.trans hv) (fun f => f)).cell 1
          have g0 : ∀ v, Chg No W2 v → v.cell? ⟨wr.heap.size, 0, none⟩ = some (.int .i64 x.ex.1) := fun v hv => (rx.keep hv (fun f => f)).cell 0
          have g1 : ∀ v, Chg No W2 v → v.cell? ⟨wr.heap.size, 1, none⟩ = some (.int .i64 x.ex.2.1) := fun v hv => (rx.keep hv (fun f => f)).cell 1
          have hfit : x.f + x.n ≤ N := hV.fits x List.mem_cons_self
          have HE := Lib.hid (And.intro hE (And.intro hV (And.intro cw (And.intro c2 rx))))
          have hlt2 := fun k (hk : B.has k) => hE.lt hk
          have HL2 := Lib.hid hlt2
          have HNE := Lib.hid hE.ne
          have hn1 : 1 ≤ x.n := secN_pos _
          have hbx : B.h < wr.heap.size := hE.lt (.inr (.inr (.inr (.inr (.inl rfl)))))
          clear cw c2 rx hW2 hE hV hx hxe hdr hlt2
          go_wp2_with (first | (rw [HW.out]) | fail)
          refine rem_start (by kernel_rfl) (by kernel_rfl) ?_
          refine rem_quiet 8 (C := (Chg No W2)) (by kernel_rfl) (by simp only [List.toList_toArray, List.drop_succ_cons, List.drop_zero, List.take_succ_cons, List.take_zero, Nat.reduceSub, Nat.reduceAdd]; rfl) ?_ ?_
          · exact (Chg.refl _ _).drew
          repeat
            refine q_step (fun K hK => ?_)
            go_simp
            first
              | ((with_reducible refine hK _ ?_); clear hK K)
              | (refine (if_neg (by simp [undef])).mpr ?_; (with_reducible refine hK _ ?_); clear hK K)
              | (apply Exists.intro
                 with_reducible refine ⟨fun v hv => ?_, hK _ ?_⟩
                 · first
                     | with_reducible exact rfl
                     | with_reducible exact ⟨rfl, rfl⟩
                     | (go_simp
                        first
                          | done
                          | with_reducible exact rfl
                          | with_reducible exact ⟨rfl, rfl⟩
                          | fail)
                 clear hK K)
          refine q_nil ?_
          intro V hV
          have hq := FreeB_ok (HE.out.1.bits.keep (HE.out.2.2.2.1.trans hV) (fun f => f) (fun f => f)) x.f x.n hn1 hfit (fun j hj => HE.out.2.1.taken List.mem_cons_self (by omega) (by omega))
          have HQ := Lib.hid hq
          clear hq
          refine rem_one (by kernel_rfl) (by kernel_rfl) rfl (by kernel_rfl) (fun K hK => ?_)
          go_wp2_with (first
            | (go_at_call 61
               refine HQ.out.mono ?_
               rintro e w3 ⟨rfl, hb3, c3⟩
               have hne := HNE.out
               have e3 : ExtI w3 B N D (flips ws x.f x.n) E := ⟨(HE.out.1.row.keep (HE.out.2.2.2.1.trans hV) (fun f => f)).keep c3 hne.1.2.2.2.1, (HE.out.1.disk.keep (HE.out.2.2.2.1.trans hV) (fun f => f) (fun f => f)).keep c3 hne.2.1.2.2.1 hne.2.2.1.2.1, hb3, (HE.out.1.live.keep (HE.out.2.2.2.1.trans hV) (fun f => f)).keep c3 hne.2.2.2.2.symm⟩
               have hwp := wipe_ok e3 x.f x.n (x.b.length : Int) hfit
               have q3 := IExt.cells ((HE.out.2.2.2.2.keep hV (fun f => f)).keep c3 (by omega))
               have H3 := Lib.hid (show Chg B.has w w3 from (HE.out.2.2.1.trans (HE.out.2.2.2.1.trans hV).no).trans (c3.mono fun k _ h => .inr (.inr (.inr (.inr (.inl h))))))
               have HWP := Lib.hid hwp
               clear hb3 c3 hne e3 hwp)
            | fail)
          refine rem_end (by kernel_rfl) ?_
          go_wp2_with (first
            | (go_at_call 62
               refine HWP.out.mono ?_
               rintro e w4 ⟨rfl, h4, c4⟩
               have H4 := Lib.hid (And.intro h4 (H3.out.trans (c4.mono fun k _ h => h.elim (fun e => .inr (.inr (.inl e))) (fun e => .inr (.inr (.inr (.inr (.inr e))))))))
               clear h4 c4)
            | fail)
          go_roundg (i - (k + 1))
          case measure => omega
          case rel =>
            refine ⟨k + 1, by go_num, by omega, by omega, ⟨_, _, _, H4.out.1, ?_⟩, H4.out.2⟩
            exact HE.out.2.1.cut HE.out.1.live.nodup (fun j => flips_eq HE.out.1.bits hfit j) (fun j hj => wipeD_out HE.out.1.disk.len x.n hfit j hj)
        · obtain rfl : k = i := by omega
          have t1 : decide ((k : Int) < (k : Int)) = false := decide_eq_false (by omega)
          rw [List.drop_of_length_le (by rw [HYN.out]; omega), List.nil_append] at hst
          have HR := Lib.hid (And.intro hst cw)
          clear hst cw
          go_wp2_with fail
          go_ret
          exact ⟨rfl, HR.out⟩

end Go.Proofs.Ytdpmmafkomchaaa
