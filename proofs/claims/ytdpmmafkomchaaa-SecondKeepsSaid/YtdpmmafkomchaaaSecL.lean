/- Rows of bytes in runs of sectors: extent.Space: Set, to another place. -/
import Derived.Test.YtdpmmafkomchaaaSecK
namespace Go.Proofs.Ytdpmmafkomchaaa
set_option linter.unusedVariables false
set_option linter.unusedSimpArgs false
open Go.RowKit
open Go.ChangeMaps (setBlock)




set_option maxRecDepth 100000 in
set_option maxHeartbeats 1000000 in
theorem Set_full {w : World} {B : Blk} {N : Nat} {X : List Xt} {x : Xt} (H : ExtS w B N (x :: X)) (bv : Value) (l : List Int) (S : Nat → Prop) (hb : ByteS w S bv l) (hS : ∀ k, S k → ¬ B.has k) (hl2 : l.length ≤ 1000000) (he : secN l.length ≠ x.n) (hp : placeX X N (secN l.length) = none) :
    Calls Try.prog 34 #[.pointer (some ⟨B.r, 0, none⟩), .agg #[.int .i64 x.f, .int .i64 x.n, .int .i64 x.b.length], bv] w fun e w' => e = .returned (.tuple #[.agg #[.int .i64 0, .int .i64 0, .int .i64 0], .int .i64 3]) ∧ ExtS w' B N (x :: X) ∧ Chg B.has w w' := by
  obtain ⟨D, ws, E, H, V⟩ := H
  obtain ⟨A, c, rfl, -⟩ := hb.form
  have hfit : x.f + x.n ≤ N := V.fits _ List.mem_cons_self
  have hlive : gget ((x.f : Int), (x.n : Int), (x.b.length : Int)) E = some (.bool true) := V.live _ List.mem_cons_self
  have hmax := H.disk.max
  have hn1 : 1 ≤ x.n := secN_pos _
  obtain ⟨W1, hW1⟩ : ∃ W, (w.alloc (.cells #[.int .i64 x.f, .int .i64 x.n, .int .i64 x.b.length] 67)).alloc (.cells #[.int .i64 0, .int .i64 0, .int .i64 0] 67) = W := ⟨_, rfl⟩
  have c1 : Chg No w W1 := by rw [← hW1]; exact ((Chg.refl _ _).alloc _).alloc _
  have hs1 : W1.heap.size = w.heap.size + 2 := by rw [← hW1]; simp
  have rx : Row W1 w.heap.size 67 #[.int .i64 x.f, .int .i64 x.n, .int .i64 x.b.length] := by rw [← hW1]; exact (Row.new w _ _).alloc _
  have ry : Row W1 (w.heap.size + 1) 67 #[.int .i64 0, .int .i64 0, .int .i64 0] := by
    rw [← hW1]
    have := Row.new (w.alloc (.cells #[.int .i64 x.f, .int .i64 x.n, .int .i64 x.b.length] 67)) 67 #[.int .i64 0, .int .i64 0, .int .i64 0]
    simpa using this
  have HL := Lib.hid (lives_ok (H.keep c1 (fun _ _ f => f)) _ hlive)
  have HLT := Lib.hid (fun k (hk : B.has k) => H.lt hk)
  have HNE := Lib.hid H.ne
  have HS := Lib.hid hS
  have HW := Lib.hid hW1
  have H1 := Lib.hid (And.intro H (And.intro V (And.intro c1 (And.intro rx (And.intro ry hb)))))
  obtain ⟨y0, y1, y2, yf⟩ := IExt.cells rx
  generalize hsm : secN l.length = n2 at *
  generalize hm : l.length = m at *
  have HM := Lib.hid (And.intro hm hsm)
  generalize hf : x.f = f at *
  generalize hn : x.n = n at *
  generalize hz : x.b.length = z at *
  have HX := Lib.hid (And.intro hf (And.intro hn hz))
  clear hW1 c1 H V rx ry yf hlive hb hS hm hsm hf hn hz
  have t1 : ((n2 : Int) == (n : Int)) = false := beq_eq_false_iff_ne.2 (by omega)
  have htk : ∀ j, f ≤ j ∧ j < f + n → bitT ws j = true := fun j hj => H1.out.2.1.taken List.mem_cons_self (by rw [HX.out.1]; exact hj.1) (by rw [HX.out.1, HX.out.2.1]; exact hj.2)
  have hpl : firstB (bitT (flips ws f n)) N n2 = none := by
    have V1 : ExtV N D (bitT (flips ws f n)) (gdel x.ex E) X := H1.out.2.1.cut H1.out.1.live.nodup (fun j => by rw [HX.out.1, HX.out.2.1]; exact flips_eq H1.out.1.bits hfit j) (fun j _ => rfl)
    rw [V1.t_eq]
    exact hp
  have HTK := Lib.hid htk
  have HPL := Lib.hid hpl
  clear htk hpl hp he
  go_enter Try.func34, Try.ntmps34
  go_wp2_with (first
    | (rw [HW.out])
    | (go_at_call 60
       refine HL.out.mono ?_
       rintro e w2 ⟨rfl, c2⟩
       have hs2 := c2.size
       have H2 := Lib.hid (H1.out.2.2.1.trans c2)
       have R2 := Lib.hid (H1.out.2.2.2.1.keep c2 (fun f => f))
       have Q2 := Lib.hid (H1.out.2.2.2.2.1.keep c2 (fun f => f))
       have B2 := Lib.hid (H1.out.2.2.2.2.2.keep H2.out (fun _ _ f => f))
       have E2 := Lib.hid (H1.out.1.keep H2.out (fun _ _ f => f))
       have z1 := (IExt.cells (H1.out.2.2.2.1.keep c2 (fun f => f))).2.1
       clear c2)
    | fail)
  have hb := fun v (hv : Chg No w2 v) => E2.out.bits.keep hv (fun f => f) (fun f => f)
  have fz : ∀ v, Chg No w2 v → v.cell? ⟨w.heap.size, 1, none⟩ = some (.int .i64 n) := fun v hv => (IExt.cells (R2.out.keep hv (fun f => f))).2.1
  have fx : ∀ v, Chg No w2 v → v.cell? ⟨w.heap.size, 0, none⟩ = some (.int .i64 f) := fun v hv => (R2.out.keep hv (fun f => f)).cell 0
  have fr : ∀ v, Chg No w2 v → v.cell? ⟨B.r, 1, none⟩ = some (.pointer (some ⟨B.b, 0, none⟩)) := fun v hv => (E2.out.row.keep hv (fun f => f)).cell 1
  have HB := Lib.hid hb
  clear hb z1
  refine q_region (C := (Chg No w2)) (by kernel_rfl) (by kernel_rfl) ?_ ?_
  · exact (Chg.refl _ _).drew
  repeat
    refine q_step (fun K hK => ?_)
    go_simp
    first
      | ((with_reducible refine hK _ ?_); clear hK K)
      | (refine (if_neg (by simp [undef])).mpr ?_; (with_reducible refine hK _ ?_); clear hK K)
      | (apply Exists.intro
         with_reducible refine ⟨fun v hv => ?_, hK _ ?_⟩
         · first
             | with_reducible exact rfl
             | with_reducible exact ⟨rfl, rfl⟩
             | (go_simp
                first
                  | done
                  | with_reducible exact rfl
                  | with_reducible exact ⟨rfl, rfl⟩
                  | (go_at_call 52; refine (Sectors_any m (by omega) _).mono ?_; rw [HM.out.2]; rintro e w' ⟨rfl, rfl⟩; exact ⟨rfl, hv⟩))
         clear hK K)
  refine q_nil ?_
  intro V hV
  go_wp2_with fail
  refine rem_start (by kernel_rfl) (by kernel_rfl) ?_
  refine rem_quiet 8 (C := (Chg No w2)) (by kernel_rfl) (by simp only [List.toList_toArray, List.drop_succ_cons, List.drop_zero, List.take_succ_cons, List.take_zero, Nat.reduceSub, Nat.reduceAdd]; rfl) ?_ ?_
  · exact hV.drew
  repeat
    refine q_step (fun K hK => ?_)
    go_simp
    first
      | ((with_reducible refine hK _ ?_); clear hK K)
      | (refine (if_neg (by simp [undef])).mpr ?_; (with_reducible refine hK _ ?_); clear hK K)
      | (apply Exists.intro
         with_reducible refine ⟨fun v hv => ?_, hK _ ?_⟩
         · first
             | with_reducible exact rfl
             | with_reducible exact ⟨rfl, rfl⟩
             | (go_simp
                first
                  | done
                  | with_reducible exact rfl
                  | with_reducible exact ⟨rfl, rfl⟩
                  | fail)
         clear hK K)
  refine q_nil ?_
  clear hV
  intro V2 hV2
  have HQ := Lib.hid (FreeB_ok (HB.out V2 hV2) f n hn1 hfit (fun i hi => HTK.out _ ⟨by omega, by omega⟩))
  refine rem_one (by kernel_rfl) (by kernel_rfl) rfl (by kernel_rfl) (fun K hK => ?_)
  go_wp2_with (first
    | (go_at_call 61
       (with_reducible refine HQ.out.mono ?_)
       rintro e w3 ⟨rfl, hb3, c3⟩
       have hne := HNE.out
       have e3 : ExtI w3 B N D (flips ws f n) E := ⟨(E2.out.row.keep hV2 (fun f => f)).keep c3 hne.1.2.2.2.1, (E2.out.disk.keep hV2 (fun f => f) (fun f => f)).keep c3 hne.2.1.2.2.1 hne.2.2.1.2.1, hb3, (E2.out.live.keep hV2 (fun f => f)).keep c3 hne.2.2.2.2.symm⟩
       have hbh := HLT.out B.h (.inr (.inr (.inr (.inr (.inl rfl)))))
       have E3 := Lib.hid e3
       have R3 := Lib.hid ((R2.out.keep hV2 (fun f => f)).keep c3 (by omega))
       have Q3 := Lib.hid ((Q2.out.keep hV2 (fun f => f)).keep c3 (by omega))
       have B3 := Lib.hid ((B2.out.keep hV2 (fun _ _ f => f)).keep c3 (fun k hk e => HS.out k hk (.inr (.inr (.inr (.inr (.inl e)))))))
       have C3 := Lib.hid ((H2.out.trans hV2).no.trans c3)
       have gz : ∀ v, Chg No w3 v → v.cell? ⟨w.heap.size, 1, none⟩ = some (.int .i64 n) := fun v hv => (IExt.cells (R3.out.keep hv (fun f => f))).2.1
       have gx : ∀ v, Chg No w3 v → v.cell? ⟨w.heap.size, 0, none⟩ = some (.int .i64 f) := fun v hv => (R3.out.keep hv (fun f => f)).cell 0
       have gr : ∀ v, Chg No w3 v → v.cell? ⟨B.r, 1, none⟩ = some (.pointer (some ⟨B.b, 0, none⟩)) := fun v hv => (E3.out.row.keep hv (fun f => f)).cell 1
       have HFI := Lib.hid (fun v (hv : Chg No w3 v) => by
         have h := First_any (E3.out.bits.keep hv (fun f => f) (fun f => f)) n2 (by rw [← HM.out.2]; exact secN_pos _) (by rw [← HM.out.2]; unfold secN; omega)
         rw [HPL.out] at h
         exact h)
       clear hb3 c3 hne e3 hbh)
    | fail)
  refine rem_end (by kernel_rfl) ?_
  clear fz fx fr hV2
  go_wp2_with fail
  refine q_region (C := (Chg No w3)) (by kernel_rfl) (by kernel_rfl) ?_ ?_
  · exact (Chg.refl _ _).drew
  repeat
    refine q_step (fun K hK => ?_)
    go_simp
    first
      | ((with_reducible refine hK _ ?_); clear hK K)
      | (refine (if_neg (by simp [undef])).mpr ?_; (with_reducible refine hK _ ?_); clear hK K)
      | (apply Exists.intro
         with_reducible refine ⟨fun v hv => ?_, hK _ ?_⟩
         · first
             | with_reducible exact rfl
             | with_reducible exact ⟨rfl, rfl⟩
             | (go_simp
                first
                  | done
                  | with_reducible exact rfl
                  | with_reducible exact ⟨rfl, rfl⟩
                  | (first | (go_at_call 52; refine (Sectors_any m (by omega) _).mono ?_; rw [HM.out.2]; rintro e w' ⟨rfl, rfl⟩; exact ⟨rfl, hv⟩) | (go_at_call 53; refine (HFI.out _ hv).mono ?_; rintro e w' ⟨rfl, rfl⟩; exact ⟨rfl, hv⟩)))
         clear hK K)
  refine q_nil ?_
  intro V4 hV4
  go_wp2_with fail
  refine rem_start (by kernel_rfl) (by kernel_rfl) ?_
  refine rem_quiet 8 (C := (Chg No w3)) (by kernel_rfl) (by simp only [List.toList_toArray, List.drop_succ_cons, List.drop_zero, List.take_succ_cons, List.take_zero, Nat.reduceSub, Nat.reduceAdd]; rfl) ?_ ?_
  · exact hV4.drew
  repeat
    refine q_step (fun K hK => ?_)
    go_simp
    first
      | ((with_reducible refine hK _ ?_); clear hK K)
      | (refine (if_neg (by simp [undef])).mpr ?_; (with_reducible refine hK _ ?_); clear hK K)
      | (apply Exists.intro
         with_reducible refine ⟨fun v hv => ?_, hK _ ?_⟩
         · first
             | with_reducible exact rfl
             | with_reducible exact ⟨rfl, rfl⟩
             | (go_simp
                first
                  | done
                  | with_reducible exact rfl
                  | with_reducible exact ⟨rfl, rfl⟩
                  | fail)
         clear hK K)
  refine q_nil ?_
  clear hV4
  intro V5 hV5
  have HQ5 := Lib.hid (Take_ok (E3.out.bits.keep hV5 (fun f => f) (fun f => f)) f n hn1 hfit (fun i hi => by
    rw [flips_eq E2.out.bits hfit, if_pos (by omega), HTK.out _ ⟨by omega, by omega⟩]
    rfl))
  refine rem_one (by kernel_rfl) (by kernel_rfl) rfl (by kernel_rfl) (fun K hK => ?_)
  go_wp2_with (first
    | (go_at_call 54
       (with_reducible refine HQ5.out.mono ?_)
       rintro e w6 ⟨rfl, hb6, c6⟩
       have hbh := HLT.out B.h (.inr (.inr (.inr (.inr (.inl rfl)))))
       have q6 := IExt.cells ((Q3.out.keep hV5 (fun f => f)).keep c6 (by omega))
       have H6 := Lib.hid (And.intro hb6 (And.intro hV5 c6))
       clear hb6 c6 hV5)
    | fail)
  refine rem_end (by kernel_rfl) ?_
  go_wp2_with fail
  have cF : ∀ U, Chg (fun k => k = w.heap.size + 1) w6 U → ExtS U B N (x :: X) ∧ Chg B.has w U := fun U hU => by
    obtain ⟨hb6, hV5, c6⟩ := H6.out
    have hne := HNE.out
    have e6 : ExtI w6 B N D (flips (flips ws f n) f n) E := ⟨(E3.out.row.keep hV5 (fun f => f)).keep c6 hne.1.2.2.2.1, (E3.out.disk.keep hV5 (fun f => f) (fun f => f)).keep c6 hne.2.1.2.2.1 hne.2.2.1.2.1, hb6, (E3.out.live.keep hV5 (fun f => f)).keep c6 hne.2.2.2.2.symm⟩
    have V6 : ExtV N D (bitT (flips (flips ws f n) f n)) E (x :: X) := H1.out.2.1.same fun i => by
      have e1 := flips_eq E3.out.bits hfit i
      have e2 := flips_eq E2.out.bits hfit i
      rw [e1, e2]
      exact turn_turn (bitT ws) f n i
    exact ⟨⟨_, _, _, e6.keep hU (fun k hk e => by have := HLT.out k hk; omega), V6⟩, ((C3.out.mono fun k _ h => .inr (.inr (.inr (.inr (.inl h))))).trans (hV5.no.trans (c6.mono fun k _ h => .inr (.inr (.inr (.inr (.inl h))))))).then hU (fun k hk e => by omega)⟩
  refine bodyPost_ret (v := .tuple #[.agg #[.int .i64 0, .int .i64 0, .int .i64 0], .int .i64 3]) (by simp [results, Try.results34, go_sem, q6]) rfl ⟨rfl, cF _ ?_⟩
  repeat (with_reducible first | exact Chg.refl _ _ | refine Chg.setCell ?_ (.inl (by simp)) _)

set_option maxRecDepth 100000 in
set_option maxHeartbeats 1000000 in
theorem Set_move {w : World} {B : Blk} {N : Nat} {X : List Xt} {x : Xt} (H : ExtS w B N (x :: X)) (bv : Value) (l : List Int) (S : Nat → Prop) (hb : ByteS w S bv l) (hS : ∀ k, S k → ¬ B.has k) (hl1 : 1 ≤ l.length) (hl2 : l.length ≤ 1000000) (he : secN l.length ≠ x.n) {f2 : Nat} (hp : placeX X N (secN l.length) = some f2) :
    Calls Try.prog 34 #[.pointer (some ⟨B.r, 0, none⟩), .agg #[.int .i64 x.f, .int .i64 x.n, .int .i64 x.b.length], bv] w (Ret (Stood w B N X ⟨f2, l⟩)) := by
  obtain ⟨D, ws, E, H, V⟩ := H
  obtain ⟨A, c, rfl, -⟩ := hb.form
  have hfit : x.f + x.n ≤ N := V.fits _ List.mem_cons_self
  have hlive : gget ((x.f : Int), (x.n : Int), (x.b.length : Int)) E = some (.bool true) := V.live _ List.mem_cons_self
  have hmax := H.disk.max
  have hn1 : 1 ≤ x.n := secN_pos _
  obtain ⟨W1, hW1⟩ : ∃ W, (w.alloc (.cells #[.int .i64 x.f, .int .i64 x.n, .int .i64 x.b.length] 67)).alloc (.cells #[.int .i64 0, .int .i64 0, .int .i64 0] 67) = W := ⟨_, rfl⟩
  have c1 : Chg No w W1 := by rw [← hW1]; exact ((Chg.refl _ _).alloc _).alloc _
  have hs1 : W1.heap.size = w.heap.size + 2 := by rw [← hW1]; simp
  have rx : Row W1 w.heap.size 67 #[.int .i64 x.f, .int .i64 x.n, .int .i64 x.b.length] := by rw [← hW1]; exact (Row.new w _ _).alloc _
  have ry : Row W1 (w.heap.size + 1) 67 #[.int .i64 0, .int .i64 0, .int .i64 0] := by
    rw [← hW1]
    have := Row.new (w.alloc (.cells #[.int .i64 x.f, .int .i64 x.n, .int .i64 x.b.length] 67)) 67 #[.int .i64 0, .int .i64 0, .int .i64 0]
    simpa using this
  have HL := Lib.hid (lives_ok (H.keep c1 (fun _ _ f => f)) _ hlive)
  have HLT := Lib.hid (fun k (hk : B.has k) => H.lt hk)
  have HNE := Lib.hid H.ne
  have HS := Lib.hid hS
  have HW := Lib.hid hW1
  have H1 := Lib.hid (And.intro H (And.intro V (And.intro c1 (And.intro rx (And.intro ry hb)))))
  obtain ⟨y0, y1, y2, yf⟩ := IExt.cells rx
  generalize hsm : secN l.length = n2 at *
  generalize hm : l.length = m at *
  have HM := Lib.hid (And.intro hm hsm)
  generalize hf : x.f = f at *
  generalize hn : x.n = n at *
  generalize hz : x.b.length = z at *
  have HX := Lib.hid (And.intro hf (And.intro hn hz))
  clear hW1 c1 H V rx ry yf hlive hb hS hm hsm hf hn hz
  have t1 : ((n2 : Int) == (n : Int)) = false := beq_eq_false_iff_ne.2 (by omega)
  have htk : ∀ j, f ≤ j ∧ j < f + n → bitT ws j = true := fun j hj => H1.out.2.1.taken List.mem_cons_self (by rw [HX.out.1]; exact hj.1) (by rw [HX.out.1, HX.out.2.1]; exact hj.2)
  have V1 : ExtV N (wipeD D f n) (bitT (flips ws f n)) (gdel x.ex E) X := H1.out.2.1.cut H1.out.1.live.nodup (fun j => by rw [HX.out.1, HX.out.2.1]; exact flips_eq H1.out.1.bits hfit j) (fun j hj => wipeD_out H1.out.1.disk.len n hfit j (by rw [HX.out.1, HX.out.2.1] at hj; exact hj))
  have ex : x.ex = ((f : Int), (n : Int), (z : Int)) := by unfold Xt.ex; rw [HX.out.1, HX.out.2.1, HX.out.2.2]
  rw [ex] at V1
  have hpl : firstB (bitT (flips ws f n)) N n2 = some f2 := by
    rw [V1.t_eq]
    exact hp
  obtain ⟨hfit2, hfree2, -⟩ := firstB_some hpl
  have HTK := Lib.hid htk
  have HPL := Lib.hid hpl
  have HV1 := Lib.hid (And.intro V1 hfree2)
  clear htk hpl hp he V1 ex hfree2
  go_enter Try.func34, Try.ntmps34
  go_wp2_with (first
    | (rw [HW.out])
    | (go_at_call 60
       refine HL.out.mono ?_
       rintro e w2 ⟨rfl, c2⟩
       have hs2 := c2.size
       have H2 := Lib.hid (H1.out.2.2.1.trans c2)
       have R2 := Lib.hid (H1.out.2.2.2.1.keep c2 (fun f => f))
       have Q2 := Lib.hid (H1.out.2.2.2.2.1.keep c2 (fun f => f))
       have B2 := Lib.hid (H1.out.2.2.2.2.2.keep H2.out (fun _ _ f => f))
       have E2 := Lib.hid (H1.out.1.keep H2.out (fun _ _ f => f))
       have z1 := (IExt.cells (H1.out.2.2.2.1.keep c2 (fun f => f))).2.1
       clear c2)
    | fail)
  have hb := fun v (hv : Chg No w2 v) => E2.out.bits.keep hv (fun f => f) (fun f => f)
  have fz : ∀ v, Chg No w2 v → v.cell? ⟨w.heap.size, 1, none⟩ = some (.int .i64 n) := fun v hv => (IExt.cells (R2.out.keep hv (fun f => f))).2.1
  have fx : ∀ v, Chg No w2 v → v.cell? ⟨w.heap.size, 0, none⟩ = some (.int .i64 f) := fun v hv => (R2.out.keep hv (fun f => f)).cell 0
  have fr : ∀ v, Chg No w2 v → v.cell? ⟨B.r, 1, none⟩ = some (.pointer (some ⟨B.b, 0, none⟩)) := fun v hv => (E2.out.row.keep hv (fun f => f)).cell 1
  have HB := Lib.hid hb
  clear hb z1
  refine q_region (C := (Chg No w2)) (by kernel_rfl) (by kernel_rfl) ?_ ?_
  · exact (Chg.refl _ _).drew
  repeat
    refine q_step (fun K hK => ?_)
    go_simp
    first
      | ((with_reducible refine hK _ ?_); clear hK K)
      | (refine (if_neg (by simp [undef])).mpr ?_; (with_reducible refine hK _ ?_); clear hK K)
      | (apply Exists.intro
         with_reducible refine ⟨fun v hv => ?_, hK _ ?_⟩
         · first
             | with_reducible exact rfl
             | with_reducible exact ⟨rfl, rfl⟩
             | (go_simp
                first
                  | done
                  | with_reducible exact rfl
                  | with_reducible exact ⟨rfl, rfl⟩
                  | (go_at_call 52; refine (Sectors_any m (by omega) _).mono ?_; rw [HM.out.2]; rintro e w' ⟨rfl, rfl⟩; exact ⟨rfl, hv⟩))
         clear hK K)
  refine q_nil ?_
  intro V hV
  go_wp2_with fail
  refine rem_start (by kernel_rfl) (by kernel_rfl) ?_
  refine rem_quiet 8 (C := (Chg No w2)) (by kernel_rfl) (by simp only [List.toList_toArray, List.drop_succ_cons, List.drop_zero, List.take_succ_cons, List.take_zero, Nat.reduceSub, Nat.reduceAdd]; rfl) ?_ ?_
  · exact hV.drew
  repeat
    refine q_step (fun K hK => ?_)
    go_simp
    first
      | ((with_reducible refine hK _ ?_); clear hK K)
      | (refine (if_neg (by simp [undef])).mpr ?_; (with_reducible refine hK _ ?_); clear hK K)
      | (apply Exists.intro
         with_reducible refine ⟨fun v hv => ?_, hK _ ?_⟩
         · first
             | with_reducible exact rfl
             | with_reducible exact ⟨rfl, rfl⟩
             | (go_simp
                first
                  | done
                  | with_reducible exact rfl
                  | with_reducible exact ⟨rfl, rfl⟩
                  | fail)
         clear hK K)
  refine q_nil ?_
  clear hV
  intro V2 hV2
  have HQ := Lib.hid (FreeB_ok (HB.out V2 hV2) f n hn1 hfit (fun i hi => HTK.out _ ⟨by omega, by omega⟩))
  refine rem_one (by kernel_rfl) (by kernel_rfl) rfl (by kernel_rfl) (fun K hK => ?_)
  go_wp2_with (first
    | (go_at_call 61
       (with_reducible refine HQ.out.mono ?_)
       rintro e w3 ⟨rfl, hb3, c3⟩
       have hne := HNE.out
       have e3 : ExtI w3 B N D (flips ws f n) E := ⟨(E2.out.row.keep hV2 (fun f => f)).keep c3 hne.1.2.2.2.1, (E2.out.disk.keep hV2 (fun f => f) (fun f => f)).keep c3 hne.2.1.2.2.1 hne.2.2.1.2.1, hb3, (E2.out.live.keep hV2 (fun f => f)).keep c3 hne.2.2.2.2.symm⟩
       have hbh := HLT.out B.h (.inr (.inr (.inr (.inr (.inl rfl)))))
       have E3 := Lib.hid e3
       have R3 := Lib.hid ((R2.out.keep hV2 (fun f => f)).keep c3 (by omega))
       have Q3 := Lib.hid ((Q2.out.keep hV2 (fun f => f)).keep c3 (by omega))
       have B3 := Lib.hid ((B2.out.keep hV2 (fun _ _ f => f)).keep c3 (fun k hk e => HS.out k hk (.inr (.inr (.inr (.inr (.inl e)))))))
       have C3 := Lib.hid ((H2.out.trans hV2).no.trans c3)
       have gz : ∀ v, Chg No w3 v → v.cell? ⟨w.heap.size, 1, none⟩ = some (.int .i64 n) := fun v hv => (IExt.cells (R3.out.keep hv (fun f => f))).2.1
       have gx : ∀ v, Chg No w3 v → v.cell? ⟨w.heap.size, 0, none⟩ = some (.int .i64 f) := fun v hv => (R3.out.keep hv (fun f => f)).cell 0
       have gr : ∀ v, Chg No w3 v → v.cell? ⟨B.r, 1, none⟩ = some (.pointer (some ⟨B.b, 0, none⟩)) := fun v hv => (E3.out.row.keep hv (fun f => f)).cell 1
       have HFI := Lib.hid (fun v (hv : Chg No w3 v) => by
         have h := First_any (E3.out.bits.keep hv (fun f => f) (fun f => f)) n2 (by rw [← HM.out.2]; exact secN_pos _) (by rw [← HM.out.2]; unfold secN; omega)
         rw [HPL.out] at h
         exact h)
       clear hb3 c3 hne e3 hbh)
    | fail)
  refine rem_end (by kernel_rfl) ?_
  clear fz fx fr hV2
  go_wp2_with fail
  refine q_region (C := (Chg No w3)) (by kernel_rfl) (by kernel_rfl) ?_ ?_
  · exact (Chg.refl _ _).drew
  repeat
    refine q_step (fun K hK => ?_)
    go_simp
    first
      | ((with_reducible refine hK _ ?_); clear hK K)
      | (refine (if_neg (by simp [undef])).mpr ?_; (with_reducible refine hK _ ?_); clear hK K)
      | (apply Exists.intro
         with_reducible refine ⟨fun v hv => ?_, hK _ ?_⟩
         · first
             | with_reducible exact rfl
             | with_reducible exact ⟨rfl, rfl⟩
             | (go_simp
                first
                  | done
                  | with_reducible exact rfl
                  | with_reducible exact ⟨rfl, rfl⟩
                  | (first | (go_at_call 52; refine (Sectors_any m (by omega) _).mono ?_; rw [HM.out.2]; rintro e w' ⟨rfl, rfl⟩; exact ⟨rfl, hv⟩) | (go_at_call 53; refine (HFI.out _ hv).mono ?_; rintro e w' ⟨rfl, rfl⟩; exact ⟨rfl, hv⟩)))
         clear hK K)
  refine q_nil ?_
  intro V4 hV4
  have HWP := Lib.hid (wipe_ok (E3.out.keep hV4 (fun _ _ f => f)) f n (z : Int) hfit)
  obtain ⟨x0, x1, x2, -⟩ := IExt.cells (R3.out.keep hV4 (fun f => f))
  have HV4 := Lib.hid hV4
  clear gz gx gr hV4
  go_wp2_with (first
    | (go_at_call 62
       (with_reducible refine HWP.out.mono ?_)
       rintro e w5 ⟨rfl, h5, c5⟩
       have g1 : w5.cell? ⟨B.r, 1, none⟩ = some (.pointer (some ⟨B.b, 0, none⟩)) := h5.row.cell 1
       have HQ5 := Lib.hid (Take_ok h5.bits f2 n2 (by rw [← HM.out.2]; exact secN_pos _) hfit2 (freeB_iff.1 HV1.out.2))
       have H5 := Lib.hid (And.intro h5 c5)
       clear h5 c5)
    | (go_at_call 52; refine (Sectors_any m (by omega) _).mono ?_; rw [HM.out.2]; rintro e w' ⟨rfl, rfl⟩)
    | (go_at_call 54
       (with_reducible refine HQ5.out.mono ?_)
       rintro e w6 ⟨rfl, hb6, c6⟩
       have hne := HNE.out
       have e6 : ExtI w6 B N (wipeD D f n) (flips (flips ws f n) f2 n2) (gdel ((f : Int), (n : Int), (z : Int)) E) := ⟨H5.out.1.row.keep c6 hne.1.2.2.2.1, H5.out.1.disk.keep c6 hne.2.1.2.2.1 hne.2.2.1.2.1, hb6, H5.out.1.live.keep c6 hne.2.2.2.2.symm⟩
       have hbg := HLT.out B.g (.inr (.inr (.inl rfl)))
       have hbv := HLT.out B.v (.inr (.inr (.inr (.inr (.inr rfl)))))
       have hbh := HLT.out B.h (.inr (.inr (.inr (.inr (.inl rfl)))))
       have Q6 := Lib.hid ((((Q3.out.keep HV4.out (fun f => f)).keep H5.out.2 (by omega)).keep c6 (by omega)))
       have hl := lay_ok e6 f2 n2 0 _ l S (((B3.out.keep HV4.out (fun _ _ f => f)).keep H5.out.2 (fun k hk e => HS.out k hk (e.elim (fun e => .inr (.inr (.inl e))) (fun e => .inr (.inr (.inr (.inr (.inr e)))))))).keep c6 (fun k hk e => HS.out k hk (.inr (.inr (.inr (.inr (.inl e))))))) HS.out (by rw [HM.out.1, HM.out.2]) (by rw [HM.out.1]; exact hl1) (by rw [HM.out.1]; exact hl2) hfit2
       rw [HM.out.1] at hl
       have HLY := Lib.hid hl
       have C6 := Lib.hid (show Chg B.has w w6 from (((C3.out.mono fun k _ h => .inr (.inr (.inr (.inr (.inl h))))).trans HV4.out.no).trans (H5.out.2.mono fun k _ h => h.elim (fun e => .inr (.inr (.inl e))) (fun e => .inr (.inr (.inr (.inr (.inr e))))))).trans (c6.mono fun k _ h => .inr (.inr (.inr (.inr (.inl h))))))
       clear hb6 c6 hne e6 hl hbg hbv hbh)
    | (go_at_call 55
       (with_reducible refine HLY.out.mono ?_)
       rintro e w7 ⟨rfl, h7, c7⟩
       have q7 := IExt.cells (Q6.out.keep c7 (fun e => by have := HLT.out _ (has_dgv e); omega))
       have H7 := Lib.hid (And.intro h7 (C6.out.trans (c7.mono fun k _ h => has_dgv h)))
       clear h7 c7)
    | fail)
  have hyn : Xt.n ⟨f2, l⟩ = n2 := by show secN l.length = n2; rw [HM.out.1, HM.out.2]
  have cF : ∀ U, Chg (fun k => k = w.heap.size + 1) w7 U → ExtS U B N (⟨f2, l⟩ :: X) ∧ Chg B.has w U := fun U hU => by
    have hx := H7.out.1.keep hU (fun k hk e => by have := HLT.out k hk; omega)
    exact ⟨ExtI.stood (w := w) HV1.out.1 f2 l H1.out.2.2.2.2.2.2 (by rw [HM.out.1, HM.out.2]; exact hfit2) (by rw [HM.out.1, HM.out.2]; exact HV1.out.2) (wipeD_len H1.out.1.disk.len n hfit) (ws' := flips (flips ws f n) f2 n2) (fun j => by rw [HM.out.1, HM.out.2]; exact flips_eq E3.out.bits hfit2 j) (by rw [HM.out.1, HM.out.2]; exact hx), H7.out.2.then hU (fun k hk e => by omega)⟩
  refine bodyPost_ret (v := .tuple #[.agg #[.int .i64 f2, .int .i64 n2, .int .i64 m], .int .i64 0]) (by simp [results, Try.results34, go_sem, q7]) rfl (Ret.mk ⟨by rw [hyn, HM.out.1], cF _ ?_⟩)
  repeat (with_reducible first | exact Chg.refl _ _ | refine Chg.setCell ?_ (.inl (by simp)) _)

end Go.Proofs.Ytdpmmafkomchaaa
