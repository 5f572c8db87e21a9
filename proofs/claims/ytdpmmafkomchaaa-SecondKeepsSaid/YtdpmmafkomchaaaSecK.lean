/- Rows of bytes in runs of sectors: extent.Space: Set. -/
import Derived.Test.YtdpmmafkomchaaaSecJ
namespace Go.Proofs.Ytdpmmafkomchaaa
set_option linter.unusedVariables false
set_option linter.unusedSimpArgs false
open Go.RowKit
open Go.ChangeMaps (setBlock)


/-- a run of bits turned -/
def turnT (t : Nat → Bool) (f n : Nat) (j : Nat) : Bool := if f ≤ j ∧ j < f + n then !t j else t j
theorem turn_turn (t : Nat → Bool) (f n : Nat) (j : Nat) : turnT (turnT t f n) f n j = t j := by
  unfold turnT
  by_cases h : f ≤ j ∧ j < f + n
  · rw [if_pos h, if_pos h, Bool.not_not]
  · rw [if_neg h, if_neg h]


set_option maxRecDepth 100000 in
set_option maxHeartbeats 400000 in
theorem Set_same {w : World} {B : Blk} {N : Nat} {X : List Xt} {x : Xt} (H : ExtS w B N (x :: X)) (bv : Value) (l : List Int) (S : Nat → Prop) (hb : ByteS w S bv l) (hS : ∀ k, S k → ¬ B.has k) (hl1 : 1 ≤ l.length) (hl2 : l.length ≤ 1000000) (he : secN l.length = x.n) :
    Calls Try.prog 34 #[.pointer (some ⟨B.r, 0, none⟩), .agg #[.int .i64 x.f, .int .i64 x.n, .int .i64 x.b.length], bv] w (Ret (Stood w B N X ⟨x.f, l⟩)) := by
  obtain ⟨D, ws, E, H, V⟩ := H
  obtain ⟨A, c, rfl, -⟩ := hb.form
  have hfit : x.f + x.n ≤ N := V.fits _ List.mem_cons_self
  have hlive : gget ((x.f : Int), (x.n : Int), (x.b.length : Int)) E = some (.bool true) := V.live _ List.mem_cons_self
  have hmax := H.disk.max
  have hn1 : 1 ≤ x.n := secN_pos _
  obtain ⟨W1, hW1⟩ : ∃ W, (w.alloc (.cells #[.int .i64 x.f, .int .i64 x.n, .int .i64 x.b.length] 67)).alloc (.cells #[.int .i64 0, .int .i64 0, .int .i64 0] 67) = W := ⟨_, rfl⟩
  have c1 : Chg No w W1 := by rw [← hW1]; exact ((Chg.refl _ _).alloc _).alloc _
  have hs1 : W1.heap.size = w.heap.size + 2 := by rw [← hW1]; simp
  have rx : Row W1 w.heap.size 67 #[.int .i64 x.f, .int .i64 x.n, .int .i64 x.b.length] := by rw [← hW1]; exact (Row.new w _ _).alloc _
  have ry : Row W1 (w.heap.size + 1) 67 #[.int .i64 0, .int .i64 0, .int .i64 0] := by
    rw [← hW1]
    have := Row.new (w.alloc (.cells #[.int .i64 x.f, .int .i64 x.n, .int .i64 x.b.length] 67)) 67 #[.int .i64 0, .int .i64 0, .int .i64 0]
    simpa using this
  have HL := Lib.hid (lives_ok (H.keep c1 (fun _ _ f => f)) _ hlive)
  have HLT := Lib.hid (fun k (hk : B.has k) => H.lt hk)
  have HNE := Lib.hid H.ne
  have HS := Lib.hid hS
  have HW := Lib.hid hW1
  have H1 := Lib.hid (And.intro H (And.intro V (And.intro c1 (And.intro rx (And.intro ry hb)))))
  obtain ⟨y0, y1, y2, yf⟩ := IExt.cells rx
  generalize hsm : secN l.length = n2 at *
  generalize hm : l.length = m at *
  have HM := Lib.hid (And.intro hm hsm)
  generalize hf : x.f = f at *
  generalize hn : x.n = n at *
  generalize hz : x.b.length = z at *
  have HX := Lib.hid (And.intro hf (And.intro hn hz))
  clear hW1 c1 H V rx ry yf hlive hb hS hm hsm hf hn hz
  subst he
  go_enter Try.func34, Try.ntmps34
  go_wp2_with (first
    | (rw [HW.out])
    | (go_at_call 60
       refine HL.out.mono ?_
       rintro e w2 ⟨rfl, c2⟩
       have hs2 := c2.size
       have H2 := Lib.hid (H1.out.2.2.1.trans c2)
       have R2 := Lib.hid (H1.out.2.2.2.1.keep c2 (fun f => f))
       have Q2 := Lib.hid (H1.out.2.2.2.2.1.keep c2 (fun f => f))
       have B2 := Lib.hid (H1.out.2.2.2.2.2.keep H2.out (fun _ _ f => f))
       have E2 := Lib.hid (H1.out.1.keep H2.out (fun _ _ f => f))
       have z1 := (IExt.cells (H1.out.2.2.2.1.keep c2 (fun f => f))).2.1
       clear c2)
    | fail)
  have fz : ∀ v, Chg No w2 v → v.cell? ⟨w.heap.size, 1, none⟩ = some (.int .i64 n2) := fun v hv => (IExt.cells (R2.out.keep hv (fun f => f))).2.1
  clear z1
  refine q_region (C := (Chg No w2)) (by kernel_rfl) (by kernel_rfl) ?_ ?_
  · exact (Chg.refl _ _).drew
  repeat
    refine q_step (fun K hK => ?_)
    go_simp
    first
      | ((with_reducible refine hK _ ?_); clear hK K)
      | (refine (if_neg (by simp [undef])).mpr ?_; (with_reducible refine hK _ ?_); clear hK K)
      | (apply Exists.intro
         with_reducible refine ⟨fun v hv => ?_, hK _ ?_⟩
         · first
             | with_reducible exact rfl
             | with_reducible exact ⟨rfl, rfl⟩
             | (go_simp
                first
                  | done
                  | with_reducible exact rfl
                  | with_reducible exact ⟨rfl, rfl⟩
                  | (go_at_call 52; refine (Sectors_any m (by omega) _).mono ?_; rw [HM.out.2]; rintro e w' ⟨rfl, rfl⟩; exact ⟨rfl, hv⟩))
         clear hK K)
  refine q_nil ?_
  intro V hV
  have fr : ∀ v, Chg No w2 v → v.cell? ⟨B.r, 2, none⟩ = some (.map (some B.v)) := fun v hv => (E2.out.row.keep hv (fun f => f)).cell 2
  have fx : ∀ v, Chg No w2 v → v.cell? ⟨w.heap.size, 0, none⟩ = some (.int .i64 f) := fun v hv => (R2.out.keep hv (fun f => f)).cell 0
  have fy : ∀ v, Chg No w2 v → v.cell? ⟨w.heap.size, 2, none⟩ = some (.int .i64 z) := fun v hv => (R2.out.keep hv (fun f => f)).cell 2
  go_wp2_with fail
  refine rem_start (by kernel_rfl) (by kernel_rfl) ?_
  refine rem_quiet 5 (C := (Chg No w2)) (by kernel_rfl) (by simp only [List.toList_toArray, List.drop_succ_cons, List.drop_zero, List.take_succ_cons, List.take_zero, Nat.reduceSub, Nat.reduceAdd]; rfl) ?_ ?_
  · exact hV.drew
  repeat
    refine q_step (fun K hK => ?_)
    go_simp
    first
      | ((with_reducible refine hK _ ?_); clear hK K)
      | (refine (if_neg (by simp [undef])).mpr ?_; (with_reducible refine hK _ ?_); clear hK K)
      | (apply Exists.intro
         with_reducible refine ⟨fun v hv => ?_, hK _ ?_⟩
         · first
             | with_reducible exact rfl
             | with_reducible exact ⟨rfl, rfl⟩
             | (go_simp
                first
                  | done
                  | with_reducible exact rfl
                  | with_reducible exact ⟨rfl, rfl⟩
                  | fail)
         clear hK K)
  refine q_nil ?_
  clear hV
  intro V2 hV2
  obtain ⟨o, hrun, hmap⟩ := (E2.out.live.keep hV2 (fun f => f)).delete (P := Try.prog) elem_live key3 ((f : Int), (n2 : Int), (z : Int)) 0 67
  simp only [kv3] at hrun
  have c3 : Chg (fun k => k = B.v) V2 (setBlock V2 B.v o) := Chg.setBlock (F := fun k => k = B.v) (Chg.refl _ _) (.inl rfl) _
  generalize setBlock V2 B.v o = W3 at *
  have hne := HNE.out
  have e3 : ExtI W3 B N D ws (gdel ((f : Int), (n2 : Int), (z : Int)) E) := ⟨(E2.out.row.keep hV2 (fun f => f)).keep c3 hne.1.2.2.2.2, (E2.out.disk.keep hV2 (fun f => f) (fun f => f)).keep c3 hne.2.1.2.2.2 hne.2.2.1.2.2, (E2.out.bits.keep hV2 (fun f => f) (fun f => f)).keep c3 hne.2.2.2.1.2 hne.2.2.2.2, hmap⟩
  have hvs := HLT.out B.v (.inr (.inr (.inr (.inr (.inr rfl)))))
  obtain ⟨x0, x1, x2, -⟩ := IExt.cells ((R2.out.keep hV2 (fun f => f)).keep c3 (by omega))
  have Q3 := Lib.hid ((Q2.out.keep hV2 (fun f => f)).keep c3 (by omega))
  have hl := lay_ok e3 f n2 z _ l S ((B2.out.keep hV2 (fun _ _ f => f)).keep c3 (fun k hk e => HS.out k hk (.inr (.inr (.inr (.inr (.inr e))))))) HS.out (by rw [HM.out.1, HM.out.2]) (by rw [HM.out.1]; exact hl1) (by rw [HM.out.1]; exact hl2) hfit
  rw [HM.out.1] at hl
  have HLY := Lib.hid hl
  have H3 := Lib.hid (And.intro e3 ((H2.out.trans hV2).no.trans c3))
  clear e3 c3 hV2 hmap hl hne fr fx fy fz
  refine rem_one (by kernel_rfl) (by kernel_rfl) rfl (by kernel_rfl) (fun K hK => ?_)
  go_wp2_with fail
  refine rem_end (by kernel_rfl) ?_
  go_wp2_with (first
    | (go_at_call 55
       (with_reducible refine HLY.out.mono ?_)
       rintro e w4 ⟨rfl, h4, c4⟩
       have q4 := IExt.cells (Q3.out.keep c4 (fun e => by have := HLT.out _ (has_dgv e); omega))
       have H4 := Lib.hid (And.intro h4 ((H3.out.2.mono fun k _ (h : k = B.v) => has_dgv (.inr (.inr h))).trans (c4.mono fun k _ h => has_dgv h)))
       clear h4 c4)
    | fail)
  have cF : ∀ U, Chg (fun k => k = w.heap.size + 1) w4 U → ExtS U B N (⟨f, l⟩ :: X) ∧ Chg B.has w U := fun U hU => by
    obtain ⟨hxf, hxn, hxz⟩ := HX.out
    have V := H1.out.2.1
    have hD := H1.out.1.disk.len
    have htk : ∀ j, f ≤ j ∧ j < f + n2 → bitT ws j = true := fun j hj => V.taken List.mem_cons_self (by rw [hxf]; exact hj.1) (by rw [hxf, hxn]; exact hj.2)
    have V1 : ExtV N D (turnT (bitT ws) f n2) (gdel x.ex E) X := V.cut H1.out.1.live.nodup (fun j => by rw [hxf, hxn]; rfl) (fun j _ => rfl)
    have ex : x.ex = ((f : Int), (n2 : Int), (z : Int)) := by unfold Xt.ex; rw [hxf, hxn, hxz]
    rw [ex] at V1
    have hyn : Xt.n ⟨f, l⟩ = n2 := by show secN l.length = n2; rw [HM.out.1, HM.out.2]
    have hye : Xt.ex ⟨f, l⟩ = ((f : Int), (n2 : Int), (m : Int)) := by unfold Xt.ex; rw [hyn, HM.out.1]
    have V2 : ExtV N (layD D f l n2) (bitT ws) (gset (Xt.ex ⟨f, l⟩) (.bool true) (gdel ((f : Int), (n2 : Int), (z : Int)) E)) (⟨f, l⟩ :: X) := by
      refine V1.put (y := ⟨f, l⟩) (fun i hi => ?_) (by rw [hyn]; exact hfit) (fun j => ?_) (fun j hj => layD_in hD _ hfit j ?_ hj) (fun j hj => layD_out hD _ hfit j (by rw [hyn] at hj; exact hj)) H1.out.2.2.2.2.2.2
      · rw [hyn] at hi
        unfold turnT
        rw [if_pos (by dsimp only; omega), htk _ (by dsimp only; omega)]
        rfl
      · rw [hyn]
        exact (turn_turn (bitT ws) f n2 j).symm
      · have h2 := HM.out
        unfold secN at h2
        dsimp only at hj
        omega
    rw [hye] at V2
    exact ⟨⟨_, _, _, H4.out.1.keep hU (fun k hk e => by have := HLT.out k hk; omega), V2⟩, H4.out.2.then hU (fun k hk e => by omega)⟩
  have hyn : Xt.n ⟨f, l⟩ = n2 := by show secN l.length = n2; rw [HM.out.1, HM.out.2]
  refine bodyPost_ret (v := .tuple #[.agg #[.int .i64 f, .int .i64 n2, .int .i64 m], .int .i64 0]) (by simp [results, Try.results34, go_sem, q4]) rfl (Ret.mk ⟨by rw [hyn, HM.out.1], cF _ ?_⟩)
  repeat (with_reducible first | exact Chg.refl _ _ | refine Chg.setCell ?_ (.inl (by simp)) _)

end Go.Proofs.Ytdpmmafkomchaaa
