/- Without the document's answer: each object that was made, and not dropped, is fetched as it was stored last; all dropped together, no sector is taken; what is near of all is all. -/
import Derived.Test.YtdpmmafkomchaaaLawSecondNear
import Derived.Test.YtdpmmafkomchaaaSecZ
namespace Go.Proofs.Ytdpmmafkomchaaa
set_option linter.unusedVariables false
set_option linter.unusedSimpArgs false
open Go.RowKit
open Go.ChangeMaps (setBlock)

section
variable {L : List Rw}
theorem near_none (L : List Rw) : nearL L [] = [] := by
  classical
  unfold nearL
  rw [List.filter_eq_nil_iff]
  intro k hk hd
  have h : NearR L [] k := of_decide_eq_true hd
  clear hk hd
  induction h with
  | root h1 _ => cases h1
  | step _ _ _ ih => exact ih
theorem drop_twice {ids : List Int} (h : ids ≠ []) : dropB L (ids ++ ids) = false := by
  unfold dropB
  rw [Bool.and_eq_false_iff]
  refine .inl (decide_eq_false fun hn => ?_)
  obtain ⟨x, hx⟩ := List.exists_mem_of_ne_nil ids h
  exact (List.nodup_append.1 hn).2.2 x hx x hx rfl
theorem drop_all (h : Rising L) : dropB L (L.map Rw.id) = true ∧ dropL L (L.map Rw.id) = [] := by
  constructor
  · unfold dropB
    rw [Bool.and_eq_true, decide_eq_true_eq, List.all_eq_true]
    refine ⟨(rising_iff.1 h).imp fun {a b} h => by omega, fun k hk => ?_⟩
    obtain ⟨r, hr, rfl⟩ := List.mem_map.1 hk
    rw [lk_of_mem h hr]
    rfl
  · rw [List.eq_nil_iff_forall_not_mem]
    intro r hr
    have h1 := lk_of_mem (drop_rising (L.map Rw.id) h) hr
    rw [lk_drop, if_pos (List.mem_map.2 ⟨r, drop_mem _ hr, rfl⟩)] at h1
    cases h1
theorem Kept.drop1 {T : List T3} (h : Kept L T) (ids : List Int) : Kept (if dropB L ids = true then dropL L ids else L) T := by
  split
  · exact h.drop ids
  · exact h
end
theorem SecS.max {w : World} {Q : SB} {N made : Nat} {L : List Rw} (h : SecS w Q N L made) : made ≤ 1048576 ∧ ∀ r ∈ L, 1 ≤ r.id ∧ r.id ≤ made := by obtain ⟨es, h⟩ := h; exact ⟨h.max, h.ids⟩

theorem DoR.lt0 {w : World} {S : Nat → Prop} {bb off : Nat} {n c : Nat} {D : List D6} (h : DoR w S (.slice (some ⟨bb, off, none⟩) n c) D) {i : Nat} {x : D6} (hi : D[i]? = some x) (_ : True) : bb < w.heap.size := by
  obtain ⟨b', off', e', -, hb, -⟩ := h.at hi
  obtain ⟨rfl, rfl⟩ : bb = b' ∧ off = off' := by simpa using e'
  exact hb
theorem Chg.at1 {w w' : World} {b : Nat} (h : Chg (fun k => k = b) w w') (off : Nat) (u : Value) : Chg (fun k => k = b) w (w'.setCell ⟨b, off, none⟩ u) := h.trans (Chg.one w' b off u)
theorem ObjR.ints {w : World} {S : Nat → Prop} {v : Value} {o : O} (h : ObjR w S v o) : ∀ x ∈ o.W, In64 x := by obtain ⟨_, _, _, h1, -⟩ := h; exact h1.2
theorem ObjR.bytes {w : World} {S : Nat → Prop} {v : Value} {o : O} (h : ObjR w S v o) : ∀ x ∈ o.B, 0 ≤ x ∧ x ≤ 255 := by obtain ⟨_, _, _, _, h2, -⟩ := h; exact h2.2




set_option maxRecDepth 100000 in
set_option maxHeartbeats 2000000 in
theorem SecondKeeps_any (v : Value) (D : List D6) (w : World) (h : DoR w (fun _ => True) v D) (hm : D.length ≤ maxLen) :
    Calls Try.prog 6 #[v] w fun e w' => e = .returned (.bool true) ∧ Chg No w w' := by
  have HLO := Lib.hid (long06_any v D _ w h hm)
  obtain ⟨A, c, rfl⟩ : ∃ A c, v = .slice A D.length c := by obtain ⟨A, c, e, -⟩ := h.1; exact ⟨A, c, e⟩
  have hm2 : D.length ≤ 9223372036854775807 := by unfold maxLen at hm; simp at hm; omega
  have HX := Lib.hid (h.more (S' := fun b => b < w.heap.size) (fun b hb _ => hb))
  generalize hn : D.length = n at *
  have HLN := Lib.hid hn
  clear h hm hn
  obtain ⟨lo, hlo⟩ : ∃ b, decide (80 < longF D) = b := ⟨_, rfl⟩
  rw [hlo] at HLO
  clear hlo
  cases lo with
  | true =>
    go_enter Try.func6, Try.ntmps6
    go_wp2_with (first
      | (go_at_call 20
         refine HLO.out.mono ?_
         rintro e w1 ⟨rfl, c1⟩
         have C1 := Lib.hid c1
         clear c1)
      | (go_at_call 7; refine (known06_any _).mono ?_; rintro e w9 ⟨rfl, c9⟩)
      | fail)
    go_ret
    exact ⟨rfl, C1.out.trans c9⟩
  | false =>
  go_enter Try.func6, Try.ntmps6
  go_wp2_with (first
    | (go_at_call 20
       refine HLO.out.mono ?_
       rintro e w1 ⟨rfl, c1⟩
       have C1 := Lib.hid c1
       clear c1)
    | (go_at_call 8
       refine (secNew_ok 400 (by omega) _).mono ?_
       rintro e w2 ⟨v2, rfl, Q, rfl, hs, hge, c2⟩
       have H2 := Lib.hid (And.intro hs (And.intro (show ∀ k, Q.has k → w.heap.size ≤ k from fun k hk => by have := hge k hk; have := C1.out.size; omega) (C1.out.trans c2)))
       clear hs hge c2)
    | fail)
  go_loopg [5, 6] n (fun j v5 v6 wr => ∃ (i : Nat) (L : List Rw) (made : Nat) (T : List T3), v6 = .int .i64 (i : Int) ∧ i ≤ n ∧ n - i ≤ j ∧ SecS wr Q 400 L made ∧ Chg No w wr ∧ LastK w Q wr v5 T ∧ T.length = made ∧ Kept L T)
  case atStart => exact ⟨0, [], 0, [], rfl, by omega, by omega, H2.out.1, H2.out.2.2, LastK.nil _ _ _, rfl, Kept.nil⟩
  case round =>
    obtain ⟨i, L, made, T, rfl, i1, i2, hsec, cw, hlast, hTL, hkept⟩ := hrel
    obtain ⟨B5, b5, rfl⟩ := hlast.form
    rw [hTL] at hlast ⊢
    have hmx := hsec.max.1
    by_cases hi : i < n
    · obtain ⟨t, ht⟩ : ∃ t, D[i]? = some t := ⟨_, List.getElem?_eq_getElem (by rw [HLN.out]; exact hi)⟩
      have t3 : decide ((i : Int) < (n : Int)) = true := decide_eq_true (by omega)
      have l3 : (i : Int) < (n : Int) := by omega
      obtain ⟨kk, id, o, xv, yv⟩ := t
      obtain ⟨bb, off, A1, ca1, A2, ca2, rfl, rfl, rfl, hat⟩ := HX.out.elem ht
      have HAT := Lib.hid hat
      have hbw := HX.out.lt0 ht trivial
      have r0 : ∀ v, Chg No wr v → v.cell? ⟨bb, off + i * 6, none⟩ = some (.int .i64 kk) := fun v hv => (HAT.out v (cw.trans hv)).2.2.1
      have r1 : ∀ v, Chg No wr v → v.cell? ⟨bb, off + i * 6 + 1, none⟩ = some (.int .i64 id) := fun v hv => (HAT.out v (cw.trans hv)).2.2.2.1
      have r2 : ∀ v, Chg No wr v → v.cell? ⟨bb, off + i * 6 + 2, none⟩ = some (.int .i64 o.cls) := fun v hv => (HAT.out v (cw.trans hv)).2.2.2.2.1
      have r3 : ∀ v, Chg No wr v → v.cell? ⟨bb, off + i * 6 + 2 + 1, none⟩ = some (.int .i64 o.kind) := fun v hv => (HAT.out v (cw.trans hv)).2.2.2.2.2.1
      have r4 : ∀ v, Chg No wr v → v.cell? ⟨bb, off + i * 6 + 2 + 2, none⟩ = some (.slice A1 o.W.length ca1) := fun v hv => (HAT.out v (cw.trans hv)).2.2.2.2.2.2.1
      have r5 : ∀ v, Chg No wr v → v.cell? ⟨bb, off + i * 6 + 2 + 3, none⟩ = some (.slice A2 o.B.length ca2) := fun v hv => (HAT.out v (cw.trans hv)).2.2.2.2.2.2.2
      have q0 := r0 wr (Chg.refl _ _)
      have q1 := r1 wr (Chg.refl _ _)
      have q2 := r2 wr (Chg.refl _ _)
      have q3 := r3 wr (Chg.refl _ _)
      have q4 := r4 wr (Chg.refl _ _)
      have q5 := r5 wr (Chg.refl _ _)
      clear hat ht
      have HC := Lib.hid (And.intro cw (And.intro hsec (And.intro hlast (And.intro hTL hkept))))
      clear cw hsec hlast hTL hkept
      by_cases k1 : kk = 1
      · subst k1
        have hq := secMake_any HC.out.2.1 _ o _ (HAT.out _ HC.out.1).1
        cases hmf : mkF 400 L made o with
        | none =>
          obtain ⟨e1, e2, e3⟩ := mkL_none hmf
          have hne := mkE_none hmf
          rw [e1, e2, e3] at hq
          generalize mkE 400 L made o = x at *
          have t4 : (x == 0) = false := beq_eq_false_iff_ne.2 hne
          have HQ := Lib.hid hq
          clear hq hmf e1 e2 e3 hne
          go_wp2_with (first
            | (go_at_call 10
               refine HQ.out.mono ?_
               rintro e w3 ⟨rfl, hs3, c3⟩
               have H3 := Lib.hid (And.intro hs3 (And.intro (Chg.fresh HC.out.1 c3 H2.out.2.1) (HC.out.2.2.1.keep c3 (fun _ hk => hk))))
               clear hs3 c3)
            | fail)
          go_roundg (n - (i + 1))
          case measure => omega
          case rel => exact ⟨i + 1, _, _, _, by go_num, by omega, by omega, H3.out.1, H3.out.2.1, H3.out.2.2, HC.out.2.2.2.1, HC.out.2.2.2.2⟩
        | some f =>
          obtain ⟨e1, e2, e3⟩ := mkL_some hmf
          obtain ⟨e4, hok⟩ := mkE_some hmf
          rw [e1, e2, e3, e4, show ((made + 1 : Nat) : Int) = (made : Int) + 1 by omega] at hq
          have HQ := Lib.hid hq
          have HOK := Lib.hid (okB_cases hok)
          clear hq hmf e1 e2 e3 e4 hok
          go_wp2_with (first
            | (go_at_call 10
               refine HQ.out.mono ?_
               rintro e w3 ⟨rfl, hs3, c3⟩
               have cw3 := Chg.fresh HC.out.1 c3 H2.out.2.1
               have y := (HAT.out w3 cw3).2.2
               have H3 := Lib.hid (And.intro hs3 (And.intro cw3 (HC.out.2.2.1.keep c3 (fun _ hk => hk))))
               clear hs3 c3 cw3)
            | (go_at_call 24
               refine (Copy05_any _ o _ _ (HAT.out _ H3.out.2.1).1 (by have := HOK.out; omega) (by have := HOK.out; omega)).mono ?_
               rintro e w4 ⟨v4, rfl, wv4, bv4, rfl, c4, hoW, hoB⟩
               obtain ⟨A4, d4, rfl⟩ := own_form hoW
               obtain ⟨A5, d5, rfl⟩ := own_form hoB
               obtain ⟨W5, hW5⟩ : ∃ W, w4.alloc (.cells #[.int .i64 o.cls, .int .i64 o.kind, .slice A4 o.W.length d4, .slice A5 o.B.length d5] 33) = W := ⟨_, rfl⟩
               have c5 : Chg No w4 W5 := by rw [← hW5]; exact (Chg.refl _ _).alloc _
               have row5 : Row W5 w4.heap.size 33 #[.int .i64 o.cls, .int .i64 o.kind, .slice A4 o.W.length d4, .slice A5 o.B.length d5] := by rw [← hW5]; exact Row.new _ _ _
               have hq5 : ∀ k, Q.has k → k < w3.heap.size := fun k hk => H3.out.1.lt hk
               have hl3 := H3.out.2.2
               have hok5 : okT W5 (fun b => ¬ Q.has b ∧ ¬ (Value.slice B5 made b5).ownBlock = some b) (o, .slice A4 o.W.length d4, .slice A5 o.B.length d5) := by
                 obtain ⟨-, -, -, -, -, i64c, i64k⟩ := (HAT.out _ H3.out.2.1).1
                 have key : ∀ b, w3.heap.size ≤ b → ¬ Q.has b ∧ ¬ (Value.slice B5 made b5).ownBlock = some b := fun b hb => ⟨fun hq => by have := hq5 b hq; omega, fun e => by have := hl3.lt e; omega⟩
                 exact ⟨((IntS.of_own hoW (HAT.out _ H3.out.2.1).1.ints).keep c5 (fun _ _ f => f)).more (fun b _ hb => key b hb), ((ByteS.of_own hoB (HAT.out _ H3.out.2.1).1.bytes).keep c5 (fun _ _ f => f)).more (fun b _ hb => key b hb), i64c, i64k⟩
               have hHave := Lib.hid (And.intro hok5 (And.intro row5 (c4.trans c5)))
               obtain ⟨A6, d6, w6, hr6, hl6, c6⟩ := (hl3.keep (c4.trans c5) (fun _ f => f.elim)).app (fun k hk => by have := hq5 k hk; have := c4.size; have := c5.size; omega) (by have := H3.out.2.1.size; have := c4.size; have := c5.size; omega) (by have := HC.out.2.2.2.1; omega) row5 hok5 22
               rw [HC.out.2.2.2.1] at hr6 hl6
               have HR := Lib.hid hr6
               have HW5 := Lib.hid hW5
               have c36 : Chg (fun b => (Value.slice B5 made b5).ownBlock = some b) w3 w6 := (c4.trans c5).no.trans c6
               have H6 := Lib.hid (And.intro (H3.out.1.keep c36 (fun q hq e => hl3.nq q e hq)) (And.intro (H3.out.2.1.then c36 (fun k hk e => by have := own_ge hl3.own e; omega)) (And.intro hl6 (HC.out.2.2.2.2.more (t := (o, .slice A4 o.W.length d4, .slice A5 o.B.length d5)) (f := f) HC.out.2.2.2.1 (fun r hr => by have := (HC.out.2.1.max.2 r hr).2; omega)))))
               simp only [cells2]
               clear c4 hoW hoB c5 row5 hq5 hl3 hok5 hHave hr6 hl6 c6 c36 hW5)
            | (at_builtin; rw [HW5.out]; refine wpList_append_run rfl _ _ _ rfl rfl rfl HR.out ?_)
            | fail)
          have t5 : decide ((made : Int) + 1 = (made : Int) + 1) = true := decide_eq_true rfl
          go_roundg (n - (i + 1))
          case measure => omega
          case rel => exact ⟨i + 1, _, _, _, by go_num, by omega, by omega, H6.out.1, H6.out.2.1, H6.out.2.2.1, by rw [List.length_append, HC.out.2.2.2.1]; rfl, H6.out.2.2.2⟩
      by_cases k3 : kk = 3
      · subst k3
        cases hsf : stF 400 L id o with
        | none =>
          have e1 := stL_none hsf
          have hne : stE 400 L id o ≠ 0 := fun e => by obtain ⟨f, hf⟩ := stE_ok.1 e; rw [hsf] at hf; cases hf
          have hq := fun V (hV : Chg No wr V) => secStore_any (HC.out.2.1.keep hV (fun _ _ f => f)) id _ o _ (HAT.out _ (HC.out.1.trans hV)).1
          rw [e1] at hq
          generalize stE 400 L id o = x at *
          have t4 : (x == 0) = false := beq_eq_false_iff_ne.2 hne
          have HQ := Lib.hid hq
          clear hq hsf e1 hne
          go_wp2_with fail
          refine rem_start (by kernel_rfl) (by kernel_rfl) ?_
          refine rem_quiet 11 (C := (Chg No wr)) (by kernel_rfl) (by simp only [List.toList_toArray, List.drop_succ_cons, List.drop_zero, List.take_succ_cons, List.take_zero, Nat.reduceSub, Nat.reduceAdd]; rfl) ?_ ?_
          · exact (Chg.refl _ _).drew
          repeat
            refine q_step (fun K hK => ?_)
            go_simp
            first
              | ((with_reducible refine hK _ ?_); clear hK K)
              | (refine (if_neg (by simp [undef])).mpr ?_; (with_reducible refine hK _ ?_); clear hK K)
              | (apply Exists.intro
                 with_reducible refine ⟨fun v hv => ?_, hK _ ?_⟩
                 · first
                     | with_reducible exact rfl
                     | with_reducible exact ⟨rfl, rfl⟩
                     | (go_simp
                        first
                          | done
                          | with_reducible exact rfl
                          | with_reducible exact ⟨rfl, rfl⟩
                          | fail)
                 clear hK K)
          refine q_nil ?_
          intro V hV
          have HQ2 := Lib.hid (HQ.out V hV)
          refine rem_one (by kernel_rfl) (by kernel_rfl) rfl (by kernel_rfl) (fun K hK => ?_)
          go_wp2_with (first
            | (go_at_call 16
               refine HQ2.out.mono ?_
               rintro e w3 ⟨rfl, hs3, c3⟩
               have H3 := Lib.hid (And.intro hs3 (And.intro (Chg.fresh (HC.out.1.trans hV) c3 H2.out.2.1) ((HC.out.2.2.1.keep hV (fun _ f => f.elim)).keep c3 (fun _ hk => hk))))
               clear hs3 c3 HQ2 HQ hV)
            | fail)
          refine rem_quiet 13 (C := (fun v => v = w3)) (by kernel_rfl) (by simp only [List.toList_toArray, List.drop_succ_cons, List.drop_zero, List.take_succ_cons, List.take_zero, Nat.reduceSub, Nat.reduceAdd]; rfl) ?_ ?_
          · rfl
          repeat
            refine q_step (fun K hK => ?_)
            go_simp
            first
              | ((with_reducible refine hK _ ?_); clear hK K)
              | (refine (if_neg (by simp [undef])).mpr ?_; (with_reducible refine hK _ ?_); clear hK K)
              | (apply Exists.intro
                 with_reducible refine ⟨fun v hv => ?_, hK _ ?_⟩
                 · first
                     | with_reducible exact rfl
                     | with_reducible exact ⟨rfl, rfl⟩
                     | (go_simp
                        first
                          | done
                          | with_reducible exact rfl
                          | with_reducible exact ⟨rfl, rfl⟩
                          | fail)
                 clear hK K)
          refine q_nil ?_
          intro V4 hV4
          subst V4
          refine rem_end (by kernel_rfl) ?_
          go_wp2_with fail
          go_roundg (n - (i + 1))
          case measure => omega
          case rel => exact ⟨i + 1, _, _, _, by go_num, by omega, by omega, H3.out.1, H3.out.2.1, H3.out.2.2, HC.out.2.2.2.1, HC.out.2.2.2.2⟩
        | some f =>
          obtain ⟨e1, hok, r, hr⟩ := stL_some hsf
          obtain ⟨k, rfl, t0, ht0, -⟩ := HC.out.2.2.2.2 id r hr
          have hkm : k < made := by have := (List.getElem?_eq_some_iff.1 ht0).1; rw [HC.out.2.2.2.1] at this; exact this
          obtain ⟨g, rfl, -, hmb, hbx, hgw, -⟩ := HC.out.2.2.1.at ht0
          have hq := fun V (hV : Chg No wr V) => secStore_any (HC.out.2.1.keep hV (fun _ _ f => f)) ((k : Int) + 1) _ o _ (HAT.out _ (HC.out.1.trans hV)).1
          rw [e1, stE_ok.2 ⟨f, hsf⟩] at hq
          have HQ := Lib.hid hq
          have HOK := Lib.hid (okB_cases hok)
          have HKE := Lib.hid (fun t (e : t.1 = o) => HC.out.2.2.2.2.set (t := t) (f := f) (show k < T.length by rw [HC.out.2.2.2.1]; exact hkm) (by rw [hr]; rfl))
          have HT0 := Lib.hid (And.intro ht0 hkm)
          have t4 : decide ((k : Int) + 1 < 1) = false := decide_eq_false (by omega)
          have t5 : decide ((made : Int) < (k : Int) + 1) = false := decide_eq_false (by omega)
          have t6 : IntKind.i64.wrap ((k : Int) + 1 - 1) = (k : Int) := (IntWalk.i64_in _ (by omega)).trans (by omega)
          have l4 : (k : Int) < (made : Int) := by omega
          have l5 : (0 : Int) ≤ (k : Int) := by omega
          have t7 : IntKind.i64.wrap (k : Int) = (k : Int) := IntWalk.i64_in _ (by omega)
          clear hq hsf e1 hok hr ht0 hbx
          go_wp2_with fail
          refine rem_start (by kernel_rfl) (by kernel_rfl) ?_
          refine rem_quiet 11 (C := (Chg No wr)) (by kernel_rfl) (by simp only [List.toList_toArray, List.drop_succ_cons, List.drop_zero, List.take_succ_cons, List.take_zero, Nat.reduceSub, Nat.reduceAdd]; rfl) ?_ ?_
          · exact (Chg.refl _ _).drew
          repeat
            refine q_step (fun K hK => ?_)
            go_simp
            first
              | ((with_reducible refine hK _ ?_); clear hK K)
              | (refine (if_neg (by simp [undef])).mpr ?_; (with_reducible refine hK _ ?_); clear hK K)
              | (apply Exists.intro
                 with_reducible refine ⟨fun v hv => ?_, hK _ ?_⟩
                 · first
                     | with_reducible exact rfl
                     | with_reducible exact ⟨rfl, rfl⟩
                     | (go_simp
                        first
                          | done
                          | with_reducible exact rfl
                          | with_reducible exact ⟨rfl, rfl⟩
                          | fail)
                 clear hK K)
          refine q_nil ?_
          intro V hV
          have HQ2 := Lib.hid (HQ.out V hV)
          refine rem_one (by kernel_rfl) (by kernel_rfl) rfl (by kernel_rfl) (fun K hK => ?_)
          go_wp2_with (first
            | (go_at_call 16
               refine HQ2.out.mono ?_
               rintro e w3 ⟨rfl, hs3, c3⟩
               have cw3 := Chg.fresh (HC.out.1.trans hV) c3 H2.out.2.1
               have H30 := Lib.hid (And.intro hs3 (And.intro cw3 ((HC.out.2.2.1.keep hV (fun _ f => f.elim)).keep c3 (fun _ hk => hk))))
               clear hs3 c3 cw3 HQ2 HQ hV)
            | fail)
          refine rem_quiet 13 (C := (fun v => v = w3)) (by kernel_rfl) (by simp only [List.toList_toArray, List.drop_succ_cons, List.drop_zero, List.take_succ_cons, List.take_zero, Nat.reduceSub, Nat.reduceAdd]; rfl) ?_ ?_
          · rfl
          repeat
            refine q_step (fun K hK => ?_)
            go_simp
            first
              | ((with_reducible refine hK _ ?_); clear hK K)
              | (refine (if_neg (by simp [undef])).mpr ?_; (with_reducible refine hK _ ?_); clear hK K)
              | (apply Exists.intro
                 with_reducible refine ⟨fun v hv => ?_, hK _ ?_⟩
                 · first
                     | with_reducible exact rfl
                     | with_reducible exact ⟨rfl, rfl⟩
                     | (go_simp
                        first
                          | done
                          | with_reducible exact rfl
                          | with_reducible exact ⟨rfl, rfl⟩
                          | fail)
                 clear hK K)
          refine q_nil ?_
          intro V4 hV4
          subst V4
          refine rem_end (by kernel_rfl) ?_
          clear r0 r1 r2 r3 r4 r5 q0 q1 q2 q3 q4 q5
          have r0 : ∀ v, Chg No w3 v → v.cell? ⟨bb, off + i * 6, none⟩ = some (.int .i64 3) := fun v hv => (HAT.out v (H30.out.2.1.trans hv)).2.2.1
          have r1 : ∀ v, Chg No w3 v → v.cell? ⟨bb, off + i * 6 + 1, none⟩ = some (.int .i64 ((k : Int) + 1)) := fun v hv => (HAT.out v (H30.out.2.1.trans hv)).2.2.2.1
          have r2 : ∀ v, Chg No w3 v → v.cell? ⟨bb, off + i * 6 + 2, none⟩ = some (.int .i64 o.cls) := fun v hv => (HAT.out v (H30.out.2.1.trans hv)).2.2.2.2.1
          have r3 : ∀ v, Chg No w3 v → v.cell? ⟨bb, off + i * 6 + 2 + 1, none⟩ = some (.int .i64 o.kind) := fun v hv => (HAT.out v (H30.out.2.1.trans hv)).2.2.2.2.2.1
          have r4 : ∀ v, Chg No w3 v → v.cell? ⟨bb, off + i * 6 + 2 + 2, none⟩ = some (.slice A1 o.W.length ca1) := fun v hv => (HAT.out v (H30.out.2.1.trans hv)).2.2.2.2.2.2.1
          have r5 : ∀ v, Chg No w3 v → v.cell? ⟨bb, off + i * 6 + 2 + 3, none⟩ = some (.slice A2 o.B.length ca2) := fun v hv => (HAT.out v (H30.out.2.1.trans hv)).2.2.2.2.2.2.2
          have q1 := r1 w3 (Chg.refl _ _)
          go_wp2_with fail
          have HCO := Lib.hid (fun V (hV : Chg No w3 V) => Copy05_any _ o _ V (HAT.out V (H30.out.2.1.trans hV)).1 (by have := HOK.out; omega) (by have := HOK.out; omega))
          have hbg : ¬ bb = g := fun e => by omega
          have hbw3 : bb < w3.heap.size := Nat.lt_of_lt_of_le hbw H30.out.2.1.size
          replace r0 : ∀ v, Chg (fun b => b = g) w3 v → v.cell? ⟨bb, off + i * 6, none⟩ = some (.int .i64 3) := fun v hv => (hv.cell hbw3 hbg).trans (r0 w3 (Chg.refl _ _))
          replace r1 : ∀ v, Chg (fun b => b = g) w3 v → v.cell? ⟨bb, off + i * 6 + 1, none⟩ = some (.int .i64 ((k : Int) + 1)) := fun v hv => (hv.cell hbw3 hbg).trans (r1 w3 (Chg.refl _ _))
          replace r2 : ∀ v, Chg (fun b => b = g) w3 v → v.cell? ⟨bb, off + i * 6 + 2, none⟩ = some (.int .i64 o.cls) := fun v hv => (hv.cell hbw3 hbg).trans (r2 w3 (Chg.refl _ _))
          replace r3 : ∀ v, Chg (fun b => b = g) w3 v → v.cell? ⟨bb, off + i * 6 + 2 + 1, none⟩ = some (.int .i64 o.kind) := fun v hv => (hv.cell hbw3 hbg).trans (r3 w3 (Chg.refl _ _))
          replace r4 : ∀ v, Chg (fun b => b = g) w3 v → v.cell? ⟨bb, off + i * 6 + 2 + 2, none⟩ = some (.slice A1 o.W.length ca1) := fun v hv => (hv.cell hbw3 hbg).trans (r4 w3 (Chg.refl _ _))
          replace r5 : ∀ v, Chg (fun b => b = g) w3 v → v.cell? ⟨bb, off + i * 6 + 2 + 3, none⟩ = some (.slice A2 o.B.length ca2) := fun v hv => (hv.cell hbw3 hbg).trans (r5 w3 (Chg.refl _ _))
          clear q1
          go_region_held3 (fun w' => Chg (fun b => b = g) w3 w') (repeat (with_reducible first | assumption | exact Chg.refl _ _ | refine Chg.drew ?_ | refine Chg.alloc ?_ _ | refine Chg.at1 ?_ _ _))
            (first
              | (go_at_call 24
                 refine (Calls.heldC (F := No) (W := w3) (by repeat (with_reducible first | assumption | exact Chg.refl _ _ | refine Chg.drew ?_ | refine Chg.alloc ?_ _)) (HCO.out _ (by repeat (with_reducible first | assumption | exact Chg.refl _ _ | refine Chg.drew ?_ | refine Chg.alloc ?_ _)))).mono ?_
                 rintro e w4 ⟨⟨v4, rfl, wv4, bv4, rfl, c4, hoW, hoB⟩, hh4⟩
                 obtain ⟨A4, d4, rfl⟩ := own_form hoW
                 obtain ⟨A5, d5, rfl⟩ := own_form hoB
                 have hq5 : ∀ k, Q.has k → k < w3.heap.size := fun k hk => H30.out.1.lt hk
                 have hs3 := hh4.size
                 have c34 := hh4.trans c4
                 have hl3 := H30.out.2.2
                 have hok4 : okT w4 (fun b => ¬ Q.has b ∧ ¬ b = g) (o, .slice A4 o.W.length d4, .slice A5 o.B.length d5) := by
                   obtain ⟨-, -, -, -, -, i64c, i64k⟩ := (HAT.out _ H30.out.2.1).1
                   have key : ∀ b, w3.heap.size ≤ b → ¬ Q.has b ∧ ¬ b = g := fun b hb => ⟨fun hq => by have := hq5 b hq; omega, fun e => by have := hl3.lt (b := b) (by rw [e]; rfl); omega⟩
                   exact ⟨(IntS.of_own hoW (HAT.out _ H30.out.2.1).1.ints).more (fun b _ hb => key b (Nat.le_trans hs3 hb)), (ByteS.of_own hoB (HAT.out _ H30.out.2.1).1.bytes).more (fun b _ hb => key b (Nat.le_trans hs3 hb)), i64c, i64k⟩
                 have hl4 := hl3.keep c34 (fun _ f => f.elim)
                 obtain ⟨g2, eg, -, -, -, -, -, -, hcells, hfz⟩ := hl4.at HT0.out.1
                 obtain rfl : g = g2 := by simpa using eg
                 obtain ⟨hset, cset⟩ := hl4.set (k := k) (show k < T.length by rw [HC.out.2.2.2.1]; exact HT0.out.2) hok4
                 dsimp only at hset cset
                 obtain ⟨W5, hW5⟩ : ∃ W, (((w4.setCell ⟨g, k * 4, none⟩ (.int .i64 o.cls)).setCell ⟨g, k * 4 + 1, none⟩ (.int .i64 o.kind)).setCell ⟨g, k * 4 + 2, none⟩ (.slice A4 o.W.length d4)).setCell ⟨g, k * 4 + 3, none⟩ (.slice A5 o.B.length d5) = W := ⟨_, rfl⟩
                 rw [hW5] at hset cset
                 have hgq : ¬ Q.has g := hl3.nq g rfl
                 have hgw2 : w.heap.size ≤ g := own_ge hl3.own rfl
                 have H6 := Lib.hid (And.intro ((H30.out.1.keep c34 (fun _ _ f => f)).keep cset (fun q hq e => hgq (by rw [← e]; exact hq))) (And.intro ((H30.out.2.1.trans c34).then cset (fun q hq e => by omega)) (And.intro hset (HKE.out (o, .slice A4 o.W.length d4, .slice A5 o.B.length d5) rfl))))
                 have HW5 := Lib.hid hW5
                 simp only [cells2]
                 have hx1 : Chg (fun b => b = g) w3 w4 := c34.no
                 have y0 := hcells.1
                 have y1 := hcells.2.1
                 have y2 := hcells.2.2.1
                 have y3 := hcells.2.2.2
                 clear hcells hs3 hh4 c34 c4 hoW hoB hq5 hl3 hok4 hl4 eg hset cset hW5 hgq hgw2)
              | fail)
          rw [HW5.out]
          go_wp2_with fail
          go_roundg (n - (i + 1))
          case measure => omega
          case rel => exact ⟨i + 1, _, _, _, by go_num, by omega, by omega, H6.out.1, H6.out.2.1, H6.out.2.2.1, by rw [List.length_set]; exact HC.out.2.2.2.1, H6.out.2.2.2⟩
      by_cases k4 : kk = 4
      · subst k4
        have hrow : IntS (wr.alloc (.cells #[.int .i64 id] 3)) (fun k => k = wr.heap.size) (.slice (some ⟨wr.heap.size, 0, none⟩) 1 1) [id] := IntS.ofRow (l := [id]) (Row.new wr _ _) (by simp) (by intro x hx; rw [List.mem_singleton.1 hx]; exact (HAT.out _ HC.out.1).2.1)
        have hdr := secDrop_any (HC.out.2.1.keep (F := No) ((Chg.refl _ _).alloc (.cells #[.int .i64 id] 3)) (fun _ _ f => f)) _ [id] _ hrow (fun k hk hq => by have := HC.out.2.1.lt hq; omega) (by simp)
        have HKE := Lib.hid (HC.out.2.2.2.2.drop1 [id])
        obtain ⟨xe, hxe⟩ : ∃ x : Int, (if dropB L [id] = true then (0 : Int) else 4) = x := ⟨_, rfl⟩
        obtain ⟨L2, hL2⟩ : ∃ x, (if dropB L [id] = true then dropL L [id] else L) = x := ⟨_, rfl⟩
        unfold Dropd at hdr
        rw [hxe, hL2] at hdr
        rw [hL2] at HKE
        have HDR := Lib.hid hdr
        clear hrow hdr hxe hL2
        go_wp2_with (first
          | (go_at_call 21
             refine HDR.out.mono ?_
             rintro e w3 ⟨rfl, hs3, c3⟩
             have H3 := Lib.hid (And.intro hs3 (And.intro (Chg.fresh (HC.out.1.alloc _) c3 H2.out.2.1) ((HC.out.2.2.1.keep (F := No) ((Chg.refl _ _).alloc (.cells #[.int .i64 id] 3)) (fun _ f => f.elim)).keep c3 (fun _ hk => hk))))
             clear hs3 c3)
          | fail)
        go_roundg (n - (i + 1))
        case measure => omega
        case rel => exact ⟨i + 1, _, _, _, by go_num, by omega, by omega, H3.out.1, H3.out.2.1, H3.out.2.2, HC.out.2.2.2.1, HKE.out⟩
      · have n1 : (kk == 1) = false := beq_eq_false_iff_ne.2 k1
        have n3 : (kk == 3) = false := beq_eq_false_iff_ne.2 k3
        have n4 : (kk == 4) = false := beq_eq_false_iff_ne.2 k4
        clear k1 k3 k4
        go_wp2_with fail
        go_roundg (n - (i + 1))
        case measure => omega
        case rel => exact ⟨i + 1, _, _, _, by go_num, by omega, by omega, HC.out.2.1, HC.out.1, HC.out.2.2.1, HC.out.2.2.2.1, HC.out.2.2.2.2⟩
    · obtain rfl : i = n := by omega
      have t3 : decide ((i : Int) < (i : Int)) = false := decide_eq_false (by omega)
      have hi := secIds_any hsec
      obtain ⟨Z, hZ⟩ : ∃ X, L.map Rw.id = X := ⟨_, rfl⟩
      have z64 := hsec.ids64
      have hdz := drop_all hsec.rise
      have hnz := near_all hsec.rise
      have hzl := hsec.len
      rw [← List.length_map (f := Rw.id)] at hzl
      have hat := fun (q : Nat) (hq : q < Z.length) => show ∃ r, Z[q]?.getD 0 = r.id ∧ lk L r.id = some r by
        subst hZ
        rw [List.length_map] at hq
        refine ⟨L[q], by simp [hq], lk_of_mem hsec.rise (List.getElem_mem _)⟩
      rw [hZ] at hi z64 hdz hnz hzl
      have HAT := Lib.hid hat
      generalize hnl : Z.length = nz at *
      have HNZ := Lib.hid hnl
      have HG := Lib.hid (And.intro z64 (And.intro hdz (And.intro hnz (near_none L))))
      have HI := Lib.hid hi
      have HC := Lib.hid (And.intro hsec (And.intro cw (And.intro hlast (And.intro hTL hkept))))
      clear hi hZ z64 hdz hnz hat hnl hsec cw hlast hTL hkept HX HLO C1
      go_wp2_with (first
        | (go_at_call 15
           (with_reducible refine HI.out.mono ?_)
           rintro e w3 ⟨v3, rfl, ho3, c3⟩
           have hx3 : IntS w3 (fun b => ¬ Q.has b) v3 Z := (IntS.of_own ho3 HG.out.1).more (fun b _ hb hq => by have := HC.out.1.lt hq; omega)
           obtain ⟨A3, d3, rfl⟩ : ∃ A c, v3 = .slice A nz c := by have := ho3.form; rwa [HNZ.out] at this
           have H3 := Lib.hid (And.intro (HC.out.1.keep c3 (fun _ _ f => f)) (And.intro (HC.out.2.1.trans c3) (And.intro (HC.out.2.2.1.keep c3 (fun _ f => f.elim)) hx3)))
           clear ho3 c3 hx3 HI)
        | fail)
      clear t3
      go_loopg [10] nz (fun j v10 wr => ∃ q : Nat, v10 = .int .i64 (q : Int) ∧ q ≤ nz ∧ nz - q ≤ j ∧ SecS wr Q 400 L made ∧ Chg (fun k => k = Q.B.d) w3 wr)
      case atStart => exact ⟨0, rfl, by omega, by omega, H3.out.1, Chg.refl _ _⟩
      case round =>
        obtain ⟨q, rfl, q1, q2, hsec, cq⟩ := hrel
        have hdq : Q.has Q.B.d := .inr (.inr (.inr (.inl rfl)))
        have hids := H3.out.2.2.2.keep cq (fun b hb e => hb (by rw [e]; exact hdq))
        have hlast := H3.out.2.2.1.keep cq (fun b e => by rw [e]; exact hdq)
        have cw : Chg No w wr := H3.out.2.1.then cq (fun k hk e => by have := H2.out.2.1 _ hdq; omega)
        by_cases hq : q < nz
        · have u1 : decide ((q : Int) < (nz : Int)) = true := decide_eq_true (by omega)
          have l1 : (q : Int) < (nz : Int) := by omega
          obtain ⟨r, hr1, hr2⟩ := HAT.out q hq
          obtain ⟨k, hrk, t, ht, hto⟩ := HC.out.2.2.2.2 _ _ hr2
          have hkm : k < made := by have := (List.getElem?_eq_some_iff.1 ht).1; rw [HC.out.2.2.2.1] at this; exact this
          have hii := hids
          obtain ⟨bq, oq, rfl, hbq, eq0, -, -⟩ := hii.at (i := q) (by rw [HNZ.out]; exact hq)
          rw [hr1, hrk] at eq0
          rw [hrk] at hr2
          obtain ⟨g, rfl, -, hmb, hbx, hgw, hglt, hgo, hgc, -⟩ := hlast.at ht
          obtain ⟨to, tw, tb⟩ := t
          obtain rfl : to = r.o := hto
          dsimp only at hgo hgc
          obtain ⟨tw', tb', ee, hgw1, hgb1, -⟩ := id hgo
          obtain ⟨rfl, rfl⟩ : tw = tw' ∧ tb = tb' := by simpa [cells2] using ee
          obtain ⟨G1, g1, rfl, -⟩ := hgw1.form
          obtain ⟨G2, g2, rfl, -⟩ := hgb1.form
          have hgd : ¬ g = Q.B.d := fun e => hlast.nq g rfl (by rw [e]; exact hdq)
          have hbd : ¬ bq = Q.B.d := fun e => by
            obtain ⟨A', c', e', -, -, -, hc'⟩ := hids.form
            obtain ⟨b', o', e2, hS, -⟩ := hc' q (by rw [HNZ.out]; exact hq)
            obtain ⟨rfl, rfl, rfl⟩ := Value.slice.inj e'
            obtain ⟨rfl, rfl⟩ : bq = b' ∧ oq = o' := by simpa using e2
            exact hS (by rw [e]; exact hdq)
          have t4 : decide ((k : Int) + 1 < 1) = false := decide_eq_false (by omega)
          have t5 : decide ((made : Int) < (k : Int) + 1) = false := decide_eq_false (by omega)
          have t6 : IntKind.i64.wrap ((k : Int) + 1 - 1) = (k : Int) := (IntWalk.i64_in _ (by omega)).trans (by omega)
          have t7 : IntKind.i64.wrap (k : Int) = (k : Int) := IntWalk.i64_in _ (by omega)
          have l4 : (k : Int) < (made : Int) := by omega
          have l5 : (0 : Int) ≤ (k : Int) := by omega
          have l6 : (0 : Int) ≤ (q : Int) := by omega
          have HF := Lib.hid (secFetch_some hsec hr2)
          have HQ := Lib.hid (And.intro hsec (And.intro cq (And.intro cw (And.intro (And.intro hbq hbd) (And.intro (And.intro hglt hgd) (And.intro hgo (And.intro eq0 hgc)))))))
          clear hr1 hr2 hrk ht hkm hids hii hlast hbx hgo hgc hgw1 hgb1 ee hsec cq cw
          go_wp2_with (first
            | (go_at_call 17
               (with_reducible refine HF.out.mono ?_)
               rintro e w5 ⟨v5, rfl, u5, rfl, ho5, hs5, c5⟩
               obtain ⟨wv5, bv5, rfl, hI5, hB5, i5, k5⟩ := ho5
               obtain ⟨P1, p1, rfl, -⟩ := hI5.form
               obtain ⟨P2, p2, rfl, -⟩ := hB5.form
               obtain ⟨W6, hW6⟩ : ∃ W, w5.alloc (.cells #[.int .i64 r.o.cls, .int .i64 r.o.kind, .slice P1 r.o.W.length p1, .slice P2 r.o.B.length p2] 33) = W := ⟨_, rfl⟩
               have c6 : Chg No w5 W6 := by rw [← hW6]; exact (Chg.refl _ _).alloc _
               have rp : Row W6 w5.heap.size 33 #[.int .i64 r.o.cls, .int .i64 r.o.kind, .slice P1 r.o.W.length p1, .slice P2 r.o.B.length p2] := by rw [← hW6]; exact Row.new _ _ _
               have c56 : Chg (fun k => k = Q.B.d) wr W6 := c5.trans c6.no
               have z0 : ∀ v, Chg No W6 v → v.cell? ⟨bq, oq + q, none⟩ = some (.int .i64 ((k : Int) + 1)) := fun v hv => (Chg.cell (c56.trans hv.no) HQ.out.2.2.2.1.1 HQ.out.2.2.2.1.2).trans HQ.out.2.2.2.2.2.2.1
               have z1 : ∀ v, Chg No W6 v → v.cell? ⟨g, k * 4, none⟩ = some (.int .i64 r.o.cls) := fun v hv => (Chg.cell (c56.trans hv.no) HQ.out.2.2.2.2.1.1 HQ.out.2.2.2.2.1.2).trans HQ.out.2.2.2.2.2.2.2.1
               have z2 : ∀ v, Chg No W6 v → v.cell? ⟨g, k * 4 + 1, none⟩ = some (.int .i64 r.o.kind) := fun v hv => (Chg.cell (c56.trans hv.no) HQ.out.2.2.2.2.1.1 HQ.out.2.2.2.2.1.2).trans HQ.out.2.2.2.2.2.2.2.2.1
               have z3 : ∀ v, Chg No W6 v → v.cell? ⟨g, k * 4 + 2, none⟩ = some (.slice G1 r.o.W.length g1) := fun v hv => (Chg.cell (c56.trans hv.no) HQ.out.2.2.2.2.1.1 HQ.out.2.2.2.2.1.2).trans HQ.out.2.2.2.2.2.2.2.2.2.1
               have z4 : ∀ v, Chg No W6 v → v.cell? ⟨g, k * 4 + 3, none⟩ = some (.slice G2 r.o.B.length g2) := fun v hv => (Chg.cell (c56.trans hv.no) HQ.out.2.2.2.2.1.1 HQ.out.2.2.2.2.1.2).trans HQ.out.2.2.2.2.2.2.2.2.2.2
               have x0 : ∀ v, Chg No W6 v → v.cell? ⟨w5.heap.size, 0, none⟩ = some (.int .i64 r.o.cls) := fun v hv => (rp.keep hv (fun f => f)).cell 0
               have x1 : ∀ v, Chg No W6 v → v.cell? ⟨w5.heap.size, 1, none⟩ = some (.int .i64 r.o.kind) := fun v hv => (rp.keep hv (fun f => f)).cell 1
               have x2 : ∀ v, Chg No W6 v → v.cell? ⟨w5.heap.size, 2, none⟩ = some (.slice P1 r.o.W.length p1) := fun v hv => (rp.keep hv (fun f => f)).cell 2
               have x3 : ∀ v, Chg No W6 v → v.cell? ⟨w5.heap.size, 3, none⟩ = some (.slice P2 r.o.B.length p2) := fun v hv => (rp.keep hv (fun f => f)).cell 3
               have H6 := Lib.hid (And.intro (show ObjR W6 _ (.agg #[.int .i64 r.o.cls, .int .i64 r.o.kind, .slice P1 r.o.W.length p1, .slice P2 r.o.B.length p2]) r.o from ⟨_, _, rfl, hI5.keep c6 (fun _ _ f => f), hB5.keep c6 (fun _ _ f => f), i5, k5⟩) (And.intro (HQ.out.2.2.2.2.2.1.keep c56 (fun b hb e => hb (by rw [e]; exact hdq))) (And.intro (hs5.keep c6 (fun _ _ f => f)) (HQ.out.2.1.trans c56))))
               have HW6 := Lib.hid hW6
               simp only [cells2]
               clear hI5 hB5 i5 k5 hs5 c5 c6 hW6 c56 rp HF)
            | (rw [HW6.out])
            | fail)
          refine q_region (C := (Chg No W6)) (by kernel_rfl) (by kernel_rfl) ?_ ?_
          · exact (Chg.refl _ _).drew
          repeat
            refine q_step (fun K hK => ?_)
            go_simp
            first
              | ((with_reducible refine hK _ ?_); clear hK K)
              | (refine (if_neg (by simp [undef])).mpr ?_; (with_reducible refine hK _ ?_); clear hK K)
              | (apply Exists.intro
                 with_reducible refine ⟨fun v hv => ?_, hK _ ?_⟩
                 · first
                     | with_reducible exact rfl
                     | with_reducible exact ⟨rfl, rfl⟩
                     | (go_simp
                        first
                          | done
                          | with_reducible exact rfl
                          | with_reducible exact ⟨rfl, rfl⟩
                          | (go_at_call 19; refine (Same05_any _ _ r.o r.o _ _ _ (H6.out.1.keep hv (fun _ _ f => f)) (H6.out.2.1.keep hv (fun _ _ f => f))).mono ?_; rw [decide_eq_true (rfl : r.o = r.o)]; rintro e w8 ⟨rfl, g8⟩; exact ⟨rfl, hv.trans g8⟩))
                 clear hK K)
          refine q_nil ?_
          intro V hV
          go_wp2_with fail
          go_roundg (nz - (q + 1))
          case measure => omega
          case rel => exact ⟨q + 1, by go_num, by omega, by omega, H6.out.2.2.1.keep hV (fun _ _ f => f), H6.out.2.2.2.trans hV.no⟩
        · obtain rfl : q = nz := by omega
          have u1 : decide ((q : Int) < (q : Int)) = false := decide_eq_false (by omega)
          have HN1 := Lib.hid (secNear_any hsec _ Z _ hids (by have := HNZ.out; omega))
          have HQ := Lib.hid (And.intro cw (And.intro hids hsec))
          have HD := Lib.hid hdq
          clear hids hlast cw cq hsec hdq
          have HW0 := Lib.hid (show ∀ V, Chg No w V → w.heap.size ≤ V.heap.size from fun V h => h.size)
          by_cases hz : q = 0
          · subst hz
            go_wp2_with (first
              | (go_at_call 22
                 (with_reducible refine HN1.out.mono ?_)
                 rintro e w4 ⟨v4, rfl, ho4, hs4, c4⟩
                 rw [HG.out.2.2.1] at ho4
                 have hids := HQ.out.2.1.keep c4 (fun b hb e => hb (by rw [e]; exact HD.out))
                 have hs1 := SameInts_any _ _ Z Z _ _ _ (IntS.of_own ho4 HG.out.1) hids
                 rw [decide_eq_true (rfl : Z = Z)] at hs1
                 have HS1 := Lib.hid hs1
                 clear hs1
                 obtain ⟨A4, d4, rfl⟩ : ∃ A c, v4 = .slice A 0 c := by have := ho4.form; rwa [HNZ.out] at this
                 have C4 := Lib.hid (And.intro (HQ.out.1.then c4 (fun k hk e => by have := H2.out.2.1 _ HD.out; omega)) (And.intro hids hs4))
                 clear HN1 ho4 hids hs4 c4)
              | (go_at_call 23
                 (with_reducible refine HS1.out.mono ?_)
                 rintro e w5 ⟨rfl, c5⟩
                 have HN2 := Lib.hid (secNear_any (C4.out.2.2.keep c5 (fun _ _ f => f)) _ [] (fun _ => True) (IntS.nil w5 _) (by simp))
                 have C5 := Lib.hid (And.intro (C4.out.1.trans c5) (C4.out.2.1.keep c5 (fun _ _ f => f)))
                 clear HS1 c5)
              | (go_at_call 22
                 (with_reducible refine HN2.out.mono ?_)
                 rintro e w6 ⟨v6, rfl, ho6, hs6, c6⟩
                 rw [HG.out.2.2.2] at ho6
                 obtain ⟨A6, d6, rfl⟩ : ∃ A c, v6 = .slice A 0 c := by have := ho6.form; simpa using this
                 have hids := C5.out.2.keep c6 (fun b hb e => hb (by rw [e]; exact HD.out))
                 have cw6 : Chg No w w6 := C5.out.1.then c6 (fun k hk e => by have := H2.out.2.1 _ HD.out; omega)
                 have hlt6 : ∀ k, Q.has k → k < w6.heap.size := fun k hk => hs6.lt hk
                 obtain ⟨P1, p1, wa, hra, hoa, cga⟩ := app_ints (own_nil w6 w6.heap.size) hids (by have := HNZ.out; simp; omega) (Nat.le_refl _) 31
                 rw [List.nil_append] at hoa
                 have hida := (hids.more (S' := fun b => ¬ Q.has b ∧ b < w6.heap.size) (fun b hb hS => ⟨hS, hb⟩)).keep cga (fun b hb h => by have := hb.2; omega)
                 obtain ⟨P2, p2, wb, hrb, hob, cgb⟩ := app_ints hoa hida (by have := HNZ.out; omega) cga.size 31
                 have hidb := (hida.keep cgb (fun b hb h => by have := hb.2; omega)).more (S' := fun b => ¬ Q.has b) (fun b _ hS => hS.1)
                 rw [HNZ.out] at hra hrb hob
                 rw [show ([] : List Int).length + 0 = 0 by simp] at hra
                 rw [show ([] : List Int).length + 0 = 0 by simp] at hrb
                 have cab : Chg (fun k => w6.heap.size ≤ k) w6 wb := cga.trans cgb
                 have hsb := hs6.keep cab (fun k hk h => by have := hlt6 k hk; omega)
                 have htw : IntS wb (fun b => ¬ Q.has b) (.slice P2 (0 + 0) p2) (Z ++ Z) := (IntS.of_own hob (fun x hx => by
                   rcases List.mem_append.1 hx with h | h
                   · exact HG.out.1 x h
                   · exact HG.out.1 x h)).more (fun b _ hb hq => by have := hlt6 b hq; omega)
                 have HR1 := Lib.hid hra
                 have HR2 := Lib.hid hrb
                 have C6 := Lib.hid (And.intro (cw6.then cab (fun k hk h => by have := cw6.size; omega)) (And.intro hidb hsb))
                 have hdr := secDrop_any hsb _ Z _ hidb (fun k hk => hk) (by have := HNZ.out; omega)
                 unfold Dropd at hdr
                 rw [HG.out.2.1.1, HG.out.2.1.2] at hdr
                 simp only [if_true] at hdr
                 have HDR := Lib.hid hdr
                 have HDC := Lib.hid C6.out.1
                 clear hdr
                 clear HN2 ho6 hs6 c6 hids cw6 hlt6 hra hoa cga hida hrb hob cgb hidb cab hsb htw)
              | (at_builtin; refine wpList_append_run rfl _ _ _ rfl rfl rfl HR1.out ?_; clear HR1)
              | (at_builtin; refine wpList_append_run rfl _ _ _ rfl rfl rfl HR2.out ?_; clear HR2)
              | (go_at_call 21
                 (with_reducible refine HDR.out.mono ?_)
                 rintro e w8 ⟨rfl, hs8, c8⟩
                 have HI2 := Lib.hid (secIds_any hs8)
                 have C8 := Lib.hid (And.intro (Chg.fresh HDC.out c8 H2.out.2.1) hs8)
                 clear HDR hs8 c8)
              | (go_at_call 13; refine (secUsed_any C8.out.2).mono ?_; rw [show ((usedL [] : Nat) : Int) = 0 from rfl]; rintro e w' ⟨rfl, rfl⟩)
              | (go_at_call 15
                 (with_reducible refine HI2.out.mono ?_)
                 rintro e w10 ⟨v10, rfl, ho10, c10⟩
                 obtain ⟨A10, d10, rfl⟩ : ∃ A c, v10 = .slice A 0 c := by have := ho10.form; simpa using this
                 have C10 := Lib.hid (And.intro (C8.out.1.trans c10) (C8.out.2.keep c10 (fun _ _ f => f)))
                 clear HI2 ho10 c10)
              | (go_at_call 12; refine (secMade_any C10.out.2).mono ?_; rintro e w' ⟨rfl, rfl⟩)
              | (go_at_call 7; refine (known06_any _).mono ?_; rintro e w9 ⟨rfl, c9⟩)
              | fail)
            go_ret
            exact ⟨rfl, C10.out.1.trans c9⟩
          · have u2 : decide ((0 : Int) < (q : Int)) = true := decide_eq_true (by omega)
            have u3 : decide (0 < q) = true := decide_eq_true (by omega)
            have HTW := Lib.hid (drop_twice (L := L) (ids := Z) (fun e => hz (by have := HNZ.out; rw [e] at this; exact this.symm)))
            go_wp2_with (first
              | (go_at_call 22
                 (with_reducible refine HN1.out.mono ?_)
                 rintro e w4 ⟨v4, rfl, ho4, hs4, c4⟩
                 rw [HG.out.2.2.1] at ho4
                 have hids := HQ.out.2.1.keep c4 (fun b hb e => hb (by rw [e]; exact HD.out))
                 have hs1 := SameInts_any _ _ Z Z _ _ _ (IntS.of_own ho4 HG.out.1) hids
                 rw [decide_eq_true (rfl : Z = Z)] at hs1
                 have HS1 := Lib.hid hs1
                 clear hs1
                 obtain ⟨A4, d4, rfl⟩ : ∃ A c, v4 = .slice A q c := by have := ho4.form; rwa [HNZ.out] at this
                 have C4 := Lib.hid (And.intro (HQ.out.1.then c4 (fun k hk e => by have := H2.out.2.1 _ HD.out; omega)) (And.intro hids hs4))
                 clear HN1 ho4 hids hs4 c4)
              | (go_at_call 23
                 (with_reducible refine HS1.out.mono ?_)
                 rintro e w5 ⟨rfl, c5⟩
                 have HN2 := Lib.hid (secNear_any (C4.out.2.2.keep c5 (fun _ _ f => f)) _ [] (fun _ => True) (IntS.nil w5 _) (by simp))
                 have C5 := Lib.hid (And.intro (C4.out.1.trans c5) (C4.out.2.1.keep c5 (fun _ _ f => f)))
                 clear HS1 c5)
              | (go_at_call 22
                 (with_reducible refine HN2.out.mono ?_)
                 rintro e w6 ⟨v6, rfl, ho6, hs6, c6⟩
                 rw [HG.out.2.2.2] at ho6
                 obtain ⟨A6, d6, rfl⟩ : ∃ A c, v6 = .slice A 0 c := by have := ho6.form; simpa using this
                 have hids := C5.out.2.keep c6 (fun b hb e => hb (by rw [e]; exact HD.out))
                 have cw6 : Chg No w w6 := C5.out.1.then c6 (fun k hk e => by have := H2.out.2.1 _ HD.out; omega)
                 have hlt6 : ∀ k, Q.has k → k < w6.heap.size := fun k hk => hs6.lt hk
                 obtain ⟨P1, p1, wa, hra, hoa, cga⟩ := app_ints (own_nil w6 w6.heap.size) hids (by have := HNZ.out; simp; omega) (Nat.le_refl _) 31
                 rw [List.nil_append] at hoa
                 have hida := (hids.more (S' := fun b => ¬ Q.has b ∧ b < w6.heap.size) (fun b hb hS => ⟨hS, hb⟩)).keep cga (fun b hb h => by have := hb.2; omega)
                 obtain ⟨P2, p2, wb, hrb, hob, cgb⟩ := app_ints hoa hida (by have := HNZ.out; omega) cga.size 31
                 have hidb := (hida.keep cgb (fun b hb h => by have := hb.2; omega)).more (S' := fun b => ¬ Q.has b) (fun b _ hS => hS.1)
                 rw [HNZ.out] at hra hrb hob
                 rw [show ([] : List Int).length + q = q by simp] at hra
                 rw [show ([] : List Int).length + q = q by simp] at hrb
                 have cab : Chg (fun k => w6.heap.size ≤ k) w6 wb := cga.trans cgb
                 have hsb := hs6.keep cab (fun k hk h => by have := hlt6 k hk; omega)
                 have htw : IntS wb (fun b => ¬ Q.has b) (.slice P2 (q + q) p2) (Z ++ Z) := (IntS.of_own hob (fun x hx => by
                   rcases List.mem_append.1 hx with h | h
                   · exact HG.out.1 x h
                   · exact HG.out.1 x h)).more (fun b _ hb hq => by have := hlt6 b hq; omega)
                 have HR1 := Lib.hid hra
                 have HR2 := Lib.hid hrb
                 have C6 := Lib.hid (And.intro (cw6.then cab (fun k hk h => by have := cw6.size; omega)) (And.intro hidb hsb))
                 have hdt := secDrop_any hsb _ (Z ++ Z) _ htw (fun k hk => hk) (by have := HNZ.out; rw [List.length_append]; omega)
                 unfold Dropd at hdt
                 rw [HTW.out] at hdt
                 simp only [Bool.false_eq_true, if_false] at hdt
                 have HDT := Lib.hid hdt
                 clear hdt
                 clear HN2 ho6 hs6 c6 hids cw6 hlt6 hra hoa cga hida hrb hob cgb hidb cab hsb htw)
              | (at_builtin; refine wpList_append_run rfl _ _ _ rfl rfl rfl HR1.out ?_; clear HR1)
              | (at_builtin; refine wpList_append_run rfl _ _ _ rfl rfl rfl HR2.out ?_; clear HR2)
              | (go_at_call 21
                 (with_reducible refine HDT.out.mono ?_)
                 rintro e w7 ⟨rfl, hs7, c7⟩
                 have hid7 := C6.out.2.1.keep c7 (fun b hb hq => hb hq)
                 have hdr := secDrop_any hs7 _ Z _ hid7 (fun k hk => hk) (by have := HNZ.out; omega)
                 unfold Dropd at hdr
                 rw [HG.out.2.1.1, HG.out.2.1.2] at hdr
                 simp only [if_true] at hdr
                 have HDR := Lib.hid hdr
                 have HDC := Lib.hid (Chg.fresh C6.out.1 c7 H2.out.2.1)
                 clear hdr
                 clear HDT hs7 c7 hid7)
              | (go_at_call 21
                 (with_reducible refine HDR.out.mono ?_)
                 rintro e w8 ⟨rfl, hs8, c8⟩
                 have HI2 := Lib.hid (secIds_any hs8)
                 have C8 := Lib.hid (And.intro (Chg.fresh HDC.out c8 H2.out.2.1) hs8)
                 clear HDR hs8 c8)
              | (go_at_call 13; refine (secUsed_any C8.out.2).mono ?_; rw [show ((usedL [] : Nat) : Int) = 0 from rfl]; rintro e w' ⟨rfl, rfl⟩)
              | (go_at_call 15
                 (with_reducible refine HI2.out.mono ?_)
                 rintro e w10 ⟨v10, rfl, ho10, c10⟩
                 obtain ⟨A10, d10, rfl⟩ : ∃ A c, v10 = .slice A 0 c := by have := ho10.form; simpa using this
                 have C10 := Lib.hid (And.intro (C8.out.1.trans c10) (C8.out.2.keep c10 (fun _ _ f => f)))
                 clear HI2 ho10 c10)
              | (go_at_call 12; refine (secMade_any C10.out.2).mono ?_; rintro e w' ⟨rfl, rfl⟩)
              | (go_at_call 7; refine (known06_any _).mono ?_; rintro e w9 ⟨rfl, c9⟩)
              | fail)
            go_ret
            exact ⟨rfl, C10.out.1.trans c9⟩

theorem SecondKeeps_row (v : Value) (D : List D6) (w : World) (h : DoR w (fun _ => True) v D) (hm : D.length ≤ maxLen) :
    Calls Try.prog 6 #[v] w fun e w' => e = .returned (.bool true) ∧ Below w.heap.size w w' :=
  (SecondKeeps_any v D w h hm).mono fun _ _ h => ⟨h.1, h.2.below⟩

end Go.Proofs.Ytdpmmafkomchaaa
