/- Without the document's answer: what is near of more is no less; what is near of what is near is near; each root that is there is. -/
import Derived.Test.YtdpmmafkomchaaaDo6
import Derived.Test.YtdpmmafkomchaaaSecY
namespace Go.Proofs.Ytdpmmafkomchaaa
set_option linter.unusedVariables false
set_option linter.unusedSimpArgs false
open Go.RowKit
open Go.ChangeMaps (setBlock)

section
variable {L : List Rw} {R R' : List Int} {k : Int}
theorem nearL_congr (h : ∀ k, NearR L R k ↔ NearR L R' k) : nearL L R = nearL L R' := by
  classical
  unfold nearL
  refine List.filter_congr fun k _ => ?_
  simp only [h k]
theorem near_near (h : Rising L) : nearL L (nearL L R) = nearL L R := by
  refine nearL_congr fun k => ⟨fun hk => ?_, fun hk => ?_⟩
  · induction hk with
    | root h1 h2 => exact (mem_nearL h _).1 h1
    | step _ h2 h3 ih => exact .step ih h2 h3
  · exact .root ((mem_nearL h _).2 hk) hk.isThere
theorem near_all (h : Rising L) : nearL L (L.map Rw.id) = L.map Rw.id := by
  classical
  unfold nearL
  rw [List.filter_eq_self]
  intro k hk
  obtain ⟨r, hr, rfl⟩ := List.mem_map.1 hk
  rw [decide_eq_true_eq]
  exact .root hk (by unfold thereR; rw [lk_of_mem h hr]; rfl)
theorem near_le (h : ∀ k ∈ R, k ∈ R') : (nearL L R).length ≤ (nearL L R').length := by
  classical
  unfold nearL
  rw [← List.countP_eq_length_filter, ← List.countP_eq_length_filter]
  exact List.countP_mono_left fun k _ hk => decide_eq_true ((of_decide_eq_true hk : NearR L R k).mono fun k hk _ => h k hk)
theorem near_most (L : List Rw) (R : List Int) : (nearL L R).length ≤ (L.map Rw.id).length := List.length_filter_le _ _
theorem near_root (h : Rising L) (hk : k ∈ R) : decide (k ∈ nearL L R) = (lk L k).isSome := by
  rw [Bool.eq_iff_iff, decide_eq_true_eq, mem_nearL h]
  exact ⟨fun hn => hn.isThere, fun ht => .root hk ht⟩
end
theorem SecS.rise {w : World} {Q : SB} {N made : Nat} {L : List Rw} (h : SecS w Q N L made) : Rising L := by obtain ⟨es, h⟩ := h; exact h.rise
theorem SecS.ids64 {w : World} {Q : SB} {N made : Nat} {L : List Rw} (h : SecS w Q N L made) : ∀ k ∈ L.map Rw.id, In64 k := by obtain ⟨es, h⟩ := h; exact h.ids64
theorem SecS.len {w : World} {Q : SB} {N made : Nat} {L : List Rw} (h : SecS w Q N L made) : L.length ≤ 1048576 := by obtain ⟨es, h⟩ := h; exact h.len
theorem near64 {w : World} {Q : SB} {N made : Nat} {L : List Rw} (h : SecS w Q N L made) (R : List Int) : ∀ k ∈ nearL L R, In64 k := fun k hk => h.ids64 k (List.mem_filter.1 hk).1
theorem mem_step {X : List Int} {k : Nat} {m : Int} (h : k < X.length) : decide (m ∈ X.take (k + 1)) = (decide (m ∈ X.take k) || (X[k]?.getD 0 == m)) := by
  rw [List.take_add_one, List.getElem?_eq_getElem h, Bool.eq_iff_iff]
  simp only [decide_eq_true_eq, Bool.or_eq_true, beq_iff_eq, List.mem_append, Option.toList_some, List.mem_singleton, Option.getD_some]
  exact ⟨fun h => h.imp id Eq.symm, fun h => h.imp id Eq.symm⟩
/-- append what came in to a slice of the call's own -/
theorem app_ints {w : World} {base : Nat} {S : Nat → Prop} {v u : Value} {l r : List Int} (h : OwnInts w base v l) (hr : IntS w S u r) (hl : l.length + r.length < 10000000000000) (hB : base ≤ w.heap.size) (ty : TypeId) :
    ∃ A c w', (Builtin.append_ #[31, 31] ty #[v, u]).run Try.prog w = .ok (.slice A (l.length + r.length) c) w' ∧ OwnInts w' base (.slice A (l.length + r.length) c) (l ++ r) ∧ Chg (fun k => base ≤ k) w w' := by
  obtain ⟨v', w4, hrun, ho, hg⟩ := run_app elem_int (by decide) h hr.1 (by intro x hx; simp at hx; obtain ⟨y, _, rfl⟩ := hx; rfl) (by unfold maxLen; omega) (by omega) hB ty
  obtain ⟨A, c, rfl⟩ := own_form ho
  exact ⟨A, c, w4, hrun, by simpa [OwnInts] using ho, (Chg.refl _ _).grown hg (fun k hk => .inl (own_ge h hk))⟩
theorem own_nil (w : World) (base : Nat) : OwnInts w base (.slice none 0 0) [] := World.ownsRow_nil w base 3 1

theorem DoR.elem {w : World} {A : Option Addr} {n c : Nat} {D : List D6} (h : DoR w (fun b => b < w.heap.size) (.slice A n c) D) {i : Nat} {kk id : Int} {o : O} {xv yv : Value} (ht : D[i]? = some (kk, id, o, xv, yv)) : ∃ b off A1 ca1 A2 ca2, A = some ⟨b, off, none⟩ ∧ xv = .slice A1 o.W.length ca1 ∧ yv = .slice A2 o.B.length ca2 ∧
    ∀ W, Chg No w W → ObjR W (fun b => b < w.heap.size) (.agg (cells2 o xv yv)) o ∧ In64 id ∧ W.cell? ⟨b, off + i * 6, none⟩ = some (.int .i64 kk) ∧ W.cell? ⟨b, off + i * 6 + 1, none⟩ = some (.int .i64 id) ∧ W.cell? ⟨b, off + i * 6 + 2, none⟩ = some (.int .i64 o.cls) ∧ W.cell? ⟨b, off + i * 6 + 2 + 1, none⟩ = some (.int .i64 o.kind) ∧ W.cell? ⟨b, off + i * 6 + 2 + 2, none⟩ = some xv ∧ W.cell? ⟨b, off + i * 6 + 2 + 3, none⟩ = some yv := by
  obtain ⟨b, off, e, -, -, -, -, hok, -⟩ := h.at ht
  obtain ⟨A1, ca1, e1, -⟩ := hok.1.form
  obtain ⟨A2, ca2, e2, -⟩ := hok.2.1.form
  refine ⟨b, off, A1, ca1, A2, ca2, e, e1, e2, fun W hW => ?_⟩
  obtain ⟨b', off', e', -, -, -, h2, hok', hc⟩ := (h.keep hW (fun _ _ f => f)).at ht
  obtain ⟨rfl, rfl⟩ : b = b' ∧ off = off' := by rw [e] at e'; simpa using e'
  exact ⟨⟨_, _, rfl, hok'⟩, h2, hc⟩


set_option maxRecDepth 100000 in
set_option maxHeartbeats 2000000 in
theorem SecondNear_any (v va vb : Value) (D : List D6) (a b : List Int) (w : World) (h : DoR w (fun _ => True) v D) (hm : D.length ≤ maxLen) (ha : IntS w (fun _ => True) va a) (hb : IntS w (fun _ => True) vb b) (la : a.length ≤ 17592186044416) (lb : b.length ≤ 17592186044416) :
    Calls Try.prog 5 #[v, va, vb] w fun e w' => e = .returned (.bool true) ∧ Chg No w w' := by
  have HLO := Lib.hid (long06_any v D _ w h hm)
  obtain ⟨A, c, rfl⟩ : ∃ A c, v = .slice A D.length c := by obtain ⟨A, c, e, -⟩ := h.1; exact ⟨A, c, e⟩
  obtain ⟨Aa, da, rfl, -⟩ := ha.form
  obtain ⟨Ab, db, rfl, -⟩ := hb.form
  have hm2 : D.length ≤ 9223372036854775807 := by unfold maxLen at hm; simp at hm; omega
  have HX := Lib.hid (h.more (S' := fun b => b < w.heap.size) (fun b hb _ => hb))
  have HA := Lib.hid (And.intro (ha.more (S' := fun b => b < w.heap.size) (fun b hb _ => hb)) (hb.more (S' := fun b => b < w.heap.size) (fun b hb _ => hb)))
  generalize hn : D.length = n at *
  have HLN := Lib.hid hn
  have hsum : IntKind.i64.wrap ((a.length : Int) + (b.length : Int)) = (a.length : Int) + (b.length : Int) := IntWalk.i64_in _ (by omega)
  generalize hna : a.length = na at *
  generalize hnb : b.length = nb at *
  have HNA := Lib.hid (And.intro hna hnb)
  clear h hm ha hb hn hna hnb
  obtain ⟨lo, hlo⟩ : ∃ b, decide (80 < longF D) = b := ⟨_, rfl⟩
  rw [hlo] at HLO
  clear hlo
  by_cases hmany : lo = true ∨ 20 < na + nb
  · cases lo with
    | true =>
      go_enter Try.func5, Try.ntmps5
      go_wp2_with (first
        | (go_at_call 20
           refine HLO.out.mono ?_
           rintro e w1 ⟨rfl, c1⟩
           have C1 := Lib.hid c1
           clear c1)
        | (go_at_call 7; refine (known06_any _).mono ?_; rintro e w9 ⟨rfl, c9⟩)
        | fail)
      go_ret
      exact ⟨rfl, C1.out.trans c9⟩
    | false =>
      have t1 : decide ((20 : Int) < (na : Int) + (nb : Int)) = true := decide_eq_true (by have := hmany.resolve_left (by simp); omega)
      have t2 : decide (20 < na + nb) = true := decide_eq_true (hmany.resolve_left (by simp))
      go_enter Try.func5, Try.ntmps5
      go_wp2_with (first
        | (go_at_call 20
           refine HLO.out.mono ?_
           rintro e w1 ⟨rfl, c1⟩
           have C1 := Lib.hid c1
           clear c1)
        | (go_at_call 7; refine (known06_any _).mono ?_; rintro e w9 ⟨rfl, c9⟩)
        | fail)
      go_ret
      exact ⟨rfl, C1.out.trans c9⟩
  have hfew : na + nb ≤ 20 := by omega
  obtain rfl : lo = false := by cases lo <;> simp_all
  have t1 : decide ((20 : Int) < (na : Int) + (nb : Int)) = false := decide_eq_false (by omega)
  have t2 : decide (20 < na + nb) = false := decide_eq_false (by omega)
  have HFEW := Lib.hid hfew
  clear hmany hfew
  go_enter Try.func5, Try.ntmps5
  go_wp2_with (first
    | (go_at_call 20
       refine HLO.out.mono ?_
       rintro e w1 ⟨rfl, c1⟩
       have C1 := Lib.hid c1
       clear c1)
    | (go_at_call 8
       refine (secNew_ok 400 (by omega) _).mono ?_
       rintro e w2 ⟨v2, rfl, Q, rfl, hs, hge, c2⟩
       have H2 := Lib.hid (And.intro hs (And.intro (show ∀ k, Q.has k → w.heap.size ≤ k from fun k hk => by have := hge k hk; have := C1.out.size; omega) (C1.out.trans c2)))
       clear hs hge c2)
    | fail)
  clear t1 t2 hsum
  go_loopg [9] n (fun j v9 wr => ∃ (i : Nat) (L : List Rw) (made : Nat), v9 = .int .i64 (i : Int) ∧ i ≤ n ∧ n - i ≤ j ∧ SecS wr Q 400 L made ∧ Chg No w wr)
  case atStart => exact ⟨0, [], 0, rfl, by omega, by omega, H2.out.1, H2.out.2.2⟩
  case round =>
    obtain ⟨i, L, made, rfl, i1, i2, hsec, cw⟩ := hrel
    by_cases hi : i < n
    · obtain ⟨t, ht⟩ : ∃ t, D[i]? = some t := ⟨_, List.getElem?_eq_getElem (by rw [HLN.out]; exact hi)⟩
      have t3 : decide ((i : Int) < (n : Int)) = true := decide_eq_true (by omega)
      have l3 : (i : Int) < (n : Int) := by omega
      obtain ⟨kk, id, o, xv, yv⟩ := t
      obtain ⟨bb, off, A1, ca1, A2, ca2, rfl, rfl, rfl, hat⟩ := HX.out.elem ht
      have HAT := Lib.hid hat
      have r0 : ∀ v, Chg No wr v → v.cell? ⟨bb, off + i * 6, none⟩ = some (.int .i64 kk) := fun v hv => (HAT.out v (cw.trans hv)).2.2.1
      have r1 : ∀ v, Chg No wr v → v.cell? ⟨bb, off + i * 6 + 1, none⟩ = some (.int .i64 id) := fun v hv => (HAT.out v (cw.trans hv)).2.2.2.1
      have r2 : ∀ v, Chg No wr v → v.cell? ⟨bb, off + i * 6 + 2, none⟩ = some (.int .i64 o.cls) := fun v hv => (HAT.out v (cw.trans hv)).2.2.2.2.1
      have r3 : ∀ v, Chg No wr v → v.cell? ⟨bb, off + i * 6 + 2 + 1, none⟩ = some (.int .i64 o.kind) := fun v hv => (HAT.out v (cw.trans hv)).2.2.2.2.2.1
      have r4 : ∀ v, Chg No wr v → v.cell? ⟨bb, off + i * 6 + 2 + 2, none⟩ = some (.slice A1 o.W.length ca1) := fun v hv => (HAT.out v (cw.trans hv)).2.2.2.2.2.2.1
      have r5 : ∀ v, Chg No wr v → v.cell? ⟨bb, off + i * 6 + 2 + 3, none⟩ = some (.slice A2 o.B.length ca2) := fun v hv => (HAT.out v (cw.trans hv)).2.2.2.2.2.2.2
      have q0 := r0 wr (Chg.refl _ _)
      have q1 := r1 wr (Chg.refl _ _)
      have q2 := r2 wr (Chg.refl _ _)
      have q3 := r3 wr (Chg.refl _ _)
      have q4 := r4 wr (Chg.refl _ _)
      have q5 := r5 wr (Chg.refl _ _)
      clear hat ht
      have HC := Lib.hid (And.intro cw hsec)
      clear cw hsec
      by_cases k1 : kk = 1
      · subst k1
        go_wp2_with (first
          | (go_at_call 10
             refine (secMake_any HC.out.2 _ o _ (HAT.out _ HC.out.1).1).mono ?_
             rintro e w3 ⟨rfl, hs3, c3⟩
             have H3 := Lib.hid (And.intro hs3 (Chg.fresh HC.out.1 c3 H2.out.2.1))
             clear hs3 c3)
          | fail)
        go_roundg (n - (i + 1))
        case measure => omega
        case rel => exact ⟨i + 1, _, _, by go_num, by omega, by omega, H3.out⟩
      by_cases k3 : kk = 3
      · subst k3
        go_wp2_with fail
        refine rem_start (by kernel_rfl) (by kernel_rfl) ?_
        refine rem_quiet 11 (C := (Chg No wr)) (by kernel_rfl) (by simp only [List.toList_toArray, List.drop_succ_cons, List.drop_zero, List.take_succ_cons, List.take_zero, Nat.reduceSub, Nat.reduceAdd]; rfl) ?_ ?_
        · exact (Chg.refl _ _).drew
        repeat
          refine q_step (fun K hK => ?_)
          go_simp
          first
            | ((with_reducible refine hK _ ?_); clear hK K)
            | (refine (if_neg (by simp [undef])).mpr ?_; (with_reducible refine hK _ ?_); clear hK K)
            | (apply Exists.intro
               with_reducible refine ⟨fun v hv => ?_, hK _ ?_⟩
               · first
                   | with_reducible exact rfl
                   | with_reducible exact ⟨rfl, rfl⟩
                   | (go_simp
                      first
                        | done
                        | with_reducible exact rfl
                        | with_reducible exact ⟨rfl, rfl⟩
                        | fail)
               clear hK K)
        refine q_nil ?_
        intro V hV
        have hq := secStore_any (HC.out.2.keep hV (fun _ _ f => f)) id _ o _ (HAT.out _ (HC.out.1.trans hV)).1
        have HQ2 := Lib.hid hq
        clear hq
        refine rem_one (by kernel_rfl) (by kernel_rfl) rfl (by kernel_rfl) (fun K hK => ?_)
        go_wp2_with (first
          | (go_at_call 16
             refine HQ2.out.mono ?_
             rintro e w3 ⟨rfl, hs3, c3⟩
             have H3 := Lib.hid (And.intro hs3 (Chg.fresh (HC.out.1.trans hV) c3 H2.out.2.1))
             clear hs3 c3 HQ2)
          | fail)
        refine rem_end (by kernel_rfl) ?_
        go_wp2_with fail
        go_roundg (n - (i + 1))
        case measure => omega
        case rel => exact ⟨i + 1, _, _, by go_num, by omega, by omega, H3.out⟩
      by_cases k4 : kk = 4
      · subst k4
        have hrow : IntS (wr.alloc (.cells #[.int .i64 id] 3)) (fun k => k = wr.heap.size) (.slice (some ⟨wr.heap.size, 0, none⟩) 1 1) [id] := IntS.ofRow (l := [id]) (Row.new wr _ _) (by simp) (by intro x hx; rw [List.mem_singleton.1 hx]; exact (HAT.out _ HC.out.1).2.1)
        have hdr := secDrop_any (HC.out.2.keep (F := No) ((Chg.refl _ _).alloc (.cells #[.int .i64 id] 3)) (fun _ _ f => f)) _ [id] _ hrow (fun k hk hq => by have := HC.out.2.lt hq; omega) (by simp)
        obtain ⟨xe, hxe⟩ : ∃ x : Int, (if dropB L [id] = true then (0 : Int) else 4) = x := ⟨_, rfl⟩
        obtain ⟨L2, hL2⟩ : ∃ x, (if dropB L [id] = true then dropL L [id] else L) = x := ⟨_, rfl⟩
        unfold Dropd at hdr
        rw [hxe, hL2] at hdr
        have HDR := Lib.hid hdr
        clear hrow hdr hxe hL2
        go_wp2_with (first
          | (go_at_call 21
             refine HDR.out.mono ?_
             rintro e w3 ⟨rfl, hs3, c3⟩
             have H3 := Lib.hid (And.intro hs3 (Chg.fresh (HC.out.1.alloc _) c3 H2.out.2.1))
             clear hs3 c3)
          | fail)
        go_roundg (n - (i + 1))
        case measure => omega
        case rel => exact ⟨i + 1, _, _, by go_num, by omega, by omega, H3.out⟩
      · have n1 : (kk == 1) = false := beq_eq_false_iff_ne.2 k1
        have n3 : (kk == 3) = false := beq_eq_false_iff_ne.2 k3
        have n4 : (kk == 4) = false := beq_eq_false_iff_ne.2 k4
        clear k1 k3 k4
        go_wp2_with fail
        go_roundg (n - (i + 1))
        case measure => omega
        case rel => exact ⟨i + 1, _, _, by go_num, by omega, by omega, HC.out.2, HC.out.1⟩
    · obtain rfl : i = n := by omega
      have t3 : decide ((i : Int) < (i : Int)) = false := decide_eq_false (by omega)
      obtain ⟨P1, p1, wa, hra, hoa, cga⟩ := app_ints (own_nil wr wr.heap.size) (HA.out.1.keep cw (fun _ _ f => f)) (by have := HNA.out; have := HFEW.out; simp; omega) (Nat.le_refl _) 31
      rw [List.nil_append] at hoa
      obtain ⟨P2, p2, wb, hrb, hob, cgb⟩ := app_ints hoa (HA.out.2.keep (cw.then cga (fun k hk h => by have := cw.size; omega)) (fun _ _ f => f)) (by have := HNA.out; have := HFEW.out; omega) cga.size 31
      rw [HNA.out.1, HNA.out.2] at hrb hob
      rw [HNA.out.1, show ([] : List Int).length + na = na by simp] at hra
      rw [show ([] : List Int).length + na = na by simp] at hrb
      have cab : Chg (fun k => wr.heap.size ≤ k) wr wb := cga.trans cgb
      have cwb : Chg No w wb := cw.then cab (fun k hk h => by have := cw.size; omega)
      have hsb := hsec.keep cab (fun k hk h => by have := hsec.lt hk; omega)
      have hqd : Q.B.d < wr.heap.size := hsec.lt (.inr (.inr (.inr (.inl rfl))))
      have hqw : w.heap.size ≤ Q.B.d := H2.out.2.1 _ (.inr (.inr (.inr (.inl rfl))))
      have hnq : ∀ {W V : World} {v : Value} {l : List Int}, IntS W (fun b => V.heap.size ≤ b) v l → Q.B.d < V.heap.size → IntS W (fun b => ¬ b = Q.B.d) v l := fun h hV => h.more (fun b _ hb e => by omega)
      have hab : IntS wb (fun b => ¬ b = Q.B.d) (.slice Aa na da) a := (HA.out.1.keep cwb (fun _ _ f => f)).more (fun b _ hb e => by omega)
      have hob2 : IntS wb (fun b => ¬ b = Q.B.d) (.slice P2 (na + nb) p2) (a ++ b) := hnq (V := wr) (IntS.of_own hob (fun x hx => by
        rcases List.mem_append.1 hx with h | h
        · exact HA.out.1.2 x h
        · exact HA.out.2.2 x h)) hqd
      obtain ⟨X, hX⟩ : ∃ X, nearL L a = X := ⟨_, rfl⟩
      obtain ⟨Y, hY⟩ : ∃ X, nearL L (a ++ b) = X := ⟨_, rfl⟩
      obtain ⟨Z, hZ⟩ : ∃ X, L.map Rw.id = X := ⟨_, rfl⟩
      have x64 := near64 hsec a
      have y64 := near64 hsec (a ++ b)
      have z64 := hsec.ids64
      have g1 := near_near (R := a) hsec.rise
      have g2 := near_all hsec.rise
      have g3 := near_le (L := L) (R := a) (R' := a ++ b) (fun k hk => List.mem_append_left _ hk)
      have g4 := near_most L (a ++ b)
      have g5 := fun k (hk : k ∈ a) => near_root hsec.rise hk
      have g6 := hsec.len
      rw [← List.length_map (f := Rw.id)] at g6
      rw [hX] at x64 g1 g3
      rw [hY] at y64 g3 g4
      rw [hZ] at z64 g2 g4 g6
      simp only [hX] at g5
      have HG := Lib.hid (And.intro (And.intro hX (And.intro hY (And.intro hZ (And.intro x64 (And.intro y64 z64))))) (And.intro g1 g2))
      have HG5 := Lib.hid g5
      generalize hnx : X.length = nx at *
      generalize hny : Y.length = ny at *
      generalize hnz : Z.length = nz at *
      have HL := Lib.hid (And.intro hnx (And.intro hny hnz))
      have HR := Lib.hid (And.intro hra hrb)
      have HNQ := Lib.hid (And.intro hqd (And.intro @hnq hob2))
      have HN1 := Lib.hid (secNear_any hsb _ a _ hab (by have := HNA.out; have := HFEW.out; omega))
      have HB := Lib.hid (And.intro cwb (And.intro hab cab.size))
      have t4 : decide ((nx : Int) ≤ (ny : Int)) = true := decide_eq_true (by omega)
      have t5 : decide ((ny : Int) ≤ (nz : Int)) = true := decide_eq_true (by omega)
      have t6 : decide (nx ≤ ny) = true := decide_eq_true g3
      have t7 : decide (ny ≤ nz) = true := decide_eq_true g4
      clear hra hrb hoa hob cga cgb cab cwb hsec cw hX hY hZ x64 y64 z64 g1 g2 hnx hny hnz hsb hqd hqw hnq hab hob2 g5
      go_wp2_with (first
        | (at_builtin; refine wpList_append_run rfl _ _ _ rfl rfl rfl HR.out.1 ?_)
        | (at_builtin; refine wpList_append_run rfl _ _ _ rfl rfl rfl HR.out.2 ?_)
        | (go_at_call 22
           (with_reducible refine HN1.out.mono ?_)
           rintro e w5 ⟨v5, rfl, ho5, hs5, c5⟩
           rw [HG.out.1.1] at ho5
           obtain ⟨A5, d5, rfl⟩ : ∃ A c, v5 = .slice A nx c := by have := ho5.form; rwa [HL.out.1] at this
           have hx5 := HNQ.out.2.1 (IntS.of_own ho5 HG.out.1.2.2.2.1) (Nat.lt_of_lt_of_le HNQ.out.1 HB.out.2.2)
           have HN2 := Lib.hid (secNear_any hs5 _ (a ++ b) _ (HNQ.out.2.2.keep c5 (fun b hb => hb)) (by have := HNA.out; have := HFEW.out; rw [List.length_append]; omega))
           have C5 := Lib.hid (And.intro (HB.out.1.then c5 (fun k hk e => by have := H2.out.2.1 Q.B.d (.inr (.inr (.inr (.inl rfl)))); omega)) (And.intro (HB.out.2.1.keep c5 (fun b hb => hb)) hx5))
           clear ho5 hs5 c5 hx5 HN1)
        | (go_at_call 22
           (with_reducible refine HN2.out.mono ?_)
           rintro e w6 ⟨v6, rfl, ho6, hs6, c6⟩
           rw [HG.out.1.2.1] at ho6
           obtain ⟨A6, d6, rfl⟩ : ∃ A c, v6 = .slice A ny c := by have := ho6.form; rwa [HL.out.2.1] at this
           have HN3 := Lib.hid (secNear_any hs6 _ X _ (C5.out.2.2.keep c6 (fun b hb => hb)) (by have := HL.out.1; omega))
           have C6 := Lib.hid (And.intro (C5.out.1.then c6 (fun k hk e => by have := H2.out.2.1 Q.B.d (.inr (.inr (.inr (.inl rfl)))); omega)) (And.intro (C5.out.2.1.keep c6 (fun b hb => hb)) (And.intro (C5.out.2.2.keep c6 (fun b hb => hb)) (hs6.lt (k := Q.B.d) (.inr (.inr (.inr (.inl rfl))))))))
           clear ho6 hs6 c6 HN2)
        | (go_at_call 22
           (with_reducible refine HN3.out.mono ?_)
           rintro e w7 ⟨v7, rfl, ho7, hs7, c7⟩
           rw [HG.out.2.1] at ho7
           obtain ⟨A7, d7, rfl⟩ : ∃ A c, v7 = .slice A nx c := by have := ho7.form; rwa [HL.out.1] at this
           have hx7 := HNQ.out.2.1 (IntS.of_own ho7 HG.out.1.2.2.2.1) C6.out.2.2.2
           have HI := Lib.hid (secIds_any hs7)
           have C7 := Lib.hid (And.intro (C6.out.1.then c7 (fun k hk e => by have := H2.out.2.1 Q.B.d (.inr (.inr (.inr (.inl rfl)))); omega)) (And.intro (C6.out.2.1.keep c7 (fun b hb => hb)) (And.intro (C6.out.2.2.1.keep c7 (fun b hb => hb)) (And.intro hx7 hs7))))
           clear ho7 hs7 c7 hx7 HN3)
        | (go_at_call 15
           (with_reducible refine HI.out.mono ?_)
           rintro e w8 ⟨v8, rfl, ho8, c8⟩
           rw [HG.out.1.2.2.1] at ho8
           obtain ⟨A8, d8, rfl⟩ : ∃ A c, v8 = .slice A nz c := by have := ho8.form; rwa [HL.out.2.2] at this
           have hx8 := HNQ.out.2.1 (IntS.of_own ho8 HG.out.1.2.2.2.2.2) (C7.out.2.2.2.2.lt (.inr (.inr (.inr (.inl rfl)))))
           have C8 := Lib.hid (And.intro (C7.out.1.trans c8) (And.intro (C7.out.2.1.keep c8 (fun _ _ f => f)) (And.intro (C7.out.2.2.1.keep c8 (fun _ _ f => f)) (And.intro (C7.out.2.2.2.1.keep c8 (fun _ _ f => f)) (And.intro hx8 (C7.out.2.2.2.2.keep c8 (fun _ _ f => f)))))))
           clear ho8 c8 hx8 HI)
        | fail)
      clear HR HB HNQ HX HLO C1
      go_loopg [15] na (fun j v15 wr2 => ∃ q : Nat, v15 = .int .i64 (q : Int) ∧ q ≤ na ∧ na - q ≤ j ∧ Chg No w8 wr2)
      case atStart => exact ⟨0, rfl, by omega, by omega, Chg.refl _ _⟩
      case round =>
        obtain ⟨q, rfl, q1, q2, cq⟩ := hrel
        by_cases hq : q < na
        · have u1 : decide ((q : Int) < (na : Int)) = true := decide_eq_true (by omega)
          have l1 : (q : Int) < (na : Int) := by omega
          obtain ⟨bq, oq, rfl, hbq, eq0, eq6, -⟩ := (C8.out.2.1.keep cq (fun _ _ f => f)).at (i := q) (by rw [HNA.out.1]; exact hq)
          have hmem : a[q]?.getD 0 ∈ a := by
            rw [List.getElem?_eq_getElem (by rw [HNA.out.1]; exact hq)]
            exact List.getElem_mem _
          have hfd := HG5.out _ hmem
          generalize a[q]?.getD 0 = m at *
          have HFD := Lib.hid hfd
          have HQ := Lib.hid (And.intro cq (And.intro hbq eq0))
          clear hmem hfd eq6
          go_wp2_with fail
          go_loopg [16, 17] nx (fun j v16 v17 wr3 => ∃ k : Nat, v17 = .int .i64 (k : Int) ∧ v16 = .bool (decide (m ∈ X.take k)) ∧ k ≤ nx ∧ nx - k ≤ j ∧ Chg No wr wr3)
          case atStart => exact ⟨0, rfl, by simp, by omega, by omega, Chg.refl _ _⟩
          case round =>
            obtain ⟨k, rfl, rfl, k1, k2, ck⟩ := hrel
            by_cases hk : k < nx
            · have u2 : decide ((k : Int) < (nx : Int)) = true := decide_eq_true (by omega)
              have l2 : (k : Int) < (nx : Int) := by omega
              have hxk := C8.out.2.2.1.keep (HQ.out.1.trans ck) (fun _ _ f => f)
              obtain ⟨bx, ox, rfl, -, ex0, -, -⟩ := hxk.at (i := k) (by rw [HL.out.1]; exact hk)
              have ea0 : wr.cell? ⟨bq, oq + q, none⟩ = some (.int .i64 m) := (ck.cell HQ.out.2.1 (fun f => f)).trans HQ.out.2.2
              have hstep := mem_step (m := m) (show k < X.length by rw [HL.out.1]; exact hk)
              generalize X[k]?.getD 0 = xk at *
              have HK := Lib.hid (And.intro ck hstep)
              clear hxk ck
              cases hf : decide (m ∈ X.take k)
              · cases he : (xk == m)
                · go_wp2_with fail
                  go_quiet (fail)
                  go_wp2_with fail
                  go_roundg (nx - (k + 1))
                  case measure => omega
                  case rel => exact ⟨k + 1, by go_num, by rw [HK.out.2, hf, he]; rfl, by omega, by omega, HK.out.1.drewN _⟩
                · go_wp2_with fail
                  go_quiet (fail)
                  go_wp2_with fail
                  go_roundg (nx - (k + 1))
                  case measure => omega
                  case rel => exact ⟨k + 1, by go_num, by rw [HK.out.2, hf, he]; rfl, by omega, by omega, HK.out.1.drewN _⟩
              · go_wp2_with fail
                go_quiet (fail)
                go_wp2_with fail
                go_roundg (nx - (k + 1))
                case measure => omega
                case rel => exact ⟨k + 1, by go_num, by rw [HK.out.2, hf]; rfl, by omega, by omega, HK.out.1.drewN _⟩
            · obtain rfl : k = nx := by omega
              have u2 : decide ((k : Int) < (k : Int)) = false := decide_eq_false (by omega)
              have hfin : decide (m ∈ X.take k) = decide (m ∈ X) := by rw [List.take_of_length_le (by rw [HL.out.1]; exact Nat.le_refl _)]
              rw [HFD.out] at hfin
              obtain ⟨fb, hfb⟩ : ∃ fb, (lk L m).isSome = fb := ⟨_, rfl⟩
              rw [hfb] at hfin
              have ea0 : wr.cell? ⟨bq, oq + q, none⟩ = some (.int .i64 m) := (ck.cell HQ.out.2.1 (fun f => f)).trans HQ.out.2.2
              have HFB := Lib.hid hfb
              have HH := Lib.hid (secHas_any (C8.out.2.2.2.2.2.keep (HQ.out.1.trans ck) (fun _ _ f => f)) m)
              have HK := Lib.hid ck
              clear hfb ck
              rw [hfin]
              cases fb
              · go_wp2_with (first
                  | (go_at_call 14
                     (with_reducible refine HH.out.mono ?_)
                     rw [HFB.out]
                     rintro e wh ⟨rfl, ch⟩
                     have H9 := Lib.hid (HQ.out.1.trans (HK.out.trans ch))
                     clear ch HH)
                  | fail)
                go_roundg (na - (q + 1))
                case measure => omega
                case rel => exact ⟨q + 1, by go_num, by omega, by omega, H9.out⟩
              · go_wp2_with (first
                  | (go_at_call 14
                     (with_reducible refine HH.out.mono ?_)
                     rw [HFB.out]
                     rintro e wh ⟨rfl, ch⟩
                     have H9 := Lib.hid (HQ.out.1.trans (HK.out.trans ch))
                     clear ch HH)
                  | fail)
                go_roundg (na - (q + 1))
                case measure => omega
                case rel => exact ⟨q + 1, by go_num, by omega, by omega, H9.out⟩
        · obtain rfl : q = na := by omega
          have u1 : decide ((q : Int) < (q : Int)) = false := decide_eq_false (by omega)
          have HS1 := Lib.hid (SameInts_any _ _ X X _ _ _ (C8.out.2.2.1.keep cq (fun _ _ f => f)) (C8.out.2.2.2.1.keep cq (fun _ _ f => f)))
          have HD := Lib.hid (And.intro (show decide (X = X) = true from decide_eq_true rfl) (show decide (Z = Z) = true from decide_eq_true rfl))
          have HQ := Lib.hid cq
          clear cq
          go_wp2_with (first
            | (go_at_call 23
               (with_reducible refine HS1.out.mono ?_)
               rw [HD.out.1]
               rintro e w9 ⟨rfl, c9⟩
               have HN4 := Lib.hid (secNear_any (C8.out.2.2.2.2.2.keep (HQ.out.trans c9) (fun _ _ f => f)) _ Z _ (C8.out.2.2.2.2.1.keep (HQ.out.trans c9) (fun _ _ f => f)) (by have := HL.out.2.2; omega))
               have C9 := Lib.hid (HQ.out.trans c9)
               clear HS1 c9)
            | (go_at_call 22
               (with_reducible refine HN4.out.mono ?_)
               rintro e w10 ⟨v10, rfl, ho10, hs10, c10⟩
               rw [HG.out.2.2] at ho10
               have HS2 := Lib.hid (SameInts_any _ _ Z Z _ _ _ (IntS.of_own ho10 HG.out.1.2.2.2.2.2) ((C8.out.2.2.2.2.1.keep C9.out (fun _ _ f => f)).keep c10 (fun b hb => hb)))
               obtain ⟨A10, d10, rfl⟩ : ∃ A c, v10 = .slice A nz c := by have := ho10.form; rwa [HL.out.2.2] at this
               have C10 := Lib.hid ((C8.out.1.trans C9.out).then c10 (fun k hk e => by have := H2.out.2.1 Q.B.d (.inr (.inr (.inr (.inl rfl)))); omega))
               clear ho10 hs10 c10 HN4)
            | (go_at_call 23
               (with_reducible refine HS2.out.mono ?_)
               rw [HD.out.2]
               rintro e w11 ⟨rfl, c11⟩
               have C11 := Lib.hid (C10.out.trans c11)
               clear c11 HS2)
            | (go_at_call 7; refine (known06_any _).mono ?_; rintro e w12 ⟨rfl, c12⟩)
            | fail)
          go_ret
          exact ⟨rfl, C11.out.trans c12⟩

theorem SecondNear_row (v va vb : Value) (D : List D6) (a b : List Int) (w : World) (h : DoR w (fun _ => True) v D) (hm : D.length ≤ maxLen) (ha : IntS w (fun _ => True) va a) (hb : IntS w (fun _ => True) vb b) (la : a.length ≤ 17592186044416) (lb : b.length ≤ 17592186044416) :
    Calls Try.prog 5 #[v, va, vb] w fun e w' => e = .returned (.bool true) ∧ Below w.heap.size w w' :=
  (SecondNear_any v va vb D a b w h hm ha hb la lb).mono fun _ _ h => ⟨h.1, h.2.below⟩

end Go.Proofs.Ytdpmmafkomchaaa
