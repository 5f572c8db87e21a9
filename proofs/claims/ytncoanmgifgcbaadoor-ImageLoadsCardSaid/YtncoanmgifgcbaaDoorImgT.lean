/- The laws' own functions on images: websterref18.Same in full, websterlaw18.much, small, known. -/
import Derived.Test.YtncoanmgifgcbaaDoorImgS
import Derived.Test.YtncoanmgifgcbaaDoorSameB
import Derived.Test.YtncoanmgifgcbaaDoorRegion
namespace Go.Proofs.YtncoanmgifgcbaaDoor
set_option linter.unusedVariables false
set_option linter.unusedSimpArgs false
open Go.RowKit

theorem take_neO {l m : List O} {i : Nat} (hi : i < l.length) (hj : i < m.length) (ht : l.take i = m.take i) : (l.take (i + 1) = m.take (i + 1)) ↔ ob l i = ob m i := by
  unfold ob
  rw [List.take_succ_eq_append_getElem hi, List.take_succ_eq_append_getElem hj, ht, List.getElem?_eq_getElem hi, List.getElem?_eq_getElem hj]
  simp only [Option.getD_some]
  constructor
  · intro e
    simpa using List.append_cancel_left e
  · intro e
    rw [e]
set_option maxRecDepth 100000 in
set_option maxHeartbeats 1000000 in
theorem Same18_any (lv mv : Value) (L M : List O) (f f2 : Int) (S S2 : Nat → Prop) (w : World) (h : RefL w S lv L) (h2 : RefL w S2 mv M) (hmax : L.length ≤ 9223372036854775807) :
    Calls Tryd.prog 16 #[.agg #[lv, .int .i64 f], .agg #[mv, .int .i64 f2]] w fun e w' => e = .returned (.bool (decide (f = f2 ∧ L = M))) ∧ Chg No w w' := by
  obtain ⟨A, c, rfl⟩ : ∃ A c, lv = .slice A L.length c := by
    obtain ⟨T, rfl, ⟨A, c, e, -⟩, -⟩ := h
    exact ⟨A, c, by simpa using e⟩
  obtain ⟨B, d, rfl⟩ : ∃ A c, mv = .slice A M.length c := by
    obtain ⟨T, rfl, ⟨A, c, e, -⟩, -⟩ := h2
    exact ⟨A, c, by simpa using e⟩
  obtain ⟨r, hr⟩ : ∃ r, decide (f = f2 ∧ L = M) = r := ⟨_, rfl⟩
  rw [hr]
  obtain ⟨W1, hW1⟩ : ∃ W, (w.alloc (.cells #[.slice A L.length c, .int .i64 f] 24)).alloc (.cells #[.slice B M.length d, .int .i64 f2] 24) = W := ⟨_, rfl⟩
  have c01 : Chg No w W1 := by rw [← hW1]; exact ((Chg.refl _ _).alloc _).alloc _
  have ra : Row W1 w.heap.size 24 #[.slice A L.length c, .int .i64 f] := by rw [← hW1]; exact (Row.new w _ _).alloc _
  have rb : Row W1 (w.heap.size + 1) 24 #[.slice B M.length d, .int .i64 f2] := by rw [← hW1]; simpa using Row.new (w.alloc (.cells #[.slice A L.length c, .int .i64 f] 24)) 24 #[.slice B M.length d, .int .i64 f2]
  have HW1 := Lib.hid hW1
  have HL := Lib.hid (h.keep c01 (fun _ _ f => f))
  have HM := Lib.hid (h2.keep c01 (fun _ _ f => f))
  have HC := Lib.hid c01
  have HA := Lib.hid ra
  have HB := Lib.hid rb
  have a0 := ra.cell 0
  have a1 := ra.cell 1
  have b0 := rb.cell 0
  have b1 := rb.cell 1
  simp at a0 a1 b0 b1
  clear hW1 h h2 c01 ra rb
  by_cases hf : f = f2
  · subst hf
    have tf : (f != f) = false := by simp
    by_cases hn : L.length = M.length
    · have HR := Lib.hid hr
      clear hr
      generalize hnL : L.length = n at *
      generalize hnM : M.length = m at *
      subst hn
      have HN2 := Lib.hid hnL
      have HNM := Lib.hid hnM
      have tn : ((n : Int) != (n : Int)) = false := by simp
      have tn2 : (n != n) = false := by simp
      clear hnL hnM
      go_enter Tryd.func16, Tryd.ntmps16
      go_wp2_with (first
        | (rw [HW1.out])
        | fail)
      go_loopg [5] n (fun j v5 wr => ∃ k : Nat, v5 = .int .i64 k ∧ k ≤ n ∧ n - k ≤ j ∧ Chg No W1 wr ∧ L.take k = M.take k)
      case atStart => exact ⟨0, rfl, by omega, by omega, Chg.refl _ _, rfl⟩
      case round =>
        obtain ⟨k, rfl, k1, k2, ck, htk⟩ := hrel
        have a0' := (HA.out.keep ck (fun f => f)).cell 0
        simp at a0'
        by_cases hkn : k < n
        · have hk1 : k < L.length := by rw [HN2.out]; exact hkn
          have hk2 : k < M.length := by rw [HNM.out]; exact hkn
          obtain ⟨b, off, c', wv, bv, e1, -, hb, hO, x0, x1, x2, x3⟩ := (HL.out.keep ck (fun _ _ f => f)).at hk1
          obtain ⟨b', off', c'', wv', bv', e2, -, hb', hO', y0, y1, y2, y3⟩ := (HM.out.keep ck (fun _ _ f => f)).at hk2
          obtain ⟨rfl, -, -⟩ := Value.slice.inj e1
          obtain ⟨rfl, -, -⟩ := Value.slice.inj e2
          clear e1 e2
          obtain ⟨q, hq⟩ : ∃ q, decide (ob L k = ob M k) = q := ⟨_, rfl⟩
          have hne := take_neO hk1 hk2 htk
          have t1 : decide ((k : Int) < (n : Int)) = true := decide_eq_true (by omega)
          have l1 : (k : Int) < (n : Int) := by omega
          have u0 : ∀ v, Chg No wr v → v.cell? ⟨w.heap.size, 0, none⟩ = some (.slice (some ⟨b, off, none⟩) n c) := fun v hv => by
            have := ((HA.out.keep ck (fun f => f)).keep hv (fun f => f)).cell 0
            simpa using this
          have u1 : ∀ v, Chg No wr v → v.cell? ⟨w.heap.size + 1, 0, none⟩ = some (.slice (some ⟨b', off', none⟩) n d) := fun v hv => by
            have := ((HB.out.keep ck (fun f => f)).keep hv (fun f => f)).cell 0
            simpa using this
          obtain ⟨A1, c1, A2, c2, e1⟩ := hO.shape
          obtain ⟨A3, c3, A4, c4, e2⟩ := hO'.shape
          simp only [cells2, Value.agg.injEq, Array.mk.injEq, List.cons.injEq, and_true, true_and] at e1 e2
          obtain ⟨rfl, rfl⟩ := e1
          obtain ⟨rfl, rfl⟩ := e2
          have v0 : ∀ v, Chg No wr v → v.cell? ⟨b, off + k * 4, none⟩ = some (.int .i64 (ob L k).cls) := fun v hv => by rw [Nat.mul_comm]; exact (hv.cell hb (fun f => f)).trans x0
          have v1 : ∀ v, Chg No wr v → v.cell? ⟨b, off + k * 4 + 1, none⟩ = some (.int .i64 (ob L k).kind) := fun v hv => by rw [Nat.mul_comm, Nat.add_assoc]; exact (hv.cell hb (fun f => f)).trans x1
          have v2 : ∀ v, Chg No wr v → v.cell? ⟨b, off + k * 4 + 2, none⟩ = some (.slice A1 (ob L k).W.length c1) := fun v hv => by rw [Nat.mul_comm, Nat.add_assoc]; exact (hv.cell hb (fun f => f)).trans x2
          have v3 : ∀ v, Chg No wr v → v.cell? ⟨b, off + k * 4 + 3, none⟩ = some (.slice A2 (ob L k).B.length c2) := fun v hv => by rw [Nat.mul_comm, Nat.add_assoc]; exact (hv.cell hb (fun f => f)).trans x3
          have v0' : ∀ v, Chg No wr v → v.cell? ⟨b', off' + k * 4, none⟩ = some (.int .i64 (ob M k).cls) := fun v hv => by rw [Nat.mul_comm]; exact (hv.cell hb' (fun f => f)).trans y0
          have v1' : ∀ v, Chg No wr v → v.cell? ⟨b', off' + k * 4 + 1, none⟩ = some (.int .i64 (ob M k).kind) := fun v hv => by rw [Nat.mul_comm, Nat.add_assoc]; exact (hv.cell hb' (fun f => f)).trans y1
          have v2' : ∀ v, Chg No wr v → v.cell? ⟨b', off' + k * 4 + 2, none⟩ = some (.slice A3 (ob M k).W.length c3) := fun v hv => by rw [Nat.mul_comm, Nat.add_assoc]; exact (hv.cell hb' (fun f => f)).trans y2
          have v3' : ∀ v, Chg No wr v → v.cell? ⟨b', off' + k * 4 + 3, none⟩ = some (.slice A4 (ob M k).B.length c4) := fun v hv => by rw [Nat.mul_comm, Nat.add_assoc]; exact (hv.cell hb' (fun f => f)).trans y3
          have HQ := Lib.hid hq
          have HO := Lib.hid (And.intro hO hO')
          have HNE := Lib.hid hne
          have HCK := Lib.hid (And.intro ck htk)
          clear hq hO hO' hne ck htk x0 x1 x2 x3 y0 y1 y2 y3
          simp only [cells2] at HO
          go_wp2_with fail
          refine q_region (C := (Chg No wr)) (by kernel_rfl) (by kernel_rfl) ?_ ?_
          · exact (Chg.refl _ _).drew
          repeat
            refine q_step (fun K hK => ?_)
            go_simp
            first
              | ((with_reducible refine hK _ ?_); clear hK K)
              | (refine (if_neg (by simp [undef])).mpr ?_; (with_reducible refine hK _ ?_); clear hK K)
              | (apply Exists.intro
                 with_reducible refine ⟨fun v hv => ?_, hK _ ?_⟩
                 · first
                     | with_reducible exact rfl
                     | with_reducible exact ⟨rfl, rfl⟩
                     | (go_simp
                        first
                          | done
                          | with_reducible exact rfl
                          | with_reducible exact ⟨rfl, rfl⟩
                          | (go_at_call 39; refine (Same05_any _ _ (ob L k) (ob M k) _ _ _ (HO.out.1.keep hv (fun _ _ f => f)) (HO.out.2.keep hv (fun _ _ f => f))).mono ?_; rw [HQ.out]; rintro e w5 ⟨rfl, g5⟩; exact ⟨rfl, hv.trans g5⟩))
                 clear hK K)
          refine q_nil ?_
          intro V hV
          cases q
          · obtain rfl : r = false := by
              rw [← HR.out]
              refine decide_eq_false fun e => absurd HQ.out ?_
              rw [e.2]
              simp
            go_wp2_with fail
            go_ret
            exact ⟨rfl, HC.out.trans (HCK.out.1.trans hV)⟩
          · go_wp2_with fail
            go_roundg (n - (k + 1))
            case measure => omega
            case rel => exact ⟨k + 1, by go_num, by omega, by omega, HCK.out.1.trans hV, HNE.out.2 (of_decide_eq_true HQ.out)⟩
        · obtain rfl : k = n := by omega
          obtain rfl : r = true := by
            rw [← HR.out]
            rw [List.take_of_length_le (by rw [HN2.out]; exact Nat.le_refl _), List.take_of_length_le (by rw [HNM.out]; exact Nat.le_refl _)] at htk
            exact decide_eq_true (And.intro (by trivial) htk)
          have t1 : decide ((k : Int) < (k : Int)) = false := decide_eq_false (by omega)
          go_wp2_with fail
          go_ret
          exact ⟨rfl, HC.out.trans ck⟩
    · obtain rfl : r = false := by
        rw [← hr]
        exact decide_eq_false fun e => hn (by rw [e.2])
      have tn : ((L.length : Int) != (M.length : Int)) = true := by simp [bne]; omega
      have tn2 : (L.length != M.length) = true := by simp [bne]; omega
      clear hr hn
      go_enter Tryd.func16, Tryd.ntmps16
      go_wp2_with (first
        | (rw [HW1.out])
        | fail)
      go_ret
      exact ⟨rfl, HC.out⟩
  · have tf : (f != f2) = true := by simpa using hf
    obtain rfl : r = false := by
      rw [← hr]
      exact decide_eq_false fun e => hf e.1
    clear hr hf
    go_enter Tryd.func16, Tryd.ntmps16
    go_wp2_with (first
      | (rw [HW1.out])
      | fail)
    go_ret
    exact ⟨rfl, HC.out⟩

/-- how much is looked at -/
def sumI : List O → Nat
  | [] => 0
  | o :: r => 1 + (o.W.length + o.B.length) / 10 + sumI r
theorem sumI_append : ∀ L M : List O, sumI (L ++ M) = sumI L + sumI M
  | [], _ => by simp [sumI]
  | o :: r, M => by
    have := sumI_append r M
    simp only [List.cons_append, sumI]
    omega
theorem sumI_succ {L : List O} {i : Nat} (hi : i < L.length) : sumI (L.take (i + 1)) = sumI (L.take i) + (1 + ((ob L i).W.length + (ob L i).B.length) / 10) := by
  rw [List.take_succ_eq_append_getElem hi, sumI_append, ob, List.getElem?_eq_getElem hi]
  simp [sumI]
/-- small enough that nothing wraps -/
def Fine (L : List O) : Prop := L.length ≤ 2000 ∧ ∀ o ∈ L, o.W.length ≤ 1000 ∧ o.B.length ≤ 1000
theorem Fine.le {L : List O} (h : Fine L) (i : Nat) : sumI (L.take i) ≤ 201 * i := by
  induction i with
  | zero => simp [sumI]
  | succ i ih =>
    by_cases hi : i < L.length
    · rw [sumI_succ hi]
      have hm : ob L i ∈ L := by rw [ob, List.getElem?_eq_getElem hi]; exact List.getElem_mem hi
      have := h.2 _ hm
      omega
    · rw [List.take_of_length_le (by omega), ← List.take_of_length_le (l := L) (i := i) (by omega)]
      omega
set_option maxRecDepth 100000 in
set_option maxHeartbeats 1000000 in
theorem much_any (lv : Value) (L : List O) (S : Nat → Prop) (w : World) (h : RefL w S lv L) (hmax : L.length ≤ 9223372036854775807) :
    Calls Tryd.prog 7 #[lv] w fun e w' => ∃ r : Bool, e = .returned (.bool r) ∧ Chg No w w' ∧ (Fine L → r = decide (200 < sumI L)) := by
  obtain ⟨A, c, rfl⟩ : ∃ A c, lv = .slice A L.length c := by
    obtain ⟨T, rfl, ⟨A, c, e, -⟩, -⟩ := h
    exact ⟨A, c, by simpa using e⟩
  have HL := Lib.hid h
  clear h
  generalize hn : L.length = n at *
  have HN := Lib.hid hn
  clear hn
  go_enter Tryd.func7, Tryd.ntmps7
  go_wp2_with fail
  go_loopg [3, 4] n (fun j v3 v4 wr => ∃ (z : Int) (i : Nat), v3 = .int .i64 z ∧ v4 = .int .i64 (i : Int) ∧ i ≤ n ∧ n - i ≤ j ∧ Chg No w wr ∧ (Fine L → z = sumI (L.take i)))
  case atStart => exact ⟨0, 0, rfl, rfl, by omega, by omega, Chg.refl _ _, fun _ => by simp [sumI]⟩
  case round =>
    obtain ⟨z, i, rfl, rfl, i1, i2, cw, hz⟩ := hrel
    by_cases hi : i < n
    · have hi' : i < L.length := by rw [HN.out]; exact hi
      obtain ⟨b, off, c', wv, bv, e1, -, hb, hO, x0, x1, x2, x3⟩ := (HL.out.keep cw (fun _ _ f => f)).at hi'
      obtain ⟨rfl, -, -⟩ := Value.slice.inj e1
      obtain ⟨A1, c1, A2, c2, e2⟩ := hO.shape
      simp only [cells2, Value.agg.injEq, Array.mk.injEq, List.cons.injEq, and_true, true_and] at e2
      obtain ⟨rfl, rfl⟩ := e2
      have t1 : decide ((i : Int) < (n : Int)) = true := decide_eq_true (by omega)
      have l1 : (i : Int) < (n : Int) := by omega
      have v2 : ∀ v, Chg No wr v → v.cell? ⟨b, off + i * 4 + 2, none⟩ = some (.slice A1 (ob L i).W.length c1) := fun v hv => by rw [Nat.mul_comm, Nat.add_assoc]; exact (hv.cell hb (fun f => f)).trans x2
      have v3 : ∀ v, Chg No wr v → v.cell? ⟨b, off + i * 4 + 3, none⟩ = some (.slice A2 (ob L i).B.length c2) := fun v hv => by rw [Nat.mul_comm, Nat.add_assoc]; exact (hv.cell hb (fun f => f)).trans x3
      have HZ := Lib.hid (And.intro hz (And.intro hi' cw))
      clear hz hi' cw hO x0 x1 x2 x3 e1
      generalize hwl : (ob L i).W.length = wl at *
      generalize hbl : (ob L i).B.length = bl at *
      have HWB := Lib.hid (And.intro hwl hbl)
      clear hwl hbl
      go_wp2_with fail
      refine q_region (C := (Chg No wr)) (by kernel_rfl) (by kernel_rfl) ?_ ?_
      · exact (Chg.refl _ _).drew
      repeat
        refine q_step (fun K hK => ?_)
        go_simp
        first
          | ((with_reducible refine hK _ ?_); clear hK K)
          | (refine (if_neg (by simp [undef])).mpr ?_; (with_reducible refine hK _ ?_); clear hK K)
          | (apply Exists.intro
             with_reducible refine ⟨fun v hv => ?_, hK _ ?_⟩
             · first
                 | with_reducible exact rfl
                 | with_reducible exact ⟨rfl, rfl⟩
                 | (go_simp
                    first
                      | done
                      | with_reducible exact rfl
                      | with_reducible exact ⟨rfl, rfl⟩
                      | fail)
             clear hK K)
      refine q_nil ?_
      intro V hV
      go_wp2_with fail
      go_roundg (n - (i + 1))
      case measure => omega
      case rel =>
        refine ⟨_, i + 1, rfl, by go_num, by omega, by omega, HZ.out.2.2.trans hV, fun hf => ?_⟩
        have hm : ob L i ∈ L := by rw [ob, List.getElem?_eq_getElem HZ.out.2.1]; exact List.getElem_mem HZ.out.2.1
        have hb1 := hf.2 _ hm
        have hle := hf.le i
        have hi2 := HZ.out.2.1
        have hl2 := hf.1
        rw [sumI_succ HZ.out.2.1, HWB.out.1, HWB.out.2, HZ.out.1 hf]
        rw [HWB.out.1, HWB.out.2] at hb1
        rw [IntWalk.i64_in ((wl : Int) + (bl : Int)) (by omega), Int.tdiv_eq_ediv_of_nonneg (by omega), IntWalk.i64_in (((wl : Int) + (bl : Int)) / 10) (by omega), IntWalk.i64_in (((sumI (L.take i) : Nat) : Int) + 1) (by omega), IntWalk.i64_in _ (by omega)]
        omega
    · obtain rfl : i = n := by omega
      have t1 : decide ((i : Int) < (i : Int)) = false := decide_eq_false (by omega)
      have HZ := Lib.hid (And.intro hz cw)
      clear hz cw
      go_wp2_with fail
      go_ret
      refine ⟨_, rfl, HZ.out.2, fun hf => ?_⟩
      rw [HZ.out.1 hf, List.take_of_length_le (by rw [HN.out]; exact Nat.le_refl _), decide_eq_decide]
      omega

def o2O : O := ⟨2, 1, [], []⟩
def smallL : List O := [o2O, o2O, o2O, ⟨2, 1, [2, 2, 2, 2, 2, 2, 2, 2, 2, 2, 2, 2], []⟩]
set_option maxRecDepth 100000 in
set_option maxHeartbeats 1000000 in
theorem small_any (w : World) : Calls Tryd.prog 27 #[] w (Ret fun v w' => ∃ lv, v = .agg #[lv, .int .i64 2] ∧ RefL w' (fun b => w.heap.size ≤ b) lv smallL ∧ Chg No w w') := by
  go_enter Tryd.func27, Tryd.ntmps27
  go_wp2_with fail
  refine bodyPost_ret (v := .agg #[.slice (some ⟨w.heap.size + 1 + 1 + 1 + 1, 0, none⟩) 4 4, .int .i64 2]) (by simp [results, Tryd.results27, go_sem]) rfl (Ret.mk ⟨_, rfl, ?_, ?_⟩)
  · generalize hW1 : World.alloc (World.alloc (World.alloc w _) _) _ = W1
    have s1 : W1.heap.size = w.heap.size + 1 + 1 + 1 := by rw [← hW1]; simp
    have r1 : Row (W1.alloc (.cells (([2, 2, 2, 2, 2, 2, 2, 2, 2, 2, 2, 2] : List Int).map (.int .i64)).toArray 3)) W1.heap.size 3 _ := Row.new _ _ _
    rw [s1] at r1
    have i1 := IntS.ofRow r1 (by decide) (by intro x hx; simp at hx; subst hx; unfold In64; omega)
    have i1' := i1.more (S' := fun b => w.heap.size ≤ b) (fun b _ hb => by omega)
    refine ⟨[(o2O, .slice none 0 0, .slice none 0 0), (o2O, .slice none 0 0, .slice none 0 0), (o2O, .slice none 0 0, .slice none 0 0), (⟨2, 1, [2, 2, 2, 2, 2, 2, 2, 2, 2, 2, 2, 2], []⟩, .slice (some ⟨w.heap.size + 1 + 1 + 1, 0, none⟩) 12 12, .slice none 0 0)], rfl, ?_, ?_⟩
    · have r2 := Row.new (W1.alloc (.cells (([2, 2, 2, 2, 2, 2, 2, 2, 2, 2, 2, 2] : List Int).map (.int .i64)).toArray 3)) 41 #[.int .i64 2, .int .i64 1, .slice none 0 0, .slice none 0 0, .int .i64 2, .int .i64 1, .slice none 0 0, .slice none 0 0, .int .i64 2, .int .i64 1, .slice none 0 0, .slice none 0 0, .int .i64 2, .int .i64 1, .slice (some ⟨w.heap.size + 1 + 1 + 1, 0, none⟩) 12 12, .slice none 0 0]
      have e2 : (W1.alloc (.cells (([2, 2, 2, 2, 2, 2, 2, 2, 2, 2, 2, 2] : List Int).map (.int .i64)).toArray 3)).heap.size = w.heap.size + 1 + 1 + 1 + 1 := by simp [s1]
      rw [e2] at r2
      exact Slc.row (S := fun b => w.heap.size ≤ b) r2 4 4 rfl (by unfold maxLen; omega) (by omega)
    · intro t ht
      have h0 : okT (W1.alloc (.cells (([2, 2, 2, 2, 2, 2, 2, 2, 2, 2, 2, 2] : List Int).map (.int .i64)).toArray 3) |>.alloc (.cells #[.int .i64 2, .int .i64 1, .slice none 0 0, .slice none 0 0, .int .i64 2, .int .i64 1, .slice none 0 0, .slice none 0 0, .int .i64 2, .int .i64 1, .slice none 0 0, .slice none 0 0, .int .i64 2, .int .i64 1, .slice (some ⟨w.heap.size + 1 + 1 + 1, 0, none⟩) 12 12, .slice none 0 0] 41)) (fun b => w.heap.size ≤ b) (o2O, .slice none 0 0, .slice none 0 0) := ⟨IntS.nil _ _, ByteS.nil _ _, by show In64 2; unfold In64; omega, by show In64 1; unfold In64; omega⟩
      simp only [List.mem_cons, List.not_mem_nil, or_false] at ht
      rcases ht with rfl | rfl | rfl | rfl
      · exact h0
      · exact h0
      · exact h0
      · exact ⟨i1'.keep ((Chg.refl No _).alloc _) (fun _ _ f => f), ByteS.nil _ _, by show In64 2; unfold In64; omega, by show In64 1; unfold In64; omega⟩
  · repeat (with_reducible first | exact Chg.refl _ _ | refine Chg.alloc ?_ _)

theorem small_enc : encE smallL 2 = 0 ∧ (encV smallL 2).length = 120 := by decide +kernel
theorem small_dec : imgDL (encV smallL 2) = smallL ∧ imgDF (encV smallL 2) = 2 ∧ imgDE (encV smallL 2) = 0 := by decide +kernel
theorem nil_dec : imgDL [] = [] ∧ imgDF [] = 0 ∧ imgDE [] = 180 := by decide +kernel
theorem nil_img : imgE [] 0 = 180 := by decide +kernel

set_option maxRecDepth 100000 in
set_option maxHeartbeats 400000 in
theorem known18_any (w : World) (ht : Tabs w) : Calls Tryd.prog 8 #[] w fun e w' => e = .returned (.bool true) ∧ Chg No w w' := by
  have HT := Lib.hid ht
  have in2 : In64 2 := by unfold In64; omega
  have in0 : In64 0 := by unfold In64; omega
  have tok : True := trivial
  clear ht
  go_enter Tryd.func8, Tryd.ntmps8
  go_wp2_with (first
    | (go_at_call 27
       refine (small_any _).mono ?_
       rintro e w1 ⟨v1, rfl, lv1, rfl, hl1, c1⟩
       obtain ⟨A1, d1, rfl⟩ : ∃ A d, lv1 = .slice A 4 d := by
         obtain ⟨T, hT, ⟨A, c, e, -⟩, -⟩ := hl1
         have e4 : T.length = 4 := by have := congrArg List.length hT; simpa [smallL] using this
         exact ⟨A, c, by rw [e, e4]⟩
       have H1 := Lib.hid (And.intro hl1 c1)
       clear hl1 c1)
    | (go_at_call 26
       obtain ⟨T, hT, hRT⟩ := H1.out.1.toT
       have hTl : T.length = 4 := by have := congrArg List.length hT; simpa [smallL] using this
       refine (ImgEncode_any _ T 2 in2 _ (hRT.more fun _ _ _ => trivial) (by omega) (HT.out.keep H1.out.2)).mono ?_
       rw [hT, small_enc.1]
       rintro e w2 ⟨v2, rfl, u2, rfl, hob2, c2⟩
       obtain ⟨A2, d2, rfl⟩ : ∃ A c, u2 = .slice A 120 c := by have := hob2.form; rwa [small_enc.2] at this
       have hbd : ∀ x ∈ encV smallL 2, 0 ≤ x ∧ x ≤ 255 := by decide +kernel
       have H2 := Lib.hid (And.intro (hob2.bytes hbd) (H1.out.2.trans c2))
       clear hob2 c2 hT hRT hTl hbd)
    | (go_at_call 28
       have _t := tok
       clear tok
       refine (ImgDecode_any _ (encV smallL 2) _ (H2.out.1.more fun _ _ _ => trivial) (by rw [small_enc.2]; omega) (HT.out.keep H2.out.2)).mono ?_
       rw [small_dec.1, small_dec.2.1, small_dec.2.2]
       rintro e w3 ⟨v3, rfl, lv3, T3', rfl, hT3, hr3, c3⟩
       obtain ⟨A3, d3, rfl⟩ : ∃ A d, lv3 = .slice A 4 d := by
         obtain ⟨⟨A, c, e, -⟩, -⟩ := hr3
         have e4 : T3'.length = 4 := by have := congrArg List.length hT3; simpa [smallL] using this
         exact ⟨A, c, by rw [e, e4]⟩
       have hRL : RefL w3 (fun b => w2.heap.size ≤ b) (.slice A3 4 d3) smallL := by rw [← hT3]; exact hr3.toL
       have H3 := Lib.hid (And.intro hRL (H2.out.2.trans c3))
       have rX := Row.new w3 24 #[.slice A3 4 d3, .int .i64 2]
       have HX := Lib.hid rX
       clear hRL c3 hr3 hT3 rX)
    | (go_at_call 28
       refine (ImgDecode_any _ [] _ (ByteS.nil _ _) (by simp) (HT.out.keep (H3.out.2.alloc _))).mono ?_
       rw [nil_dec.1, nil_dec.2.1, nil_dec.2.2]
       rintro e w4 ⟨v4, rfl, lv4, T4, rfl, hT4, hr4, c4⟩
       obtain rfl : T4 = [] := List.eq_nil_of_length_eq_zero (by have := congrArg List.length hT4; simpa using this)
       obtain ⟨A4, d4, rfl⟩ : ∃ A d, lv4 = .slice A 0 d := by
         obtain ⟨⟨A, c, e, -⟩, -⟩ := hr4
         exact ⟨A, c, e⟩
       have x4 := (HX.out.keep c4 (fun f => f)).cell 0
       have x4' := (HX.out.keep c4 (fun f => f)).cell 1
       have hs4 := (HX.out.keep c4 (fun f => f)).lt
       simp at x4 x4'
       have H4 := Lib.hid (And.intro c4 ((H3.out.2.alloc _).trans c4))
       clear c4 hr4 hT4)
    | fail)
  refine rem_start (by kernel_rfl) (by kernel_rfl) ?_
  refine rem_quiet 11 (C := (Chg No w4)) (by kernel_rfl) (by simp only [List.toList_toArray, List.drop_succ_cons, List.drop_zero, List.take_succ_cons, List.take_zero, Nat.reduceSub, Nat.reduceAdd]; rfl) ?_ ?_
  · exact ((Chg.refl _ _).alloc _).drew
  repeat
    refine q_step (fun K hK => ?_)
    go_simp
    first
      | ((with_reducible refine hK _ ?_); clear hK K)
      | (refine (if_neg (by simp [undef])).mpr ?_; (with_reducible refine hK _ ?_); clear hK K)
      | (apply Exists.intro
         with_reducible refine ⟨fun v hv => ?_, hK _ ?_⟩
         · first
             | with_reducible exact rfl
             | with_reducible exact ⟨rfl, rfl⟩
             | (go_simp
                first
                  | done
                  | with_reducible exact rfl
                  | with_reducible exact ⟨rfl, rfl⟩
                  | fail)
         clear hK K)
  refine q_nil ?_
  intro V hV
  refine rem_one (by kernel_rfl) (by kernel_rfl) rfl (by kernel_rfl) (fun K hK => ?_)
  go_wp2_with fail
  have x4V := (hV.cell (p := ⟨w3.heap.size, 0, none⟩) hs4 (fun f => f)).trans x4
  have x4V' := (hV.cell (p := ⟨w3.heap.size, 1, none⟩) hs4 (fun f => f)).trans x4'
  have hs4V := Nat.lt_of_lt_of_le hs4 hV.size
  have HVV := Lib.hid hV
  clear x4 x4' hs4 hV
  refine rem_two (by kernel_rfl) (by kernel_rfl) (by kernel_rfl) (by kernel_rfl) rfl rfl (by kernel_rfl) (by kernel_rfl) (fun K hK => ?_) (fun K hK => ?_)
  · go_wp2_with fail
    refine rem_one (by kernel_rfl) (by kernel_rfl) rfl (by kernel_rfl) (fun K hK => ?_)
    go_wp2_with (first
      | (go_at_call 27
         refine (small_any _).mono ?_
         rintro e w5 ⟨v5, rfl, lv5, rfl, hl5, c5⟩
         obtain ⟨A5, d5, rfl⟩ : ∃ A d, lv5 = .slice A 4 d := by
           obtain ⟨T, hT, ⟨A, c, e, -⟩, -⟩ := hl5
           have e4 : T.length = 4 := by have := congrArg List.length hT; simpa [smallL] using this
           exact ⟨A, c, by rw [e, e4]⟩
         have x5 := (c5.cell (p := ⟨w3.heap.size, 0, none⟩) hs4V (fun f => f)).trans x4V
         have x5' := (c5.cell (p := ⟨w3.heap.size, 1, none⟩) hs4V (fun f => f)).trans x4V'
         have H5 := Lib.hid (And.intro hl5 (HVV.out.trans c5))
         clear hl5 c5)
      | fail)
    refine rem_one (by kernel_rfl) (by kernel_rfl) rfl (by kernel_rfl) (fun K hK => ?_)
    go_wp2_with (first
      | (go_at_call 16
         refine (Same18_any _ _ smallL smallL 2 2 _ _ _ (H3.out.1.keep (((Chg.refl No _).alloc _).trans (H4.out.1.trans H5.out.2)) (fun _ _ f => f)) H5.out.1 (by decide)).mono ?_
         rw [show decide ((2 : Int) = 2 ∧ smallL = smallL) = true from decide_eq_true ⟨rfl, rfl⟩]
         rintro e w6 ⟨rfl, c6⟩
         have H6 := Lib.hid (H4.out.2.trans (H5.out.2.trans c6))
         clear c6)
      | fail)
    refine rem_quiet 22 (C := (Chg No w6)) (by kernel_rfl) (by simp only [List.toList_toArray, List.drop_succ_cons, List.drop_zero, List.take_succ_cons, List.take_zero, Nat.reduceSub, Nat.reduceAdd]; rfl) ?_ ?_
    · exact (Chg.refl _ _)
    repeat
      refine q_step (fun K hK => ?_)
      go_simp
      first
        | ((with_reducible refine hK _ ?_); clear hK K)
        | (refine (if_neg (by simp [undef])).mpr ?_; (with_reducible refine hK _ ?_); clear hK K)
        | (apply Exists.intro
           with_reducible refine ⟨fun v hv => ?_, hK _ ?_⟩
           · first
               | with_reducible exact rfl
               | with_reducible exact ⟨rfl, rfl⟩
               | (go_simp
                  first
                    | done
                    | with_reducible exact rfl
                    | with_reducible exact ⟨rfl, rfl⟩
                    | fail)
           clear hK K)
    refine q_nil ?_
    intro V6 hV6
    refine rem_one (by kernel_rfl) (by kernel_rfl) rfl (by kernel_rfl) (fun K hK => ?_)
    go_wp2_with (first
      | (go_at_call 11
         refine (ImgCheck_any (.slice none 0 0) [] 0 in0 _ ⟨Slc.nil _ _ _, by simp⟩ (by unfold maxLen; simp) (HT.out.keep (H6.out.trans hV6))).mono ?_
         rw [show imgE (List.map (fun x : T3 => x.1) []) 0 = 180 from nil_img]
         rintro e w7 ⟨rfl, c7⟩
         have H7 := Lib.hid ((H6.out.trans hV6).trans c7)
         clear c7)
      | fail)
    refine rem_quiet 26 (C := (Chg No w7)) (by kernel_rfl) (by simp only [List.toList_toArray, List.drop_succ_cons, List.drop_zero, List.take_succ_cons, List.take_zero, Nat.reduceSub, Nat.reduceAdd]; rfl) ?_ ?_
    · exact (Chg.refl _ _)
    repeat
      refine q_step (fun K hK => ?_)
      go_simp
      first
        | ((with_reducible refine hK _ ?_); clear hK K)
        | (refine (if_neg (by simp [undef])).mpr ?_; (with_reducible refine hK _ ?_); clear hK K)
        | (apply Exists.intro
           with_reducible refine ⟨fun v hv => ?_, hK _ ?_⟩
           · first
               | with_reducible exact rfl
               | with_reducible exact ⟨rfl, rfl⟩
               | (go_simp
                  first
                    | done
                    | with_reducible exact rfl
                    | with_reducible exact ⟨rfl, rfl⟩
                    | fail)
           clear hK K)
    refine q_nil ?_
    intro V7 hV7
    refine rem_end (by kernel_rfl) ?_
    go_wp2_with fail
    go_ret
    exact ⟨rfl, H7.out.trans hV7⟩
  · go_wp2_with (first
      | (go_at_call 27
         refine (small_any _).mono ?_
         rintro e w5 ⟨v5, rfl, lv5, rfl, hl5, c5⟩
         obtain ⟨A5, d5, rfl⟩ : ∃ A d, lv5 = .slice A 4 d := by
           obtain ⟨T, hT, ⟨A, c, e, -⟩, -⟩ := hl5
           have e4 : T.length = 4 := by have := congrArg List.length hT; simpa [smallL] using this
           exact ⟨A, c, by rw [e, e4]⟩
         have x5 := (c5.cell (p := ⟨w3.heap.size, 0, none⟩) hs4V (fun f => f)).trans x4V
         have x5' := (c5.cell (p := ⟨w3.heap.size, 1, none⟩) hs4V (fun f => f)).trans x4V'
         have H5 := Lib.hid (And.intro hl5 (HVV.out.trans c5))
         clear hl5 c5)
      | fail)
    intro K hK
    go_wp2_with fail
    refine rem_one (by kernel_rfl) (by kernel_rfl) rfl (by kernel_rfl) (fun K hK => ?_)
    go_wp2_with (first
      | (go_at_call 16
         refine (Same18_any _ _ smallL smallL 2 2 _ _ _ (H3.out.1.keep (((Chg.refl No _).alloc _).trans (H4.out.1.trans H5.out.2)) (fun _ _ f => f)) H5.out.1 (by decide)).mono ?_
         rw [show decide ((2 : Int) = 2 ∧ smallL = smallL) = true from decide_eq_true ⟨rfl, rfl⟩]
         rintro e w6 ⟨rfl, c6⟩
         have H6 := Lib.hid (H4.out.2.trans (H5.out.2.trans c6))
         clear c6)
      | fail)
    refine rem_quiet 22 (C := (Chg No w6)) (by kernel_rfl) (by simp only [List.toList_toArray, List.drop_succ_cons, List.drop_zero, List.take_succ_cons, List.take_zero, Nat.reduceSub, Nat.reduceAdd]; rfl) ?_ ?_
    · exact (Chg.refl _ _)
    repeat
      refine q_step (fun K hK => ?_)
      go_simp
      first
        | ((with_reducible refine hK _ ?_); clear hK K)
        | (refine (if_neg (by simp [undef])).mpr ?_; (with_reducible refine hK _ ?_); clear hK K)
        | (apply Exists.intro
           with_reducible refine ⟨fun v hv => ?_, hK _ ?_⟩
           · first
               | with_reducible exact rfl
               | with_reducible exact ⟨rfl, rfl⟩
               | (go_simp
                  first
                    | done
                    | with_reducible exact rfl
                    | with_reducible exact ⟨rfl, rfl⟩
                    | fail)
           clear hK K)
    refine q_nil ?_
    intro V6 hV6
    refine rem_one (by kernel_rfl) (by kernel_rfl) rfl (by kernel_rfl) (fun K hK => ?_)
    go_wp2_with (first
      | (go_at_call 11
         refine (ImgCheck_any (.slice none 0 0) [] 0 in0 _ ⟨Slc.nil _ _ _, by simp⟩ (by unfold maxLen; simp) (HT.out.keep (H6.out.trans hV6))).mono ?_
         rw [show imgE (List.map (fun x : T3 => x.1) []) 0 = 180 from nil_img]
         rintro e w7 ⟨rfl, c7⟩
         have H7 := Lib.hid ((H6.out.trans hV6).trans c7)
         clear c7)
      | fail)
    refine rem_quiet 26 (C := (Chg No w7)) (by kernel_rfl) (by simp only [List.toList_toArray, List.drop_succ_cons, List.drop_zero, List.take_succ_cons, List.take_zero, Nat.reduceSub, Nat.reduceAdd]; rfl) ?_ ?_
    · exact (Chg.refl _ _)
    repeat
      refine q_step (fun K hK => ?_)
      go_simp
      first
        | ((with_reducible refine hK _ ?_); clear hK K)
        | (refine (if_neg (by simp [undef])).mpr ?_; (with_reducible refine hK _ ?_); clear hK K)
        | (apply Exists.intro
           with_reducible refine ⟨fun v hv => ?_, hK _ ?_⟩
           · first
               | with_reducible exact rfl
               | with_reducible exact ⟨rfl, rfl⟩
               | (go_simp
                  first
                    | done
                    | with_reducible exact rfl
                    | with_reducible exact ⟨rfl, rfl⟩
                    | fail)
           clear hK K)
    refine q_nil ?_
    intro V7 hV7
    refine rem_end (by kernel_rfl) ?_
    go_wp2_with fail
    go_ret
    exact ⟨rfl, H7.out.trans hV7⟩

end Go.Proofs.YtncoanmgifgcbaaDoor
