/- Are two lists, two objects, two lists of objects the same? websterref00.SameInts, Same; websterref05.Same; told in full. -/
import Derived.Test.YtncoanmgifgcbaaDoorRef05
import Derived.Test.YtncoanmgifgcbaaDoorRef10
import Derived.Test.YtncoanmgifgcbaaDoorLoadA
namespace Go.Proofs.YtncoanmgifgcbaaDoor
set_option linter.unusedVariables false
set_option linter.unusedSimpArgs false
open Go.RowKit

theorem take_ne2 {l m : List Int} {i : Nat} (hi : i < l.length) (hj : i < m.length) (ht : l.take i = m.take i) : (l.take (i + 1) = m.take (i + 1)) ↔ l[i]?.getD 0 = m[i]?.getD 0 := by
  rw [List.take_succ_eq_append_getElem hi, List.take_succ_eq_append_getElem hj, ht, List.getElem?_eq_getElem hi, List.getElem?_eq_getElem hj]
  simp only [Option.getD_some]
  constructor
  · intro e
    simpa using List.append_cancel_left e
  · intro e
    rw [e]
set_option maxRecDepth 100000 in
set_option maxHeartbeats 1000000 in
theorem SameInts_any (a b : Value) (l m : List Int) (S S2 : Nat → Prop) (w : World) (ha : IntS w S a l) (hb : IntS w S2 b m) :
    Calls Tryd.prog 62 #[a, b] w fun e w' => e = .returned (.bool (decide (l = m))) ∧ Chg No w w' := by
  obtain ⟨A, c, rfl, h1, h2, h3, h4⟩ := ha.form
  obtain ⟨B, c', rfl, h1', h2', h3', h4'⟩ := hb.form
  have HA := Lib.hid (And.intro ha h4)
  have HB := Lib.hid (And.intro hb h4')
  have hmax : l.length ≤ 9223372036854775807 := by unfold maxLen at h2; omega
  obtain ⟨r, hr⟩ : ∃ r, decide (l = m) = r := ⟨_, rfl⟩
  rw [hr]
  clear ha hb h3 h3' h4 h4' h1 h1' h2 h2'
  by_cases hn : l.length = m.length
  · have HRr := Lib.hid hr
    have HN := Lib.hid hn
    rw [← hn]
    clear hn hr
    generalize hn : l.length = n at *
    go_enter Tryd.func62, Tryd.ntmps62
    go_wp2_with fail
    go_loopg [5] n (fun j v5 wr => ∃ k : Nat, v5 = .int .i64 k ∧ k ≤ n ∧ n - k ≤ j ∧ Chg No w wr ∧ l.take k = m.take k)
    case atStart => exact ⟨0, rfl, by omega, by omega, Chg.refl _ _, rfl⟩
    case round =>
      obtain ⟨k, rfl, k1, k2, ck, htk⟩ := hrel
      by_cases hkn : k < n
      · obtain ⟨b, off, rfl, _, hb, hcx, _⟩ := HA.out.2 k hkn
        obtain ⟨b', off', rfl, _, hb', hcy, _⟩ := HB.out.2 k (by rw [← HN.out]; exact hkn)
        replace hcx := (ck.cell (p := ⟨b, off + k, none⟩) hb (fun f => f)).trans hcx
        replace hcy := (ck.cell (p := ⟨b', off' + k, none⟩) hb' (fun f => f)).trans hcy
        have hne := take_ne2 (by rw [hn]; exact hkn) (by rw [← HN.out]; exact hkn) htk
        by_cases hxy : l[k]?.getD 0 = m[k]?.getD 0
        · have HT := Lib.hid (hne.2 hxy)
          rw [hxy] at hcx
          generalize m[k]?.getD 0 = x at *
          clear hne hxy htk
          go_wp2_with fail
          go_quiet (fail)
          go_wp2_with fail
          go_roundg (n - (k + 1))
          case measure => omega
          case rel => exact ⟨k + 1, by go_num, by omega, by omega, ck.drewN _, HT.out⟩
        · obtain rfl : r = false := by
            rw [← HRr.out]
            refine decide_eq_false fun e => hxy ?_
            rw [e]
          have t1 : (l[k]?.getD 0 == m[k]?.getD 0) = false := beq_eq_false_iff_ne.2 hxy
          have t2 : (l[k]?.getD 0 != m[k]?.getD 0) = true := by simpa using hxy
          clear hne hxy
          generalize l[k]?.getD 0 = x at *
          generalize m[k]?.getD 0 = y at *
          clear htk
          go_wp2_with fail
          go_quiet (fail)
          go_wp2_with fail
          go_ret
          exact ⟨rfl, ck.drewN _⟩
      · obtain rfl : k = n := by omega
        obtain rfl : r = true := by
          rw [← HRr.out]
          rw [List.take_of_length_le (by omega), List.take_of_length_le (by rw [← HN.out]; exact Nat.le_refl _)] at htk
          exact decide_eq_true htk
        go_wp2_with fail
        go_ret
        exact ⟨rfl, ck⟩
  · obtain rfl : r = false := by
      rw [← hr]
      exact decide_eq_false fun e => hn (by rw [e])
    have t1 : (l.length == m.length) = false := beq_eq_false_iff_ne.2 hn
    have t2 : ((l.length : Int) == (m.length : Int)) = false := beq_eq_false_iff_ne.2 (by omega)
    have t3 : ((l.length : Int) != (m.length : Int)) = true := by simp [bne, t2]
    have t4 : (l.length != m.length) = true := by simp [bne, t1]
    clear hn hr
    go_enter Tryd.func62, Tryd.ntmps62
    go_wp2_with fail
    go_ret
    exact ⟨rfl, Chg.refl _ _⟩

theorem strOfNums_inj {l m : List Int} (hl : ∀ x ∈ l, 0 ≤ x ∧ x ≤ 255) (hm : ∀ x ∈ m, 0 ≤ x ∧ x ≤ 255) (h : strOfNums l = strOfNums m) : l = m := by
  have e : (l.map fun n => UInt8.ofNat n.toNat) = (m.map fun n => UInt8.ofNat n.toNat) := by
    have := congrArg (fun b : ByteArray => b.data.toList) h
    simpa [strOfNums] using this
  have hlen : l.length = m.length := by simpa using congrArg List.length e
  apply List.ext_getElem hlen
  intro i h1 h2
  have e2 := congrArg (·[i]?) e
  simp only [List.getElem?_map, List.getElem?_eq_getElem h1, List.getElem?_eq_getElem h2, Option.map_some, Option.some.injEq] at e2
  have e3 := congrArg UInt8.toNat e2
  simp only [UInt8.toNat_ofNat'] at e3
  have b1 := hl _ (List.getElem_mem h1)
  have b2 := hm _ (List.getElem_mem h2)
  omega
theorem strOfNums_list {l m : List Int} (h : (strOfNums l).toList = (strOfNums m).toList) : strOfNums l = strOfNums m := by
  rw [ByteArray.toList_eq, ByteArray.toList_eq] at h
  exact ByteArray.ext (Array.toList_inj.1 h)
set_option maxRecDepth 100000 in
set_option maxHeartbeats 1000000 in
theorem Same00_any (a b : Value) (l m : List Int) (S S2 : Nat → Prop) (w : World) (ha : ByteS w S a l) (hb : ByteS w S2 b m) :
    Calls Tryd.prog 63 #[a, b] w fun e w' => e = .returned (.bool (decide (l = m))) ∧ Chg No w w' := by
  have c1 := conv_bytes ha
  have c2 := conv_bytes hb
  have hd : ((strOfNums l).toList == (strOfNums m).toList) = decide (l = m) := by
    rw [Bool.eq_iff_iff, beq_iff_eq, decide_eq_true_iff]
    exact ⟨fun e => strOfNums_inj ha.2 hb.2 (strOfNums_list e), fun e => by rw [e]⟩
  obtain ⟨A, c, rfl, -⟩ := ha.form
  obtain ⟨B, c', rfl, -⟩ := hb.form
  obtain ⟨r, hr⟩ : ∃ r, decide (l = m) = r := ⟨_, rfl⟩
  rw [hr] at hd ⊢
  generalize strOfNums l = s at *
  generalize strOfNums m = t at *
  clear ha hb hr
  go_enter Tryd.func63, Tryd.ntmps63
  go_wp2_with fail
  go_ret
  exact ⟨rfl, Chg.refl _ _⟩

theorem O.eq_iff (o x : O) : o = x ↔ o.cls = x.cls ∧ o.kind = x.kind ∧ o.W = x.W ∧ o.B = x.B := by
  cases o
  cases x
  simp
instance decEqO : DecidableEq O := fun o x => decidable_of_iff _ (O.eq_iff o x).symm
set_option maxRecDepth 100000 in
set_option maxHeartbeats 1000000 in
theorem Same05_any (a b : Value) (o x : O) (S S2 : Nat → Prop) (w : World) (ha : ObjR w S a o) (hb : ObjR w S2 b x) :
    Calls Tryd.prog 39 #[a, b] w fun e w' => e = .returned (.bool (decide (o = x))) ∧ Chg No w w' := by
  obtain ⟨aw, ab, rfl, h1, h2, -⟩ := ha
  obtain ⟨bw, bb, rfl, h3, h4, -⟩ := hb
  have H := Lib.hid (And.intro (And.intro h1 h2) (And.intro h3 h4))
  obtain ⟨A1, c1, rfl, -⟩ := h1.form
  obtain ⟨A2, c2, rfl, -⟩ := h2.form
  obtain ⟨A3, c3, rfl, -⟩ := h3.form
  obtain ⟨A4, c4, rfl, -⟩ := h4.form
  clear h1 h2 h3 h4
  simp only [cells2]
  obtain ⟨r, hr⟩ : ∃ r, decide (o = x) = r := ⟨_, rfl⟩
  have hr2 : r = (decide (o.cls = x.cls) && (decide (o.kind = x.kind) && (decide (o.W = x.W) && decide (o.B = x.B)))) := by
    rw [← hr, Bool.eq_iff_iff]
    simp [O.eq_iff]
  rw [hr]
  clear hr
  obtain ⟨b1, hb1⟩ : ∃ b, decide (o.W = x.W) = b := ⟨_, rfl⟩
  obtain ⟨b2, hb2⟩ : ∃ b, decide (o.B = x.B) = b := ⟨_, rfl⟩
  rw [hb1, hb2] at hr2
  have HWD := Lib.hid hb1
  have HBD := Lib.hid hb2
  clear hb1 hb2
  by_cases hc : o.cls = x.cls
  · have t1 : (o.cls == x.cls) = true := by simpa using hc
    by_cases hk : o.kind = x.kind
    · have t2 : (o.kind == x.kind) = true := by simpa using hk
      cases b1
      · obtain rfl : r = false := by rw [hr2]; simp
        clear hr2 hc hk
        go_enter Tryd.func39, Tryd.ntmps39
        go_wp2_with (first
          | (go_at_call 62
             refine (SameInts_any _ _ o.W x.W S S2 _ (H.out.1.1.keep (((Chg.refl No _).alloc _).alloc _) (fun _ _ f => f)) (H.out.2.1.keep (((Chg.refl No _).alloc _).alloc _) (fun _ _ f => f))).mono ?_
             rw [HWD.out]
             rintro e w1 ⟨rfl, g1⟩
             have hs := g1.size
             have q1 : Row w1 w.heap.size 41 #[.int .i64 o.cls, .int .i64 o.kind, .slice A1 o.W.length c1, .slice A2 o.B.length c2] := Row.keep ((Row.new w _ _).alloc _) g1 (fun f => f)
             have q2 : Row w1 (w.heap.size + 1) 41 #[.int .i64 x.cls, .int .i64 x.kind, .slice A3 x.W.length c3, .slice A4 x.B.length c4] := Row.keep (by simpa using Row.new (w.alloc _) _ _) g1 (fun f => f)
             have r1 := q1.four
             have r2 := q2.four
             clear q1 q2)
          | fail)
        go_ret
        exact ⟨rfl, (((Chg.refl No _).alloc _).alloc _).trans g1⟩
      · obtain rfl : r = b2 := by rw [hr2]; simp [hc, hk]
        clear hr2 hc hk
        go_enter Tryd.func39, Tryd.ntmps39
        go_wp2_with (first
          | (go_at_call 62
             refine (SameInts_any _ _ o.W x.W S S2 _ (H.out.1.1.keep (((Chg.refl No _).alloc _).alloc _) (fun _ _ f => f)) (H.out.2.1.keep (((Chg.refl No _).alloc _).alloc _) (fun _ _ f => f))).mono ?_
             rw [HWD.out]
             rintro e w1 ⟨rfl, g1⟩
             have hs := g1.size
             have q1 : Row w1 w.heap.size 41 #[.int .i64 o.cls, .int .i64 o.kind, .slice A1 o.W.length c1, .slice A2 o.B.length c2] := Row.keep ((Row.new w _ _).alloc _) g1 (fun f => f)
             have q2 : Row w1 (w.heap.size + 1) 41 #[.int .i64 x.cls, .int .i64 x.kind, .slice A3 x.W.length c3, .slice A4 x.B.length c4] := Row.keep (by simpa using Row.new (w.alloc _) _ _) g1 (fun f => f)
             have r1 := q1.four
             have r2 := q2.four
             clear q1 q2)
          | (go_at_call 63
             refine (Same00_any _ _ o.B x.B S S2 _ (H.out.1.2.keep ((((Chg.refl No _).alloc _).alloc _).trans g1) (fun _ _ f => f)) (H.out.2.2.keep ((((Chg.refl No _).alloc _).alloc _).trans g1) (fun _ _ f => f))).mono ?_
             rw [HBD.out]
             rintro e w2 ⟨rfl, g2⟩)
          | fail)
        go_ret
        exact ⟨rfl, ((((Chg.refl No _).alloc _).alloc _).trans g1).trans g2⟩
    · have t2 : (o.kind == x.kind) = false := by simpa using hk
      obtain rfl : r = false := by rw [hr2]; simp [hk]
      clear hr2 hc hk
      go_enter Tryd.func39, Tryd.ntmps39
      go_wp2_with fail
      go_ret
      exact ⟨rfl, ((Chg.refl No _).alloc _).alloc _⟩
  · have t1 : (o.cls == x.cls) = false := by simpa using hc
    obtain rfl : r = false := by rw [hr2]; simp [hc]
    clear hr2 hc
    go_enter Tryd.func39, Tryd.ntmps39
    go_wp2_with fail
    go_ret
    exact ⟨rfl, ((Chg.refl No _).alloc _).alloc _⟩

end Go.Proofs.YtncoanmgifgcbaaDoor
