/- Words of bytes: word.Get; slices.Equal over bytes. -/
import Derived.Test.YtncoanmgifgcbaaDoorImgA
namespace Go.Proofs.YtncoanmgifgcbaaDoor
set_option linter.unusedVariables false
set_option linter.unusedSimpArgs false
open Go.RowKit

def getOk (b : List Int) (at_ : Int) : Bool := decide (0 ≤ at_ ∧ at_ + 4 ≤ b.length)
/-- four bytes, as a word -/
def get4 (x0 x1 x2 x3 : Int) : Int := IntKind.i32.wrap (((x0 * 256 + x1) * 256 + x2) * 256 + x3)
def getV (b : List Int) (at_ : Int) : Int := if getOk b at_ = true then get4 (b[at_.toNat]?.getD 0) (b[at_.toNat + 1]?.getD 0) (b[at_.toNat + 2]?.getD 0) (b[at_.toNat + 3]?.getD 0) else 0
def getE (b : List Int) (at_ : Int) : Int := if getOk b at_ = true then 0 else 2
theorem ByteS.lay {w : World} {S : Nat → Prop} {b off n c : Nat} {l : List Int} (h : ByteS w S (.slice (some ⟨b, off, none⟩) n c) l) {i : Nat} (hi : i < l.length) : w.cell? ⟨b, off + i, none⟩ = some (.int .u8 (l[i]?.getD 0)) ∧ 0 ≤ l[i]?.getD 0 ∧ l[i]?.getD 0 ≤ 255 := by
  obtain ⟨A', c', eA, -, -, -, hat⟩ := h.form
  obtain ⟨b', off', e, -, -, y, z⟩ := hat i hi
  obtain ⟨rfl, -, -⟩ := Value.slice.inj eA
  obtain ⟨rfl, rfl⟩ : b = b' ∧ off = off' := by simpa using Option.some.inj e
  exact ⟨y, z⟩
theorem ByteS.some {w : World} {S : Nat → Prop} {A : Option Addr} {n c : Nat} {l : List Int} (h : ByteS w S (.slice A n c) l) (hl : 0 < l.length) : ∃ b off, A = .some ⟨b, off, none⟩ := by
  obtain ⟨A', c', eA, -, -, -, hat⟩ := h.form
  obtain ⟨b', off', e, -⟩ := hat 0 hl
  obtain ⟨rfl, -, -⟩ := Value.slice.inj eA
  exact ⟨b', off', e⟩
theorem or32 (n c : Int) (h : 0 ≤ c ∧ c ≤ 255) : bits .or .i32 (IntKind.i32.wrap (n * 256)) c = IntKind.i32.wrap (n * 256 + c) := by
  obtain ⟨k, rfl⟩ := Int.eq_ofNat_of_zero_le h.1
  have hk : k < 2 ^ 8 := by have := h.2; omega
  show IntKind.i32.wrap ((BitVec.ofInt 32 (IntKind.i32.wrap (n * 256)) ||| BitVec.ofInt 32 (k : Int)).toNat : Int) = _
  have e1 : (BitVec.ofInt 32 (IntKind.i32.wrap (n * 256))).toNat = (n % 16777216).toNat * 256 := by
    rw [BitVec.toNat_ofInt]
    show ((IntKind.i32.wrap (n * 256)) % ((2 ^ 32 : Nat) : Int)).toNat = _
    rw [IntKind.wrap_i32]
    omega
  have e2 : (BitVec.ofInt 32 (k : Int)).toNat = k := by
    rw [BitVec.toNat_ofInt]
    omega
  rw [BitVec.toNat_or, e1, e2, Nat.mul_comm, ← Nat.two_pow_add_eq_or_of_lt hk, IntKind.wrap_i32, IntKind.wrap_i32]
  omega

theorem get4_walk {x0 x1 x2 x3 : Int} (h0 : 0 ≤ x0 ∧ x0 ≤ 255) (h1 : 0 ≤ x1 ∧ x1 ≤ 255) (h2 : 0 ≤ x2 ∧ x2 ≤ 255) (h3 : 0 ≤ x3 ∧ x3 ≤ 255) :
    wrap64 (bits .or .i32 (wrap32 (bits .or .i32 (wrap32 (bits .or .i32 (x0 * 256) x1 * 256)) x2 * 256)) x3) = get4 x0 x1 x2 x3 := by
  have a1 : bits .or .i32 (x0 * 256) x1 = IntKind.i32.wrap (x0 * 256 + x1) := by
    have := or32 x0 x1 h1
    rwa [show IntKind.i32.wrap (x0 * 256) = x0 * 256 by rw [IntKind.wrap_i32]; omega] at this
  have e32 : ∀ x, wrap32 x = IntKind.i32.wrap x := fun x => by rw [IntKind.wrap_i32]; unfold wrap32; rfl
  have e64 : ∀ x, wrap64 x = IntKind.i64.wrap x := fun x => by rw [IntKind.wrap_i64]; unfold wrap64; rfl
  simp only [e32, e64]
  rw [a1, or32 _ _ h2, or32 _ _ h3]
  unfold get4
  simp only [IntKind.wrap_i32, IntKind.wrap_i64]
  omega

set_option maxRecDepth 100000 in
set_option maxHeartbeats 1000000 in
theorem Get_any (bv : Value) (l : List Int) (S : Nat → Prop) (w : World) (h : ByteS w S bv l) (at_ : Int) (h64 : In64 at_) :
    Calls Tryd.prog 88 #[bv, .int .i64 at_] w fun e w' => e = .returned (.tuple #[.int .i64 (getV l at_), .int .i64 (getE l at_)]) ∧ w = w' := by
  obtain ⟨A, c, rfl, hlc, hcm, -⟩ := h.form
  have hmax : l.length ≤ 9223372036854775807 := by unfold maxLen at hcm; simp at hcm; omega
  have hmc : c ≤ 9223372036854775807 := by unfold maxLen at hcm; simp at hcm; omega
  have hle := h64.2
  have hge := h64.1
  have w1 : IntKind.i64.wrap ((l.length : Int) - 4) = (l.length : Int) - 4 := IntWalk.i64_in _ (by omega)
  by_cases h0 : at_ < 0
  · have t1 : decide (at_ < 0) = true := decide_eq_true h0
    have e : getOk l at_ = false := by unfold getOk; exact decide_eq_false (by omega)
    rw [getV, getE, e]
    go_enter Tryd.func88, Tryd.ntmps88
    go_wp2_with fail
    go_ret2
    exact ⟨rfl, rfl⟩
  · obtain ⟨k, rfl⟩ := Int.eq_ofNat_of_zero_le (show 0 ≤ at_ by omega)
    have t1 : decide ((k : Int) < 0) = false := decide_eq_false (by omega)
    by_cases h1 : k + 4 ≤ l.length
    · have e : getOk l (k : Int) = true := by unfold getOk; exact decide_eq_true (by omega)
      have t2 : decide ((l.length : Int) - 4 < (k : Int)) = false := decide_eq_false (by omega)
      obtain ⟨b, off, rfl⟩ := h.some (by omega)
      obtain ⟨y0, z0⟩ := h.lay (i := k) (by omega)
      obtain ⟨y1, z1⟩ := h.lay (i := k + 1) (by omega)
      obtain ⟨y2, z2⟩ := h.lay (i := k + 2) (by omega)
      obtain ⟨y3, z3⟩ := h.lay (i := k + 3) (by omega)
      rw [getV, getE, e, if_pos rfl, if_pos rfl, Int.toNat_natCast]
      clear h
      rw [← Nat.add_assoc] at y1 y2 y3
      have w2 : IntKind.i64.wrap ((k : Int) + 4) = (k : Int) + 4 := IntWalk.i64_in _ (by omega)
      generalize l[k]?.getD 0 = x0 at *
      generalize l[k + 1]?.getD 0 = x1 at *
      generalize l[k + 2]?.getD 0 = x2 at *
      generalize l[k + 3]?.getD 0 = x3 at *
      go_enter Tryd.func88, Tryd.ntmps88
      go_wp2_with fail
      refine wp_loop_rounds 5 ?_
      iterate 5
        rw [rounds_succ]
        go_wp2_with fail
      rw [get4_walk z0 z1 z2 z3]
      go_ret2
      exact ⟨rfl, rfl⟩
    · have e : getOk l (k : Int) = false := by unfold getOk; exact decide_eq_false (by omega)
      have t2 : decide ((l.length : Int) - 4 < (k : Int)) = true := decide_eq_true (by omega)
      rw [getV, getE, e]
      go_enter Tryd.func88, Tryd.ntmps88
      go_wp2_with fail
      go_ret2
      exact ⟨rfl, rfl⟩

/-- are two slices of bytes the same? -/
theorem take_ne {l m : List Int} {i : Nat} (h : l.length = m.length) (hi : i < l.length) (ht : l.take i = m.take i) : (l.take (i + 1) = m.take (i + 1)) ↔ l[i]?.getD 0 = m[i]?.getD 0 := by
  rw [List.take_succ_eq_append_getElem hi, List.take_succ_eq_append_getElem (h ▸ hi), ht, List.getElem?_eq_getElem hi, List.getElem?_eq_getElem (h ▸ hi)]
  simp only [Option.getD_some]
  constructor
  · intro e
    simpa using List.append_cancel_left e
  · intro e
    rw [e]
set_option maxRecDepth 100000 in
set_option maxHeartbeats 1000000 in
theorem EqB_any (av bv : Value) (l m : List Int) (S S2 : Nat → Prop) (w : World) (ha : ByteS w S av l) (hb : ByteS w S2 bv m) :
    Calls Tryd.prog 55 #[av, bv] w fun e w' => e = .returned (.bool (decide (l = m))) ∧ Chg No w w' := by
  obtain ⟨A, c, rfl, hlc, hcm, -⟩ := ha.form
  obtain ⟨B, d, rfl, -⟩ := hb.form
  have hmax : l.length ≤ 9223372036854775807 := by unfold maxLen at hcm; simp at hcm; omega
  obtain ⟨r, hr⟩ : ∃ r, decide (l = m) = r := ⟨_, rfl⟩
  rw [hr]
  by_cases hn : l.length = m.length
  · have HA := Lib.hid ha
    have HB := Lib.hid hb
    have HN := Lib.hid hn
    have HRr := Lib.hid hr
    clear ha hb hlc hcm hr
    rw [← hn]
    generalize hp : l.length = n at *
    have HP := Lib.hid hp
    clear hp hn
    go_enter Tryd.func55, Tryd.ntmps55
    go_wp2_with fail
    go_loopg [13] n (fun j v13 wr => ∃ i : Nat, v13 = .int .i64 (i : Int) ∧ i ≤ n ∧ n - i ≤ j ∧ l.take i = m.take i ∧ Chg No w wr)
    case atStart => exact ⟨0, rfl, by omega, by omega, rfl, Chg.refl _ _⟩
    case round =>
      obtain ⟨i, rfl, i1, i2, ht, cw⟩ := hrel
      by_cases hi : i < n
      · have t1 : decide ((i : Int) < (n : Int)) = true := decide_eq_true (by omega)
        have l1 : (i : Int) < (n : Int) := by omega
        have hil : i < l.length := by rw [HP.out]; exact hi
        have him : i < m.length := by rw [← HN.out]; exact hi
        obtain ⟨b, off, rfl⟩ := HA.out.some (by omega)
        obtain ⟨b2, off2, rfl⟩ := HB.out.some (by omega)
        obtain ⟨y0, -⟩ := (HA.out.keep cw (fun _ _ f => f)).lay hil
        obtain ⟨y1, -⟩ := (HB.out.keep cw (fun _ _ f => f)).lay him
        have hk := take_ne (by rw [HP.out]; exact HN.out) hil ht
        generalize l[i]?.getD 0 = x at *
        generalize m[i]?.getD 0 = y at *
        have HC := Lib.hid cw
        clear cw
        by_cases hxy : x = y
        · have HT := Lib.hid (hk.2 hxy)
          subst hxy
          clear hk ht hil him
          go_wp2_with fail
          go_quiet (fail)
          go_wp2_with fail
          go_roundg (n - (i + 1))
          case measure => omega
          case rel => exact ⟨i + 1, by go_num, by omega, by omega, HT.out, HC.out.drewN _⟩
        · have t2 : (x != y) = true := by simpa using hxy
          obtain rfl : r = false := HRr.out.symm.trans (decide_eq_false (fun e => hxy (hk.1 (by rw [e]))))
          clear hk ht hil him hxy
          go_wp2_with fail
          go_quiet (fail)
          go_wp2_with fail
          go_ret
          exact ⟨rfl, HC.out.drewN _⟩
      · have t1 : decide ((i : Int) < (n : Int)) = false := decide_eq_false (by omega)
        obtain rfl : r = true := HRr.out.symm.trans (decide_eq_true (by
          rw [List.take_of_length_le (by rw [HP.out]; omega), List.take_of_length_le (by rw [← HN.out]; omega)] at ht
          exact ht))
        clear ht
        go_wp2_with fail
        go_ret
        exact ⟨rfl, cw⟩
  · obtain rfl : r = false := hr.symm.trans (decide_eq_false (fun e => hn (by rw [e])))
    have t0 : ((l.length : Int) != (m.length : Int)) = true := by simpa using fun h : (l.length : Int) = m.length => hn (by omega)
    clear ha hb
    go_enter Tryd.func55, Tryd.ntmps55
    go_wp2_with fail
    go_ret
    exact ⟨rfl, Chg.refl _ _⟩


set_option maxRecDepth 100000 in
set_option maxHeartbeats 1000000 in
theorem Grow_any (n : Nat) (hn : n ≤ 1000000000) (w : World) : Calls Tryd.prog 111 #[.slice none 0 0, .int .i64 n] w (Ret fun v w' => OwnB w' w.heap.size v [] ∧ Chg No w w') := by
  obtain ⟨i0, hi, hz0, hz1, hz2⟩ := info_parts info_u8
  by_cases h0 : n = 0
  · subst h0
    go_enter Tryd.func111, Tryd.ntmps111
    go_wp2_with fail
    go_ret
    exact Ret.mk ⟨OwnB.nil _ _, Chg.refl _ _⟩
  · have t0 : decide ((n : Int) < 0) = false := decide_eq_false (by omega)
    have t1 : decide (0 < (n : Int)) = true := decide_eq_true (by omega)
    have hr := Lib.run_append_nil_zeros (P := Tryd.prog) w 39 3 39 5 i0 (.int .u8 0) .i64 .i64 Tryd.underlying39 Tryd.underlying3 hi hz0 n (by omega) (by omega) (by omega) (by rw [hz2]; omega)
    obtain ⟨cp, hcp⟩ : ∃ cp, grownCap w n 0 5 = cp := ⟨_, rfl⟩
    have hc1 : n ≤ cp := by rw [← hcp]; exact grownCap_ge _ _ _ _
    have hc2 : cp ≤ maxLen := by rw [← hcp]; exact grownCap_le_maxLen _ _ _ _ (by unfold maxLen; omega)
    have hc3 : cp ≤ 9223372036854775807 := by unfold maxLen at hc2; simp at hc2; omega
    obtain ⟨W2, hW2⟩ : ∃ W2, w.drew.alloc (.cells (Builtin.zeroCells (Value.int .u8 0).cells n ++ Builtin.zeroCells (Value.int .u8 0).cells (cp - n)) 5) = W2 := ⟨_, rfl⟩
    rw [hcp, hW2] at hr
    have hrow := Row.new w.drew 5 (Builtin.zeroCells (Value.int .u8 0).cells n ++ Builtin.zeroCells (Value.int .u8 0).cells (cp - n))
    rw [hW2] at hrow
    have cW : Chg No w W2 := by rw [← hW2]; exact (Chg.refl _ _).drew.alloc _
    have HR := Lib.hid hr
    have HO := Lib.hid (And.intro hrow cW)
    clear hr hrow cW hW2
    go_enter Tryd.func111, Tryd.ntmps111
    go_wp2_with (at_builtin; refine Lib.wpList_append_run w rfl _ _ _ _ rfl _ _ rfl rfl _ _ HR.out ?_)
    go_ret
    refine Ret.mk ⟨⟨rfl, .inr ⟨w.heap.size, cp, _, rfl, Nat.le_refl _, HO.out.1, Nat.zero_le _, hc2, ?_, rfl⟩⟩, HO.out.2⟩
    rw [Array.size_append, size_zeroCells, size_zeroCells]
    show n * 1 + (cp - n) * 1 = cp * 1
    omega

/-- three slices of bytes, one behind the other -/
def Cats (w : World) (l : List Int) (v : Value) (w' : World) : Prop := OwnB w' w.heap.size v l ∧ Chg No w w'
set_option maxRecDepth 100000 in
set_option maxHeartbeats 2000000 in
theorem Concat_any (g : Nat) (t : TypeId) (va vb vc : Value) (a b c : List Int) (S S2 S3 : Nat → Prop) (w : World) (hr : Row w g t #[va, vb, vc]) (ha : ByteS w S va a) (hb : ByteS w S2 vb b) (hc : ByteS w S3 vc c) (hm : a.length + b.length + c.length ≤ 1000000000) :
    Calls Tryd.prog 87 #[.slice (some ⟨g, 0, none⟩) 3 3] w (Ret (Cats w (a ++ b ++ c))) := by
  have hg := hr.lt
  obtain ⟨A1, c1, rfl, -⟩ := ha.form
  obtain ⟨A2, c2, rfl, -⟩ := hb.form
  obtain ⟨A3, c3, rfl, -⟩ := hc.form
  have x0 := hr.cell 0
  have x1 := hr.cell 1
  have x2 := hr.cell 2
  simp at x0 x1 x2
  have HR := Lib.hid hr
  have HA := Lib.hid ha
  have HB := Lib.hid hb
  have HC := Lib.hid hc
  clear hr ha hb hc
  obtain ⟨na, hna⟩ : ∃ n, a.length = n := ⟨_, rfl⟩
  obtain ⟨nb, hnb⟩ : ∃ n, b.length = n := ⟨_, rfl⟩
  obtain ⟨nc, hnc⟩ : ∃ n, c.length = n := ⟨_, rfl⟩
  rw [hna] at x0
  rw [hnb] at x1
  rw [hnc] at x2
  have HN := Lib.hid (And.intro hna (And.intro hnb hnc))
  rw [hna, hnb, hnc] at hm
  have w1 : IntKind.i64.wrap (na : Int) = (na : Int) := IntWalk.i64_in _ (by omega)
  have w2 : IntKind.i64.wrap ((na : Int) + nb) = (na : Int) + nb := IntWalk.i64_in _ (by omega)
  have w3 : IntKind.i64.wrap ((na : Int) + nb + nc) = (na : Int) + nb + nc := IntWalk.i64_in _ (by omega)
  have t1 : decide ((na : Int) < 0) = false := decide_eq_false (by omega)
  have t2 : decide ((na : Int) + nb < 0) = false := decide_eq_false (by omega)
  have t3 : decide ((na : Int) + nb + nc < 0) = false := decide_eq_false (by omega)
  have e3 : (na : Int) + nb + nc = ((na + nb + nc : Nat) : Int) := by omega
  have HE := Lib.hid e3
  clear e3 hna hnb hnc
  go_enter Tryd.func87, Tryd.ntmps87
  go_wp2_with fail
  refine wp_loop_rounds 4 ?_
  iterate 3
    rw [rounds_succ]
    go_wp2_with fail
  rw [rounds_succ]
  go_wp2_with (first
    | (go_at_call 111
       have G := Grow_any (na + nb + nc) hm w
       rw [← HE.out] at G
       refine G.mono ?_
       clear G
       rintro e w4 ⟨v4, rfl, ho4, c4⟩
       obtain ⟨A5, c5, w5, hr5, ho5, cg5⟩ := app_bytes ho4 (HA.out.keep c4 (fun _ _ f => f)) (by have := HN.out.1; simp; omega) c4.size 39
       rw [List.nil_append] at hr5 ho5
       have c05 : Chg No w w5 := c4.then cg5 (fun k hk h => by omega)
       obtain ⟨A6, c6, w6, hr6, ho6, cg6⟩ := app_bytes ho5 (HB.out.keep c05 (fun _ _ f => f)) (by have := HN.out; omega) c05.size 39
       have c06 : Chg No w w6 := c05.then cg6 (fun k hk h => by omega)
       obtain ⟨A7, c7, w7, hr7, ho7, cg7⟩ := app_bytes ho6 (HC.out.keep c06 (fun _ _ f => f)) (by have := HN.out; rw [List.length_append]; omega) c06.size 39
       have c07 : Chg No w w7 := c06.then cg7 (fun k hk h => by omega)
       have y0 := (HR.out.keep c4 (fun f => f)).cell 0
       have y1 := (HR.out.keep c05 (fun f => f)).cell 1
       have y2 := (HR.out.keep c06 (fun f => f)).cell 2
       simp at y0 y1 y2
       rw [HN.out.1] at y0 hr5 hr6
       rw [HN.out.2.1] at y1
       rw [HN.out.2.2] at y2
       try rw [HN.out.2.1] at hr6
       try rw [HN.out.2.2] at hr7
       obtain ⟨A4, c4', hv4⟩ : ∃ A c, v4 = .slice A 0 c := ho4.form
       subst hv4
       obtain ⟨n6, hn6⟩ : ∃ n6, (a ++ b).length = n6 := ⟨_, rfl⟩
       obtain ⟨n7, hn7⟩ : ∃ n7, (a ++ b ++ c).length = n7 := ⟨_, rfl⟩
       rw [hn6] at hr6 hr7
       rw [hn7] at hr7
       unfold OwnB at ho7
       rw [hn7] at ho7
       have HN7 := Lib.hid hn7
       have HR5 := Lib.hid hr5
       have HR6 := Lib.hid hr6
       have HR7 := Lib.hid hr7
       have HO := Lib.hid (And.intro ho7 c07)
       clear x0 x1 x2 hn6 hn7 hr5 hr6 hr7 ho4 ho5 ho6 ho7 c4 cg5 c05 cg6 c06 cg7 c07)
    | (at_builtin; refine wpList_append_run rfl _ _ _ rfl rfl rfl HR5.out ?_)
    | fail)
  refine wp_loop_rounds 4 ?_
  iterate 4
    rw [rounds_succ]
    go_wp2_with (first
      | (at_builtin; refine wpList_append_run rfl _ _ _ rfl rfl rfl HR5.out ?_)
      | (at_builtin; refine wpList_append_run rfl _ _ _ rfl rfl rfl HR6.out ?_)
      | (at_builtin; refine wpList_append_run rfl _ _ _ rfl rfl rfl HR7.out ?_)
      | fail)
  go_ret
  exact Ret.mk ⟨by unfold OwnB; rw [HN7.out]; exact HO.out.1, HO.out.2⟩

end Go.Proofs.YtncoanmgifgcbaaDoor
