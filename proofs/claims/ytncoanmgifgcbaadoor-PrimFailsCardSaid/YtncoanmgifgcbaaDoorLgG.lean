/- Large numbers: Sub, Mul. -/
import Derived.Test.YtncoanmgifgcbaaDoorLgBC
import Derived.Test.YtncoanmgifgcbaaDoorLgF
import Derived.BigQuiet
import Derived.Deep.QuietTactic
namespace Go.Proofs.YtncoanmgifgcbaaDoor
set_option linter.unusedVariables false
set_option linter.unusedSimpArgs false
open Go.RowKit

theorem mul_step {O : List Int} {i k : Nat} {cy c d X Bk t : Int} (hj : i + k < O.length) (ht : cy + (O[i + k]?.getD 0 + c * d) = t) (h : val O + pw (i + k) * cy = X + c * pw i * Bk) :
    val (O.set (i + k) (t % 256)) + pw (i + (k + 1)) * (t / 256) = X + c * pw i * (Bk + pw k * d) := by
  rw [val_set O _ _ hj, show i + (k + 1) = (i + k) + 1 from rfl, pw_succ, Int.mul_sub]
  have e1 : pw (i + k) * t = pw (i + k) * cy + (pw (i + k) * O[i + k]?.getD 0 + pw (i + k) * (c * d)) := by rw [← ht, Int.mul_add, Int.mul_add]
  have e2 : 256 * pw (i + k) * (t / 256) + pw (i + k) * (t % 256) = pw (i + k) * t := by
    have h1 : 256 * (t / 256) + t % 256 = t := Int.mul_ediv_add_emod _ _
    conv => rhs; rw [← h1]
    rw [Int.mul_add, ← Int.mul_assoc, Int.mul_comm (pw (i + k)) 256]
  have e3 : c * pw i * (Bk + pw k * d) = c * pw i * Bk + pw (i + k) * (c * d) := by
    rw [Int.mul_add, pw_add]
    congr 1
    ac_rfl
  omega
theorem mul_end {O : List Int} {i lb : Nat} {cy A B : Int} (hO : By O) (hA : 0 ≤ A) (hA2 : A < pw (i + 1)) (hB : 0 ≤ B) (hB2 : B < pw lb) (h0 : 0 ≤ cy) (h : val O + pw (i + (lb + 1)) * cy = A * B) : cy = 0 := by
  have h1 := (val_bd hO).1
  have h2 : A * B ≤ A * pw lb := Int.mul_le_mul_of_nonneg_left (by omega) hA
  have h3 : A * pw lb < pw (i + 1) * pw lb := Int.mul_lt_mul_of_pos_right hA2 (pw_pos lb)
  rw [← pw_add, show i + 1 + lb = i + (lb + 1) by omega] at h3
  rcases (by omega : cy = 0 ∨ 1 ≤ cy) with h4 | h4
  · exact h4
  · have h5 : pw (i + (lb + 1)) * 1 ≤ pw (i + (lb + 1)) * cy := Int.mul_le_mul_of_nonneg_left h4 (Int.le_of_lt (pw_pos _))
    omega
theorem map_set_u8 (O : List Int) (j : Nat) (x : Int) : ((O.map (Value.int .u8)).toArray).setIfInBounds j (.int .u8 x) = ((O.set j x).map (Value.int .u8)).toArray := by
  rw [List.setIfInBounds_toArray, List.map_set]
theorem mul255_bd {c d : Int} (hc : 0 ≤ c ∧ c ≤ 255) (hd : 0 ≤ d ∧ d ≤ 255) : 0 ≤ c * d ∧ c * d ≤ 65025 := by
  refine ⟨Int.mul_nonneg hc.1 hd.1, ?_⟩
  have h1 : c * d ≤ c * 255 := Int.mul_le_mul_of_nonneg_left hd.2 hc.1
  omega

set_option maxRecDepth 100000 in
set_option maxHeartbeats 800000 in
theorem Sub_any (va vb : Value) (a b : List Int) (w : World) (ha : ByteS w (fun k => k < w.heap.size) va a) (hb : ByteS w (fun k => k < w.heap.size) vb b) (ra : rightD a = true) (rb : rightD b = true) :
    Calls Tryd.prog 73 #[va, vb] w fun e w' => ((val a < val b ∧ e = .returned (.tuple #[.slice none 0 0, .int .i64 4])) ∨ (val b ≤ val a ∧ ∃ v, e = .returned (.tuple #[v, .int .i64 0]) ∧ ByteS w' (fun k => w.heap.size ≤ k) v (dg (val a - val b).toNat))) ∧ Chg No w w' := by
  have la := right_len ra
  have lb := right_len rb
  have pa := (val_bd ha.by).1
  have pb := (val_bd hb.by).1
  have HRa := Lib.hid (Right_any _ a _ w ha)
  have HRb := Lib.hid (Right_any _ b _ w hb)
  rw [ra] at HRa
  rw [rb] at HRb
  have hCmp := Cmp_any va vb a b w ha hb
  have HAB := Lib.hid (And.intro ha hb)
  have HL := Lib.hid (And.intro (And.intro la lb) (And.intro ra rb))
  obtain ⟨A, c, rfl, -⟩ := ha.form
  obtain ⟨B, d, rfl, -⟩ := hb.form
  have tok : True := trivial
  by_cases hlt : val a < val b
  · have e1 : cmpN (val a).toNat (val b).toNat = -1 := by unfold cmpN; rw [if_pos (by omega)]
    rw [e1] at hCmp
    have HC := Lib.hid hCmp
    have HX := Lib.hid hlt
    clear ha hb ra rb la lb hCmp hlt pa pb e1
    generalize a.length = al at *
    generalize b.length = bl at *
    go_enter Tryd.func73, Tryd.ntmps73
    go_wp2_with (first
      | (go_at_call 97
         have _t := tok
         clear tok
         refine HRa.out.mono ?_
         rintro e w1 ⟨rfl, rfl⟩)
      | (go_at_call 97
         refine HRb.out.mono ?_
         rintro e w1 ⟨rfl, rfl⟩)
      | (go_at_call 103
         refine HC.out.mono ?_
         rintro e w1 ⟨rfl, b1⟩
         have HB := Lib.hid b1
         clear b1)
      | fail)
    go_ret2
    exact ⟨.inl ⟨HX.out, rfl⟩, Chg.of_below HB.out⟩
  · obtain ⟨r, hr⟩ : ∃ r, cmpN (val a).toNat (val b).toNat = r := ⟨_, rfl⟩
    rw [hr] at hCmp
    have hr0 : 0 ≤ r := by rw [← hr]; unfold cmpN; rw [if_neg (by omega)]; split <;> omega
    have t1 : decide (r < 0) = false := decide_eq_false (by omega)
    have hlen : b.length ≤ a.length := by
      have h1 := dg_val (by exact ha.by) (by have := ra; unfold rightD at this; simp at this; exact this.2)
      have h2 := dg_val (by exact hb.by) (by have := rb; unfold rightD at this; simp at this; exact this.2)
      rcases Nat.lt_or_ge a.length b.length with h3 | h3
      · have := dg_len_lt (a := (val a).toNat) (b := (val b).toNat) (by rw [h1, h2]; exact h3)
        omega
      · exact h3
    have HM := Lib.hid (fun w' (h : Below w.heap.size w w') => minus_any _ _ a b _ _ w' (ha.below h) (hb.below h) (by omega) hlen (by omega))
    have HC := Lib.hid hCmp
    have HX := Lib.hid hlt
    clear ha hb ra rb la lb hCmp hlt pa pb hr hr0 hlen
    generalize a.length = al at *
    generalize b.length = bl at *
    go_enter Tryd.func73, Tryd.ntmps73
    go_wp2_with (first
      | (go_at_call 97
         have _t := tok
         clear tok
         refine HRa.out.mono ?_
         rintro e w1 ⟨rfl, rfl⟩)
      | (go_at_call 97
         refine HRb.out.mono ?_
         rintro e w1 ⟨rfl, rfl⟩)
      | (go_at_call 103
         refine HC.out.mono ?_
         rintro e w1 ⟨rfl, b1⟩
         have HB := Lib.hid b1
         clear b1)
      | (go_at_call 104
         refine (HM.out _ HB.out).mono ?_
         rintro e w2 ⟨⟨v, rfl, hv⟩, c2⟩
         have HE := Lib.hid (And.intro hv c2)
         clear hv c2)
      | fail)
    go_ret2
    exact ⟨.inr ⟨by have := HX.out; omega, _, rfl, HE.out.1.more (fun k _ hk => Nat.le_trans HB.out.size hk)⟩, (Chg.of_below HB.out).trans HE.out.2⟩

set_option maxRecDepth 100000 in
set_option maxHeartbeats 800000 in
theorem Mul_any (va vb : Value) (a b : List Int) (S S2 : Nat → Prop) (w : World) (ha : ByteS w S va a) (hb : ByteS w S2 vb b) (ra : rightD a = true) (rb : rightD b = true) :
    Calls Tryd.prog 74 #[va, vb] w fun e w' => Told w' (fun k => w.heap.size ≤ k) (val a * val b).toNat e ∧ Chg No w w' := by
  have la := right_len ra
  have lb := right_len rb
  have HRa := Lib.hid (Right_any _ a _ w ha)
  have HRb := Lib.hid (Right_any _ b _ w hb)
  rw [ra] at HRa
  rw [rb] at HRb
  have HAB := Lib.hid (And.intro ha hb)
  obtain ⟨A, c, rfl, -⟩ := ha.form
  obtain ⟨B, d, rfl, -⟩ := hb.form
  have tok : True := trivial
  clear ha hb ra rb
  generalize hal : a.length = al at *
  generalize hbl : b.length = bl at *
  obtain ⟨n, hn⟩ : ∃ n, al + bl = n := ⟨_, rfl⟩
  have hnn : IntKind.i64.wrap ((al : Int) + (bl : Int)) = (n : Int) := (IntWalk.i64_in _ (by omega)).trans (by omega)
  have hmk := fun w => make_u8 n (by omega) w
  have hb1 : IntKind.i64.wrap ((bl : Int) + 1) = ((bl + 1 : Nat) : Int) := (IntWalk.i64_in _ (by omega)).trans (by omega)
  have HL := Lib.hid (And.intro (And.intro hal hbl) (And.intro hn (And.intro la lb)))
  clear hal hbl hn la lb
  go_enter Tryd.func74, Tryd.ntmps74
  go_wp2_with (first
    | (go_at_call 97
       have _t := tok
       clear tok
       refine HRa.out.mono ?_
       rintro e w1 ⟨rfl, rfl⟩)
    | (go_at_call 97
       refine HRb.out.mono ?_
       rintro e w1 ⟨rfl, rfl⟩)
    | fail)
  go_loopg [27] al (fun j v27 wr => ∃ (i : Nat) (O : List Int), v27 = .int .i64 (i : Int) ∧ i ≤ al ∧ al - i ≤ j ∧ O.length = n ∧ By O ∧ val O = val (a.take i) * val b ∧ Row wr w.heap.size 5 ((O.map (Value.int .u8)).toArray) ∧ Chg No w wr)
  case atStart => exact ⟨0, pad n [], rfl, by omega, by omega, by simp [pad], by intro x hx; simp [pad] at hx; omega, by simp [pad, val_zeros, val], Row.new _ _ _, (Chg.refl _ _).alloc _⟩
  case round =>
    obtain ⟨i, O, rfl, i1, i2, hO, hby, hv, hrow, cw⟩ := hrel
    by_cases hi : i < al
    · have t1 : decide ((i : Int) < (al : Int)) = true := decide_eq_true (by omega)
      have l1 : (i : Int) < (al : Int) := by omega
      obtain ⟨b0, off, rfl, -, hlt, hc, c0, c1⟩ := (HAB.out.1.keep cw (fun _ _ f => f)).getAt (i := i) (by have := HL.out; omega)
      obtain ⟨x, hx⟩ : ∃ x, a[i]?.getD 0 = x := ⟨_, rfl⟩
      rw [hx] at hc c0 c1
      have wx : IntKind.i64.wrap x = x := IntWalk.i64_in _ (by omega)
      have wi : IntKind.i64.wrap ((i : Int) + 1) = ((i + 1 : Nat) : Int) := (IntWalk.i64_in _ (by have := HL.out; omega)).trans (by omega)
      have hA := val_bd (HAB.out.1.by.take (i + 1))
      have hTS := val_take_succ a i
      rw [hx] at hTS
      rw [List.length_take, Nat.min_eq_left (by have := HL.out; omega)] at hA
      have hB := val_bd HAB.out.2.by
      have HX := Lib.hid (And.intro c0 c1)
      have HT := Lib.hid (And.intro hTS (And.intro hA hB))
      have HV := Lib.hid (And.intro hO (And.intro hby hv))
      have HC := Lib.hid (And.intro hrow cw)
      clear hx c0 c1 hA hTS hB hO hby hv hrow cw
      go_wp2_with fail
      go_loopg [9, 35] (bl + 1) (fun j v9 v35 wr => ∃ (k : Nat) (O : List Int) (cy : Int), v9 = .int .i64 cy ∧ v35 = .int .i64 (k : Int) ∧ k ≤ bl + 1 ∧ bl + 1 - k ≤ j ∧ O.length = n ∧ By O ∧ val O + pw (i + k) * cy = val (a.take i) * val b + x * pw i * val (b.take k) ∧ 0 ≤ cy ∧ cy ≤ 255 ∧ Row wr w.heap.size 5 ((O.map (Value.int .u8)).toArray) ∧ Chg No w wr)
      case atStart => exact ⟨0, O, 0, rfl, rfl, by omega, by omega, HV.out.1, HV.out.2.1, by rw [HV.out.2.2, List.take_zero, val]; simp, by omega, by omega, HC.out.1, HC.out.2⟩
      case round =>
        obtain ⟨k, O, cy, rfl, rfl, k1, k2, hO, hby, hv, cy0, cy1, hrow, cw⟩ := hrel
        by_cases hk : k < bl + 1
        · have t2 : decide ((k : Int) < ((bl + 1 : Nat) : Int)) = true := decide_eq_true (by omega)
          have hnb : i + k < n := by have := HL.out; omega
          have ij : IntKind.i64.wrap ((i : Int) + (k : Int)) = ((i + k : Nat) : Int) := (IntWalk.i64_in _ (by have := HL.out; omega)).trans (by omega)
          have t3 : decide (((i + k : Nat) : Int) < (n : Int)) = true := decide_eq_true (by omega)
          have l3 : ((i + k : Nat) : Int) < (n : Int) := by omega
          have wk : IntKind.i64.wrap ((k : Int) + 1) = ((k + 1 : Nat) : Int) := (IntWalk.i64_in _ (by have := HL.out; omega)).trans (by omega)
          obtain ⟨y, hy⟩ : ∃ y, O[i + k]?.getD 0 = y := ⟨_, rfl⟩
          obtain ⟨z, hz⟩ : ∃ z, b[k]?.getD 0 = z := ⟨_, rfl⟩
          have bY := hby.at (i + k)
          have bZ := HAB.out.2.by.at k
          rw [hy] at bY
          rw [hz] at bZ
          have cc : wr.cell? ⟨w.heap.size, i + k, none⟩ = some (.int .u8 y) := by
            rw [hrow.cell (i + k), ← hy]
            have hl : i + k < O.length := by omega
            simp [List.getElem?_eq_getElem hl]
          have ff : wr.frozen? ⟨w.heap.size, i + k, none⟩ = false := hrow.frozen (i + k)
          have hd : ∀ W, Chg No wr W → Calls Tryd.prog 105 #[.slice B bl d, .int .i64 (k : Int)] W fun e w' => e = .returned (.int .i64 z) ∧ w' = W := fun W hW => by
            refine (digit_any _ b S2 W ((HAB.out.2.keep cw (fun _ _ f => f)).keep hW (fun _ _ f => f)) k).mono ?_
            rw [hz]
            exact fun e w' h => ⟨h.1, h.2.symm⟩
          have hm := mul255_bd HX.out bZ
          have w0 : IntKind.i64.wrap y = y := IntWalk.i64_in _ (by omega)
          have w1 : IntKind.i64.wrap (x * z) = x * z := IntWalk.i64_in _ (by omega)
          have w2 : IntKind.i64.wrap (y + x * z) = y + x * z := IntWalk.i64_in _ (by omega)
          obtain ⟨t, ht⟩ : ∃ t, cy + (y + x * z) = t := ⟨_, rfl⟩
          have w3 : IntKind.i64.wrap (cy + (y + x * z)) = t := (IntWalk.i64_in _ (by omega)).trans ht
          have w4 : IntKind.u8.wrap t = t % 256 := rfl
          have w5 : IntKind.i64.wrap (t / 256) = t / 256 := IntWalk.i64_in _ (by omega)
          have tb : 0 ≤ t ∧ t ≤ 65535 := by omega
          have HD := Lib.hid hd
          have HS := Lib.hid (And.intro (And.intro hy hz) (And.intro ht tb))
          have HI := Lib.hid (And.intro (And.intro hO hby) (And.intro hv (And.intro hrow cw)))
          clear hd hy hz ht tb hO hby hv hrow cw bY bZ hm cy0 cy1
          go_wp2_with fail
          go_quiet (first | (go_at_call 105; refine Calls.quiet_of_same (HD.out _ ((Chg.refl _ _).drewN _))) | fail)
          go_wp2_with fail
          go_roundg (bl + 1 - (k + 1))
          case measure => omega
          case rel =>
            obtain ⟨⟨h1, h2⟩, h3, h4, h5⟩ := HI.out
            obtain ⟨⟨g1, g2⟩, g3, g4, g5⟩ := HS.out
            refine ⟨k + 1, O.set (i + k) (t % 256), t / 256, rfl, by go_num, by omega, by omega, by rw [List.length_set]; exact h1, h2.set _ (by omega), ?_, by omega, by omega, ?_, ?_⟩
            · rw [val_take_succ, g2]
              exact mul_step (by omega) (by rw [g1]; exact g3) h3
            · have := (h4.keep ((Chg.refl (F := No) wr).drewN nq) (fun f => f)).set (i + k) (.int .u8 (t % 256))
              rw [map_set_u8] at this
              exact this
            · exact (h5.drewN nq).setCell (.inr (Nat.le_refl _)) _
        · obtain rfl : k = bl + 1 := by omega
          have t2 : decide (((bl + 1 : Nat) : Int) < ((bl + 1 : Nat) : Int)) = false := decide_eq_false (by omega)
          have hval : val O = val (a.take (i + 1)) * val b := by
            have h1 := HL.out
            obtain ⟨e1, e2, e3⟩ := HT.out
            rw [List.take_of_length_le (l := b) (by omega), show val (a.take i) * val b + x * pw i * val b = val (a.take (i + 1)) * val b by rw [e1, Int.add_mul, Int.mul_comm x]] at hv
            have hc := mul_end hby e2.1 e2.2 e3.1 (by rw [h1.1.2] at e3; exact e3.2) cy0 hv
            rw [hc, Int.mul_zero] at hv
            omega
          have HI := Lib.hid (And.intro (And.intro hO hby) (And.intro hval (And.intro hrow cw)))
          clear hO hby hval hrow cw hv cy0 cy1
          go_wp2_with fail
          go_roundg (al - (i + 1))
          case measure => omega
          case rel => exact ⟨i + 1, O, by go_num, by omega, by omega, HI.out.1.1, HI.out.1.2, HI.out.2.1, HI.out.2.2.1, HI.out.2.2.2⟩
    · obtain rfl : i = al := by omega
      have t1 : decide ((i : Int) < (i : Int)) = false := decide_eq_false (by omega)
      have hb := row_bytes (q := O) (by rw [pad_full hO]; exact hrow) hO hby (by have := HL.out; omega) (fun k => w.heap.size ≤ k) (Nat.le_refl _)
      have ht := told_any _ O _ wr hb
      rw [hv, List.take_of_length_le (by have := HL.out; omega)] at ht
      have HTo := Lib.hid ht
      have HC := Lib.hid cw
      clear ht hb hv hrow cw hby hO
      unfold Told at HTo
      go_wp2_with (first
        | (go_at_call 102
           refine HTo.out.mono ?_
           rintro e w2 ⟨⟨h4, v2, rfl, hb2⟩ | ⟨h4, rfl⟩, c2⟩
           rotate_left)
        | fail)
      · go_ret2
        exact ⟨.inr ⟨h4, rfl⟩, HC.out.trans c2⟩
      · go_ret2
        exact ⟨.inl ⟨h4, _, rfl, hb2⟩, HC.out.trans c2⟩

end Go.Proofs.YtncoanmgifgcbaaDoor
