/- Which of many are taken: bits.Map. -/
import Derived.Test.YtdpmmafkomchaaaSecD
import Derived.Test.YtdpmmafkomchaaaRegion
namespace Go.Proofs.Ytdpmmafkomchaaa
set_option linter.unusedVariables false
set_option linter.unusedSimpArgs false
open Go.RowKit

def wcells (ws : List Nat) : List Value := ws.map fun (x : Nat) => Value.int .u64 (x : Int)
/-- block b is a map of N bits, its words ws in block h -/
structure BitI (w : World) (b h N : Nat) (ws : List Nat) : Prop where
  row : Row w b 118 #[.int .i64 N, .slice (some ⟨h, 0, none⟩) ws.length ws.length]
  wrow : Row w h 124 (wcells ws).toArray
  len : ws.length = (N + 63) / 64
  small : ∀ x ∈ ws, x < 2 ^ 64
  over : ∀ i, N ≤ i → bitT ws i = false
  max : N ≤ 65536
theorem BitI.keep {w w' : World} {b h N : Nat} {ws : List Nat} {F : Nat → Prop} (H : BitI w b h N ws) (c : Chg F w w') (hb : ¬ F b) (hh : ¬ F h) : BitI w' b h N ws :=
  ⟨H.row.keep c hb, H.wrow.keep c hh, H.len, H.small, H.over, H.max⟩
theorem BitI.ne {w : World} {b h N : Nat} {ws : List Nat} (H : BitI w b h N ws) : b ≠ h := H.row.ne H.wrow (by decide)
theorem BitI.cell {w : World} {b h N : Nat} {ws : List Nat} (H : BitI w b h N ws) {i : Nat} (hi : i < N) : w.cell? ⟨h, i / 64, none⟩ = some (.int .u64 (ws[i / 64]?.getD 0 : Nat)) ∧ i / 64 < ws.length ∧ ws[i / 64]?.getD 0 < 2 ^ 64 := by
  have hl := H.len
  have hk : i / 64 < ws.length := by omega
  refine ⟨?_, hk, ?_⟩
  · rw [H.wrow.cell]
    simp [wcells, hk]
  · rw [List.getElem?_eq_getElem hk]
    exact H.small _ (List.getElem_mem hk)

set_option maxHeartbeats 400000 in
theorem Has_in {w : World} {b h N : Nat} {ws : List Nat} (H : BitI w b h N ws) (i : Nat) (hi : i < N) :
    Calls Try.prog 76 #[.pointer (some ⟨b, 0, none⟩), .int .i64 i] w fun e w' => e = .returned (.bool (bitT ws i)) ∧ w = w' := by
  obtain ⟨c2, hk, h64⟩ := H.cell hi
  have c0 : w.cell? ⟨b, 0, none⟩ = some (.int .i64 N) := H.row.cell 0
  have c1 : w.cell? ⟨b, 1, none⟩ = some (.slice (some ⟨h, 0, none⟩) ws.length ws.length) := H.row.cell 1
  have hbit : (bits .and .u64 ((ws[i / 64]?.getD 0 : Nat) / 2 ^ (i % 64) : Int) 1 == 1) = bitT ws i := by
    have h1 := and1_u64 (ws[i / 64]?.getD 0 / 2 ^ (i % 64)) (Nat.lt_of_le_of_lt (Nat.div_le_self _ _) h64)
    rw [Int.natCast_ediv, Int.natCast_pow] at h1
    rw [bitT_div, show ((2 : Nat) : Int) = 2 from rfl] at *
    rw [h1]
    generalize ws[i / 64]?.getD 0 / 2 ^ (i % 64) % 2 = y
    rw [Bool.eq_iff_iff]
    simp
    omega
  have hmax := H.max
  generalize ws[i / 64]?.getD 0 = x at *
  generalize ws.length = n at *
  generalize bitT ws i = r at *
  clear H h64
  go_enter Try.func76, Try.ntmps76
  go_wp2_with fail
  go_ret
  exact ⟨rfl, rfl⟩

/-- a run of bits turned -/
def flips (ws : List Nat) (f : Nat) : Nat → List Nat
  | 0 => ws
  | n + 1 => flipW (flips ws f n) (f + n)
theorem flips_len (ws : List Nat) (f : Nat) : ∀ n, (flips ws f n).length = ws.length
  | 0 => rfl
  | n + 1 => (flipW_len _ _).trans (flips_len ws f n)
theorem flips_small {ws : List Nat} (f : Nat) (h : ∀ x ∈ ws, x < 2 ^ 64) : ∀ n, ∀ x ∈ flips ws f n, x < 2 ^ 64
  | 0 => h
  | n + 1 => flipW_small (flips_small f h n)
theorem flips_bit {ws : List Nat} {f : Nat} : ∀ n, f + n ≤ 64 * ws.length → ∀ j, bitT (flips ws f n) j = if f ≤ j ∧ j < f + n then !bitT ws j else bitT ws j
  | 0, _, j => by rw [if_neg (by omega)]; rfl
  | n + 1, h, j => by
    have ih := flips_bit (ws := ws) (f := f) n (by omega)
    show bitT (flipW (flips ws f n) (f + n)) j = _
    rw [flipW_bit (by rw [flips_len]; omega), ih, ih]
    by_cases e : j = f + n
    · subst e
      rw [if_pos rfl, if_neg (by omega), if_pos (by omega)]
    · rw [if_neg e]
      by_cases h1 : f ≤ j ∧ j < f + n
      · rw [if_pos h1, if_pos (by omega)]
      · rw [if_neg h1, if_neg (by omega)]
theorem BitI.words {w : World} {b h N : Nat} {ws : List Nat} (H : BitI w b h N ws) : N ≤ 64 * ws.length := by
  have := H.len; omega
/-- the map behind a word that is stored -/
theorem BitI.flip {w : World} {b h N : Nat} {ws : List Nat} (H : BitI w b h N ws) {k : Nat} (hk : k < N) : BitI (w.setCell ⟨h, k / 64, none⟩ (.int .u64 ((ws[k / 64]?.getD 0 ^^^ 2 ^ (k % 64) : Nat) : Int))) b h N (flipW ws k) := by
  have hl := H.len
  refine ⟨?_, ?_, by rw [flipW_len]; exact hl, flipW_small H.small, fun i hi => ?_, H.max⟩
  · rw [flipW_len]
    exact H.row.other H.ne _
  · have := H.wrow.set (k / 64) (.int .u64 ((ws[k / 64]?.getD 0 ^^^ 2 ^ (k % 64) : Nat) : Int))
    have e : (wcells (flipW ws k)).toArray = (wcells ws).toArray.setIfInBounds (k / 64) (.int .u64 ((ws[k / 64]?.getD 0 ^^^ 2 ^ (k % 64) : Nat) : Int)) := by
      unfold wcells flipW
      rw [List.setIfInBounds_toArray, List.map_set]
    rw [e]
    exact this
  · rw [flipW_bit (by omega), if_neg (by omega)]
    exact H.over i hi

set_option maxRecDepth 100000 in
set_option maxHeartbeats 1000000 in
theorem change_ok {w : World} {b h N : Nat} {ws : List Nat} (H : BitI w b h N ws) (f n : Nat) (was : Bool) (no : Int) (hn : 1 ≤ n) (hf : f + n ≤ N) (hall : ∀ i, i < n → bitT ws (f + i) = was) :
    Calls Try.prog 77 #[.pointer (some ⟨b, 0, none⟩), .int .i64 f, .int .i64 n, .bool was, .int .i64 no] w fun e w' => e = .returned (.int .i64 0) ∧ BitI w' b h N (flips ws f n) ∧ Chg (fun k => k = h) w w' := by
  have c0 : w.cell? ⟨b, 0, none⟩ = some (.int .i64 N) := H.row.cell 0
  have hmax := H.max
  have HALL := Lib.hid hall
  have HH := Lib.hid H
  have t1 : decide ((n : Int) < 1) = false := decide_eq_false (by omega)
  have t2 : decide ((f : Int) < 0) = false := decide_eq_false (by omega)
  have t3 : decide (N < f) = false := decide_eq_false (by omega)
  have t4 : decide ((N : Int) - f < n) = false := decide_eq_false (by omega)
  have t5 : decide ((N : Int) < f) = false := decide_eq_false (by omega)
  clear hall H
  go_enter Try.func77, Try.ntmps77
  go_wp2_with fail
  go_loopg [43] n (fun j v43 wr => ∃ i : Nat, v43 = .int .i64 (i : Int) ∧ i ≤ n ∧ n - i ≤ j ∧ wr = w)
  case atStart => exact ⟨0, rfl, by omega, by omega, rfl⟩
  case round =>
    obtain ⟨i, rfl, i1, i2, hwr⟩ := hrel
    have hwr' := hwr.symm
    subst hwr'
    by_cases hi : i < n
    · have HB := Lib.hid (HALL.out i hi)
      go_wp2_with (first
        | (go_at_call 76; refine (Has_in HH.out (f + i) (by omega)).mono ?_; rw [HB.out]; rintro e w' ⟨rfl, rfl⟩)
        | fail)
      go_roundg (n - (i + 1))
      case measure => omega
      case rel => exact ⟨i + 1, by go_num, by omega, by omega, rfl⟩
    · obtain rfl : i = n := by omega
      go_wp2_with fail
      go_loopg [56] i (fun j v56 wr => ∃ k : Nat, v56 = .int .i64 (k : Int) ∧ k ≤ i ∧ i - k ≤ j ∧ BitI wr b h N (flips ws f k) ∧ Chg (fun k => k = h) w wr)
      case atStart => exact ⟨0, rfl, by omega, by omega, HH.out, Chg.refl _ _⟩
      case round =>
        obtain ⟨k, rfl, k1, k2, hm, cw⟩ := hrel
        by_cases hk : k < i
        · have hfk : f + k < N := by omega
          obtain ⟨d2, hw2, h64⟩ := hm.cell hfk
          have d1 : wr.cell? ⟨b, 1, none⟩ = some (.slice (some ⟨h, 0, none⟩) (flips ws f k).length (flips ws f k).length) := hm.row.cell 1
          have ff : wr.frozen? ⟨h, (f + k) / 64, none⟩ = false := hm.wrow.frozen _
          have HM := Lib.hid (hm.flip hfk)
          have hx : bits .xor .u64 ((flips ws f k)[(f + k) / 64]?.getD 0 : Nat) (IntKind.u64.wrap (2 ^ ((f + k) % 64))) = (((flips ws f k)[(f + k) / 64]?.getD 0 ^^^ 2 ^ ((f + k) % 64) : Nat) : Int) := by
            have hp : (2 : Nat) ^ ((f + k) % 64) < 2 ^ 64 := Nat.pow_lt_pow_right (by decide) (by omega)
            rw [show (2 : Int) ^ ((f + k) % 64) = ((2 ^ ((f + k) % 64) : Nat) : Int) by rw [Int.natCast_pow]; rfl, wrap_u64 _ hp]
            exact xor_u64 _ _ h64 hp
          generalize (flips ws f k)[(f + k) / 64]?.getD 0 = x at *
          generalize (flips ws f k).length = n2 at *
          clear hm h64
          go_wp2_with fail
          go_region
          go_wp2_with fail
          go_roundg (i - (k + 1))
          case measure => omega
          case rel =>
            refine ⟨k + 1, by go_num, by omega, by omega, ?_, (Chg.setCell (F := fun k => k = h) cw (.inl rfl) _).drew⟩
            exact HM.out.keep (F := No) (Chg.refl _ _).drew (fun f => f) (fun f => f)
        · obtain rfl : k = i := by omega
          have HR := Lib.hid (And.intro hm cw)
          clear hm cw
          go_wp2_with fail
          go_ret
          exact ⟨rfl, HR.out.1, HR.out.2⟩

set_option maxHeartbeats 400000 in
theorem Take_ok {w : World} {b h N : Nat} {ws : List Nat} (H : BitI w b h N ws) (f n : Nat) (hn : 1 ≤ n) (hf : f + n ≤ N) (hall : ∀ i, i < n → bitT ws (f + i) = false) :
    Calls Try.prog 54 #[.pointer (some ⟨b, 0, none⟩), .int .i64 f, .int .i64 n] w fun e w' => e = .returned (.int .i64 0) ∧ BitI w' b h N (flips ws f n) ∧ Chg (fun k => k = h) w w' := by
  have HQ := Lib.hid (change_ok H f n false 3 hn hf hall)
  clear H hall
  go_enter Try.func54, Try.ntmps54
  go_wp2_with (first
    | (go_at_call 77; refine HQ.out.mono ?_; rintro e w1 ⟨rfl, h1⟩; have H1 := Lib.hid h1; clear h1)
    | fail)
  go_ret
  exact ⟨rfl, H1.out⟩

set_option maxHeartbeats 400000 in
theorem FreeB_ok {w : World} {b h N : Nat} {ws : List Nat} (H : BitI w b h N ws) (f n : Nat) (hn : 1 ≤ n) (hf : f + n ≤ N) (hall : ∀ i, i < n → bitT ws (f + i) = true) :
    Calls Try.prog 61 #[.pointer (some ⟨b, 0, none⟩), .int .i64 f, .int .i64 n] w fun e w' => e = .returned (.int .i64 0) ∧ BitI w' b h N (flips ws f n) ∧ Chg (fun k => k = h) w w' := by
  have HQ := Lib.hid (change_ok H f n true 4 hn hf hall)
  clear H hall
  go_enter Try.func61, Try.ntmps61
  go_wp2_with (first
    | (go_at_call 77; refine HQ.out.mono ?_; rintro e w1 ⟨rfl, h1⟩; have H1 := Lib.hid h1; clear h1)
    | fail)
  go_ret
  exact ⟨rfl, H1.out⟩

/-- how many bits are set -/
def takenN (ws : List Nat) : Nat := (ws.map (popN 64)).sum
theorem popN_le (n x : Nat) : popN n x ≤ n := by
  unfold popN
  exact Nat.le_trans (List.countP_le_length) (by simp)
theorem takenN_snoc {ws : List Nat} {i : Nat} (hi : i < ws.length) : takenN (ws.take (i + 1)) = takenN (ws.take i) + popN 64 (ws[i]?.getD 0) := by
  unfold takenN
  rw [List.take_succ_eq_append_getElem hi, List.map_append, List.sum_append, List.getElem?_eq_getElem hi]
  simp
theorem takenN_le : ∀ ws : List Nat, takenN ws ≤ 64 * ws.length
  | [] => Nat.le_refl _
  | x :: ws => by
    have h1 := takenN_le ws
    have h2 := popN_le 64 x
    unfold takenN at h1 ⊢
    rw [List.map_cons, List.sum_cons, List.length_cons]
    omega

set_option maxHeartbeats 400000 in
theorem Taken_any {w : World} {b h N : Nat} {ws : List Nat} (H : BitI w b h N ws) :
    Calls Try.prog 56 #[.pointer (some ⟨b, 0, none⟩)] w fun e w' => e = .returned (.int .i64 (takenN ws)) ∧ w = w' := by
  have c1 : w.cell? ⟨b, 1, none⟩ = some (.slice (some ⟨h, 0, none⟩) ws.length ws.length) := H.row.cell 1
  have hl : ws.length ≤ 2000 := by have := H.len; have := H.max; omega
  have HH := Lib.hid H
  generalize hn : ws.length = n at *
  have HN := Lib.hid hn
  obtain ⟨T, hT⟩ : ∃ T, T = takenN ws := ⟨_, rfl⟩
  rw [← hT]
  have HTT := Lib.hid hT
  clear H hn hT
  go_enter Try.func56, Try.ntmps56
  go_wp2_with fail
  go_loopg [3, 13] n (fun j v3 v13 wr => ∃ i : Nat, v13 = .int .i64 (i : Int) ∧ v3 = .int .i64 (takenN (ws.take i)) ∧ i ≤ n ∧ n - i ≤ j ∧ wr = w)
  case atStart => exact ⟨0, rfl, rfl, by omega, by omega, rfl⟩
  case round =>
    obtain ⟨i, rfl, rfl, i1, i2, hwr⟩ := hrel
    have hwr' := hwr.symm
    subst hwr'
    by_cases hi : i < n
    · have hi' : i < ws.length := by rw [HN.out]; exact hi
      have e0 : w.cell? ⟨h, i, none⟩ = some (.int .u64 (ws[i]?.getD 0 : Nat)) := by
        rw [HH.out.wrow.cell]
        simp [wcells, hi']
      have e1 : ws[i]?.getD 0 < 18446744073709551616 := by
        rw [List.getElem?_eq_getElem hi']
        exact HH.out.small _ (List.getElem_mem hi')
      have hs := takenN_snoc hi'
      have hb1 := takenN_le (ws.take i)
      rw [List.length_take] at hb1
      have hb2 := popN_le 64 (ws[i]?.getD 0)
      have HS := Lib.hid hs
      have HO := fun w => OnesCount64_any _ e1 w
      generalize ws[i]?.getD 0 = x at *
      generalize takenN (ws.take i) = a at *
      generalize popN 64 x = p at *
      have hb3 : a ≤ 130000 := by omega
      clear hs hb1 e1
      go_wp2_with (first
        | (go_at_call 79; refine (HO w).mono ?_; rintro e w' ⟨rfl, rfl⟩)
        | fail)
      go_roundg (n - (i + 1))
      case measure => omega
      case rel => exact ⟨i + 1, by go_num, by rw [HS.out]; go_num, by omega, by omega, rfl⟩
    · obtain rfl : i = n := by omega
      have HT := Lib.hid (show ws.take i = ws from List.take_of_length_le (by rw [HN.out]; omega))
      rw [HT.out, ← HTT.out]
      go_wp2_with fail
      go_ret
      exact ⟨rfl, rfl⟩

theorem info_u64 : (Try.prog.info? 124).map (fun i => (i.zero, i.size, i.bytes)) = some (some (.int .u64 0), 1, 8) := by kernel_rfl

/-- what New gives: a map of N bits, none of which is set -/
def BitsNew (w : World) (N : Nat) (v : Value) (w' : World) : Prop := ∃ b h, v = .tuple #[.pointer (some ⟨b, 0, none⟩), .int .i64 0] ∧ w.heap.size ≤ b ∧ w.heap.size ≤ h ∧ BitI w' b h N (List.replicate ((N + 63) / 64) 0) ∧ Chg No w w'
theorem bitT_zero (n i : Nat) : bitT (List.replicate n 0) i = false := by
  unfold bitT
  rw [List.getElem?_replicate]
  split <;> simp

set_option maxRecDepth 100000 in
set_option maxHeartbeats 400000 in
theorem BitsNew_ok (N : Nat) (hN : N ≤ 65536) (w : World) : Calls Try.prog 47 #[.int .i64 N] w (Ret (BitsNew w N)) := by
  obtain ⟨i0, hi, hz0, hz1, hz2⟩ := info_parts info_u64
  have Hz := Lib.hid (And.intro hz0 (And.intro hz1 hz2))
  clear hz0 hz1 hz2
  have t1 : decide ((N : Int) < 0) = false := decide_eq_false (by omega)
  have t2 : decide ((65536 : Int) < N) = false := decide_eq_false (by omega)
  go_enter Try.func47, Try.ntmps47
  go_wp2_with (first
    | (at_make; refine wpList_make_full _ rfl _ _ _ rfl w.heap.size 124 i0 (.int .u64 0) 1 Try.underlying116 hi Hz.out.1 Hz.out.2.1 _ _ _ _ ((N + 63) / 64) rfl rfl (by omega) (by omega) (by rw [Hz.out.2.2]; omega) (by unfold maxLen; omega) (Nat.le_refl _) ?_; intro w1 hown hgrow; have HO := Lib.hid (And.intro hown hgrow); clear hown hgrow)
    | fail)
  go_ret2
  have hr := own_row HO.out.1
  have hc : Chg No w w1 := (Chg.refl _ _).grown HO.out.2 (by simp)
  have e : (madeCells (Value.int IntKind.u64 0).cells ((N + 63) / 64 * 1)).toList = wcells (List.replicate ((N + 63) / 64) 0) := by
    rw [show (Value.int IntKind.u64 0).cells = #[Value.int .u64 0] from rfl, toList_madeCells_one, Nat.mul_one]
    unfold wcells
    rw [List.map_replicate]
    rfl
  rw [e] at hr
  have hr' : Row w1 w.heap.size 124 (wcells (List.replicate ((N + 63) / 64) 0)).toArray := hr
  refine Ret.mk ⟨_, w.heap.size, rfl, hc.size, Nat.le_refl _, ⟨?_, hr'.alloc _, by simp, ?_, fun i _ => bitT_zero _ _, hN⟩, hc.alloc _⟩
  · rw [List.length_replicate]
    exact Row.new _ _ _
  · intro x hx
    rw [List.mem_replicate] at hx
    rw [hx.2]
    decide

set_option maxRecDepth 100000 in
set_option maxHeartbeats 400000 in
theorem First_any {w : World} {b h N : Nat} {ws : List Nat} (H : BitI w b h N ws) (n : Nat) (hn : 1 ≤ n) (hm : n ≤ 1000000) :
    Calls Try.prog 53 #[.pointer (some ⟨b, 0, none⟩), .int .i64 n] w fun e w' => e = .returned (.tuple #[.int .i64 ((firstB (bitT ws) N n).getD 0 : Nat), .bool (firstB (bitT ws) N n).isSome]) ∧ w = w' := by
  have c0 : w.cell? ⟨b, 0, none⟩ = some (.int .i64 N) := H.row.cell 0
  have hmax := H.max
  have HH := Lib.hid H
  have t1 : decide ((n : Int) < 1) = false := decide_eq_false (by omega)
  obtain ⟨R, hR⟩ : ∃ R, R = firstB (bitT ws) N n := ⟨_, rfl⟩
  rw [← hR]
  have HR := Lib.hid hR
  clear H hR
  go_enter Try.func53, Try.ntmps53
  go_wp2_with fail
  go_step3
  go_wp2_with fail
  go_step3
  go_wp2_with fail
  go_loopg [6] (N + 1) (fun j v6 wr => ∃ f : Nat, v6 = .int .i64 (f : Int) ∧ N + 1 - f ≤ j ∧ f ≤ N ∧ (∀ g, g < f → ¬ (g + n ≤ N ∧ freeB (bitT ws) g n = true)) ∧ wr = w)
  case atStart => exact ⟨0, rfl, by omega, by omega, fun g hg => by omega, rfl⟩
  case round =>
    obtain ⟨f, rfl, f1, f2, hno, hwr⟩ := hrel
    have hwr' := hwr.symm
    subst hwr'
    have HNO := Lib.hid hno
    clear hno
    by_cases hfn : f + n ≤ N
    · have t2 : decide ((n : Int) ≤ (N : Int) - (f : Int)) = true := decide_eq_true (by omega)
      go_wp2_with fail
      go_loopg [6, 7] n (fun j v6 v7 wr => ∃ c : Int, v6 = .int .i64 (f : Int) ∧ v7 = .int .i64 c ∧ -1 ≤ c ∧ c < n ∧ (c + 1).toNat ≤ j ∧ (∀ k : Nat, c < k → k < n → bitT ws (f + k) = false) ∧ wr = w)
      case atStart => exact ⟨(n : Int) - 1, rfl, rfl, by omega, by omega, by omega, fun k h1 h2 => by omega, rfl⟩
      case round =>
        obtain ⟨c, rfl, rfl, c1, c2, c3, hfr, hwr⟩ := hrel
        have hwr' := hwr.symm
        subst hwr'
        have HFR := Lib.hid hfr
        clear hfr
        by_cases hc : 0 ≤ c
        · obtain ⟨k, rfl⟩ := Int.eq_ofNat_of_zero_le hc
          have hk : f + k < N := by omega
          cases hb : bitT ws (f + k)
          · have HB := Lib.hid hb
            clear hb
            go_wp2_with (first
              | (go_at_call 76; refine (Has_in HH.out (f + k) hk).mono ?_; rw [HB.out]; rintro e w' ⟨rfl, rfl⟩)
              | fail)
            go_roundg k
            case measure => omega
            case rel =>
              refine ⟨(k : Int) - 1, rfl, rfl, by omega, by omega, by omega, fun j j1 j2 => ?_, rfl⟩
              by_cases e : j = k
              · rw [e]; exact HB.out
              · exact HFR.out j (by omega) j2
          · have HB := Lib.hid hb
            clear hb
            go_wp2_with (first
              | (go_at_call 76; refine (Has_in HH.out (f + k) hk).mono ?_; rw [HB.out]; rintro e w' ⟨rfl, rfl⟩)
              | fail)
            go_roundg (N + 1 - (f + k + 1))
            case measure => omega
            case rel =>
              refine ⟨f + k + 1, by go_num, by omega, by omega, fun g hg => ?_, rfl⟩
              by_cases e : g < f
              · exact HNO.out g e
              · rintro ⟨-, h2⟩
                rw [freeB_bar (t := bitT ws) (f := f) (n := n) (i := k) (by omega) HB.out (by omega) (by omega)] at h2
                cases h2
        · obtain rfl : c = -1 := by omega
          have hfree : freeB (bitT ws) f n = true := freeB_iff.2 fun k hk => HFR.out k (by omega) hk
          have hs := firstB_is (t := bitT ws) hfn hfree HNO.out
          obtain rfl : R = some f := by rw [HR.out]; exact hs
          clear hfree hs
          go_wp2_with fail
          try rw [Exit.noGoto_ret]
          go_ret2
          exact ⟨rfl, rfl⟩
    · have t2 : decide ((n : Int) ≤ (N : Int) - (f : Int)) = false := decide_eq_false (by omega)
      have hs : firstB (bitT ws) N n = none := firstB_isnt fun g => by
        by_cases e : g < f
        · exact HNO.out g e
        · omega
      obtain rfl : R = none := by rw [HR.out]; exact hs
      clear hs
      go_wp2_with fail
      try rw [Exit.noGoto_ret]
      go_ret2
      exact ⟨rfl, rfl⟩

end Go.Proofs.Ytdpmmafkomchaaa
