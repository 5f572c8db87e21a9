/- The bits of a word counted: math/bits.OnesCount64. · Which of many are taken: bits.Map. · A disk: disk.Disk. -/
import Derived.Test.YtdpmmafkomchaaaGreatSecBC
import Derived.Test.YtdpmmafkomchaaaGreatFlatRep
import Derived.Test.YtdpmmafkomchaaaGreatRegion
import Derived.Test.YtdpmmafkomchaaaGreatImgB
import Derived.Lib.SliceRun
import Derived.Laws.CopyRow
namespace Go.Proofs.YtdpmmafkomchaaaGreat
set_option linter.unusedVariables false
set_option linter.unusedSimpArgs false
open Go.RowKit

theorem map8 {α : Type} (q : Nat → α) : (List.range 8).map q = [q 0, q 1, q 2, q 3, q 4, q 5, q 6, q 7] := rfl
/-- the eight counts added up -/
theorem ones_dig (p0 p1 p2 p3 p4 p5 p6 p7 : Nat) (h0 : p0 ≤ 8) (h1 : p1 ≤ 8) (h2 : p2 ≤ 8) (h3 : p3 ≤ 8) (h4 : p4 ≤ 8) (h5 : p5 ≤ 8) (h6 : p6 ≤ 8) (h7 : p7 ≤ 8) (x y z u : Nat)
    (hx : x = dig [p0, p1, p2, p3, p4, p5, p6, p7]) (hy : y = x + x / 256) (hz : z = y + y / 65536) (hu : u = z + z / 4294967296) : u % 128 = p0 + (p1 + (p2 + (p3 + (p4 + (p5 + (p6 + (p7 + 0))))))) := by
  have hx' : x = p0 + 256 * (p1 + 256 * (p2 + 256 * (p3 + 256 * (p4 + 256 * (p5 + 256 * (p6 + 256 * (p7))))))) := by
    rw [hx]
    simp only [dig, Nat.mul_zero, Nat.add_zero]
  have hs := sum_bytes p0 p1 p2 p3 p4 p5 p6 p7 h0 h1 h2 h3 h4 h5 h6 h7 x y z u hx' hy hz hu
  obtain ⟨K, hK⟩ : ∃ K, u = (((p0 + p1) + (p2 + p3)) + ((p4 + p5) + (p6 + p7))) + 256 * K := ⟨_, hs⟩
  clear hs hx hy hz hu hx'
  rw [hK, low7 (((p0 + p1) + (p2 + p3)) + ((p4 + p5) + (p6 + p7))) K (by omega)]
  omega
/-- before the last masks -/
def ones3 (x : Nat) : Nat := pc3 (pc2 (pc1 x 0x5555555555555555) 0x3333333333333333) 0x0f0f0f0f0f0f0f0f
theorem ones3_dig (x : Nat) (h : x < 2 ^ 64) : ones3 x = dig ((List.range 8).map fun k => popB (x / 256 ^ k % 256)) := by
  have hd := dig_mod 8 x
  rw [Nat.mod_eq_of_lt (show x < 256 ^ 8 from h)] at hd
  have hl : ((List.range 8).map fun k => x / 256 ^ k % 256).length = 8 := by rw [List.length_map, List.length_range]
  have hp := pop_bytes ((List.range 8).map fun k => x / 256 ^ k % 256) (by
    intro b hb
    obtain ⟨k, _, rfl⟩ := List.mem_map.1 hb
    exact Nat.mod_lt _ (by decide))
  have r1 : rep 8 0x55 = 0x5555555555555555 := by decide
  have r2 : rep 8 0x33 = 0x3333333333333333 := by decide
  have r3 : rep 8 0x0f = 0x0f0f0f0f0f0f0f0f := by decide
  rw [hl, hd, r1, r2, r3, List.map_map] at hp
  unfold ones3
  rw [hp]
  exact congrArg dig (List.map_congr_left fun k _ => rfl)
/-- it is the number of the word's bits -/
theorem ones_popN (x w y z u : Nat) (h : x < 2 ^ 64) (hw : w = ones3 x) (hy : y = w + w / 256) (hz : z = y + y / 65536) (hu : u = z + z / 4294967296) : u % 128 = popN 64 x := by
  obtain ⟨q, hq⟩ : ∃ q : Nat → Nat, q = fun k => popB (x / 256 ^ k % 256) := ⟨_, rfl⟩
  have hb : ∀ k, q k ≤ 8 := fun k => by rw [hq]; exact (popB_eq ⟨x / 256 ^ k % 256, Nat.mod_lt _ (by decide)⟩).2
  have e64 : popN 64 x = popN (8 * 8) x := rfl
  rw [e64, popN_digs 8 x, ← hq]
  rw [ones3_dig x h, ← hq] at hw
  clear hq e64 h
  rw [map8] at hw ⊢
  have := ones_dig _ _ _ _ _ _ _ _ (hb 0) (hb 1) (hb 2) (hb 3) (hb 4) (hb 5) (hb 6) (hb 7) w y z u hw hy hz hu
  rw [this]
  simp only [List.sum_cons, List.sum_nil]

theorem wrap_u64 (n : Nat) (h : n < 18446744073709551616) : IntKind.u64.wrap (n : Int) = (n : Int) := by
  rw [IntKind.wrap_u64]
  omega
set_option maxHeartbeats 400000 in
theorem OnesCount64_any (x : Nat) (h : x < 18446744073709551616) (w : World) : Calls Tryz.prog 95 #[.int .u64 (x : Int)] w fun e w' => e = .returned (.int .i64 (popN 64 x : Nat)) ∧ w = w' := by
  have hA := fun (y : Nat) (hy : y < 18446744073709551616) => u64_and_nat y 6148914691236517205 hy (by decide)
  have hB := fun (y : Nat) (hy : y < 18446744073709551616) => u64_and_nat y 3689348814741910323 hy (by decide)
  have hC := fun (y : Nat) (hy : y < 18446744073709551616) => u64_and_nat y 1085102592571150095 hy (by decide)
  obtain ⟨a1, ea1⟩ : ∃ a : Nat, a = x / 2 &&& 6148914691236517205 := ⟨_, rfl⟩
  obtain ⟨a2, ea2⟩ : ∃ a : Nat, a = x &&& 6148914691236517205 := ⟨_, rfl⟩
  have la1 : a1 ≤ 6148914691236517205 := by rw [ea1]; exact Nat.and_le_right
  have la2 : a2 ≤ 6148914691236517205 := by rw [ea2]; exact Nat.and_le_right
  obtain ⟨s1, es1⟩ : ∃ a : Nat, a = a1 + a2 := ⟨_, rfl⟩
  obtain ⟨b1, eb1⟩ : ∃ a : Nat, a = s1 / 4 &&& 3689348814741910323 := ⟨_, rfl⟩
  obtain ⟨b2, eb2⟩ : ∃ a : Nat, a = s1 &&& 3689348814741910323 := ⟨_, rfl⟩
  have lb1 : b1 ≤ 3689348814741910323 := by rw [eb1]; exact Nat.and_le_right
  have lb2 : b2 ≤ 3689348814741910323 := by rw [eb2]; exact Nat.and_le_right
  obtain ⟨s2, es2⟩ : ∃ a : Nat, a = b1 + b2 := ⟨_, rfl⟩
  obtain ⟨t, et⟩ : ∃ a : Nat, a = s2 / 16 + s2 := ⟨_, rfl⟩
  obtain ⟨v, ev⟩ : ∃ a : Nat, a = t &&& 1085102592571150095 := ⟨_, rfl⟩
  have lv : v ≤ 1085102592571150095 := by rw [ev]; exact Nat.and_le_right
  obtain ⟨y, ey⟩ : ∃ a : Nat, a = v + v / 256 := ⟨_, rfl⟩
  obtain ⟨z, ez⟩ : ∃ a : Nat, a = y + y / 65536 := ⟨_, rfl⟩
  obtain ⟨u, eu⟩ : ∃ a : Nat, a = z + z / 4294967296 := ⟨_, rfl⟩
  have hv3 : v = ones3 x := by rw [ev, et, es2, eb1, eb2, es1, ea1, ea2]; rfl
  have hu := ones_popN x v y z u h hv3 ey ez eu
  have f1 : bits .and .u64 ((x : Int) / 2) 6148914691236517205 = (a1 : Int) := by rw [ea1]; exact hA (x / 2) (by omega)
  have f2 : bits .and .u64 (x : Int) 6148914691236517205 = (a2 : Int) := by rw [ea2]; exact hA x h
  have f3 : IntKind.u64.wrap ((a1 : Int) + (a2 : Int)) = (s1 : Int) := by rw [es1, ← Int.natCast_add]; exact wrap_u64 _ (by omega)
  have f4 : bits .and .u64 ((s1 : Int) / 4) 3689348814741910323 = (b1 : Int) := by rw [eb1]; exact hB (s1 / 4) (by omega)
  have f5 : bits .and .u64 (s1 : Int) 3689348814741910323 = (b2 : Int) := by rw [eb2]; exact hB s1 (by omega)
  have f6 : IntKind.u64.wrap ((b1 : Int) + (b2 : Int)) = (s2 : Int) := by rw [es2, ← Int.natCast_add]; exact wrap_u64 _ (by omega)
  have f7 : IntKind.u64.wrap ((s2 : Int) / 16 + (s2 : Int)) = (t : Int) := by rw [et]; exact wrap_u64 (s2 / 16 + s2) (by omega)
  have f8 : bits .and .u64 (t : Int) 1085102592571150095 = (v : Int) := by rw [ev]; exact hC t (by omega)
  have f9 : IntKind.u64.wrap ((v : Int) + (v : Int) / 256) = (y : Int) := by rw [ey]; exact wrap_u64 (v + v / 256) (by omega)
  have f10 : IntKind.u64.wrap ((y : Int) + (y : Int) / 65536) = (z : Int) := by rw [ez]; exact wrap_u64 (y + y / 65536) (by omega)
  have f11 : IntKind.u64.wrap ((z : Int) + (z : Int) / 4294967296) = (u : Int) := by rw [eu]; exact wrap_u64 (z + z / 4294967296) (by omega)
  have f12 : IntKind.i64.wrap (u : Int) = (u : Int) := IntWalk.i64_in _ (by omega)
  have f13 : bits .and .i64 (u : Int) 127 = (u : Int) % 128 := and_mask _ 7 (by decide)
  have f14 : (u : Int) % 128 = (popN 64 x : Nat) := by rw [← hu]; rfl
  clear hA hB hC hv3 hu ea1 ea2 es1 eb1 eb2 es2 et ev ey ez eu la1 la2 lb1 lb2 lv
  generalize popN 64 x = N at *
  go_enter Tryz.func95, Tryz.ntmps95
  go_wp2_with fail
  go_ret
  exact ⟨rfl, rfl⟩

def wcells (ws : List Nat) : List Value := ws.map fun (x : Nat) => Value.int .u64 (x : Int)
/-- block b is a map of N bits, its words ws in block h -/
structure BitI (w : World) (b h N : Nat) (ws : List Nat) : Prop where
  row : Row w b 139 #[.int .i64 N, .slice (some ⟨h, 0, none⟩) ws.length ws.length]
  wrow : Row w h 148 (wcells ws).toArray
  len : ws.length = (N + 63) / 64
  small : ∀ x ∈ ws, x < 2 ^ 64
  over : ∀ i, N ≤ i → bitT ws i = false
  max : N ≤ 65536
theorem BitI.keep {w w' : World} {b h N : Nat} {ws : List Nat} {F : Nat → Prop} (H : BitI w b h N ws) (c : Chg F w w') (hb : ¬ F b) (hh : ¬ F h) : BitI w' b h N ws :=
  ⟨H.row.keep c hb, H.wrow.keep c hh, H.len, H.small, H.over, H.max⟩
theorem BitI.ne {w : World} {b h N : Nat} {ws : List Nat} (H : BitI w b h N ws) : b ≠ h := H.row.ne H.wrow (by decide)
theorem BitI.cell {w : World} {b h N : Nat} {ws : List Nat} (H : BitI w b h N ws) {i : Nat} (hi : i < N) : w.cell? ⟨h, i / 64, none⟩ = some (.int .u64 (ws[i / 64]?.getD 0 : Nat)) ∧ i / 64 < ws.length ∧ ws[i / 64]?.getD 0 < 2 ^ 64 := by
  have hl := H.len
  have hk : i / 64 < ws.length := by omega
  refine ⟨?_, hk, ?_⟩
  · rw [H.wrow.cell]
    simp [wcells, hk]
  · rw [List.getElem?_eq_getElem hk]
    exact H.small _ (List.getElem_mem hk)

set_option maxHeartbeats 400000 in
theorem Has_in {w : World} {b h N : Nat} {ws : List Nat} (H : BitI w b h N ws) (i : Nat) (hi : i < N) :
    Calls Tryz.prog 88 #[.pointer (some ⟨b, 0, none⟩), .int .i64 i] w fun e w' => e = .returned (.bool (bitT ws i)) ∧ w = w' := by
  obtain ⟨c2, hk, h64⟩ := H.cell hi
  have c0 : w.cell? ⟨b, 0, none⟩ = some (.int .i64 N) := H.row.cell 0
  have c1 : w.cell? ⟨b, 1, none⟩ = some (.slice (some ⟨h, 0, none⟩) ws.length ws.length) := H.row.cell 1
  have hbit : (bits .and .u64 ((ws[i / 64]?.getD 0 : Nat) / 2 ^ (i % 64) : Int) 1 == 1) = bitT ws i := by
    have h1 := and1_u64 (ws[i / 64]?.getD 0 / 2 ^ (i % 64)) (Nat.lt_of_le_of_lt (Nat.div_le_self _ _) h64)
    rw [Int.natCast_ediv, Int.natCast_pow] at h1
    rw [bitT_div, show ((2 : Nat) : Int) = 2 from rfl] at *
    rw [h1]
    generalize ws[i / 64]?.getD 0 / 2 ^ (i % 64) % 2 = y
    rw [Bool.eq_iff_iff]
    simp
    omega
  have hmax := H.max
  generalize ws[i / 64]?.getD 0 = x at *
  generalize ws.length = n at *
  generalize bitT ws i = r at *
  clear H h64
  go_enter Tryz.func88, Tryz.ntmps88
  go_wp2_with fail
  go_ret
  exact ⟨rfl, rfl⟩

/-- a run of bits turned -/
def flips (ws : List Nat) (f : Nat) : Nat → List Nat
  | 0 => ws
  | n + 1 => flipW (flips ws f n) (f + n)
theorem flips_len (ws : List Nat) (f : Nat) : ∀ n, (flips ws f n).length = ws.length
  | 0 => rfl
  | n + 1 => (flipW_len _ _).trans (flips_len ws f n)
theorem flips_small {ws : List Nat} (f : Nat) (h : ∀ x ∈ ws, x < 2 ^ 64) : ∀ n, ∀ x ∈ flips ws f n, x < 2 ^ 64
  | 0 => h
  | n + 1 => flipW_small (flips_small f h n)
theorem flips_bit {ws : List Nat} {f : Nat} : ∀ n, f + n ≤ 64 * ws.length → ∀ j, bitT (flips ws f n) j = if f ≤ j ∧ j < f + n then !bitT ws j else bitT ws j
  | 0, _, j => by rw [if_neg (by omega)]; rfl
  | n + 1, h, j => by
    have ih := flips_bit (ws := ws) (f := f) n (by omega)
    show bitT (flipW (flips ws f n) (f + n)) j = _
    rw [flipW_bit (by rw [flips_len]; omega), ih, ih]
    by_cases e : j = f + n
    · subst e
      rw [if_pos rfl, if_neg (by omega), if_pos (by omega)]
    · rw [if_neg e]
      by_cases h1 : f ≤ j ∧ j < f + n
      · rw [if_pos h1, if_pos (by omega)]
      · rw [if_neg h1, if_neg (by omega)]
theorem BitI.words {w : World} {b h N : Nat} {ws : List Nat} (H : BitI w b h N ws) : N ≤ 64 * ws.length := by
  have := H.len; omega
/-- the map behind a word that is stored -/
theorem BitI.flip {w : World} {b h N : Nat} {ws : List Nat} (H : BitI w b h N ws) {k : Nat} (hk : k < N) : BitI (w.setCell ⟨h, k / 64, none⟩ (.int .u64 ((ws[k / 64]?.getD 0 ^^^ 2 ^ (k % 64) : Nat) : Int))) b h N (flipW ws k) := by
  have hl := H.len
  refine ⟨?_, ?_, by rw [flipW_len]; exact hl, flipW_small H.small, fun i hi => ?_, H.max⟩
  · rw [flipW_len]
    exact H.row.other H.ne _
  · have := H.wrow.set (k / 64) (.int .u64 ((ws[k / 64]?.getD 0 ^^^ 2 ^ (k % 64) : Nat) : Int))
    have e : (wcells (flipW ws k)).toArray = (wcells ws).toArray.setIfInBounds (k / 64) (.int .u64 ((ws[k / 64]?.getD 0 ^^^ 2 ^ (k % 64) : Nat) : Int)) := by
      unfold wcells flipW
      rw [List.setIfInBounds_toArray, List.map_set]
    rw [e]
    exact this
  · rw [flipW_bit (by omega), if_neg (by omega)]
    exact H.over i hi

set_option maxRecDepth 100000 in
set_option maxHeartbeats 1000000 in
theorem change_ok {w : World} {b h N : Nat} {ws : List Nat} (H : BitI w b h N ws) (f n : Nat) (was : Bool) (no : Int) (hn : 1 ≤ n) (hf : f + n ≤ N) (hall : ∀ i, i < n → bitT ws (f + i) = was) :
    Calls Tryz.prog 89 #[.pointer (some ⟨b, 0, none⟩), .int .i64 f, .int .i64 n, .bool was, .int .i64 no] w fun e w' => e = .returned (.int .i64 0) ∧ BitI w' b h N (flips ws f n) ∧ Chg (fun k => k = h) w w' := by
  have c0 : w.cell? ⟨b, 0, none⟩ = some (.int .i64 N) := H.row.cell 0
  have hmax := H.max
  have HALL := Lib.hid hall
  have HH := Lib.hid H
  have t1 : decide ((n : Int) < 1) = false := decide_eq_false (by omega)
  have t2 : decide ((f : Int) < 0) = false := decide_eq_false (by omega)
  have t3 : decide (N < f) = false := decide_eq_false (by omega)
  have t4 : decide ((N : Int) - f < n) = false := decide_eq_false (by omega)
  have t5 : decide ((N : Int) < f) = false := decide_eq_false (by omega)
  clear hall H
  go_enter Tryz.func89, Tryz.ntmps89
  go_wp2_with fail
  go_loopg [43] n (fun j v43 wr => ∃ i : Nat, v43 = .int .i64 (i : Int) ∧ i ≤ n ∧ n - i ≤ j ∧ wr = w)
  case atStart => exact ⟨0, rfl, by omega, by omega, rfl⟩
  case round =>
    obtain ⟨i, rfl, i1, i2, hwr⟩ := hrel
    have hwr' := hwr.symm
    subst hwr'
    by_cases hi : i < n
    · have HB := Lib.hid (HALL.out i hi)
      go_wp2_with (first
        | (go_at_call 88; refine (Has_in HH.out (f + i) (by omega)).mono ?_; rw [HB.out]; rintro e w' ⟨rfl, rfl⟩)
        | fail)
      go_roundg (n - (i + 1))
      case measure => omega
      case rel => exact ⟨i + 1, by go_num, by omega, by omega, rfl⟩
    · obtain rfl : i = n := by omega
      go_wp2_with fail
      go_loopg [56] i (fun j v56 wr => ∃ k : Nat, v56 = .int .i64 (k : Int) ∧ k ≤ i ∧ i - k ≤ j ∧ BitI wr b h N (flips ws f k) ∧ Chg (fun k => k = h) w wr)
      case atStart => exact ⟨0, rfl, by omega, by omega, HH.out, Chg.refl _ _⟩
      case round =>
        obtain ⟨k, rfl, k1, k2, hm, cw⟩ := hrel
        by_cases hk : k < i
        · have hfk : f + k < N := by omega
          obtain ⟨d2, hw2, h64⟩ := hm.cell hfk
          have d1 : wr.cell? ⟨b, 1, none⟩ = some (.slice (some ⟨h, 0, none⟩) (flips ws f k).length (flips ws f k).length) := hm.row.cell 1
          have ff : wr.frozen? ⟨h, (f + k) / 64, none⟩ = false := hm.wrow.frozen _
          have HM := Lib.hid (hm.flip hfk)
          have hx : bits .xor .u64 ((flips ws f k)[(f + k) / 64]?.getD 0 : Nat) (IntKind.u64.wrap (2 ^ ((f + k) % 64))) = (((flips ws f k)[(f + k) / 64]?.getD 0 ^^^ 2 ^ ((f + k) % 64) : Nat) : Int) := by
            have hp : (2 : Nat) ^ ((f + k) % 64) < 2 ^ 64 := Nat.pow_lt_pow_right (by decide) (by omega)
            rw [show (2 : Int) ^ ((f + k) % 64) = ((2 ^ ((f + k) % 64) : Nat) : Int) by rw [Int.natCast_pow]; rfl, wrap_u64 _ hp]
            exact xor_u64 _ _ h64 hp
          generalize (flips ws f k)[(f + k) / 64]?.getD 0 = x at *
          generalize (flips ws f k).length = n2 at *
          clear hm h64
          go_wp2_with fail
          go_region
          go_wp2_with fail
          go_roundg (i - (k + 1))
          case measure => omega
          case rel =>
            refine ⟨k + 1, by go_num, by omega, by omega, ?_, (Chg.setCell (F := fun k => k = h) cw (.inl rfl) _).drew⟩
            exact HM.out.keep (F := No) (Chg.refl _ _).drew (fun f => f) (fun f => f)
        · obtain rfl : k = i := by omega
          have HR := Lib.hid (And.intro hm cw)
          clear hm cw
          go_wp2_with fail
          go_ret
          exact ⟨rfl, HR.out.1, HR.out.2⟩

set_option maxHeartbeats 400000 in
theorem Take_ok {w : World} {b h N : Nat} {ws : List Nat} (H : BitI w b h N ws) (f n : Nat) (hn : 1 ≤ n) (hf : f + n ≤ N) (hall : ∀ i, i < n → bitT ws (f + i) = false) :
    Calls Tryz.prog 57 #[.pointer (some ⟨b, 0, none⟩), .int .i64 f, .int .i64 n] w fun e w' => e = .returned (.int .i64 0) ∧ BitI w' b h N (flips ws f n) ∧ Chg (fun k => k = h) w w' := by
  have HQ := Lib.hid (change_ok H f n false 3 hn hf hall)
  clear H hall
  go_enter Tryz.func57, Tryz.ntmps57
  go_wp2_with (first
    | (go_at_call 89; refine HQ.out.mono ?_; rintro e w1 ⟨rfl, h1⟩; have H1 := Lib.hid h1; clear h1)
    | fail)
  go_ret
  exact ⟨rfl, H1.out⟩

set_option maxHeartbeats 400000 in
theorem FreeB_ok {w : World} {b h N : Nat} {ws : List Nat} (H : BitI w b h N ws) (f n : Nat) (hn : 1 ≤ n) (hf : f + n ≤ N) (hall : ∀ i, i < n → bitT ws (f + i) = true) :
    Calls Tryz.prog 70 #[.pointer (some ⟨b, 0, none⟩), .int .i64 f, .int .i64 n] w fun e w' => e = .returned (.int .i64 0) ∧ BitI w' b h N (flips ws f n) ∧ Chg (fun k => k = h) w w' := by
  have HQ := Lib.hid (change_ok H f n true 4 hn hf hall)
  clear H hall
  go_enter Tryz.func70, Tryz.ntmps70
  go_wp2_with (first
    | (go_at_call 89; refine HQ.out.mono ?_; rintro e w1 ⟨rfl, h1⟩; have H1 := Lib.hid h1; clear h1)
    | fail)
  go_ret
  exact ⟨rfl, H1.out⟩

/-- how many bits are set -/
def takenN (ws : List Nat) : Nat := (ws.map (popN 64)).sum
theorem popN_le (n x : Nat) : popN n x ≤ n := by
  unfold popN
  exact Nat.le_trans (List.countP_le_length) (by simp)
theorem takenN_snoc {ws : List Nat} {i : Nat} (hi : i < ws.length) : takenN (ws.take (i + 1)) = takenN (ws.take i) + popN 64 (ws[i]?.getD 0) := by
  unfold takenN
  rw [List.take_succ_eq_append_getElem hi, List.map_append, List.sum_append, List.getElem?_eq_getElem hi]
  simp
theorem takenN_le : ∀ ws : List Nat, takenN ws ≤ 64 * ws.length
  | [] => Nat.le_refl _
  | x :: ws => by
    have h1 := takenN_le ws
    have h2 := popN_le 64 x
    unfold takenN at h1 ⊢
    rw [List.map_cons, List.sum_cons, List.length_cons]
    omega

set_option maxHeartbeats 400000 in
theorem Taken_any {w : World} {b h N : Nat} {ws : List Nat} (H : BitI w b h N ws) :
    Calls Tryz.prog 76 #[.pointer (some ⟨b, 0, none⟩)] w fun e w' => e = .returned (.int .i64 (takenN ws)) ∧ w = w' := by
  have c1 : w.cell? ⟨b, 1, none⟩ = some (.slice (some ⟨h, 0, none⟩) ws.length ws.length) := H.row.cell 1
  have hl : ws.length ≤ 2000 := by have := H.len; have := H.max; omega
  have HH := Lib.hid H
  generalize hn : ws.length = n at *
  have HN := Lib.hid hn
  obtain ⟨T, hT⟩ : ∃ T, T = takenN ws := ⟨_, rfl⟩
  rw [← hT]
  have HTT := Lib.hid hT
  clear H hn hT
  go_enter Tryz.func76, Tryz.ntmps76
  go_wp2_with fail
  go_loopg [3, 13] n (fun j v3 v13 wr => ∃ i : Nat, v13 = .int .i64 (i : Int) ∧ v3 = .int .i64 (takenN (ws.take i)) ∧ i ≤ n ∧ n - i ≤ j ∧ wr = w)
  case atStart => exact ⟨0, rfl, rfl, by omega, by omega, rfl⟩
  case round =>
    obtain ⟨i, rfl, rfl, i1, i2, hwr⟩ := hrel
    have hwr' := hwr.symm
    subst hwr'
    by_cases hi : i < n
    · have hi' : i < ws.length := by rw [HN.out]; exact hi
      have e0 : w.cell? ⟨h, i, none⟩ = some (.int .u64 (ws[i]?.getD 0 : Nat)) := by
        rw [HH.out.wrow.cell]
        simp [wcells, hi']
      have e1 : ws[i]?.getD 0 < 18446744073709551616 := by
        rw [List.getElem?_eq_getElem hi']
        exact HH.out.small _ (List.getElem_mem hi')
      have hs := takenN_snoc hi'
      have hb1 := takenN_le (ws.take i)
      rw [List.length_take] at hb1
      have hb2 := popN_le 64 (ws[i]?.getD 0)
      have HS := Lib.hid hs
      have HO := fun w => OnesCount64_any _ e1 w
      generalize ws[i]?.getD 0 = x at *
      generalize takenN (ws.take i) = a at *
      generalize popN 64 x = p at *
      have hb3 : a ≤ 130000 := by omega
      clear hs hb1 e1
      go_wp2_with (first
        | (go_at_call 95; refine (HO w).mono ?_; rintro e w' ⟨rfl, rfl⟩)
        | fail)
      go_roundg (n - (i + 1))
      case measure => omega
      case rel => exact ⟨i + 1, by go_num, by rw [HS.out]; go_num, by omega, by omega, rfl⟩
    · obtain rfl : i = n := by omega
      have HT := Lib.hid (show ws.take i = ws from List.take_of_length_le (by rw [HN.out]; omega))
      rw [HT.out, ← HTT.out]
      go_wp2_with fail
      go_ret
      exact ⟨rfl, rfl⟩

theorem info_u64 : (Tryz.prog.info? 148).map (fun i => (i.zero, i.size, i.bytes)) = some (some (.int .u64 0), 1, 8) := by kernel_rfl

/-- what New gives: a map of N bits, none of which is set -/
def BitsNew (w : World) (N : Nat) (v : Value) (w' : World) : Prop := ∃ b h, v = .tuple #[.pointer (some ⟨b, 0, none⟩), .int .i64 0] ∧ w.heap.size ≤ b ∧ w.heap.size ≤ h ∧ BitI w' b h N (List.replicate ((N + 63) / 64) 0) ∧ Chg No w w'
theorem bitT_zero (n i : Nat) : bitT (List.replicate n 0) i = false := by
  unfold bitT
  rw [List.getElem?_replicate]
  split <;> simp

set_option maxRecDepth 100000 in
set_option maxHeartbeats 400000 in
theorem BitsNew_ok (N : Nat) (hN : N ≤ 65536) (w : World) : Calls Tryz.prog 50 #[.int .i64 N] w (Ret (BitsNew w N)) := by
  obtain ⟨i0, hi, hz0, hz1, hz2⟩ := info_parts info_u64
  have Hz := Lib.hid (And.intro hz0 (And.intro hz1 hz2))
  clear hz0 hz1 hz2
  have t1 : decide ((N : Int) < 0) = false := decide_eq_false (by omega)
  have t2 : decide ((65536 : Int) < N) = false := decide_eq_false (by omega)
  go_enter Tryz.func50, Tryz.ntmps50
  go_wp2_with (first
    | (at_make; refine wpList_make_full _ rfl _ _ _ rfl w.heap.size 148 i0 (.int .u64 0) 1 Tryz.underlying137 hi Hz.out.1 Hz.out.2.1 _ _ _ _ ((N + 63) / 64) rfl rfl (by omega) (by omega) (by rw [Hz.out.2.2]; omega) (by unfold maxLen; omega) (Nat.le_refl _) ?_; intro w1 hown hgrow; have HO := Lib.hid (And.intro hown hgrow); clear hown hgrow)
    | fail)
  go_ret2
  have hr := own_row HO.out.1
  have hc : Chg No w w1 := (Chg.refl _ _).grown HO.out.2 (by simp)
  have e : (madeCells (Value.int IntKind.u64 0).cells ((N + 63) / 64 * 1)).toList = wcells (List.replicate ((N + 63) / 64) 0) := by
    rw [show (Value.int IntKind.u64 0).cells = #[Value.int .u64 0] from rfl, toList_madeCells_one, Nat.mul_one]
    unfold wcells
    rw [List.map_replicate]
    rfl
  rw [e] at hr
  have hr' : Row w1 w.heap.size 148 (wcells (List.replicate ((N + 63) / 64) 0)).toArray := hr
  refine Ret.mk ⟨_, w.heap.size, rfl, hc.size, Nat.le_refl _, ⟨?_, hr'.alloc _, by simp, ?_, fun i _ => bitT_zero _ _, hN⟩, hc.alloc _⟩
  · rw [List.length_replicate]
    exact Row.new _ _ _
  · intro x hx
    rw [List.mem_replicate] at hx
    rw [hx.2]
    decide

set_option maxRecDepth 100000 in
set_option maxHeartbeats 400000 in
theorem First_any {w : World} {b h N : Nat} {ws : List Nat} (H : BitI w b h N ws) (n : Nat) (hn : 1 ≤ n) (hm : n ≤ 1000000) :
    Calls Tryz.prog 56 #[.pointer (some ⟨b, 0, none⟩), .int .i64 n] w fun e w' => e = .returned (.tuple #[.int .i64 ((firstB (bitT ws) N n).getD 0 : Nat), .bool (firstB (bitT ws) N n).isSome]) ∧ w = w' := by
  have c0 : w.cell? ⟨b, 0, none⟩ = some (.int .i64 N) := H.row.cell 0
  have hmax := H.max
  have HH := Lib.hid H
  have t1 : decide ((n : Int) < 1) = false := decide_eq_false (by omega)
  obtain ⟨R, hR⟩ : ∃ R, R = firstB (bitT ws) N n := ⟨_, rfl⟩
  rw [← hR]
  have HR := Lib.hid hR
  clear H hR
  go_enter Tryz.func56, Tryz.ntmps56
  go_wp2_with fail
  go_step3
  go_wp2_with fail
  go_step3
  go_wp2_with fail
  go_loopg [6] (N + 1) (fun j v6 wr => ∃ f : Nat, v6 = .int .i64 (f : Int) ∧ N + 1 - f ≤ j ∧ f ≤ N ∧ (∀ g, g < f → ¬ (g + n ≤ N ∧ freeB (bitT ws) g n = true)) ∧ wr = w)
  case atStart => exact ⟨0, rfl, by omega, by omega, fun g hg => by omega, rfl⟩
  case round =>
    obtain ⟨f, rfl, f1, f2, hno, hwr⟩ := hrel
    have hwr' := hwr.symm
    subst hwr'
    have HNO := Lib.hid hno
    clear hno
    by_cases hfn : f + n ≤ N
    · have t2 : decide ((n : Int) ≤ (N : Int) - (f : Int)) = true := decide_eq_true (by omega)
      go_wp2_with fail
      go_loopg [6, 7] n (fun j v6 v7 wr => ∃ c : Int, v6 = .int .i64 (f : Int) ∧ v7 = .int .i64 c ∧ -1 ≤ c ∧ c < n ∧ (c + 1).toNat ≤ j ∧ (∀ k : Nat, c < k → k < n → bitT ws (f + k) = false) ∧ wr = w)
      case atStart => exact ⟨(n : Int) - 1, rfl, rfl, by omega, by omega, by omega, fun k h1 h2 => by omega, rfl⟩
      case round =>
        obtain ⟨c, rfl, rfl, c1, c2, c3, hfr, hwr⟩ := hrel
        have hwr' := hwr.symm
        subst hwr'
        have HFR := Lib.hid hfr
        clear hfr
        by_cases hc : 0 ≤ c
        · obtain ⟨k, rfl⟩ := Int.eq_ofNat_of_zero_le hc
          have hk : f + k < N := by omega
          cases hb : bitT ws (f + k)
          · have HB := Lib.hid hb
            clear hb
            go_wp2_with (first
              | (go_at_call 88; refine (Has_in HH.out (f + k) hk).mono ?_; rw [HB.out]; rintro e w' ⟨rfl, rfl⟩)
              | fail)
            go_roundg k
            case measure => omega
            case rel =>
              refine ⟨(k : Int) - 1, rfl, rfl, by omega, by omega, by omega, fun j j1 j2 => ?_, rfl⟩
              by_cases e : j = k
              · rw [e]; exact HB.out
              · exact HFR.out j (by omega) j2
          · have HB := Lib.hid hb
            clear hb
            go_wp2_with (first
              | (go_at_call 88; refine (Has_in HH.out (f + k) hk).mono ?_; rw [HB.out]; rintro e w' ⟨rfl, rfl⟩)
              | fail)
            go_roundg (N + 1 - (f + k + 1))
            case measure => omega
            case rel =>
              refine ⟨f + k + 1, by go_num, by omega, by omega, fun g hg => ?_, rfl⟩
              by_cases e : g < f
              · exact HNO.out g e
              · rintro ⟨-, h2⟩
                rw [freeB_bar (t := bitT ws) (f := f) (n := n) (i := k) (by omega) HB.out (by omega) (by omega)] at h2
                cases h2
        · obtain rfl : c = -1 := by omega
          have hfree : freeB (bitT ws) f n = true := freeB_iff.2 fun k hk => HFR.out k (by omega) hk
          have hs := firstB_is (t := bitT ws) hfn hfree HNO.out
          obtain rfl : R = some f := by rw [HR.out]; exact hs
          clear hfree hs
          go_wp2_with fail
          try rw [Exit.noGoto_ret]
          go_ret2
          exact ⟨rfl, rfl⟩
    · have t2 : decide ((n : Int) ≤ (N : Int) - (f : Int)) = false := decide_eq_false (by omega)
      have hs : firstB (bitT ws) N n = none := firstB_isnt fun g => by
        by_cases e : g < f
        · exact HNO.out g e
        · omega
      obtain rfl : R = none := by rw [HR.out]; exact hs
      clear hs
      go_wp2_with fail
      try rw [Exit.noGoto_ret]
      go_ret2
      exact ⟨rfl, rfl⟩

theorem splice_len {α : Type} (D m : List α) (o : Nat) (h : o + m.length ≤ D.length) : (Go.splice D o m).length = D.length := by
  simp [Go.splice]; omega
theorem splice_at {α : Type} (D m : List α) (o : Nat) (h : o + m.length ≤ D.length) (j : Nat) : (Go.splice D o m)[j]? = if o ≤ j ∧ j < o + m.length then m[j - o]? else D[j]? := by
  unfold Go.splice
  have h1 : (D.take o).length = o := by simp; omega
  by_cases e : j < o
  · rw [if_neg (by omega), List.getElem?_append_left (by omega), List.getElem?_take, if_pos e]
  · rw [List.getElem?_append_right (by omega), h1]
    by_cases e2 : j < o + m.length
    · rw [if_pos (by omega), List.getElem?_append_left (by omega)]
    · rw [if_neg (by omega), List.getElem?_append_right (by omega), List.getElem?_drop]
      congr 1
      omega
theorem splice_mem {α : Type} {D m : List α} {o : Nat} {p : α → Prop} (hD : ∀ x ∈ D, p x) (hm : ∀ x ∈ m, p x) : ∀ x ∈ Go.splice D o m, p x := by
  intro x hx
  simp only [Go.splice, List.mem_append] at hx
  rcases hx with hx | hx | hx
  · exact hD x (List.mem_of_mem_take hx)
  · exact hm x hx
  · exact hD x (List.mem_of_mem_drop hx)
theorem splice_map {α β : Type} (f : α → β) (D m : List α) (o : Nat) : (Go.splice D o m).map f = Go.splice (D.map f) o (m.map f) := by
  simp [Go.splice]

/-- cells stored one behind the other into a row -/
theorem setCells_row (g : Nat) (t : TypeId) : ∀ (vs cs : List Value) (o : Nat) (w : World), Row w g t cs.toArray → o + vs.length ≤ cs.length → Row (w.setCells g o vs) g t (Go.splice cs o vs).toArray
  | [], cs, o, w, h, _ => by simpa [World.setCells, Go.splice] using h
  | v :: r, cs, o, w, h, hl => by
    rw [List.length_cons] at hl
    have h1 := h.set o v
    rw [List.setIfInBounds_toArray] at h1
    have ih := setCells_row g t r (cs.set o v) (o + 1) (w.setCell ⟨g, o, none⟩ v) h1 (by rw [List.length_set]; omega)
    have e : Go.splice (cs.set o v) (o + 1) r = Go.splice cs o (v :: r) := by
      apply List.ext_getElem?
      intro j
      rw [splice_at _ _ _ (by rw [List.length_set]; omega), splice_at _ _ _ (by rw [List.length_cons]; omega), List.length_cons, List.getElem?_set]
      by_cases e1 : o + 1 ≤ j ∧ j < o + 1 + r.length
      · rw [if_pos e1, if_pos (by omega), show j - o = (j - (o + 1)) + 1 by omega, List.getElem?_cons_succ]
      · rw [if_neg e1]
        by_cases e2 : o = j
        · subst e2
          rw [if_pos rfl, if_pos (by omega), if_pos (by omega), Nat.sub_self]
          rfl
        · rw [if_neg e2, if_neg (by omega)]
    rw [← e]
    exact ih
theorem setCells_chg (g : Nat) : ∀ (vs : List Value) (o : Nat) (w : World), Chg (fun k => k = g) w (w.setCells g o vs)
  | [], _, _ => Chg.refl _ _
  | v :: r, o, w => Chg.trans (Chg.setCell (F := fun k => k = g) (Chg.refl _ w) (.inl rfl) v) (setCells_chg g r (o + 1) _)

section
variable {P : Program}
/-- 'clear(s)', s a stretch of a row -/
theorem run_clear_row (w : World) (t e ty : TypeId) (z : Value) (ht : P.underlying t = some (.slice e)) (hv : ∀ w, (zeroValue e).run P w = .ok z w) (hz : z.cells = #[z]) (h1 : z.oneCell' = true) (g o n c : Nat) (tt : TypeId) (cs : List Value) (hr : Row w g tt cs.toArray) (hf : o + n ≤ cs.length) :
    ∃ w', (Builtin.clear_ #[t] ty #[.slice (some ⟨g, o, none⟩) n c]).run P w = .ok (.tuple #[]) w' ∧ Row w' g tt (Go.splice cs o (List.replicate n z)).toArray ∧ Chg (fun k => k = g) w w' := by
  rcases Nat.eq_zero_or_pos n with rfl | hn
  · refine ⟨w, ?_, by simpa [Go.splice] using hr, Chg.refl _ _⟩
    simp [Builtin.clear_, run_underlying ht]
  · refine ⟨_, Lib.run_clear_slice w t e ty z ht hv hz h1 g o n c hn (fun j hj => ?_) (fun j _ => hr.frozen _), setCells_row g tt _ _ _ _ hr (by simpa using hf), setCells_chg _ _ _ _⟩
    rw [hr.cell]
    simp
    omega
/-- 'copy(s, b)', s a stretch of a row -/
theorem run_copy_row2 (w : World) (dT sT ty elem : TypeId) (g o dLen dCap : Nat) (a : Addr) (sLen sCap : Nat) (t : TypeId) (cur cs : List Value)
    (hu : P.underlying dT = some (.slice elem)) (hs : (P.info? elem).map (·.size) = some 1) (hr : Row w g t cur.toArray) (hn : cs.length = Nat.min sLen dLen)
    (hsrc : ∀ j v, cs[j]? = some v → w.cell? (a.add j) = some v) (hfit : o + cs.length ≤ cur.length) (h1 : ∀ v ∈ cs, v.oneCell' = true) :
    ∃ w', (Builtin.copy_ #[dT, sT] ty #[.slice (some ⟨g, o, none⟩) dLen dCap, .slice (some a) sLen sCap]).run P w = .ok (.int .i64 (cs.length : Int)) w' ∧ Row w' g t (Go.splice cur o cs).toArray ∧ Chg (fun k => k = g) w w' := by
  refine ⟨_, run_copy_row (P := P) w dT sT ty elem g o dLen dCap a sLen sCap cur.toArray t cs hu hs hr hn hsrc (by simpa using hfit) h1, ?_, ?_⟩
  · show _ = _
    rw [setRow_heap w g _ _ t _ hr]
    simp [Go.splice]
  · exact ⟨rfl, rfl, rfl, by simp [World.setRow], fun j _ hj => setRow_other w g j _ (fun e => hj (by rw [e]))⟩
end

/-- the disk in block d has N sectors, their bytes D in block g -/
structure DiskI (w : World) (d g N : Nat) (D : List Int) : Prop where
  row : ∃ r u : Int, Row w d 136 #[.int .i64 r, .int .i64 u, .slice (some ⟨g, 0, none⟩) (N * 64) (N * 64)]
  brow : Row w g 5 (D.map (Value.int .u8)).toArray
  len : D.length = N * 64
  byte : ∀ x ∈ D, 0 ≤ x ∧ x ≤ 255
  max : N ≤ 20000
theorem DiskI.keep {w w' : World} {d g N : Nat} {D : List Int} {F : Nat → Prop} (H : DiskI w d g N D) (c : Chg F w w') (hd : ¬ F d) (hg : ¬ F g) : DiskI w' d g N D := by
  obtain ⟨⟨r, u, h1⟩, h2, h3, h4, h5⟩ := H
  exact ⟨⟨r, u, h1.keep c hd⟩, h2.keep c hg, h3, h4, h5⟩
theorem DiskI.ne {w : World} {d g N : Nat} {D : List Int} (H : DiskI w d g N D) : d ≠ g := by
  obtain ⟨⟨r, u, h1⟩, h2, h3, h4, h5⟩ := H
  exact h1.ne h2 (by decide)

set_option maxRecDepth 100000 in
set_option maxHeartbeats 400000 in
theorem diskLen_any {w : World} {d g N : Nat} {D : List Int} (H : DiskI w d g N D) : Calls Tryz.prog 101 #[.pointer (some ⟨d, 0, none⟩)] w fun e w' => e = .returned (.int .i64 N) ∧ w = w' := by
  obtain ⟨⟨r, u, h1⟩, -, -, -, h5⟩ := H
  have c2 : w.cell? ⟨d, 2, none⟩ = some (.slice (some ⟨g, 0, none⟩) (N * 64) (N * 64)) := h1.cell 2
  have e1 : ((N * 64 : Nat) : Int) / 64 = (N : Int) := by omega
  have e2 : (N : Int) * 64 / 64 = (N : Int) := by omega
  clear h1
  go_enter Tryz.func101, Tryz.ntmps101
  go_wp2_with fail
  go_ret
  exact ⟨rfl, rfl⟩

set_option maxRecDepth 100000 in
set_option maxHeartbeats 400000 in
theorem diskAt_ok {w : World} {d g N : Nat} {D : List Int} (H : DiskI w d g N D) (i : Nat) (hi : i < N) : Calls Tryz.prog 92 #[.pointer (some ⟨d, 0, none⟩), .int .i64 i] w fun e w' => e = .returned (.tuple #[.slice (some ⟨g, i * 64, none⟩) 64 64, .int .i64 0]) ∧ w = w' := by
  have HL := Lib.hid (diskLen_any H)
  obtain ⟨⟨r, u, h1⟩, -, -, -, h5⟩ := H
  have c2 : w.cell? ⟨d, 2, none⟩ = some (.slice (some ⟨g, 0, none⟩) (N * 64) (N * 64)) := h1.cell 2
  have t1 : decide ((i : Int) < 0) = false := decide_eq_false (by omega)
  have t2 : decide ((N : Int) ≤ (i : Int)) = false := decide_eq_false (by omega)
  have t3 : decide (N ≤ i) = false := decide_eq_false (by omega)
  have e1 : (i + 1) * 64 - i * 64 = 64 := by omega
  clear h1
  go_enter Tryz.func92, Tryz.ntmps92
  go_wp2_with (first
    | (go_at_call 101; refine HL.out.mono ?_; rintro e w' ⟨rfl, rfl⟩)
    | fail)
  go_ret2
  refine ⟨?_, rfl⟩
  show Ending.returned (.tuple #[.slice (some ⟨g, i * 64, none⟩) ((i + 1) * 64 - i * 64) ((i + 1) * 64 - i * 64), .int .i64 0]) = _
  rw [e1]

/-- a sector's bytes -/
def secB (D : List Int) (i : Nat) : List Int := (D.drop (i * 64)).take 64
theorem secB_len {D : List Int} {i N : Nat} (hl : D.length = N * 64) (hi : i < N) : (secB D i).length = 64 := by
  simp [secB]; omega
theorem DiskI.sector {w : World} {d g N : Nat} {D : List Int} (H : DiskI w d g N D) {i : Nat} (hi : i < N) : ByteS w (fun b => b = g) (.slice (some ⟨g, i * 64, none⟩) 64 64) (secB D i) := by
  have hl := secB_len H.len hi
  refine ⟨⟨some ⟨g, i * 64, none⟩, 64, by rw [hl], by simp [hl], by rw [hl]; exact Nat.le_refl _, by unfold maxLen; decide, (by intro h; cases h), fun _ => ⟨g, i * 64, rfl, rfl, H.brow.lt, fun j u hj => ?_⟩⟩, fun x hx => H.byte x (List.mem_of_mem_drop (List.mem_of_mem_take hx))⟩
  rw [H.brow.cell]
  rw [List.getElem?_map] at hj
  have hj' : j < 64 := by
    rcases Nat.lt_or_ge j 64 with h | h
    · exact h
    · rw [List.getElem?_eq_none (by rw [hl]; exact h)] at hj
      cases hj
  unfold secB at hj
  rw [List.getElem?_take, if_pos hj', List.getElem?_drop] at hj
  simpa using hj

set_option maxRecDepth 100000 in
set_option maxHeartbeats 400000 in
theorem diskRead_ok {w : World} {d g N : Nat} {D : List Int} (H : DiskI w d g N D) (i : Nat) (hi : i < N) : Calls Tryz.prog 66 #[.pointer (some ⟨d, 0, none⟩), .int .i64 i] w (Ret fun v w' => ∃ u, v = .tuple #[u, .int .i64 0] ∧ OwnB w' w.heap.size u (secB D i) ∧ DiskI w' d g N D ∧ Chg (fun k => k = d) w w') := by
  have HA := Lib.hid (diskAt_ok H i hi)
  have hne := H.ne
  have HH := Lib.hid H
  have hl := secB_len H.len hi
  have HL := Lib.hid hl
  obtain ⟨⟨r, u, h1⟩, -, -, -, h5⟩ := H
  have c0 : w.cell? ⟨d, 0, none⟩ = some (.int .i64 r) := h1.cell 0
  have f0 : w.frozen? ⟨d, 0, none⟩ = false := h1.frozen 0
  obtain ⟨W1, hW1⟩ : ∃ W, w.setCell ⟨d, 0, none⟩ (.int .i64 (wrap64 (r + 1))) = W := ⟨_, rfl⟩
  have H1 : DiskI W1 d g N D ∧ Chg (fun k => k = d) w W1 := by
    rw [← hW1]
    exact ⟨⟨⟨_, u, h1.set 0 _⟩, HH.out.brow.other (fun e => hne e.symm) _, HH.out.len, HH.out.byte, HH.out.max⟩, Chg.setCell (F := fun k => k = d) (Chg.refl _ _) (.inl rfl) _⟩
  have HC := Lib.hid (CloneB_any _ (secB D i) _ W1 (H1.1.sector hi) (by rw [hl]; decide))
  rw [hl] at HC
  have H2 := Lib.hid H1
  have HW := Lib.hid hW1
  clear h1 H1 hl hW1
  go_enter Tryz.func66, Tryz.ntmps66
  go_wp2_with (first
    | (go_at_call 92; refine HA.out.mono ?_; rintro e w' ⟨rfl, rfl⟩)
    | (rw [HW.out])
    | (go_at_call 68; refine HC.out.mono ?_; rintro e w2 ⟨v2, rfl, c2, o2⟩; have H3 := Lib.hid (And.intro c2 o2); clear c2 o2)
    | fail)
  go_ret2
  have hs := H2.out.2.size
  refine Ret.mk ⟨_, rfl, ?_, H2.out.1.keep H3.out.1 (fun f => f) (fun f => f), Chg.trans H2.out.2 H3.out.1.no⟩
  have := own_base H3.out.2 hs
  show World.ownsRow _ _ _ _ _ (secB D i).length _
  rw [HL.out]
  exact this

/-- the bytes behind a sector that is written -/
def wrD (D : List Int) (i : Nat) (b : List Int) : List Int := Go.splice (Go.splice D (i * 64) b) (i * 64 + b.length) (List.replicate (64 - b.length) 0)
section
variable {D b : List Int} {i N : Nat}
theorem wrD_len (hD : D.length = N * 64) (hi : i < N) (hb : b.length ≤ 64) : (wrD D i b).length = N * 64 := by
  unfold wrD
  rw [splice_len, splice_len _ _ _ (by omega), hD]
  rw [splice_len _ _ _ (by omega), List.length_replicate]
  omega
theorem wrD_in (hD : D.length = N * 64) (hi : i < N) (hb : b.length ≤ 64) {j : Nat} (hj : j < b.length) : (wrD D i b)[i * 64 + j]? = b[j]? := by
  unfold wrD
  rw [splice_at _ _ _ (by rw [splice_len _ _ _ (by omega), List.length_replicate]; omega), if_neg (by omega), splice_at _ _ _ (by omega), if_pos (by omega), Nat.add_sub_cancel_left]
theorem wrD_out (hD : D.length = N * 64) (hi : i < N) (hb : b.length ≤ 64) {j : Nat} (hj : j < i * 64 ∨ i * 64 + 64 ≤ j) : (wrD D i b)[j]? = D[j]? := by
  unfold wrD
  rw [splice_at _ _ _ (by rw [splice_len _ _ _ (by omega), List.length_replicate]; omega), List.length_replicate, if_neg (by omega), splice_at _ _ _ (by omega), if_neg (by omega)]
theorem wrD_bd (h : ∀ x ∈ D, 0 ≤ x ∧ x ≤ 255) (h2 : ∀ x ∈ b, 0 ≤ x ∧ x ≤ 255) : ∀ x ∈ wrD D i b, 0 ≤ x ∧ x ≤ 255 := by
  refine splice_mem (splice_mem h h2) fun x hx => ?_
  rw [List.mem_replicate] at hx
  omega
end
theorem run_clear_none {P : Program} (w : World) (t e ty : TypeId) (ht : P.underlying t = some (.slice e)) (a : Addr) : (Builtin.clear_ #[t] ty #[.slice (some a) 0 0]).run P w = .ok (.tuple #[]) w := by
  simp [Builtin.clear_, run_underlying ht]
theorem zero_u8 (w : World) : (zeroValue 5).run Tryz.prog w = .ok (.int .u8 0) w := by kernel_rfl
theorem size_u8 : (Tryz.prog.info? 5).map (·.size) = some 1 := by kernel_rfl

set_option maxRecDepth 100000 in
set_option maxHeartbeats 400000 in
theorem diskWrite_ok {w : World} {d g N : Nat} {D : List Int} (H : DiskI w d g N D) (i : Nat) (hi : i < N) (bv : Value) (l : List Int) (S : Nat → Prop) (hb : ByteS w S bv l) (hl1 : 1 ≤ l.length) (hl2 : l.length ≤ 64) :
    Calls Tryz.prog 90 #[.pointer (some ⟨d, 0, none⟩), .int .i64 i, bv] w fun e w' => e = .returned (.int .i64 0) ∧ DiskI w' d g N (wrD D i l) ∧ Chg (fun k => k = d ∨ k = g) w w' := by
  have HA := Lib.hid (diskAt_ok H i hi)
  have hne := H.ne
  obtain ⟨A, c, rfl, -⟩ := hb.form
  obtain ⟨sb, so, rfl⟩ := hb.some hl1
  have hD := H.len
  obtain ⟨w1, hcp, hr1, hc1⟩ := run_copy_row2 (P := Tryz.prog) w 33 33 3 5 g (i * 64) 64 64 ⟨sb, so, none⟩ l.length c 5 (D.map (.int .u8)) (l.map (.int .u8)) Tryz.underlying33 size_u8 H.brow (by rw [List.length_map]; exact (Nat.min_eq_left hl2).symm) (fun j v hj => by
    have hj' : j < l.length := by
      rcases Nat.lt_or_ge j l.length with h | h
      · exact h
      · rw [List.getElem?_eq_none (by rw [List.length_map]; exact h)] at hj
        cases hj
    have := (hb.lay hj').1
    rw [Addr.add_lit]
    rw [List.getElem?_map, List.getElem?_eq_getElem hj', Option.map_some] at hj
    rw [← Option.some.inj hj, this, List.getElem?_eq_getElem hj', Option.getD_some]) (by simp; omega) (one_ints _ l)
  rw [List.length_map] at hcp
  obtain ⟨w2, hcl, hr2, hc2⟩ := run_clear_row (P := Tryz.prog) w1 33 5 0 (.int .u8 0) Tryz.underlying33 zero_u8 rfl rfl g (i * 64 + l.length) (64 - l.length) (64 - l.length) 5 _ hr1 (by
    rw [splice_len _ _ _ (by simp; omega)]; simp; omega)
  have e2 : Go.splice (Go.splice (D.map (Value.int .u8)) (i * 64) (l.map (Value.int .u8))) (i * 64 + l.length) (List.replicate (64 - l.length) (Value.int .u8 0)) = (wrD D i l).map (Value.int .u8) := by
    unfold wrD
    rw [splice_map, splice_map, List.map_replicate]
  rw [e2] at hr2
  have hc := hc1.trans hc2
  have HX := Lib.hid (And.intro H (And.intro hr2 (And.intro hc hb.2)))
  obtain ⟨⟨r, u, h1⟩, -, -, -, h5⟩ := H
  have c1 : w2.cell? ⟨d, 1, none⟩ = some (.int .i64 u) := (h1.keep hc hne).cell 1
  have f1 : w2.frozen? ⟨d, 1, none⟩ = false := (h1.keep hc hne).frozen 1
  have HR := Lib.hid (h1.keep hc hne)
  generalize hn : l.length = n at *
  have HN := Lib.hid hn
  have t1 : decide ((64 : Int) < (n : Int)) = false := decide_eq_false (by omega)
  have t2 : decide (64 < n) = false := decide_eq_false (by omega)
  have fin : ∀ V, V = w2.setCell ⟨d, 1, none⟩ (.int .i64 (wrap64 (u + 1))) → DiskI V d g N (wrD D i l) ∧ Chg (fun k => k = d ∨ k = g) w V := by
    intro V hV
    have hl := HX.out.1.len
    rw [hV]
    exact ⟨⟨⟨r, _, HR.out.set 1 _⟩, HX.out.2.1.other (fun e => hne e.symm) _, wrD_len hl hi (by rw [HN.out]; exact hl2), wrD_bd HX.out.1.byte HX.out.2.2.2, HX.out.1.max⟩, Chg.setCell (Chg.mono HX.out.2.2.1 fun k _ h => .inr h) (.inl (.inl rfl)) _⟩
  have FIN := Lib.hid fin
  clear hb hr1 hc1 hr2 hc2 hc e2 h1 hn hD fin
  by_cases h64 : 64 = n
  · subst h64
    have ew : w1 = w2 := by
      rw [run_clear_none w1 33 5 0 Tryz.underlying33] at hcl
      cases hcl
      rfl
    have hcl2 := run_clear_none (P := Tryz.prog) w2 33 5 0 Tryz.underlying33 ⟨g, i * 64, none⟩
    subst ew
    clear hcl
    go_enter Tryz.func90, Tryz.ntmps90
    go_wp2_with (first
      | (go_at_call 92; refine HA.out.mono ?_; rintro e w' ⟨rfl, rfl⟩)
      | fail)
    go_ret
    exact ⟨rfl, FIN.out _ rfl⟩
  · go_enter Tryz.func90, Tryz.ntmps90
    go_wp2_with (first
      | (go_at_call 92; refine HA.out.mono ?_; rintro e w' ⟨rfl, rfl⟩)
      | fail)
    go_ret
    exact ⟨rfl, FIN.out _ rfl⟩

/-- the bytes behind a sector that is cleared -/
def clD (D : List Int) (i : Nat) : List Int := Go.splice D (i * 64) (List.replicate 64 0)
section
variable {D : List Int} {i N : Nat}
theorem clD_len (hD : D.length = N * 64) (hi : i < N) : (clD D i).length = N * 64 := by
  unfold clD
  rw [splice_len _ _ _ (by simp; omega), hD]
theorem clD_out (hD : D.length = N * 64) (hi : i < N) {j : Nat} (hj : j < i * 64 ∨ i * 64 + 64 ≤ j) : (clD D i)[j]? = D[j]? := by
  unfold clD
  rw [splice_at _ _ _ (by simp; omega), List.length_replicate, if_neg (by omega)]
theorem clD_bd (h : ∀ x ∈ D, 0 ≤ x ∧ x ≤ 255) : ∀ x ∈ clD D i, 0 ≤ x ∧ x ≤ 255 := by
  refine splice_mem h fun x hx => ?_
  rw [List.mem_replicate] at hx
  omega
end

set_option maxRecDepth 100000 in
set_option maxHeartbeats 400000 in
theorem diskClear_ok {w : World} {d g N : Nat} {D : List Int} (H : DiskI w d g N D) (i : Nat) (hi : i < N) (x : Int) (hx : x = (i : Int)) (q : Nat) (hr : Row w q 3 #[.int .i64 x]) :
    Calls Tryz.prog 93 #[.pointer (some ⟨d, 0, none⟩), .slice (some ⟨q, 0, none⟩) 1 1] w fun e w' => e = .returned (.int .i64 0) ∧ DiskI w' d g N (clD D i) ∧ Chg (fun k => k = g) w w' := by
  subst hx
  have HA := Lib.hid (diskAt_ok H i hi)
  have hne := H.ne
  have hD := H.len
  have hq2 : q ≠ g := hr.ne H.brow (by decide)
  obtain ⟨w2, hcl, hr2, hc2⟩ := run_clear_row (P := Tryz.prog) w 33 5 0 (.int .u8 0) Tryz.underlying33 zero_u8 rfl rfl g (i * 64) 64 64 5 _ H.brow (by simp; omega)
  have e2 : Go.splice (D.map (Value.int .u8)) (i * 64) (List.replicate 64 (Value.int .u8 0)) = (clD D i).map (Value.int .u8) := by
    unfold clD
    rw [splice_map, List.map_replicate]
  rw [e2] at hr2
  have h2 : DiskI w2 d g N (clD D i) := by
    obtain ⟨⟨r, u, h1⟩, -, -, h4, h5⟩ := H
    exact ⟨⟨r, u, h1.keep hc2 hne⟩, hr2, clD_len hD hi, clD_bd h4, h5⟩
  have q0 : w.cell? ⟨q, 0, none⟩ = some (.int .i64 i) := hr.cell 0
  have q2 : w2.cell? ⟨q, 0, none⟩ = some (.int .i64 i) := (hr.keep hc2 hq2).cell 0
  have HX := Lib.hid (And.intro h2 hc2)
  have hmax := H.max
  clear H hr2 hc2 e2 hD h2 hr
  go_enter Tryz.func93, Tryz.ntmps93
  go_wp2_with fail
  refine wp_loop_rounds 2 ?_
  iterate 2 (rw [rounds_succ]; go_wp2_with (first | (go_at_call 92; refine HA.out.mono ?_; rintro e w' ⟨rfl, rfl⟩) | fail))
  refine wp_loop_rounds 2 ?_
  iterate 2 (rw [rounds_succ]; go_wp2_with (first | (go_at_call 92; refine HA.out.mono ?_; rintro e w' ⟨rfl, rfl⟩) | fail))
  go_ret
  exact ⟨rfl, HX.out⟩

/-- what New gives: a disk of N sectors, all noughts -/
def DiskNew (w : World) (N : Nat) (v : Value) (w' : World) : Prop := ∃ d g, v = .tuple #[.pointer (some ⟨d, 0, none⟩), .int .i64 0] ∧ w.heap.size ≤ d ∧ w.heap.size ≤ g ∧ DiskI w' d g N (List.replicate (N * 64) 0) ∧ Chg No w w'

set_option maxRecDepth 100000 in
set_option maxHeartbeats 400000 in
theorem diskNew_ok (N : Nat) (hN : N ≤ 20000) (w : World) : Calls Tryz.prog 49 #[.int .i64 N] w (Ret (DiskNew w N)) := by
  obtain ⟨i0, hi, hz0, hz1, hz2⟩ := info_parts info_u8
  have Hz := Lib.hid (And.intro hz0 (And.intro hz1 hz2))
  clear hz0 hz1 hz2
  have t1 : decide ((N : Int) < 0) = false := decide_eq_false (by omega)
  have t2 : decide ((20000 : Int) < N) = false := decide_eq_false (by omega)
  go_enter Tryz.func49, Tryz.ntmps49
  go_wp2_with (first
    | (at_make; refine wpList_make_full _ rfl _ _ _ rfl w.heap.size 5 i0 (.int .u8 0) 1 Tryz.underlying33 hi Hz.out.1 Hz.out.2.1 _ _ _ _ (N * 64) rfl rfl (by omega) (by omega) (by rw [Hz.out.2.2]; omega) (by unfold maxLen; omega) (Nat.le_refl _) ?_; intro w1 hown hgrow; have HO := Lib.hid (And.intro hown hgrow); clear hown hgrow)
    | fail)
  go_ret2
  have hr := own_row HO.out.1
  have hc : Chg No w w1 := (Chg.refl _ _).grown HO.out.2 (by simp)
  have e : (madeCells (Value.int IntKind.u8 0).cells (N * 64 * 1)).toList = (List.replicate (N * 64) (0 : Int)).map (Value.int .u8) := by
    rw [show (Value.int IntKind.u8 0).cells = #[Value.int .u8 0] from rfl, toList_madeCells_one, Nat.mul_one, List.map_replicate]
  rw [e] at hr
  have hr' : Row w1 w.heap.size 5 ((List.replicate (N * 64) (0 : Int)).map (Value.int .u8)).toArray := hr
  refine Ret.mk ⟨_, w.heap.size, rfl, hc.size, Nat.le_refl _, ⟨⟨0, 0, Row.new _ _ _⟩, hr'.alloc _, by simp, ?_, hN⟩, hc.alloc _⟩
  intro x hx
  rw [List.mem_replicate] at hx
  omega

set_option maxHeartbeats 400000 in
theorem diskNew_bad (n : Int) (hN : n < 0 ∨ 20000 < n) (w : World) : Calls Tryz.prog 49 #[.int .i64 n] w fun e w' => e = .returned (.tuple #[.pointer none, .int .i64 2]) ∧ w = w' := by
  by_cases h : n < 0
  · go_enter Tryz.func49, Tryz.ntmps49
    go_wp2_with fail
    go_ret2
    exact ⟨rfl, rfl⟩
  · have h2 : 20000 < n := by omega
    have t1 : decide (n < 0) = false := decide_eq_false h
    go_enter Tryz.func49, Tryz.ntmps49
    go_wp2_with fail
    go_ret2
    exact ⟨rfl, rfl⟩

end Go.Proofs.YtdpmmafkomchaaaGreat
