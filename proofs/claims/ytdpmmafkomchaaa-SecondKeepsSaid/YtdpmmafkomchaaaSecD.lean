/- The bits of a word counted: math/bits.OnesCount64. -/
import Derived.Test.YtdpmmafkomchaaaSecC
import Derived.Test.YtdpmmafkomchaaaFlatRep
namespace Go.Proofs.Ytdpmmafkomchaaa
set_option linter.unusedVariables false
set_option linter.unusedSimpArgs false
open Go.RowKit

theorem map8 {α : Type} (q : Nat → α) : (List.range 8).map q = [q 0, q 1, q 2, q 3, q 4, q 5, q 6, q 7] := rfl
/-- the eight counts added up -/
theorem ones_dig (p0 p1 p2 p3 p4 p5 p6 p7 : Nat) (h0 : p0 ≤ 8) (h1 : p1 ≤ 8) (h2 : p2 ≤ 8) (h3 : p3 ≤ 8) (h4 : p4 ≤ 8) (h5 : p5 ≤ 8) (h6 : p6 ≤ 8) (h7 : p7 ≤ 8) (x y z u : Nat)
    (hx : x = dig [p0, p1, p2, p3, p4, p5, p6, p7]) (hy : y = x + x / 256) (hz : z = y + y / 65536) (hu : u = z + z / 4294967296) : u % 128 = p0 + (p1 + (p2 + (p3 + (p4 + (p5 + (p6 + (p7 + 0))))))) := by
  have hx' : x = p0 + 256 * (p1 + 256 * (p2 + 256 * (p3 + 256 * (p4 + 256 * (p5 + 256 * (p6 + 256 * (p7))))))) := by
    rw [hx]
    simp only [dig, Nat.mul_zero, Nat.add_zero]
  have hs := sum_bytes p0 p1 p2 p3 p4 p5 p6 p7 h0 h1 h2 h3 h4 h5 h6 h7 x y z u hx' hy hz hu
  obtain ⟨K, hK⟩ : ∃ K, u = (((p0 + p1) + (p2 + p3)) + ((p4 + p5) + (p6 + p7))) + 256 * K := ⟨_, hs⟩
  clear hs hx hy hz hu hx'
  rw [hK, low7 (((p0 + p1) + (p2 + p3)) + ((p4 + p5) + (p6 + p7))) K (by omega)]
  omega
/-- before the last masks -/
def ones3 (x : Nat) : Nat := pc3 (pc2 (pc1 x 0x5555555555555555) 0x3333333333333333) 0x0f0f0f0f0f0f0f0f
theorem ones3_dig (x : Nat) (h : x < 2 ^ 64) : ones3 x = dig ((List.range 8).map fun k => popB (x / 256 ^ k % 256)) := by
  have hd := dig_mod 8 x
  rw [Nat.mod_eq_of_lt (show x < 256 ^ 8 from h)] at hd
  have hl : ((List.range 8).map fun k => x / 256 ^ k % 256).length = 8 := by rw [List.length_map, List.length_range]
  have hp := pop_bytes ((List.range 8).map fun k => x / 256 ^ k % 256) (by
    intro b hb
    obtain ⟨k, _, rfl⟩ := List.mem_map.1 hb
    exact Nat.mod_lt _ (by decide))
  have r1 : rep 8 0x55 = 0x5555555555555555 := by decide
  have r2 : rep 8 0x33 = 0x3333333333333333 := by decide
  have r3 : rep 8 0x0f = 0x0f0f0f0f0f0f0f0f := by decide
  rw [hl, hd, r1, r2, r3, List.map_map] at hp
  unfold ones3
  rw [hp]
  exact congrArg dig (List.map_congr_left fun k _ => rfl)
/-- it is the number of the word's bits -/
theorem ones_popN (x w y z u : Nat) (h : x < 2 ^ 64) (hw : w = ones3 x) (hy : y = w + w / 256) (hz : z = y + y / 65536) (hu : u = z + z / 4294967296) : u % 128 = popN 64 x := by
  obtain ⟨q, hq⟩ : ∃ q : Nat → Nat, q = fun k => popB (x / 256 ^ k % 256) := ⟨_, rfl⟩
  have hb : ∀ k, q k ≤ 8 := fun k => by rw [hq]; exact (popB_eq ⟨x / 256 ^ k % 256, Nat.mod_lt _ (by decide)⟩).2
  have e64 : popN 64 x = popN (8 * 8) x := rfl
  rw [e64, popN_digs 8 x, ← hq]
  rw [ones3_dig x h, ← hq] at hw
  clear hq e64 h
  rw [map8] at hw ⊢
  have := ones_dig _ _ _ _ _ _ _ _ (hb 0) (hb 1) (hb 2) (hb 3) (hb 4) (hb 5) (hb 6) (hb 7) w y z u hw hy hz hu
  rw [this]
  simp only [List.sum_cons, List.sum_nil]

theorem wrap_u64 (n : Nat) (h : n < 18446744073709551616) : IntKind.u64.wrap (n : Int) = (n : Int) := by
  rw [IntKind.wrap_u64]
  omega
set_option maxHeartbeats 400000 in
theorem OnesCount64_any (x : Nat) (h : x < 18446744073709551616) (w : World) : Calls Try.prog 79 #[.int .u64 (x : Int)] w fun e w' => e = .returned (.int .i64 (popN 64 x : Nat)) ∧ w = w' := by
  have hA := fun (y : Nat) (hy : y < 18446744073709551616) => u64_and_nat y 6148914691236517205 hy (by decide)
  have hB := fun (y : Nat) (hy : y < 18446744073709551616) => u64_and_nat y 3689348814741910323 hy (by decide)
  have hC := fun (y : Nat) (hy : y < 18446744073709551616) => u64_and_nat y 1085102592571150095 hy (by decide)
  obtain ⟨a1, ea1⟩ : ∃ a : Nat, a = x / 2 &&& 6148914691236517205 := ⟨_, rfl⟩
  obtain ⟨a2, ea2⟩ : ∃ a : Nat, a = x &&& 6148914691236517205 := ⟨_, rfl⟩
  have la1 : a1 ≤ 6148914691236517205 := by rw [ea1]; exact Nat.and_le_right
  have la2 : a2 ≤ 6148914691236517205 := by rw [ea2]; exact Nat.and_le_right
  obtain ⟨s1, es1⟩ : ∃ a : Nat, a = a1 + a2 := ⟨_, rfl⟩
  obtain ⟨b1, eb1⟩ : ∃ a : Nat, a = s1 / 4 &&& 3689348814741910323 := ⟨_, rfl⟩
  obtain ⟨b2, eb2⟩ : ∃ a : Nat, a = s1 &&& 3689348814741910323 := ⟨_, rfl⟩
  have lb1 : b1 ≤ 3689348814741910323 := by rw [eb1]; exact Nat.and_le_right
  have lb2 : b2 ≤ 3689348814741910323 := by rw [eb2]; exact Nat.and_le_right
  obtain ⟨s2, es2⟩ : ∃ a : Nat, a = b1 + b2 := ⟨_, rfl⟩
  obtain ⟨t, et⟩ : ∃ a : Nat, a = s2 / 16 + s2 := ⟨_, rfl⟩
  obtain ⟨v, ev⟩ : ∃ a : Nat, a = t &&& 1085102592571150095 := ⟨_, rfl⟩
  have lv : v ≤ 1085102592571150095 := by rw [ev]; exact Nat.and_le_right
  obtain ⟨y, ey⟩ : ∃ a : Nat, a = v + v / 256 := ⟨_, rfl⟩
  obtain ⟨z, ez⟩ : ∃ a : Nat, a = y + y / 65536 := ⟨_, rfl⟩
  obtain ⟨u, eu⟩ : ∃ a : Nat, a = z + z / 4294967296 := ⟨_, rfl⟩
  have hv3 : v = ones3 x := by rw [ev, et, es2, eb1, eb2, es1, ea1, ea2]; rfl
  have hu := ones_popN x v y z u h hv3 ey ez eu
  have f1 : bits .and .u64 ((x : Int) / 2) 6148914691236517205 = (a1 : Int) := by rw [ea1]; exact hA (x / 2) (by omega)
  have f2 : bits .and .u64 (x : Int) 6148914691236517205 = (a2 : Int) := by rw [ea2]; exact hA x h
  have f3 : IntKind.u64.wrap ((a1 : Int) + (a2 : Int)) = (s1 : Int) := by rw [es1, ← Int.natCast_add]; exact wrap_u64 _ (by omega)
  have f4 : bits .and .u64 ((s1 : Int) / 4) 3689348814741910323 = (b1 : Int) := by rw [eb1]; exact hB (s1 / 4) (by omega)
  have f5 : bits .and .u64 (s1 : Int) 3689348814741910323 = (b2 : Int) := by rw [eb2]; exact hB s1 (by omega)
  have f6 : IntKind.u64.wrap ((b1 : Int) + (b2 : Int)) = (s2 : Int) := by rw [es2, ← Int.natCast_add]; exact wrap_u64 _ (by omega)
  have f7 : IntKind.u64.wrap ((s2 : Int) / 16 + (s2 : Int)) = (t : Int) := by rw [et]; exact wrap_u64 (s2 / 16 + s2) (by omega)
  have f8 : bits .and .u64 (t : Int) 1085102592571150095 = (v : Int) := by rw [ev]; exact hC t (by omega)
  have f9 : IntKind.u64.wrap ((v : Int) + (v : Int) / 256) = (y : Int) := by rw [ey]; exact wrap_u64 (v + v / 256) (by omega)
  have f10 : IntKind.u64.wrap ((y : Int) + (y : Int) / 65536) = (z : Int) := by rw [ez]; exact wrap_u64 (y + y / 65536) (by omega)
  have f11 : IntKind.u64.wrap ((z : Int) + (z : Int) / 4294967296) = (u : Int) := by rw [eu]; exact wrap_u64 (z + z / 4294967296) (by omega)
  have f12 : IntKind.i64.wrap (u : Int) = (u : Int) := IntWalk.i64_in _ (by omega)
  have f13 : bits .and .i64 (u : Int) 127 = (u : Int) % 128 := and_mask _ 7 (by decide)
  have f14 : (u : Int) % 128 = (popN 64 x : Nat) := by rw [← hu]; rfl
  clear hA hB hC hv3 hu ea1 ea2 es1 eb1 eb2 es2 et ev ey ez eu la1 la2 lb1 lb2 lv
  generalize popN 64 x = N at *
  go_enter Try.func79, Try.ntmps79
  go_wp2_with fail
  go_ret
  exact ⟨rfl, rfl⟩

end Go.Proofs.Ytdpmmafkomchaaa
