/- Plain lemmas on 64-bit integers: 'o & (2^k-1)', 'x | y << k'. -/
import Derived.Test.YtjanojignaonfaaMath
namespace Go.Proofs.Ytjanojignaonfaa
set_option linter.unusedVariables false
set_option linter.unusedSimpArgs false
open Go.RowKit

theorem and_mask (o : Int) (k : Nat) (hk : k < 63) : bits .and .i64 o ((2 ^ k - 1 : Nat) : Int) = o % (2 ^ k : Nat) := by
  show IntKind.i64.wrap ((BitVec.ofInt 64 o &&& BitVec.ofInt 64 ((2 ^ k - 1 : Nat) : Int)).toNat : Int) = _
  have hp : (2 : Nat) ^ k < 2 ^ 63 := Nat.pow_lt_pow_right (by decide) hk
  have hp0 : 0 < (2 : Nat) ^ k := Nat.pow_pos (by decide)
  have h1 : (BitVec.ofInt 64 ((2 ^ k - 1 : Nat) : Int)).toNat = 2 ^ k - 1 := by
    rw [BitVec.toNat_ofInt]
    generalize (2 : Nat) ^ k = p at *
    omega
  rw [BitVec.toNat_and, h1, Nat.and_two_pow_sub_one_eq_mod, IntKind.wrap_i64, BitVec.toNat_ofInt]
  have hd : ((o % 2 ^ 64).toNat : Int) % ((2 ^ k : Nat) : Int) = o % ((2 ^ k : Nat) : Int) := by
    have e1 : ((o % 2 ^ 64).toNat : Int) = o % 2 ^ 64 := Int.toNat_of_nonneg (Int.emod_nonneg _ (by decide))
    rw [e1]
    have hdvd : ((2 ^ k : Nat) : Int) ∣ 2 ^ 64 := ⟨((2 ^ (64 - k) : Nat) : Int), by
      rw [← Int.natCast_mul, ← Nat.pow_add, show k + (64 - k) = 64 by omega]; rfl⟩
    exact Int.emod_emod_of_dvd o hdvd
  have h2 : (((o % 2 ^ 64).toNat % 2 ^ k : Nat) : Int) = o % ((2 ^ k : Nat) : Int) := by rw [Int.natCast_emod]; exact hd
  have h3 : ((o % 2 ^ 64).toNat % 2 ^ k : Nat) < 2 ^ k := Nat.mod_lt _ hp0
  have e9 : ((2 : Nat) ^ 64 : Nat) = 18446744073709551616 := by decide
  generalize (2 : Nat) ^ k = p at *
  have h4 : (((o % ((2 ^ 64 : Nat) : Int)).toNat % p : Nat) : Int) = o % (p : Int) := h2
  rw [h4]
  have h5 : 0 ≤ o % (p : Int) := Int.emod_nonneg _ (by omega)
  have h6 : o % (p : Int) < p := Int.emod_lt_of_pos _ (by omega)
  omega
theorem and_3 (o : Int) : bits .and .i64 o 3 = o % 4 := and_mask o 2 (by decide)
theorem and_15 (o : Int) : bits .and .i64 o 15 = o % 16 := and_mask o 4 (by decide)
theorem and_31 (o : Int) : bits .and .i64 o 31 = o % 32 := and_mask o 5 (by decide)
theorem and_255 (o : Int) : bits .and .i64 o 255 = o % 256 := and_mask o 8 (by decide)
theorem and_1023 (o : Int) : bits .and .i64 o 1023 = o % 1024 := and_mask o 10 (by decide)
/-- what lies beside one another -/
theorem or_add (x y : Int) (k : Nat) (hk : k < 62) (h0 : 0 ≤ x) (h1 : x < (2 ^ k : Nat)) (hy : 0 ≤ y) (hm : (y + 1) * (2 ^ k : Nat) ≤ 9223372036854775808) : bits .or .i64 x (y * (2 ^ k : Nat)) = x + y * (2 ^ k : Nat) := by
  obtain ⟨a, rfl⟩ := Int.eq_ofNat_of_zero_le h0
  obtain ⟨b, rfl⟩ := Int.eq_ofNat_of_zero_le hy
  have hp : (2 : Nat) ^ k < 2 ^ 62 := Nat.pow_lt_pow_right (by decide) hk
  show IntKind.i64.wrap ((BitVec.ofInt 64 (a : Int) ||| BitVec.ofInt 64 ((b : Int) * ((2 ^ k : Nat) : Int))).toNat : Int) = _
  have h1' : a < 2 ^ k := Int.ofNat_lt.1 h1
  have hm' : b * 2 ^ k + 2 ^ k ≤ 9223372036854775808 := by
    have h9 : ((b * 2 ^ k + 2 ^ k : Nat) : Int) ≤ 9223372036854775808 := by
      rw [Int.natCast_add, Int.natCast_mul]
      rw [Int.add_mul, Int.one_mul] at hm
      exact hm
    omega
  have e1 : (BitVec.ofInt 64 (a : Int)).toNat = a := by
    rw [BitVec.toNat_ofInt]
    generalize (2 : Nat) ^ k = p at *
    omega
  have e2 : (BitVec.ofInt 64 ((b : Int) * ((2 ^ k : Nat) : Int))).toNat = b * 2 ^ k := by
    rw [← Int.natCast_mul, BitVec.toNat_ofInt]
    generalize (2 : Nat) ^ k = p at *
    generalize b * p = q at *
    omega
  rw [BitVec.toNat_or, e1, e2, Nat.or_comm, Nat.mul_comm b, ← Nat.two_pow_add_eq_or_of_lt h1' b, IntKind.wrap_i64, ← Int.natCast_mul, Nat.mul_comm b]
  have h9 : 2 ^ k * b + 2 ^ k ≤ 9223372036854775808 := by rw [Nat.mul_comm (2 ^ k) b]; exact hm'
  generalize (2 : Nat) ^ k * b = q at *
  generalize (2 : Nat) ^ k = p at *
  omega

end Go.Proofs.Ytjanojignaonfaa
