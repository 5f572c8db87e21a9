/- Plain lemmas on 64-bit integers: what 'o & 1', 'o | x' and their kin are. · Walks of the functions of package word and its reference. · Plain lemmas on 64-bit integers: 'o & (2^k-1)', 'x | y << k'. -/
import Derived.Test.YtncoanmgifgcbaaDoorProg
import Derived.WalkKit
import Derived.WalkSpells
import Derived.WalkLawsBesides
import Derived.Lib.Hide
namespace Go.Proofs.YtncoanmgifgcbaaDoor
set_option linter.unusedVariables false
set_option linter.unusedSimpArgs false
open Go.RowKit

theorem wrap_toNat (b : BitVec 64) : IntKind.i64.wrap (b.toNat : Int) = b.toInt := by
  rw [IntKind.wrap_i64, BitVec.toInt_eq_toNat_cond]
  have := b.isLt
  split <;> omega

theorem bits_and_toInt (x y : Int) : bits .and .i64 x y = (BitVec.ofInt 64 x &&& BitVec.ofInt 64 y).toInt := by
  show IntKind.i64.wrap ((BitVec.ofInt 64 x &&& BitVec.ofInt 64 y).toNat : Int) = _
  exact wrap_toNat _
theorem bits_or_toInt (x y : Int) : bits .or .i64 x y = (BitVec.ofInt 64 x ||| BitVec.ofInt 64 y).toInt := by
  show IntKind.i64.wrap ((BitVec.ofInt 64 x ||| BitVec.ofInt 64 y).toNat : Int) = _
  exact wrap_toNat _

/-- 'o & 1' -/
theorem and_one (o : Int) : bits .and .i64 o 1 = o % 2 := by
  show IntKind.i64.wrap ((BitVec.ofInt 64 o &&& BitVec.ofInt 64 1).toNat : Int) = _
  have h1 : (BitVec.ofInt 64 1).toNat = 1 := by decide
  rw [BitVec.toNat_and, h1, Nat.and_one_is_mod, IntKind.wrap_i64, BitVec.toNat_ofInt]
  omega

theorem ofInt_not (x : Int) : BitVec.ofInt 64 (-1 - x) = ~~~ BitVec.ofInt 64 x := by
  apply BitVec.eq_of_toInt_eq
  rw [BitVec.toInt_not, BitVec.toInt_ofInt, BitVec.toNat_ofInt]
  simp only [Int.bmod_def]
  omega

theorem toInt_not64 (b : BitVec 64) : (~~~ b).toInt = -1 - b.toInt := by
  rw [BitVec.toInt_not, BitVec.toInt_eq_toNat_cond]
  have := b.isLt
  simp only [Int.bmod_def]
  split <;> omega

/-- 'x | y' is '-1 - (-1-x)&(-1-y)' -/
theorem or_by_and (x y : Int) : bits .or .i64 x y = -1 - bits .and .i64 (-1 - x) (-1 - y) := by
  rw [bits_or_toInt, bits_and_toInt, ofInt_not, ofInt_not, ← BitVec.not_or, toInt_not64]
  omega

theorem toInt_bd (b : BitVec 64) : -9223372036854775808 ≤ b.toInt ∧ b.toInt ≤ 9223372036854775807 := by
  rw [BitVec.toInt_eq_toNat_cond]
  have := b.isLt
  split <;> omega
theorem bits_and_bd (x y : Int) : -9223372036854775808 ≤ bits .and .i64 x y ∧ bits .and .i64 x y ≤ 9223372036854775807 := by
  rw [bits_and_toInt]; exact toInt_bd _
theorem bits_or_bd (x y : Int) : -9223372036854775808 ≤ bits .or .i64 x y ∧ bits .or .i64 x y ≤ 9223372036854775807 := by
  rw [bits_or_toInt]; exact toInt_bd _

theorem tmod_two (o : Int) : o.tmod 2 = if 0 ≤ o ∨ o % 2 = 0 then o % 2 else o % 2 - 2 := by
  rw [Int.tmod_eq_emod]
  simp only [Int.dvd_iff_emod_eq_zero]
  split <;> simp
theorem tdiv_two (o : Int) : o.tdiv 2 = if 0 ≤ o ∨ o % 2 = 0 then o / 2 else o / 2 + 1 := by
  rw [Int.tdiv_eq_ediv]
  simp only [Int.dvd_iff_emod_eq_zero]
  split <;> simp

/-- THE NUMBER OF A REFERENCE. -/
def numOk (o : Int) : Bool := decide (o % 2 = 1 ∧ -1073741824 ≤ o / 2 ∧ o / 2 ≤ 1073741823)
def numV (o : Int) : Int := if o % 2 = 1 ∧ -1073741824 ≤ o / 2 ∧ o / 2 ≤ 1073741823 then o / 2 else 0
theorem numV_bd (o : Int) : -1073741824 ≤ numV o ∧ numV o ≤ 1073741823 := by
  unfold numV; split <;> omega

/-- THE REFERENCE OF A NUMBER. -/
def smallOk (n : Int) : Bool := decide (-1073741824 ≤ n ∧ n ≤ 1073741823)
def smallV (n : Int) : Int := if -1073741824 ≤ n ∧ n ≤ 1073741823 then 2 * n + 1 else 0
def smallE (n : Int) : Int := if -1073741824 ≤ n ∧ n ≤ 1073741823 then 0 else 2

/-- THE NUMBER OF THE OBJECT THAT A REFERENCE NAMES. -/
def namedOk (o : Int) : Bool := decide (o % 2 = 0 ∧ 2 ≤ o ∧ o ≤ 2147483646)
def namedV (o : Int) : Int := if o % 2 = 0 ∧ 2 ≤ o ∧ o ≤ 2147483646 then o / 2 else 0
/-- MAY A WORD STAND IN AN OBJECT? -/
def refOk (o : Int) : Bool := numOk o || namedOk o

set_option maxHeartbeats 400000 in
theorem Number_any (o : Int) (h : -9223372036854775808 ≤ o) (h' : o ≤ 9223372036854775807) (w : World) :
    Calls Tryd.prog 35 #[.int .i64 o] w fun e w' => e = .returned (.tuple #[.int .i64 (numV o), .bool (numOk o)]) ∧ w = w' := by
  have ha := and_one o
  by_cases hc : o % 2 = 1 ∧ -1073741824 ≤ o / 2 ∧ o / 2 ≤ 1073741823
  · rw [show numV o = o / 2 from if_pos hc, show numOk o = true from decide_eq_true hc]
    go_enter Tryd.func35, Tryd.ntmps35
    go_wp2
    all_goals (go_ret2; first | exact ⟨rfl, rfl⟩ | (exfalso; omega))
  · rw [show numV o = 0 from if_neg hc, show numOk o = false from decide_eq_false hc]
    go_enter Tryd.func35, Tryd.ntmps35
    go_wp2
    all_goals (go_ret2; first | exact ⟨rfl, rfl⟩ | (simp at *; omega))

set_option maxHeartbeats 400000 in
theorem Named_any (o : Int) (h : -9223372036854775808 ≤ o) (h' : o ≤ 9223372036854775807) (w : World) :
    Calls Tryd.prog 29 #[.int .i64 o] w fun e w' => e = .returned (.tuple #[.int .i64 (namedV o), .bool (namedOk o)]) ∧ w = w' := by
  have ha := and_one o
  by_cases hc : o % 2 = 0 ∧ 2 ≤ o ∧ o ≤ 2147483646
  · rw [show namedV o = o / 2 from if_pos hc, show namedOk o = true from decide_eq_true hc]
    go_enter Tryd.func29, Tryd.ntmps29
    go_wp2
    all_goals (go_ret2; first | exact ⟨rfl, rfl⟩ | (exfalso; omega))
  · rw [show namedV o = 0 from if_neg hc, show namedOk o = false from decide_eq_false hc]
    go_enter Tryd.func29, Tryd.ntmps29
    go_wp2
    all_goals (go_ret2; first | exact ⟨rfl, rfl⟩ | (simp at *; omega))

set_option maxHeartbeats 400000 in
theorem Small_any (o : Int) (h : -9223372036854775808 ≤ o) (h' : o ≤ 9223372036854775807) (w : World) :
    Calls Tryd.prog 69 #[.int .i64 o] w fun e w' => e = .returned (.tuple #[.int .i64 (smallV o), .int .i64 (smallE o)]) ∧ w = w' := by
  by_cases hc : -1073741824 ≤ o ∧ o ≤ 1073741823
  · rw [show smallV o = 2 * o + 1 from if_pos hc, show smallE o = 0 from if_pos hc]
    obtain ⟨h1, h2⟩ := hc
    go_enter Tryd.func69, Tryd.ntmps69
    go_wp2
    all_goals (go_ret2; exact ⟨rfl, rfl⟩)
  · rw [show smallV o = 0 from if_neg hc, show smallE o = 2 from if_neg hc]
    go_enter Tryd.func69, Tryd.ntmps69
    go_wp2
    all_goals (go_ret2; first | exact ⟨rfl, rfl⟩ | (simp at *; omega))

theorem and_mask (o : Int) (k : Nat) (hk : k < 63) : bits .and .i64 o ((2 ^ k - 1 : Nat) : Int) = o % (2 ^ k : Nat) := by
  show IntKind.i64.wrap ((BitVec.ofInt 64 o &&& BitVec.ofInt 64 ((2 ^ k - 1 : Nat) : Int)).toNat : Int) = _
  have hp : (2 : Nat) ^ k < 2 ^ 63 := Nat.pow_lt_pow_right (by decide) hk
  have hp0 : 0 < (2 : Nat) ^ k := Nat.pow_pos (by decide)
  have h1 : (BitVec.ofInt 64 ((2 ^ k - 1 : Nat) : Int)).toNat = 2 ^ k - 1 := by
    rw [BitVec.toNat_ofInt]
    generalize (2 : Nat) ^ k = p at *
    omega
  rw [BitVec.toNat_and, h1, Nat.and_two_pow_sub_one_eq_mod, IntKind.wrap_i64, BitVec.toNat_ofInt]
  have hd : ((o % 2 ^ 64).toNat : Int) % ((2 ^ k : Nat) : Int) = o % ((2 ^ k : Nat) : Int) := by
    have e1 : ((o % 2 ^ 64).toNat : Int) = o % 2 ^ 64 := Int.toNat_of_nonneg (Int.emod_nonneg _ (by decide))
    rw [e1]
    have hdvd : ((2 ^ k : Nat) : Int) ∣ 2 ^ 64 := ⟨((2 ^ (64 - k) : Nat) : Int), by
      rw [← Int.natCast_mul, ← Nat.pow_add, show k + (64 - k) = 64 by omega]; rfl⟩
    exact Int.emod_emod_of_dvd o hdvd
  have h2 : (((o % 2 ^ 64).toNat % 2 ^ k : Nat) : Int) = o % ((2 ^ k : Nat) : Int) := by rw [Int.natCast_emod]; exact hd
  have h3 : ((o % 2 ^ 64).toNat % 2 ^ k : Nat) < 2 ^ k := Nat.mod_lt _ hp0
  have e9 : ((2 : Nat) ^ 64 : Nat) = 18446744073709551616 := by decide
  generalize (2 : Nat) ^ k = p at *
  have h4 : (((o % ((2 ^ 64 : Nat) : Int)).toNat % p : Nat) : Int) = o % (p : Int) := h2
  rw [h4]
  have h5 : 0 ≤ o % (p : Int) := Int.emod_nonneg _ (by omega)
  have h6 : o % (p : Int) < p := Int.emod_lt_of_pos _ (by omega)
  omega
theorem and_3 (o : Int) : bits .and .i64 o 3 = o % 4 := and_mask o 2 (by decide)
theorem and_15 (o : Int) : bits .and .i64 o 15 = o % 16 := and_mask o 4 (by decide)
theorem and_31 (o : Int) : bits .and .i64 o 31 = o % 32 := and_mask o 5 (by decide)
theorem and_255 (o : Int) : bits .and .i64 o 255 = o % 256 := and_mask o 8 (by decide)
theorem and_1023 (o : Int) : bits .and .i64 o 1023 = o % 1024 := and_mask o 10 (by decide)
/-- what lies beside one another -/
theorem or_add (x y : Int) (k : Nat) (hk : k < 62) (h0 : 0 ≤ x) (h1 : x < (2 ^ k : Nat)) (hy : 0 ≤ y) (hm : (y + 1) * (2 ^ k : Nat) ≤ 9223372036854775808) : bits .or .i64 x (y * (2 ^ k : Nat)) = x + y * (2 ^ k : Nat) := by
  obtain ⟨a, rfl⟩ := Int.eq_ofNat_of_zero_le h0
  obtain ⟨b, rfl⟩ := Int.eq_ofNat_of_zero_le hy
  have hp : (2 : Nat) ^ k < 2 ^ 62 := Nat.pow_lt_pow_right (by decide) hk
  show IntKind.i64.wrap ((BitVec.ofInt 64 (a : Int) ||| BitVec.ofInt 64 ((b : Int) * ((2 ^ k : Nat) : Int))).toNat : Int) = _
  have h1' : a < 2 ^ k := Int.ofNat_lt.1 h1
  have hm' : b * 2 ^ k + 2 ^ k ≤ 9223372036854775808 := by
    have h9 : ((b * 2 ^ k + 2 ^ k : Nat) : Int) ≤ 9223372036854775808 := by
      rw [Int.natCast_add, Int.natCast_mul]
      rw [Int.add_mul, Int.one_mul] at hm
      exact hm
    omega
  have e1 : (BitVec.ofInt 64 (a : Int)).toNat = a := by
    rw [BitVec.toNat_ofInt]
    generalize (2 : Nat) ^ k = p at *
    omega
  have e2 : (BitVec.ofInt 64 ((b : Int) * ((2 ^ k : Nat) : Int))).toNat = b * 2 ^ k := by
    rw [← Int.natCast_mul, BitVec.toNat_ofInt]
    generalize (2 : Nat) ^ k = p at *
    generalize b * p = q at *
    omega
  rw [BitVec.toNat_or, e1, e2, Nat.or_comm, Nat.mul_comm b, ← Nat.two_pow_add_eq_or_of_lt h1' b, IntKind.wrap_i64, ← Int.natCast_mul, Nat.mul_comm b]
  have h9 : 2 ^ k * b + 2 ^ k ≤ 9223372036854775808 := by rw [Nat.mul_comm (2 ^ k) b]; exact hm'
  generalize (2 : Nat) ^ k * b = q at *
  generalize (2 : Nat) ^ k = p at *
  omega

end Go.Proofs.YtncoanmgifgcbaaDoor
