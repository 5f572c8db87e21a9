/- Plain lemmas on 64-bit integers: what 'o & 1', 'o | x' and their kin are. -/
import Derived.WalkKit
namespace Go.Proofs.Ytjanojignaonfaa
set_option linter.unusedVariables false
set_option linter.unusedSimpArgs false
open Go.RowKit

theorem wrap_toNat (b : BitVec 64) : IntKind.i64.wrap (b.toNat : Int) = b.toInt := by
  rw [IntKind.wrap_i64, BitVec.toInt_eq_toNat_cond]
  have := b.isLt
  split <;> omega

theorem bits_and_toInt (x y : Int) : bits .and .i64 x y = (BitVec.ofInt 64 x &&& BitVec.ofInt 64 y).toInt := by
  show IntKind.i64.wrap ((BitVec.ofInt 64 x &&& BitVec.ofInt 64 y).toNat : Int) = _
  exact wrap_toNat _
theorem bits_or_toInt (x y : Int) : bits .or .i64 x y = (BitVec.ofInt 64 x ||| BitVec.ofInt 64 y).toInt := by
  show IntKind.i64.wrap ((BitVec.ofInt 64 x ||| BitVec.ofInt 64 y).toNat : Int) = _
  exact wrap_toNat _

/-- 'o & 1' -/
theorem and_one (o : Int) : bits .and .i64 o 1 = o % 2 := by
  show IntKind.i64.wrap ((BitVec.ofInt 64 o &&& BitVec.ofInt 64 1).toNat : Int) = _
  have h1 : (BitVec.ofInt 64 1).toNat = 1 := by decide
  rw [BitVec.toNat_and, h1, Nat.and_one_is_mod, IntKind.wrap_i64, BitVec.toNat_ofInt]
  omega

theorem ofInt_not (x : Int) : BitVec.ofInt 64 (-1 - x) = ~~~ BitVec.ofInt 64 x := by
  apply BitVec.eq_of_toInt_eq
  rw [BitVec.toInt_not, BitVec.toInt_ofInt, BitVec.toNat_ofInt]
  simp only [Int.bmod_def]
  omega

theorem toInt_not64 (b : BitVec 64) : (~~~ b).toInt = -1 - b.toInt := by
  rw [BitVec.toInt_not, BitVec.toInt_eq_toNat_cond]
  have := b.isLt
  simp only [Int.bmod_def]
  split <;> omega

/-- 'x | y' is '-1 - (-1-x)&(-1-y)' -/
theorem or_by_and (x y : Int) : bits .or .i64 x y = -1 - bits .and .i64 (-1 - x) (-1 - y) := by
  rw [bits_or_toInt, bits_and_toInt, ofInt_not, ofInt_not, ← BitVec.not_or, toInt_not64]
  omega

theorem toInt_bd (b : BitVec 64) : -9223372036854775808 ≤ b.toInt ∧ b.toInt ≤ 9223372036854775807 := by
  rw [BitVec.toInt_eq_toNat_cond]
  have := b.isLt
  split <;> omega
theorem bits_and_bd (x y : Int) : -9223372036854775808 ≤ bits .and .i64 x y ∧ bits .and .i64 x y ≤ 9223372036854775807 := by
  rw [bits_and_toInt]; exact toInt_bd _
theorem bits_or_bd (x y : Int) : -9223372036854775808 ≤ bits .or .i64 x y ∧ bits .or .i64 x y ≤ 9223372036854775807 := by
  rw [bits_or_toInt]; exact toInt_bd _

theorem tmod_two (o : Int) : o.tmod 2 = if 0 ≤ o ∨ o % 2 = 0 then o % 2 else o % 2 - 2 := by
  rw [Int.tmod_eq_emod]
  simp only [Int.dvd_iff_emod_eq_zero]
  split <;> simp
theorem tdiv_two (o : Int) : o.tdiv 2 = if 0 ≤ o ∨ o % 2 = 0 then o / 2 else o / 2 + 1 := by
  rw [Int.tdiv_eq_ediv]
  simp only [Int.dvd_iff_emod_eq_zero]
  split <;> simp

/-- THE NUMBER OF A REFERENCE. -/
def numOk (o : Int) : Bool := decide (o % 2 = 1 ∧ -1073741824 ≤ o / 2 ∧ o / 2 ≤ 1073741823)
def numV (o : Int) : Int := if o % 2 = 1 ∧ -1073741824 ≤ o / 2 ∧ o / 2 ≤ 1073741823 then o / 2 else 0
theorem numV_bd (o : Int) : -1073741824 ≤ numV o ∧ numV o ≤ 1073741823 := by
  unfold numV; split <;> omega

/-- THE REFERENCE OF A NUMBER. -/
def smallOk (n : Int) : Bool := decide (-1073741824 ≤ n ∧ n ≤ 1073741823)
def smallV (n : Int) : Int := if -1073741824 ≤ n ∧ n ≤ 1073741823 then 2 * n + 1 else 0
def smallE (n : Int) : Int := if -1073741824 ≤ n ∧ n ≤ 1073741823 then 0 else 2

/-- THE NUMBER OF THE OBJECT THAT A REFERENCE NAMES. -/
def namedOk (o : Int) : Bool := decide (o % 2 = 0 ∧ 2 ≤ o ∧ o ≤ 2147483646)
def namedV (o : Int) : Int := if o % 2 = 0 ∧ 2 ≤ o ∧ o ≤ 2147483646 then o / 2 else 0
/-- MAY A WORD STAND IN AN OBJECT? -/
def refOk (o : Int) : Bool := numOk o || namedOk o

end Go.Proofs.Ytjanojignaonfaa
