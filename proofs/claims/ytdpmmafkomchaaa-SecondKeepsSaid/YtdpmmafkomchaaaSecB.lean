/- The plain law of bits in words of 64. No program is named here. -/
import Derived.Test.YtdpmmafkomchaaaSecP
import Derived.Laws.BitsAllLaws
namespace Go.Proofs.Ytdpmmafkomchaaa
set_option linter.unusedVariables false
set_option linter.unusedSimpArgs false
open Go.RowKit

/-- which of the bits of words are set -/
def bitT (ws : List Nat) (i : Nat) : Bool := (ws[i / 64]?.getD 0).testBit (i % 64)
theorem xor_u64 (a b : Nat) (ha : a < 2 ^ 64) (hb : b < 2 ^ 64) : bits .xor .u64 (a : Int) (b : Int) = ((a ^^^ b : Nat) : Int) := u64_xor_nat a b ha hb
theorem and1_u64 (a : Nat) (ha : a < 2 ^ 64) : bits .and .u64 (a : Int) 1 = ((a % 2 : Nat) : Int) := by
  rw [show (1 : Int) = ((1 : Nat) : Int) from rfl, u64_and_nat a 1 ha (by decide), Nat.and_one_is_mod]
/-- a bit turned -/
def flipW (ws : List Nat) (i : Nat) : List Nat := ws.set (i / 64) ((ws[i / 64]?.getD 0) ^^^ 2 ^ (i % 64))
theorem flipW_len (ws : List Nat) (i : Nat) : (flipW ws i).length = ws.length := by simp [flipW]
theorem flipW_bit {ws : List Nat} {i : Nat} (hi : i / 64 < ws.length) (j : Nat) : bitT (flipW ws i) j = if j = i then !bitT ws i else bitT ws j := by
  unfold bitT flipW
  rw [List.getElem?_set]
  by_cases hw : i / 64 = j / 64
  · rw [if_pos hw, if_pos (by omega), Option.getD_some, Nat.testBit_xor, Nat.testBit_two_pow]
    by_cases hj : j = i
    · subst hj
      simp
    · rw [if_neg hj, decide_eq_false (by omega), Bool.xor_false, hw]
  · rw [if_neg hw, if_neg (by rintro rfl; exact hw rfl)]
theorem flipW_small {ws : List Nat} {i : Nat} (h : ∀ x ∈ ws, x < 2 ^ 64) : ∀ x ∈ flipW ws i, x < 2 ^ 64 := by
  intro x hx
  unfold flipW at hx
  rcases List.mem_or_eq_of_mem_set hx with h1 | h1
  · exact h x h1
  · subst h1
    refine Nat.xor_lt_two_pow ?_ (Nat.pow_lt_pow_right (by omega) (Nat.mod_lt _ (by omega)))
    cases hc : ws[i / 64]? with
    | none => simp
    | some y => exact h y (List.mem_of_getElem? hc)
theorem bitT_div (ws : List Nat) (i : Nat) : bitT ws i = decide ((ws[i / 64]?.getD 0) / 2 ^ (i % 64) % 2 = 1) := by
  unfold bitT
  rw [Nat.testBit_eq_decide_div_mod_eq]

end Go.Proofs.Ytdpmmafkomchaaa
