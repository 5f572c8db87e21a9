/- The document's own answers on words and objects (websterref00, 01, 05): their walks. -/
import Derived.Test.YtmpfpfemjpmbaaaFlatF
namespace Go.Proofs.Ytmpfpfemjpmbaaa
open Go.RowKit

set_option maxRecDepth 100000 in
set_option maxHeartbeats 1000000 in
theorem Ref05_any (v : Int) (h64 : In64 v) (w : World) : Calls Try.prog 15 #[.int .i64 v] w fun e w' => e = .returned (.bool (refOk v)) ∧ w = w' := by
  obtain ⟨b1, b2⟩ := h64
  by_cases hm : v % 2 = 0
  · have q0 : (v.tmod 2 != 0) = false := by rw [tmod_two]; simp; split <;> omega
    have q1 : (v.tmod 2 == 0) = true := by rw [tmod_two]; simp; split <;> omega
    have q2 : (v % 2 != 0) = false := by simp; omega
    have q3 : (v % 2 == 0) = true := by simp; omega
    rcases (show (0 < v ∧ v < 2147483648) ∨ v ≤ 0 ∨ 2147483648 ≤ v by omega) with ⟨h1, h2⟩ | h1 | h1
    · rw [show refOk v = true by simp [refOk, namedOk]; omega]
      clear hm
      go_enter Try.func15, Try.ntmps15
      go_wp2
      go_ret
      exact ⟨rfl, rfl⟩
    · rw [show refOk v = false by simp [refOk, namedOk, numOk]; omega]
      clear hm
      go_enter Try.func15, Try.ntmps15
      go_wp2
      go_ret
      exact ⟨rfl, rfl⟩
    · have h0 : 0 < v := by omega
      have q4 : decide (v < 2147483648) = false := by simp; omega
      rw [show refOk v = false by simp [refOk, namedOk, numOk]; omega]
      clear hm
      go_enter Try.func15, Try.ntmps15
      go_wp2
      go_ret
      exact ⟨rfl, rfl⟩
  · have q0 : (v.tmod 2 != 0) = true := by rw [tmod_two]; simp; split <;> omega
    have q1 : (v.tmod 2 == 0) = false := by rw [tmod_two]; simp; split <;> omega
    have q2 : (v % 2 != 0) = true := by simp; omega
    have q3 : (v % 2 == 0) = false := by simp; omega
    rcases (show (-2147483647 ≤ v ∧ v ≤ 2147483647) ∨ v < -2147483647 ∨ 2147483647 < v by omega) with ⟨h1, h2⟩ | h1 | h1
    · rw [show refOk v = true by simp [refOk, numOk]; omega]
      clear hm
      go_enter Try.func15, Try.ntmps15
      go_wp2
      go_ret
      exact ⟨rfl, rfl⟩
    · rw [show refOk v = false by simp [refOk, namedOk, numOk]; omega]
      clear hm
      go_enter Try.func15, Try.ntmps15
      go_wp2
      go_ret
      exact ⟨rfl, rfl⟩
    · have h0 : -2147483647 ≤ v := by omega
      have q4 : decide (v ≤ 2147483647) = false := by simp; omega
      rw [show refOk v = false by simp [refOk, namedOk, numOk]; omega]
      clear hm
      go_enter Try.func15, Try.ntmps15
      go_wp2
      go_ret
      exact ⟨rfl, rfl⟩

end Go.Proofs.Ytmpfpfemjpmbaaa
