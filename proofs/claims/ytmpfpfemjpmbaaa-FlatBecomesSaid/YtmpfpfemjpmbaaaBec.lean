/- Two that become one another twice are as they were. Plain. -/
import Derived.Test.YtmpfpfemjpmbaaaCol2
namespace Go.Proofs.Ytmpfpfemjpmbaaa
set_option linter.unusedVariables false
set_option linter.unusedSimpArgs false
open Go.RowKit

theorem objE_cases (L : List O) (a : Int) : (objE L a = 0 ∧ ∃ i, fnd L a = some i ∧ objV L a = ob L i) ∨ (objE L a = 4 ∧ fnd L a = none) := by
  unfold objE objV
  cases fnd L a with
  | none => exact .inr ⟨rfl, rfl⟩
  | some i => exact .inl ⟨rfl, i, rfl, rfl⟩
theorem becomeE_not {L : List O} {a b : Int} (h : objE L a = 4 ∨ objE L b = 4) : becomeE L a b = 4 := by
  unfold becomeE
  rcases objE_cases L a with ⟨h1, i, h2, -⟩ | ⟨h1, h2⟩
  · rcases objE_cases L b with ⟨h3, j, h4, -⟩ | ⟨h3, h4⟩
    · omega
    · rw [h2, h4]
  · rw [h2]
theorem fnd_of {M : List O} {i : Nat} (hk : (ob M i).kind ≠ 0) (hM : M.length < 1073741823) : fnd M (2 * ((i : Int) + 1)) = some i := by
  rw [fnd_even M i (ob_lt hk) hM, if_neg hk]
theorem bec_bec {L : List O} {i j : Nat} (hi : i < L.length) (hj : j < L.length) : becL (becL L i j) j i = L := by
  have hl : (becL L i j).length = L.length := by simp [becL]
  refine ob_ext (by simp [becL]) fun k => ?_
  rw [ob_bec (by omega) (by omega), ob_bec hi hj, ob_bec hi hj, ob_bec hi hj]
  by_cases h1 : k = i
  · subst h1
    simp
  · by_cases h2 : k = j
    · subst h2
      by_cases h3 : i = k
      · simp [h3]
      · simp [h1, h3]
    · simp [h1, h2]
theorem twice {L : List O} {a b : Int} (hL : L.length < 1073741823) (ha : objE L a = 0) (hb : objE L b = 0) :
    becomeE L a b = 0 ∧ objE (becomeL L a b) a = 0 ∧ objV (becomeL L a b) a = objV L b ∧ objE (becomeL L a b) b = 0 ∧ objV (becomeL L a b) b = objV L a ∧ becomeE (becomeL L a b) b a = 0 ∧ becomeL (becomeL L a b) b a = L := by
  obtain ⟨i, h1, hva⟩ : ∃ i, fnd L a = some i ∧ objV L a = ob L i := by
    rcases objE_cases L a with ⟨-, h⟩ | ⟨h, -⟩
    · exact h
    · omega
  obtain ⟨j, h2, hvb⟩ : ∃ j, fnd L b = some j ∧ objV L b = ob L j := by
    rcases objE_cases L b with ⟨-, h⟩ | ⟨h, -⟩
    · exact h
    · omega
  obtain ⟨-, ka, la, ea⟩ := fnd_some h1
  obtain ⟨-, kb, lb, eb⟩ := fnd_some h2
  have e1 : becomeL L a b = becL L i j := by simp only [becomeL, h1, h2]
  have hl : (becL L i j).length = L.length := by simp [becL]
  have o1 : ob (becL L i j) i = ob L j := by
    rw [ob_bec la lb]
    by_cases h : i = j
    · subst h; simp
    · simp [h]
  have o2 : ob (becL L i j) j = ob L i := by
    rw [ob_bec la lb]
    simp
  have f1 : fnd (becL L i j) a = some i := by rw [ea]; exact fnd_of (by rw [o1]; exact kb) (by omega)
  have f2 : fnd (becL L i j) b = some j := by rw [eb]; exact fnd_of (by rw [o2]; exact ka) (by omega)
  rw [e1, hva, hvb]
  refine ⟨by simp only [becomeE, h1, h2], by simp only [objE, f1], by simp only [objV, f1, o1], by simp only [objE, f2], by simp only [objV, f2, o2], by simp only [becomeE, f1, f2], ?_⟩
  simp only [becomeL, f1, f2]
  exact bec_bec la lb
end Go.Proofs.Ytmpfpfemjpmbaaa
