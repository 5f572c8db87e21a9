/- The plain law of runs of sectors: where so many are free. No program is named here. -/
import Derived.Test.YtdpmmafkomchaaaLibA
namespace Go.Proofs.Ytdpmmafkomchaaa
set_option linter.unusedVariables false
set_option linter.unusedSimpArgs false
open Go.RowKit

/-- are n free from f on? (t tells what is taken) -/
def freeB (t : Nat → Bool) (f n : Nat) : Bool := (List.range n).all fun i => !t (f + i)
/-- the first place, of all, where n are free -/
def firstB (t : Nat → Bool) (all n : Nat) : Option Nat := (List.range (all + 1)).find? fun f => decide (f + n ≤ all) && freeB t f n
theorem freeB_iff {t : Nat → Bool} {f n : Nat} : freeB t f n = true ↔ ∀ i, i < n → t (f + i) = false := by
  simp [freeB]
theorem firstB_some {t : Nat → Bool} {all n f : Nat} (h : firstB t all n = some f) : f + n ≤ all ∧ freeB t f n = true ∧ ∀ g, g < f → ¬ (g + n ≤ all ∧ freeB t g n = true) := by
  unfold firstB at h
  rw [List.find?_eq_some_iff_getElem] at h
  obtain ⟨h1, i, hi, he, hb⟩ := h
  simp only [List.length_range] at hi
  rw [List.getElem_range] at he
  subst he
  rw [Bool.and_eq_true, decide_eq_true_eq] at h1
  refine ⟨h1.1, h1.2, fun g hg hgg => ?_⟩
  have h2 := hb g hg
  rw [List.getElem_range] at h2
  rw [decide_eq_true hgg.1, hgg.2] at h2
  simp at h2
theorem firstB_none {t : Nat → Bool} {all n : Nat} (h : firstB t all n = none) : ∀ g, ¬ (g + n ≤ all ∧ freeB t g n = true) := by
  unfold firstB at h
  rw [List.find?_eq_none] at h
  intro g hg
  have := h g (List.mem_range.2 (by omega))
  rw [decide_eq_true hg.1, hg.2] at this
  simp at this
/-- what has the first place's marks is it -/
theorem firstB_is {t : Nat → Bool} {all n f : Nat} (h1 : f + n ≤ all) (h2 : freeB t f n = true) (h3 : ∀ g, g < f → ¬ (g + n ≤ all ∧ freeB t g n = true)) : firstB t all n = some f := by
  cases hc : firstB t all n with
  | none => exact absurd ⟨h1, h2⟩ (firstB_none hc f)
  | some g =>
    obtain ⟨a, b, c⟩ := firstB_some hc
    rcases Nat.lt_trichotomy f g with h | h | h
    · exact absurd ⟨h1, h2⟩ (c f h)
    · rw [h]
    · exact absurd ⟨a, b⟩ (h3 g h)
theorem firstB_isnt {t : Nat → Bool} {all n : Nat} (h : ∀ g, ¬ (g + n ≤ all ∧ freeB t g n = true)) : firstB t all n = none := by
  cases hc : firstB t all n with
  | none => rfl
  | some g => exact absurd ⟨(firstB_some hc).1, (firstB_some hc).2.1⟩ (h g)
/-- a place that is taken bars all runs over it -/
theorem freeB_bar {t : Nat → Bool} {f n i : Nat} (hi : i < n) (h : t (f + i) = true) {g : Nat} (h1 : f ≤ g) (h2 : g ≤ f + i) : freeB t g n = false := by
  cases hc : freeB t g n
  · rfl
  · have := freeB_iff.1 hc (f + i - g) (by omega)
    rw [show g + (f + i - g) = f + i by omega, h] at this
    cases this
/-- an extent: where, how many sectors, how many bytes -/
abbrev Ex := Int × Int × Int
/-- t tells what the extents of R take, which have at least a sector each -/
def Covers (t : Nat → Bool) (R : List (Nat × Nat)) : Prop := (∀ r ∈ R, 1 ≤ r.2) ∧ ∀ i, t i = true ↔ ∃ r ∈ R, r.1 ≤ i ∧ i < r.1 + r.2
/-- no extent of R meets the run -/
def apartB (R : List (Nat × Nat)) (f n : Nat) : Bool := R.all fun r => !(decide (f < r.1 + r.2) && decide (r.1 < f + n))
theorem free_apart {t : Nat → Bool} {R : List (Nat × Nat)} (h : Covers t R) {f n : Nat} (hn : 1 ≤ n) : freeB t f n = apartB R f n := by
  rw [Bool.eq_iff_iff, freeB_iff]
  unfold apartB
  rw [List.all_eq_true]
  constructor
  · intro hf r hr
    have h1 := h.1 r hr
    cases hc : decide (f < r.1 + r.2) && decide (r.1 < f + n)
    · rfl
    · simp only [Bool.and_eq_true, decide_eq_true_eq] at hc
      have h2 := hf (max f r.1 - f) (by omega)
      have h3 := (h.2 (f + (max f r.1 - f))).2 ⟨r, hr, by omega, by omega⟩
      rw [h2] at h3
      cases h3
  · intro ha i hi
    cases hc : t (f + i)
    · rfl
    · obtain ⟨r, hr, h1, h2⟩ := (h.2 (f + i)).1 hc
      have h3 := ha r hr
      rw [decide_eq_true (show f < r.1 + r.2 by omega), decide_eq_true (show r.1 < f + n by omega)] at h3
      cases h3

end Go.Proofs.Ytdpmmafkomchaaa
