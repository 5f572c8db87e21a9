/- slices.Sort of a slice of the call's own: the rising list that holds the same. -/
import Derived.Test.YtncoanmgifgcbaaDoorSort
import Derived.Test.YtncoanmgifgcbaaDoorNearA
import Derived.Sort.OwnSortedInts
namespace Go.Proofs.YtncoanmgifgcbaaDoor
set_option linter.unusedVariables false
set_option linter.unusedSimpArgs false
open Go.RowKit

theorem leI_trans : ∀ a b c : Int, decide (a ≤ b) = true → decide (b ≤ c) = true → decide (a ≤ c) = true := by
  intro a b c h1 h2
  simp only [decide_eq_true_eq] at *
  omega
theorem leI_total : ∀ a b : Int, (decide (a ≤ b) || decide (b ≤ a)) = true := by
  intro a b
  simp only [Bool.or_eq_true, decide_eq_true_eq]
  omega
theorem sort_to {R ss : List Int} (hR : R.Pairwise (· < ·)) (hp : ss.Perm R) : (ss.mergeSort fun x y => decide (x ≤ y)) = R := by
  have h1 := List.pairwise_mergeSort leI_trans leI_total ss
  have h2 : (ss.mergeSort fun x y => decide (x ≤ y)).Perm R := (List.mergeSort_perm ss _).trans hp
  refine h2.eq_of_pairwise (le := fun a b => a ≤ b) (fun a b _ _ hab hba => Int.le_antisymm hab hba) (h1.imp fun {a b} h => by simpa using h) (hR.imp fun {a b} h => Int.le_of_lt h)
theorem SortI_any {w : World} {base : Nat} {v : Value} {ss R : List Int} (h : OwnInts w base v ss) (hR : R.Pairwise (· < ·)) (hp : ss.Perm R) (hl : ss.length < 1073741824) :
    Calls Tryd.prog 61 #[v] w fun e w' => e = .returned (.tuple #[]) ∧ OwnInts w' base v R ∧ Chg (fun k => v.ownBlock = some k) w w' := by
  have hlen : ss.length = R.length := hp.length_eq
  obtain ⟨h1, ⟨rfl, h0⟩ | ⟨g, cap, cur, rfl, hb, hg, hn, hm, hs, ht⟩⟩ := h
  · have hss : ss = [] := List.eq_nil_of_length_eq_zero h0
    subst hss
    obtain rfl : R = [] := List.eq_nil_of_length_eq_zero (by rw [← hlen]; rfl)
    refine (AnyM.slices_Sort_int_none Tryd.sortA none 0 w).mono ?_
    rintro e w' ⟨rfl, rfl⟩
    exact ⟨rfl, World.ownsRow_nil _ _ _ _, Chg.refl _ _⟩
  · rw [Nat.mul_one] at ht
    have hH := holds_of_blockI (w := w) hg ht
    refine (AnyM.slices_Sort_int Tryd.sortA g 0 cap ss w hH (lt_of_block hg) (by omega)).mono ?_
    rintro e w' ⟨rfl, n, os, rfl⟩
    rw [sort_to hR hp]
    refine ⟨rfl, ?_, ?_⟩
    · have h2 := ownsRow_sortedI (ss := ss) (ts := R) (n := n) (os := os) hlen.symm hb hg hn hm (by omega)
      unfold OwnInts
      rw [← hlen]
      exact h2
    · exact (Chg.refl _ _).grown (grownBy_sortedI _) (fun k hk => .inl (by simpa [Value.ownBlock] using hk))

end Go.Proofs.YtncoanmgifgcbaaDoor
