/- A flat memory's collection: the walk. -/
import Derived.Test.YtncoanmgifgcbaaDoorFlatL
import Derived.Test.YtncoanmgifgcbaaDoorLoadA
import Derived.WalkMore
namespace Go.Proofs.YtncoanmgifgcbaaDoor
set_option linter.unusedVariables false
set_option linter.unusedSimpArgs false
open Go.RowKit
open Go.ChangeMaps (setBlock)

theorem own_bounds {w : World} {base : Nat} {A : Option Addr} {n c : Nat} {l : List Int} (h : OwnInts w base (.slice A n c) l) : n = l.length ∧ n ≤ c ∧ c ≤ maxLen := by
  obtain ⟨h1, h2 | ⟨g, cap, cur, e, hb, hg, hn, hm, hs, ht⟩⟩ := h
  · obtain ⟨e, e2⟩ := h2
    simp only [Value.slice.injEq] at e
    obtain ⟨rfl, rfl, rfl⟩ := e
    exact ⟨e2.symm, Nat.le_refl _, by unfold maxLen; omega⟩
  · simp only [Value.slice.injEq] at e
    obtain ⟨rfl, rfl, rfl⟩ := e
    exact ⟨rfl, hn, hm⟩
theorem leftN_le (l : List (Int × Value)) (V : Int → Prop) : leftN l V ≤ l.length := by
  unfold leftN
  exact List.length_filter_le _ _
theorem leftN_iff {l : List (Int × Value)} {V V' : Int → Prop} (h : ∀ k, V k ↔ V' k) : leftN l V = leftN l V' := by
  rw [show V = V' from funext fun k => propext (h k)]
theorem nums_snoc {R0 : List Int} {i : Nat} (hi : i < R0.length) : numsOf (R0.take (i + 1)) = numsOf (R0.take i) ++ [namedV (R0[i]?.getD 0)] := by
  unfold numsOf
  rw [List.take_succ_eq_append_getElem hi, List.map_append, List.getElem?_eq_getElem hi]
  rfl

/-- what Collect leaves -/
def Collected (w : World) (m : Nat) (F : Nat → Prop) (L' : List O) (n : Int) (e : Ending) (w' : World) : Prop := e = .returned (.tuple #[.int .i64 n, .int .i64 0]) ∧ Flat w' m F L' ∧ Chg F w w'

end Go.Proofs.YtncoanmgifgcbaaDoor
