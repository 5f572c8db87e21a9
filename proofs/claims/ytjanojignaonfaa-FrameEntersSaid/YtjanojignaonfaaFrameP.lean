/- A word that is set is fetched, over any list of objects. -/
import Derived.Test.YtjanojignaonfaaFlatC
namespace Go.Proofs.Ytjanojignaonfaa
set_option linter.unusedVariables false
set_option linter.unusedSimpArgs false
open Go.RowKit

section
variable {L : List O} {o i v : Int}
theorem obSet (L : List O) (j : Nat) (x : O) (i : Nat) : ob (L.set j x) i = if i = j ∧ j < L.length then x else ob L i := by
  unfold ob
  rw [List.getElem?_set]
  by_cases h : j = i
  · subst h
    by_cases hl : j < L.length
    · rw [if_pos rfl, if_pos hl, if_pos ⟨rfl, hl⟩]; rfl
    · rw [if_pos rfl, if_neg hl, if_neg (fun h => hl h.2), List.getElem?_eq_none (by omega)]
  · rw [if_neg h, if_neg (fun e => h e.1.symm)]
theorem fndSet {j : Nat} {x : O} (hk : x.kind = (ob L j).kind) (o : Int) : fnd (L.set j x) o = fnd L o := by
  have e : ∀ i, (ob (L.set j x) i).kind = (ob L i).kind := by
    intro i
    rw [obSet]
    split
    · rename_i h; rw [h.1, hk]
    · rfl
  unfold fnd
  rw [e]
theorem place_setL (L : List O) (o i v o' k i' : Int) : placeE (setL L o i v) o' k i' = placeE L o' k i' := by
  unfold setL
  cases hf : fnd L o with
  | none => rfl
  | some j =>
    simp only []
    split
    · unfold placeE
      rw [fndSet (by rfl)]
      cases hf' : fnd L o' with
      | none => rfl
      | some j' =>
        simp only [obSet]
        by_cases hj : j' = j ∧ j < L.length
        · rw [if_pos hj]
          obtain ⟨rfl, -⟩ := hj
          have e : ∀ W', W'.length = (ob L j').W.length → szO ⟨(ob L j').cls, (ob L j').kind, W', (ob L j').B⟩ = szO (ob L j') := by
            intro W' h
            unfold szO
            simp only [h]
          rw [e _ (by simp)]
        · rw [if_neg hj]
    · rfl
theorem set_ok (hp : placeE L o 1 i = 0) (hv : refOk v = true) : ∃ j, fnd L o = some j ∧ j < L.length ∧ (ob L j).kind = 1 ∧ 0 ≤ i ∧ i < (ob L j).W.length ∧ setE L o i v = 0 ∧ setL L o i v = L.set j { ob L j with W := (ob L j).W.set i.toNat v } := by
  have he : setE L o i v = 0 := by unfold setE; rw [if_pos hp, if_pos hv]
  rcases placeE_cases (L := L) o 1 i with ⟨h1, -⟩ | ⟨j, -, -, h1⟩ | ⟨j, -, -, -, h1⟩ | ⟨j, h1, h2, h3, -⟩
  · omega
  · omega
  · omega
  · have h4 : (szO (ob L j)) = (ob L j).W.length := by unfold szO; rw [if_pos h2]
    rw [h4] at h3
    refine ⟨j, h1, (fnd_some h1).2.2.1, h2, h3.1, h3.2, he, ?_⟩
    unfold setL
    rw [h1]
    simp only []
    rw [if_pos he]
theorem fetch_setL (hp : placeE L o 1 i = 0) (hv : refOk v = true) (o' i' : Int) : fetchV (setL L o i v) o' i' = if o' = o ∧ i' = i then v else fetchV L o' i' := by
  obtain ⟨j, h1, hj, h2, h3, h4, -, h6⟩ := set_ok hp hv
  rw [h6]
  unfold fetchV
  rw [fndSet (by rfl)]
  by_cases ho : o' = o
  · subst ho
    have e : ∀ x, ob (L.set j x) j = x := fun x => by rw [obSet, if_pos ⟨rfl, hj⟩]
    by_cases hi : i' = i
    · subst hi
      rw [if_pos ⟨rfl, rfl⟩, h1]
      simp only [e, h2, List.length_set]
      rw [if_pos ⟨trivial, h3, h4⟩, List.getElem?_set, if_pos rfl, if_pos (by omega)]
      rfl
    · rw [if_neg (fun e => hi e.2), h1]
      simp only [e, h2, List.length_set]
      by_cases hr : 0 ≤ i' ∧ i' < (ob L j).W.length
      · rw [if_pos ⟨trivial, hr⟩, if_pos ⟨trivial, hr⟩, List.getElem?_set, if_neg (by omega)]
      · rw [if_neg (fun e => hr e.2), if_neg (fun e => hr e.2)]
  · rw [if_neg (fun e => ho e.1)]
    cases hf' : fnd L o' with
    | none => rfl
    | some j' =>
      simp only []
      have hne : j' ≠ j := by
        rintro rfl
        have := (fnd_some hf').2.2.2
        have := (fnd_some h1).2.2.2
        omega
      have e : ∀ x, ob (L.set j x) j' = ob L j' := fun x => by rw [obSet, if_neg (fun e => hne e.1)]
      rw [e]
theorem length_setL (L : List O) (o i v : Int) : (setL L o i v).length = L.length := by
  unfold setL
  cases fnd L o with
  | none => rfl
  | some j => simp only []; split <;> simp
end

end Go.Proofs.Ytjanojignaonfaa
