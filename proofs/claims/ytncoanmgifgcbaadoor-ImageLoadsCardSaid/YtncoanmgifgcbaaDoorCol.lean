/- What is collected: what one comes to. Plain lists; no walk here. -/
import Derived.Test.YtncoanmgifgcbaaDoorFlatN
namespace Go.Proofs.YtncoanmgifgcbaaDoor
set_option linter.unusedVariables false
set_option linter.unusedSimpArgs false
open Go.RowKit

/-- there is an object of this number -/
def live (L : List O) (k : Int) : Prop := 1 ≤ k ∧ (ob L (k - 1).toNat).kind ≠ 0
/-- one comes to it from the numbers R -/
inductive Reach (L : List O) (R : List Int) : Int → Prop where
  | root {k : Int} : k ∈ R → live L k → Reach L R k
  | step {j k : Int} : Reach L R j → k ∈ refsO (ob L (j - 1).toNat) → live L k → Reach L R k
theorem Reach.there {L : List O} {R : List Int} {k : Int} (h : Reach L R k) : live L k := by
  cases h <;> assumption
theorem Reach.mono {L : List O} {R R' : List Int} (hR : ∀ k ∈ R, live L k → k ∈ R') {k : Int} (h : Reach L R k) : Reach L R' k := by
  induction h with
  | root h1 h2 => exact .root (hR _ h1 h2) h2
  | step _ h2 h3 ih => exact .step ih h2 h3

/-- the search under way: td is to be looked at, V has been -/
structure DInv (L : List O) (R td : List Int) (V : Int → Prop) : Prop where
  seen : ∀ k, V k → Reach L R k
  todo : ∀ k ∈ td, live L k → Reach L R k
  clos : ∀ k, V k → ∀ j ∈ refsO (ob L (k - 1).toNat), live L j → V j ∨ j ∈ td
  root : ∀ k ∈ R, live L k → V k ∨ k ∈ td
section
variable {L : List O} {R td : List Int} {V V' : Int → Prop} {k : Int}
theorem DInv.start (L : List O) (R : List Int) : DInv L R R (fun _ => False) := ⟨fun _ h => h.elim, fun _ h1 h2 => .root h1 h2, fun _ h => h.elim, fun _ h _ => .inr h⟩
theorem DInv.skip (h : DInv L R (td ++ [k]) V) (hk : ¬ live L k ∨ V k) : DInv L R td V := by
  have out : ∀ j, live L j → V j ∨ j ∈ td ++ [k] → V j ∨ j ∈ td := fun j hj h => by
    rcases h with h | h
    · exact .inl h
    · rcases List.mem_append.1 h with h | h
      · exact .inr h
      · obtain rfl : j = k := by simpa using h
        exact .inl (hk.resolve_left (fun hn => hn hj))
  exact ⟨h.seen, fun j hj => h.todo j (List.mem_append_left _ hj), fun j hj i hi hl => out i hl (h.clos j hj i hi hl), fun j hj hl => out j hl (h.root j hj hl)⟩
theorem DInv.mark (h : DInv L R (td ++ [k]) V) (hk : live L k) (hV : ∀ j, V' j ↔ V j ∨ j = k) : DInv L R (td ++ refsO (ob L (k - 1).toNat)) V' := by
  have hR : Reach L R k := h.todo k (by simp) hk
  have out : ∀ j, V j ∨ j ∈ td ++ [k] → V' j ∨ j ∈ td ++ refsO (ob L (k - 1).toNat) := fun j h => by
    rcases h with h | h
    · exact .inl ((hV j).2 (.inl h))
    · rcases List.mem_append.1 h with h | h
      · exact .inr (List.mem_append_left _ h)
      · exact .inl ((hV j).2 (.inr (by simpa using h)))
  refine ⟨fun j hj => ?_, fun j hj hl => ?_, fun j hj i hi hl => ?_, fun j hj hl => out j (h.root j hj hl)⟩
  · rcases (hV j).1 hj with hj | rfl
    · exact h.seen j hj
    · exact hR
  · rcases List.mem_append.1 hj with hj | hj
    · exact h.todo j (List.mem_append_left _ hj) hl
    · exact .step hR hj hl
  · rcases (hV j).1 hj with hj | rfl
    · exact out i (h.clos j hj i hi hl)
    · exact .inr (List.mem_append_right _ hi)
theorem DInv.done (h : DInv L R [] V) (k : Int) : Reach L R k ↔ V k := by
  constructor
  · intro hr
    induction hr with
    | root h1 h2 => exact (h.root _ h1 h2).resolve_right (by simp)
    | step _ h2 h3 ih => exact (h.clos _ ih _ h2 h3).resolve_right (by simp)
  · exact h.seen k
end

open Classical in
/-- the objects behind a collection from the numbers R -/
noncomputable def colL (L : List O) (R : List Int) : List O := (List.range L.length).map fun (i : Nat) => if Reach L R ((i : Int) + 1) then ob L i else O.zero
theorem colL_len (L : List O) (R : List Int) : (colL L R).length = L.length := by simp [colL]
theorem ob_col_yes {L : List O} {R : List Int} {i : Nat} (h : Reach L R ((i : Int) + 1)) : ob (colL L R) i = ob L i := by
  have hl := ob_lt (h.there.2 : (ob L ((i : Int) + 1 - 1).toNat).kind ≠ 0)
  rw [show ((i : Int) + 1 - 1).toNat = i by omega] at hl
  unfold colL
  rw [ob, List.getElem?_map, List.getElem?_range hl]
  simp [h]
theorem ob_col_no {L : List O} {R : List Int} {i : Nat} (h : ¬ Reach L R ((i : Int) + 1)) : ob (colL L R) i = O.zero := by
  unfold colL
  rw [ob, List.getElem?_map]
  rcases Nat.lt_or_ge i L.length with hl | hl
  · rw [List.getElem?_range hl]
    simp [h]
  · rw [List.getElem?_eq_none (by simpa using hl)]
    rfl
theorem live_col {L : List O} {R : List Int} {k : Int} : live (colL L R) k ↔ Reach L R k := by
  constructor
  · rintro ⟨h1, h2⟩
    refine Classical.byContradiction fun hn => h2 ?_
    rw [ob_col_no (i := (k - 1).toNat) (by rw [show (((k - 1).toNat : Nat) : Int) + 1 = k by omega]; exact hn)]
    rfl
  · intro h
    have hl := h.there
    refine ⟨hl.1, ?_⟩
    rw [ob_col_yes (i := (k - 1).toNat) (by have := hl.1; rw [show (((k - 1).toNat : Nat) : Int) + 1 = k by omega]; exact h)]
    exact hl.2

/-- how many are there -/
def liveN (L : List O) : Nat := ((List.range L.length).filter fun i => (ob L i).kind != 0).length
theorem allL_len (L : List O) : (allL L).length = liveN L := by simp [allL, allTo, liveN]
theorem nodup_len_le {α : Type} [DecidableEq α] : ∀ {l m : List α}, l.Nodup → (∀ x ∈ l, x ∈ m) → l.length ≤ m.length
  | [], _, _, _ => Nat.zero_le _
  | a :: l, m, hn, hs => by
    rw [List.nodup_cons] at hn
    have ha := hs a (by simp)
    have := nodup_len_le (l := l) (m := m.erase a) hn.2 fun x hx => by
      have hxa : x ≠ a := by rintro rfl; exact hn.1 hx
      exact (List.mem_erase_of_ne hxa).2 (hs x (by simp [hx]))
    rw [List.length_erase_of_mem ha] at this
    have hm : 0 < m.length := List.length_pos_of_mem ha
    simp only [List.length_cons]
    omega
theorem nodup_len_eq {α : Type} [DecidableEq α] {l m : List α} (hl : l.Nodup) (hm : m.Nodup) (h : ∀ x, x ∈ l ↔ x ∈ m) : l.length = m.length :=
  Nat.le_antisymm (nodup_len_le hl fun x hx => (h x).1 hx) (nodup_len_le hm fun x hx => (h x).2 hx)
theorem nums_nodup (L : List O) : (((List.range L.length).filter fun i => (ob L i).kind != 0).map fun (i : Nat) => (i : Int) + 1).Nodup := by
  refine List.Pairwise.map (R := fun a b : Nat => a ≠ b) (S := fun a b : Int => a ≠ b) (fun (i : Nat) => (i : Int) + 1) (fun a b hab e => hab (by omega)) ?_
  exact List.Nodup.sublist List.filter_sublist List.nodup_range
theorem mem_nums (L : List O) (k : Int) : k ∈ (((List.range L.length).filter fun i => (ob L i).kind != 0).map fun (i : Nat) => (i : Int) + 1) ↔ live L k := by
  simp only [List.mem_map, List.mem_filter, List.mem_range, bne_iff_ne, ne_eq]
  constructor
  · rintro ⟨i, ⟨h1, h2⟩, rfl⟩
    exact ⟨by omega, by rw [show ((i : Int) + 1 - 1).toNat = i by omega]; exact h2⟩
  · rintro ⟨h1, h2⟩
    exact ⟨(k - 1).toNat, ⟨ob_lt h2, h2⟩, by omega⟩
/-- a map whose keys are the numbers of what is there has so many entries -/
theorem keys_len {L : List O} {es : List (Int × Value)} (hn : (es.map (·.1)).Nodup) (h : ∀ k, k ∈ es.map (·.1) ↔ live L k) : es.length = liveN L := by
  have := nodup_len_eq hn (nums_nodup L) fun k => (h k).trans (mem_nums L k).symm
  simpa [liveN] using this
theorem liveN_col (L : List O) (R : List Int) : liveN (colL L R) ≤ liveN L := by
  have := nodup_len_le (nums_nodup (colL L R)) (m := ((List.range L.length).filter fun i => (ob L i).kind != 0).map fun (i : Nat) => (i : Int) + 1) fun k hk => (mem_nums L k).2 ((live_col.1 ((mem_nums _ k).1 hk)).there)
  simpa [liveN] using this

end Go.Proofs.YtncoanmgifgcbaaDoor
