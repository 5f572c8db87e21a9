/- A flat memory: Next, Become, all that are there. · More contracts over a flat memory: flat.Class, flat.Size, Fetch; its objects may be. -/
import Derived.Test.YtifcigjminbllaaGreatDoorRefs
import Derived.Handy
namespace Go.Proofs.YtifcigjminbllaaGreatDoor
set_option linter.unusedVariables false
set_option linter.unusedSimpArgs false
open Go.RowKit

def allTo (L : List O) (j : Nat) : List Int := ((List.range j).filter fun i => (ob L i).kind != 0).map fun (i : Nat) => 2 * ((i : Int) + 1)
/-- what Next tells from place j on -/
def nxN (L : List O) (j : Nat) : Int := match nxtI L j with | some i => 2 * ((i : Int) + 1) | none => 0
def nxB (L : List O) (j : Nat) : Bool := (nxtI L j).isSome
def allL (L : List O) : List Int := allTo L L.length
theorem allTo_succ (L : List O) (i : Nat) : allTo L (i + 1) = allTo L i ++ (if (ob L i).kind ≠ 0 then [2 * ((i : Int) + 1)] else []) := by
  unfold allTo
  rw [List.range_succ, List.filter_append, List.map_append]
  by_cases h : (ob L i).kind = 0 <;> simp [h]
theorem allTo_same (L : List O) {j : Nat} : ∀ {i : Nat}, j ≤ i → (∀ k, j ≤ k → k < i → (ob L k).kind = 0) → allTo L i = allTo L j
  | 0, h, _ => by rw [show j = 0 by omega]
  | i + 1, h, hk => by
    by_cases e : j = i + 1
    · rw [e]
    · rw [allTo_succ, if_neg (fun hn => hn (hk i (by omega) (by omega))), List.append_nil]
      exact allTo_same L (by omega) fun k h1 h2 => hk k h1 (by omega)
theorem nxtI_at {L : List O} {j i : Nat} (h : nxtI L j = some i) : j ≤ i ∧ i < L.length ∧ (ob L i).kind ≠ 0 ∧ ∀ k, j ≤ k → k < i → (ob L k).kind = 0 := by
  unfold nxtI at h
  rw [List.find?_range_eq_some] at h
  obtain ⟨h1, h2, h3⟩ := h
  simp only [Bool.and_eq_true, decide_eq_true_eq, bne_iff_ne, ne_eq] at h1
  refine ⟨h1.1, List.mem_range.1 h2, h1.2, fun k hk hki => ?_⟩
  have := h3 k hki
  simp only [Bool.not_eq_true', Bool.and_eq_false_iff, decide_eq_false_iff_not, bne_eq_false_iff_eq] at this
  exact this.resolve_left (fun h => h hk)
theorem nxtI_not {L : List O} {j : Nat} (h : nxtI L j = none) : ∀ k, j ≤ k → (ob L k).kind = 0 := by
  unfold nxtI at h
  rw [List.find?_eq_none] at h
  intro k hk
  by_cases hkl : k < L.length
  · have := h k (List.mem_range.2 hkl)
    simp only [Bool.and_eq_true, decide_eq_true_eq, bne_iff_ne, ne_eq, not_and, Decidable.not_not] at this
    exact this hk
  · exact Decidable.byContradiction fun hn => hkl (ob_lt hn)
theorem namedV_even (i : Nat) (h : i + 1 ≤ 1073741823) : namedV (2 * ((i : Int) + 1)) = (i : Int) + 1 := by
  rw [(namedV_of (show namedOk (2 * ((i : Int) + 1)) = true by simp [namedOk]; omega)).1]
  omega
theorem allTo_len (L : List O) (j : Nat) : (allTo L j).length ≤ j := by
  unfold allTo
  rw [List.length_map]
  exact Nat.le_trans (List.length_filter_le _ _) (by simp)
theorem allTo_step {L : List O} {j i : Nat} (h : nxtI L j = some i) : allTo L (i + 1) = allTo L j ++ [2 * ((i : Int) + 1)] := by
  obtain ⟨h1, h2, h3, h4⟩ := nxtI_at h
  rw [allTo_succ, if_pos h3, allTo_same L h1 h4]
theorem allTo_end {L : List O} {j : Nat} (hj : j ≤ L.length) (h : nxtI L j = none) : allTo L j = allL L := (allTo_same L hj fun k hk _ => nxtI_not h k hk).symm

section
variable {w0 w w' : World} {m : Nat} {L L' : List O} {K : (Nat → Prop) → World → Prop} {F F' : Nat → Prop}

/-- what All gives -/
def Alled (w : World) (L : List O) (v : Value) (w' : World) : Prop := OwnInts w' w.heap.size v (allL L) ∧ Chg No w w'

end

section
variable {w0 w w' : World} {m : Nat} {L L' : List O} {K : (Nat → Prop) → World → Prop} {F F' : Nat → Prop}
theorem MemK.okAt (h : MemK w0 w m L K) {i : Nat} (hk : (ob L i).kind ≠ 0) : (ob L i).ok := by
  obtain ⟨F, ⟨q, es, ad, wv, bv, hi⟩, _⟩ := h
  exact hi.ok i hk
theorem MemK.goneAt {w0 w : World} {m : Nat} {L : List O} {K : (Nat → Prop) → World → Prop} (h : MemK w0 w m L K) {i : Nat} (hk : (ob L i).kind = 0) : ob L i = O.zero := by
  obtain ⟨F, ⟨q, es, ad, wv, bv, hi⟩, _⟩ := h
  exact hi.gone i hk
end

section
variable {w0 w w' : World} {m : Nat} {L L' : List O} {K : (Nat → Prop) → World → Prop} {F F' : Nat → Prop}
end

section
variable {w0 w w' : World} {m : Nat} {L L' : List O} {K : (Nat → Prop) → World → Prop} {F F' : Nat → Prop}
end

section
variable {w0 w w' : World} {m : Nat} {L L' : List O} {K : (Nat → Prop) → World → Prop} {F F' : Nat → Prop}
end

section
variable {w0 w w' : World} {m : Nat} {L L' : List O} {K : (Nat → Prop) → World → Prop} {F F' : Nat → Prop}
/-- what one thing that is done turns -/
def Turned (w : World) (F : Nat → Prop) (F' : Nat → Prop) (w' : World) : Prop := (∀ b, F b → F' b) ∧ (∀ b, F' b → F b ∨ w.heap.size ≤ b) ∧ Chg F w w'
theorem Flat.toK (hf : Flat w m F L) : MemK { w with heap := #[] } w m L (Turned w F) :=
  ⟨F, hf, ⟨rfl, rfl, rfl, by simp, by simp⟩, by simp, fun F' w' h1 h2 c => ⟨h1, h2, c⟩⟩
/-- the end of each way: cells of new blocks have been written behind the call -/
theorem done_end (hf : Flat w m F L) (hc : Chg No w0 w) (hF : ∀ b, F b → w0.heap.size ≤ b) (hK : ∀ F' w', (∀ b, F b → F' b) → (∀ b, F' b → F b ∨ w.heap.size ≤ b) → Chg F w w' → K F' w')
    {w3 w4 W : World} (h3 : Chg No w w3) (hf4 : Flat w4 m F' L') (ht : Turned w3 F F' w4) {G : Nat → Prop} (hG : ∀ b, G b → w.heap.size ≤ b ∧ b < w3.heap.size) (hW : Chg G w4 W) : MemK w0 W m L' K := by
  have h3s := h3.size
  have cw4 : Chg F w w4 := h3.no.trans ht.2.2
  refine MemK.go hf hc hF hK (hf4.keep hW fun b hb hg => ?_) (cw4.then hW fun i hi hg => ?_) (fun b hb => ?_) ht.1
  · have h1 := hG b hg
    rcases ht.2.1 b hb with h | h
    · have := hf.lt h; omega
    · omega
  · have := hG i hg; omega
  · rcases ht.2.1 b hb with h | h
    · exact .inl h
    · exact .inr (by omega)
end

end Go.Proofs.YtifcigjminbllaaGreatDoor
