/- A flat memory's words and bytes: Fetch, Byte, Set, SetByte. -/
import Derived.Test.YtdpmmafkomchaaaGreatFlatB
namespace Go.Proofs.YtdpmmafkomchaaaGreat
set_option linter.unusedVariables false
set_option linter.unusedSimpArgs false
open Go.RowKit

theorem ob_set {L : List O} {j : Nat} (hj : j < L.length) (x : O) (i : Nat) : ob (L.set j x) i = if i = j then x else ob L i := by
  unfold ob
  by_cases h : i = j
  · subst h; simp [hj]
  · rw [if_neg h, List.getElem?_set_ne (fun e => h e.symm)]

/-- an own row that has an element is a block of its own -/
theorem own_at {w : World} {base n : Nat} {e : TypeId} {v : Value} {xs : List Value} (h : w.ownsRow base e 1 v n xs) (hn : 0 < n) : ∃ g cap, v = .slice (some ⟨g, 0, none⟩) n cap ∧ g < w.heap.size ∧ (∀ i, i < n → w.cell? ⟨g, i, none⟩ = xs[i]?) ∧ ∀ i, w.frozen? ⟨g, i, none⟩ = false := by
  rcases h.2 with ⟨_, h0⟩ | ⟨g, cap, cur, rfl, _, hg, _⟩
  · omega
  · exact ⟨g, cap, rfl, lt_of_block hg, fun i hi => h.cellAt i (by omega), fun i => h.frozenAt i⟩

section
variable {w w' : World} {m : Nat} {F : Nat → Prop} {L : List O} {q : Nat} {es : List (Int × Value)} {ad : Nat → Nat} {wv bv : Nat → Value}

def fetchV (L : List O) (o i : Int) : Int := match fnd L o with | none => 0 | some j => if (ob L j).kind = 1 ∧ 0 ≤ i ∧ i < (ob L j).W.length then (ob L j).W[i.toNat]?.getD 0 else 0
def byteV (L : List O) (o i : Int) : Int := match fnd L o with | none => 0 | some j => if (ob L j).kind = 2 ∧ 0 ≤ i ∧ i < (ob L j).B.length then (ob L j).B[i.toNat]?.getD 0 else 0



def setE (L : List O) (o i v : Int) : Int := if placeE L o 1 i = 0 then (if refOk v = true then 0 else 2) else placeE L o 1 i
def setL (L : List O) (o i v : Int) : List O := match fnd L o with | none => L | some j => if setE L o i v = 0 then L.set j { ob L j with W := (ob L j).W.set i.toNat v } else L
def sbyteE (L : List O) (o i v : Int) : Int := if placeE L o 2 i = 0 then (if 0 ≤ v ∧ v ≤ 255 then 0 else 2) else placeE L o 2 i
def sbyteL (L : List O) (o i v : Int) : List O := match fnd L o with | none => L | some j => if sbyteE L o i v = 0 then L.set j { ob L j with B := (ob L j).B.set i.toNat v } else L

theorem placeE_cases {L : List O} (o kind i : Int) : (placeE L o kind i = 4 ∧ fnd L o = none) ∨ (∃ j, fnd L o = some j ∧ ¬ (ob L j).kind = kind ∧ placeE L o kind i = 20) ∨
    (∃ j, fnd L o = some j ∧ (ob L j).kind = kind ∧ ¬ (0 ≤ i ∧ i < szO (ob L j)) ∧ placeE L o kind i = 21) ∨ (∃ j, fnd L o = some j ∧ (ob L j).kind = kind ∧ (0 ≤ i ∧ i < szO (ob L j)) ∧ placeE L o kind i = 0) := by
  cases hf : fnd L o with
  | none => exact .inl ⟨by simp [placeE, hf], rfl⟩
  | some j =>
    by_cases hk : (ob L j).kind = kind
    · by_cases hi : 0 ≤ i ∧ i < szO (ob L j)
      · exact .inr (.inr (.inr ⟨j, rfl, hk, hi, by simp [placeE, hf, hk, hi]⟩))
      · exact .inr (.inr (.inl ⟨j, rfl, hk, hi, by simp [placeE, hf, hk, hi]⟩))
    · exact .inr (.inl ⟨j, rfl, hk, by simp [placeE, hf, hk]⟩)

theorem placeE_bd (L : List O) (o kind i : Int) : 0 ≤ placeE L o kind i ∧ placeE L o kind i ≤ 21 := by
  rcases placeE_cases (L := L) o kind i with h | ⟨j, h⟩ | ⟨j, h⟩ | ⟨j, h⟩ <;> omega

theorem setW_ok {o : O} (h : o.ok) (h1 : o.kind = 1) {v : Int} (hv : refOk v = true) (i : Nat) : ({ o with W := o.W.set i v } : O).ok := by
  obtain ⟨a1, a2, a3, a4, a5, a6⟩ := h
  refine ⟨a1, ?_, by simpa using a3, a4, fun x hx => ?_, a6⟩
  · rcases a2 with a2 | a2
    · exact .inl a2
    · omega
  · rcases List.mem_or_eq_of_mem_set hx with h | h
    · exact a5 x h
    · rw [h]; exact hv
theorem setB_ok {o : O} (h : o.ok) (h1 : o.kind = 2) {v : Int} (hv : 0 ≤ v ∧ v ≤ 255) (i : Nat) : ({ o with B := o.B.set i v } : O).ok := by
  obtain ⟨a1, a2, a3, a4, a5, a6⟩ := h
  refine ⟨a1, ?_, a3, by simpa using a4, a5, fun x hx => ?_⟩
  · rcases a2 with a2 | a2
    · omega
    · exact .inr a2
  · rcases List.mem_or_eq_of_mem_set hx with h | h
    · exact a6 x h
    · rw [h]; exact hv

end

end Go.Proofs.YtdpmmafkomchaaaGreat
