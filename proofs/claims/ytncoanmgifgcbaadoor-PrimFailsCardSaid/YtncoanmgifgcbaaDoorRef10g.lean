/- The document's memory (websterref10): Step, all but the collection. -/
import Derived.Test.YtncoanmgifgcbaaDoorRef10e
import Derived.Deep.RegionHeld3
namespace Go.Proofs.YtncoanmgifgcbaaDoor
set_option linter.unusedVariables false
set_option linter.unusedSimpArgs false
open Go.RowKit

def RG (w : World) : Nat → Prop := fun b => b = w.heap.size + 1 + 1 ∨ b = w.heap.size + 1 + 1 + 1
theorem RG.a (w : World) : RG w (w.heap.size + 1 + 1) := Or.inl rfl
theorem RG.b (w : World) : RG w (w.heap.size + 1 + 1 + 1) := Or.inr rfl
theorem Stepped.end {w w5 V : World} {S : Nat → Prop} {r t' : Value} {L' : List O} {t : TD} (hr : RefM w5 (fun b => S b ∧ b < w.heap.size ∨ w.heap.size + 4 ≤ b) r L') (c5 : Chg No w w5) (cV : Chg (RG w) w5 V) (ht : ToldR V (fun b => S b ∨ w.heap.size ≤ b) t' t) : Stepped w S L' t (.tuple #[r, t']) V := by
  refine ⟨r, t', rfl, (hr.keep cV (fun b hb h => ?_)).more (fun b _ h => ?_), ht, c5.then cV (fun i hi h => ?_)⟩
  · unfold RG at h; omega
  · rcases h with h | h
    · exact .inl h.1
    · exact .inr (by omega)
  · unfold RG at h; omega
theorem RefM.old {w w5 : World} {S : Nat → Prop} {v : Value} {L : List O} (h : RefM w S v L) (c : Chg No w w5) : RefM w5 (fun b => S b ∧ b < w.heap.size ∨ w.heap.size + 4 ≤ b) v L :=
  ((h.more (S' := fun b => S b ∧ b < w.heap.size) (fun b h1 h2 => ⟨h2, h1⟩)).keep c (fun _ _ f => f)).more (fun b _ h => .inl h)
theorem IntS.held {w w5 V : World} {S : Nat → Prop} {v : Value} {l : List Int} (h : IntS w S v l) (c5 : Chg No w w5) (cV : Chg (RG w) w5 V) : IntS V (fun b => S b ∨ w.heap.size ≤ b) v l :=
  (((h.more (S' := fun b => S b ∧ b < w.heap.size) (fun b h1 h2 => ⟨h2, h1⟩)).keep c5 (fun _ _ f => f)).keep cV (fun b hb h => by unfold RG at h; omega)).more (fun b _ h => .inl h.1)
theorem ByteS.held {w w5 V : World} {S : Nat → Prop} {v : Value} {l : List Int} (h : ByteS w S v l) (c5 : Chg No w w5) (cV : Chg (RG w) w5 V) : ByteS V (fun b => S b ∨ w.heap.size ≤ b) v l :=
  (((h.more (S' := fun b => S b ∧ b < w.heap.size) (fun b h1 h2 => ⟨h2, h1⟩)).keep c5 (fun _ _ f => f)).keep cV (fun b hb h => by unfold RG at h; omega)).more (fun b _ h => .inl h.1)

end Go.Proofs.YtncoanmgifgcbaaDoor
