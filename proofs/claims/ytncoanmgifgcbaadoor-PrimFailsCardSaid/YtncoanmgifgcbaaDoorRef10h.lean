/- The document's memory (websterref10): Step: set, become, next. -/
import Derived.Test.YtncoanmgifgcbaaDoorRef10g
namespace Go.Proofs.YtncoanmgifgcbaaDoor
set_option linter.unusedVariables false
set_option linter.unusedSimpArgs false
open Go.RowKit

/-- what is held at the call goes along -/
theorem Calls.held {P : Program} {f : Nat} {args : Array Value} {w0 W : World} {F : Nat → Prop} {Q : Ending → World → Prop} (hh : Chg F W w0) (h : Calls P f args w0 Q) : Calls P f args w0 (fun e w' => Q e w' ∧ Chg F W w0) := h.mono fun _ _ h => ⟨h, hh⟩
theorem IntS.empty {w w' : World} {S S' : Nat → Prop} {v : Value} (h : IntS w S v []) : IntS w' S' v [] := by
  obtain ⟨⟨A, c, hv, hl, h1, h2, h0, -⟩, hw⟩ := h
  exact ⟨⟨A, c, hv, hl, h1, h2, h0, fun h => absurd h (by simp)⟩, hw⟩
theorem ByteS.empty {w w' : World} {S S' : Nat → Prop} {v : Value} (h : ByteS w S v []) : ByteS w' S' v [] := by
  obtain ⟨⟨A, c, hv, hl, h1, h2, h0, -⟩, hw⟩ := h
  exact ⟨⟨A, c, hv, hl, h1, h2, h0, fun h => absurd h (by simp)⟩, hw⟩

end Go.Proofs.YtncoanmgifgcbaaDoor
