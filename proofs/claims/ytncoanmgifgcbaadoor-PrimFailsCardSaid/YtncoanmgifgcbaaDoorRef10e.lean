/- The document's memory (websterref10): set. -/
import Derived.Test.YtncoanmgifgcbaaDoorRef10d
namespace Go.Proofs.YtncoanmgifgcbaaDoor
set_option linter.unusedVariables false
set_option linter.unusedSimpArgs false
open Go.RowKit

/-- what Step gives: a memory, and what is told -/
def Stepped (w : World) (S : Nat → Prop) (L' : List O) (t : TD) (r : Value) (w' : World) : Prop := ∃ m' t', r = .tuple #[m', t'] ∧ RefM w' (fun b => S b ∨ w.heap.size ≤ b) m' L' ∧ ToldR w' (fun b => S b ∨ w.heap.size ≤ b) t' t ∧ Chg No w w'



end Go.Proofs.YtncoanmgifgcbaaDoor
