/- A flat memory's functions, each by one contract: what is kept goes along. · A flat memory's functions, each by one contract: what is kept goes along, and may speak of the blocks that the memory keeps out of. -/
import Derived.Test.YtdpmmafkomchaaaGreatFlatE
namespace Go.Proofs.YtdpmmafkomchaaaGreat
set_option linter.unusedVariables false
set_option linter.unusedSimpArgs false
open Go.RowKit

section
variable {w0 w w' : World} {m : Nat} {L L' : List O} {K : World → Prop} {F F' : Nat → Prop}

def newN (L : List O) (c k s : Int) : Int := if blankOk c k s = true then 2 * ((L.length : Int) + 1) else 0
def newE (c k s : Int) : Int := if blankOk c k s = true then 0 else 2
def newL (L : List O) (c k s : Int) : List O := if blankOk c k s = true then L ++ [newO c k s] else L
def objE (L : List O) (o : Int) : Int := match fnd L o with | none => 4 | some _ => 0
def objV (L : List O) (o : Int) : O := match fnd L o with | none => O.zero | some i => ob L i

end

def knownL : List O := setL (newL [] 2 1 2) 2 0 7

section
variable {w0 w w' : World} {m : Nat} {L L' : List O} {K : (Nat → Prop) → World → Prop} {F F' : Nat → Prop}

end

theorem ObjR.shape {w : World} {S : Nat → Prop} {v : Value} {o : O} (h : ObjR w S v o) : ∃ A c B d, v = .agg #[.int .i64 o.cls, .int .i64 o.kind, .slice A o.W.length c, .slice B o.B.length d] := by
  obtain ⟨wv, bv, rfl, h1, h2, -⟩ := h
  obtain ⟨A, c, rfl, -⟩ := h1.form
  obtain ⟨B, d, rfl, -⟩ := h2.form
  exact ⟨A, c, B, d, rfl⟩

end Go.Proofs.YtdpmmafkomchaaaGreat
