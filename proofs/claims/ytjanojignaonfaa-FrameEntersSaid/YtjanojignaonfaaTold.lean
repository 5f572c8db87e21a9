/- What is to be done, and what is told: words. -/
import Derived.Test.YtjanojignaonfaaFlatRep
namespace Go.Proofs.Ytjanojignaonfaa
set_option linter.unusedVariables false
set_option linter.unusedSimpArgs false
open Go.RowKit

/-- four numbers -/
structure D4 where
  k : Int
  a : Int
  b : Int
  c : Int
def D4.cells (x : D4) : Array Value := #[.int .i64 x.k, .int .i64 x.a, .int .i64 x.b, .int .i64 x.c]
def D4.in64 (x : D4) : Prop := In64 x.k ∧ In64 x.a ∧ In64 x.b ∧ In64 x.c

/-- what is told -/
structure TD where
  n : Int
  o : O
  ok : Bool
  e : Int
def TD.cells (t : TD) (wv bv : Value) : Array Value := #[.int .i64 t.n, .int .i64 t.o.cls, .int .i64 t.o.kind, wv, bv, .bool t.ok, .int .i64 t.e]

theorem Row.seven {w : World} {b : Nat} {t : TypeId} {x0 x1 x2 x3 x4 x5 x6 : Value} (h : Row w b t #[x0, x1, x2, x3, x4, x5, x6]) :
    w.cell? ⟨b, 0, none⟩ = some x0 ∧ w.cell? ⟨b, 1, none⟩ = some x1 ∧ w.cell? ⟨b, 2, none⟩ = some x2 ∧ w.cell? ⟨b, 3, none⟩ = some x3 ∧ w.cell? ⟨b, 4, none⟩ = some x4 ∧ w.cell? ⟨b, 5, none⟩ = some x5 ∧ w.cell? ⟨b, 6, none⟩ = some x6 ∧ ∀ i, w.frozen? ⟨b, i, none⟩ = false :=
  ⟨h.cell 0, h.cell 1, h.cell 2, h.cell 3, h.cell 4, h.cell 5, h.cell 6, h.frozen⟩

end Go.Proofs.Ytjanojignaonfaa
