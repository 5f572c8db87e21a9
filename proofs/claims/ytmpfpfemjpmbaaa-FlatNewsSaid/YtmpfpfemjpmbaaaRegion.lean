/- Regions that draw their order, walked once in the order of the text, in every world of a class. No program is named here. -/
import Derived.Test.YtmpfpfemjpmbaaaHeap
import Derived.Deep.QuietTactic
import Derived.BigQuiet
import Derived.Deep.RegionHeld3
namespace Go.Proofs.Ytmpfpfemjpmbaaa
open Go.RowKit

/-- the lexical walk, shut: no unfolding runs into it -/
structure Qw (P : Program) (ops : Array Oper) (C : World → Prop) (Q : Act → Prop) (l : List Oper) (a : Act) : Prop where
  out : wpQuiet P ops C Q l a

section
variable {P : Program} {ops : Array Oper} {C : World → Prop} {Q : Act → Prop} {o : Oper} {rest : List Oper} {a : Act}
theorem q_nil (h : Q a) : Qw P ops C Q [] a := ⟨h⟩
theorem q_step (h : ∀ K : Act → Prop, (∀ a, Qw P ops C Q rest a → K a) → if Region.wanted o (yielded ops a.tmps) then o.quiet P a C K else K (a.put o.dst undef)) : Qw P ops C Q (o :: rest) a :=
  ⟨wpQuiet_step fun K hK => h K fun a ha => hK a ha.out⟩
theorem q_region {id : Nat} {Q : Exit → Act → World → Prop} {w : World} {l : List Oper} (hm : P.follows .mixedOrders = true) (hB : Region.lexB .any l.toArray = true) (hC : C w.drew)
    (h : Qw P l.toArray C (fun a' => ∀ w', C w' → Q .normal a' w') l a) : (Code.region id l.toArray true).wp P Q a w :=
  wp_region_quiet (C := C) hm hB hC (by simpa using h.out)
end

end Go.Proofs.Ytmpfpfemjpmbaaa
