/-
  No cell of these rows narrows 'for every input' (looked for: loops, veiled, ifaces, maps, wideKeys, modest, calm, conditions, laid).
  DERIVED. THE GIVEN ROWS OF THIS SEAT. 4 by the template 'for every input the law returns true; each argument reads behind the call as it read before'; 0 by the template 'total and deterministic' (their statements: YtdpmmafkomchaaaTotals.lean).
  GIVEN WITH THE SEED: the statements are not yours to turn. If you find one false, say at which input.
  Laid BY PROGRAM, IN A SANDBOX (cutbox-rows.mjs): the forced cells as the released guide's own fill.sh prints them over the translation 0be1e52561b5ad57… (all of the seat's roots in one cut). By AI agents, Wed Nov 11 2026. No macro, syntax, notation, axiom, sorry.
-/
import Derived.Test.YtdpmmafkomchaaaChecked
import GoSem.Claim
import GoSem.ClaimJoined
import GoSem.ClaimMapViews
import Derived.JoinedTies
import Derived.KernelRfl
namespace Go.Proofs.Ytdpmmafkomchaaa
/- THE CELL 'sum', in the pinned program and in every row, IS THE sha256 OF THE DUMP (.gsa) THAT YtdpmmafkomchaaaProg.lean LOADS. Nothing in Lean hashes anything: it is a label: what it is worth is what the hold of that sum in a sandbox is worth. -/
noncomputable def Try.pinned : Pinned := { name := "ytdpmmafkomchaaa", sum := "0be1e52561b5ad570853826e703cbbc3c162ecfee5fb8e54b2edbf2a32936f07", checked := Try.checked }
namespace Rows
def none {H : Type} : Left H := { results := [], args := [] }

/-- 'websterlaw06.SecondMakes': WHATEVER THE INPUT: true; the input reads as it did. -/
def secondMakesSpec : ChangeSpec := { name := "secondMakes", fn := fun _ => fun
  | [d] => { results := [.lit (.bool true)], args := [d] }
  | _ => none }
def secondMakesRow : OpenClaim := { program := "ytdpmmafkomchaaa", sum := "0be1e52561b5ad570853826e703cbbc3c162ecfee5fb8e54b2edbf2a32936f07", func := "webster/websterlaw06.SecondMakes", spec := "secondMakes", unfollowed := true, recurses := true, plainKeys := false, apart := false }
def SecondMakesSaid : Prop := secondMakesRow.holds Try.pinned (OpenSpec.ofChange secondMakesSpec)

/-- ITS FALSE NEIGHBOUR: 'it returns false'. Refute it at one input. -/
def secondMakesWrong : ChangeSpec := { name := "secondMakes", fn := fun _ => fun
  | [d] => { results := [.lit (.bool false)], args := [d] }
  | _ => none }
def SecondMakesWrongFalsely : Prop := secondMakesRow.holds Try.pinned (OpenSpec.ofChange secondMakesWrong)

/-- 'websterlaw06.SecondStores': WHATEVER THE INPUT: true; the input reads as it did. -/
def secondStoresSpec : ChangeSpec := { name := "secondStores", fn := fun _ => fun
  | [d1, d2, d3] => { results := [.lit (.bool true)], args := [d1, d2, d3] }
  | _ => none }
def secondStoresRow : OpenClaim := { program := "ytdpmmafkomchaaa", sum := "0be1e52561b5ad570853826e703cbbc3c162ecfee5fb8e54b2edbf2a32936f07", func := "webster/websterlaw06.SecondStores", spec := "secondStores", unfollowed := true, recurses := true, plainKeys := false, apart := false }
def SecondStoresSaid : Prop := secondStoresRow.holds Try.pinned (OpenSpec.ofChange secondStoresSpec)

/-- ITS FALSE NEIGHBOUR: 'it returns false'. Refute it at one input. -/
def secondStoresWrong : ChangeSpec := { name := "secondStores", fn := fun _ => fun
  | [d1, d2, d3] => { results := [.lit (.bool false)], args := [d1, d2, d3] }
  | _ => none }
def SecondStoresWrongFalsely : Prop := secondStoresRow.holds Try.pinned (OpenSpec.ofChange secondStoresWrong)

/-- 'websterlaw06.SecondNear': WHATEVER THE INPUT: true; the input reads as it did. -/
def secondNearSpec : ChangeSpec := { name := "secondNear", fn := fun _ => fun
  | [d1, d2, d3] => { results := [.lit (.bool true)], args := [d1, d2, d3] }
  | _ => none }
def secondNearRow : OpenClaim := { program := "ytdpmmafkomchaaa", sum := "0be1e52561b5ad570853826e703cbbc3c162ecfee5fb8e54b2edbf2a32936f07", func := "webster/websterlaw06.SecondNear", spec := "secondNear", unfollowed := true, recurses := true, plainKeys := false, apart := false }
def SecondNearSaid : Prop := secondNearRow.holds Try.pinned (OpenSpec.ofChange secondNearSpec)

/-- ITS FALSE NEIGHBOUR: 'it returns false'. Refute it at one input. -/
def secondNearWrong : ChangeSpec := { name := "secondNear", fn := fun _ => fun
  | [d1, d2, d3] => { results := [.lit (.bool false)], args := [d1, d2, d3] }
  | _ => none }
def SecondNearWrongFalsely : Prop := secondNearRow.holds Try.pinned (OpenSpec.ofChange secondNearWrong)

/-- 'websterlaw06.SecondKeeps': WHATEVER THE INPUT: true; the input reads as it did. -/
def secondKeepsSpec : ChangeSpec := { name := "secondKeeps", fn := fun _ => fun
  | [d] => { results := [.lit (.bool true)], args := [d] }
  | _ => none }
def secondKeepsRow : OpenClaim := { program := "ytdpmmafkomchaaa", sum := "0be1e52561b5ad570853826e703cbbc3c162ecfee5fb8e54b2edbf2a32936f07", func := "webster/websterlaw06.SecondKeeps", spec := "secondKeeps", unfollowed := true, recurses := true, plainKeys := false, apart := false }
def SecondKeepsSaid : Prop := secondKeepsRow.holds Try.pinned (OpenSpec.ofChange secondKeepsSpec)

/-- ITS FALSE NEIGHBOUR: 'it returns false'. Refute it at one input. -/
def secondKeepsWrong : ChangeSpec := { name := "secondKeeps", fn := fun _ => fun
  | [d] => { results := [.lit (.bool false)], args := [d] }
  | _ => none }
def SecondKeepsWrongFalsely : Prop := secondKeepsRow.holds Try.pinned (OpenSpec.ofChange secondKeepsWrong)

/- THE SECOND FORM. 'bulk': how many values and letters a reading holds, each counted each time it is reached (what is shared counts as often as it is met; a slice's spare places count too). A statement '..UptoSaid' is the law's where the arguments, and the package variables that the reading takes, are together of bulk at most 1048576: NARROWER than '..Said'. Prove '..Said' where nothing that the law and all that it calls make is longer than what came in: it says more and counts as full. Else prove '..UptoSaid'. A law counts once. -/
mutual
def uptoBulk {H : Type} : DataW H → Nat
  | .lit (.string bytes) => bytes.length + 1
  | .lit _ => 1
  | .nil => 1
  | .ptr d => uptoBulk d + 1
  | .slice elems spare => uptoBulkAll elems + uptoBulkAll spare + 1
  | .agg parts => uptoBulkAll parts + 1
  | .iface _ d => uptoBulk d + 1
  | .map entries => uptoBulkEntries entries + 1
  | .held _ => 1
def uptoBulkAll {H : Type} : List (DataW H) → Nat
  | [] => 0
  | d :: r => uptoBulk d + uptoBulkAll r
def uptoBulkEntries {H : Type} : List (Lit × DataW H) → Nat
  | [] => 0
  | x :: r => uptoBulkEntry x + uptoBulkEntries r
def uptoBulkEntry {H : Type} : Lit × DataW H → Nat
  | (.string bytes, d) => bytes.length + uptoBulk d + 1
  | (_, d) => uptoBulk d + 1
 end
def uptoSmall : (H : Type) → List (DataW H) → Bool := fun _ ds => decide (uptoBulkAll ds ≤ 1048576)
def OpenSpec.upto (s : _root_.Go.ChangeSpec) : _root_.Go.OpenSpec := { _root_.Go.OpenSpec.ofChange s with cond := some uptoSmall }

/-- 'websterlaw06.SecondMakes', WHERE WHAT IT READS IS OF BULK AT MOST 1048576: true; the input reads as it did. -/
def secondMakesUptoRow : OpenClaim := { program := "ytdpmmafkomchaaa", sum := "0be1e52561b5ad570853826e703cbbc3c162ecfee5fb8e54b2edbf2a32936f07", func := "webster/websterlaw06.SecondMakes", spec := "secondMakes", unfollowed := true, recurses := true, plainKeys := false, apart := false, narrowed := true }
def SecondMakesUptoSaid : Prop := secondMakesUptoRow.holds Try.pinned (OpenSpec.upto secondMakesSpec)

/-- 'websterlaw06.SecondStores', WHERE WHAT IT READS IS OF BULK AT MOST 1048576: true; the input reads as it did. -/
def secondStoresUptoRow : OpenClaim := { program := "ytdpmmafkomchaaa", sum := "0be1e52561b5ad570853826e703cbbc3c162ecfee5fb8e54b2edbf2a32936f07", func := "webster/websterlaw06.SecondStores", spec := "secondStores", unfollowed := true, recurses := true, plainKeys := false, apart := false, narrowed := true }
def SecondStoresUptoSaid : Prop := secondStoresUptoRow.holds Try.pinned (OpenSpec.upto secondStoresSpec)

/-- 'websterlaw06.SecondNear', WHERE WHAT IT READS IS OF BULK AT MOST 1048576: true; the input reads as it did. -/
def secondNearUptoRow : OpenClaim := { program := "ytdpmmafkomchaaa", sum := "0be1e52561b5ad570853826e703cbbc3c162ecfee5fb8e54b2edbf2a32936f07", func := "webster/websterlaw06.SecondNear", spec := "secondNear", unfollowed := true, recurses := true, plainKeys := false, apart := false, narrowed := true }
def SecondNearUptoSaid : Prop := secondNearUptoRow.holds Try.pinned (OpenSpec.upto secondNearSpec)

/-- 'websterlaw06.SecondKeeps', WHERE WHAT IT READS IS OF BULK AT MOST 1048576: true; the input reads as it did. -/
def secondKeepsUptoRow : OpenClaim := { program := "ytdpmmafkomchaaa", sum := "0be1e52561b5ad570853826e703cbbc3c162ecfee5fb8e54b2edbf2a32936f07", func := "webster/websterlaw06.SecondKeeps", spec := "secondKeeps", unfollowed := true, recurses := true, plainKeys := false, apart := false, narrowed := true }
def SecondKeepsUptoSaid : Prop := secondKeepsUptoRow.holds Try.pinned (OpenSpec.upto secondKeepsSpec)

end Rows
end Go.Proofs.Ytdpmmafkomchaaa
