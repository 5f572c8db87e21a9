/-
  NARROWER THAN 'FOR EVERY INPUT', by the rows' own cells (each row's printed sentence says how): PrimNumbers: laid · PrimLaws: laid · PrimArith: laid · PrimKnown: laid.
  DERIVED. THE GIVEN ROWS OF THIS SEAT. 4 by the template 'for every input the law returns true; each argument reads behind the call as it read before'; 0 by the template 'total and deterministic' (their statements: YtdninandpkgfkaaDoorTotals.lean).
  GIVEN WITH THE SEED: the statements are not yours to turn. If you find one false, say at which input.
  Laid BY PROGRAM, IN A SANDBOX (cutbox-rows.mjs): the forced cells as the released guide's own fill.sh prints them over the translation ba1019539732882b… (all of the seat's roots in one cut). By AI agents, Wed Nov 11 2026. No macro, syntax, notation, axiom, sorry.
-/
import Derived.Test.YtdninandpkgfkaaDoorChecked
import GoSem.Claim
import GoSem.ClaimJoined
import GoSem.ClaimMapViews
import Derived.JoinedTies
import Derived.KernelRfl
namespace Go.Proofs.YtdninandpkgfkaaDoor
/- THE CELL 'sum', in the pinned program and in every row, IS THE sha256 OF THE DUMP (.gsa) THAT YtdninandpkgfkaaDoorProg.lean LOADS. Nothing in Lean hashes anything: it is a label: what it is worth is what the hold of that sum in a sandbox is worth. -/
noncomputable def Tryd.pinned : Pinned := { name := "ytdninandpkgfkaadoor", sum := "ba1019539732882b8c24916fbbf95d98a3c1e2a457c0fcf55090241606099171", checked := Tryd.checked }
namespace Rows
def none {H : Type} : Left H := { results := [], args := [] }

/- WHAT THE LISTED PACKAGE-LEVEL VARIABLES READ AS WHEN THE CALL BEGINS. Each datum BY PROGRAM (the guide's laid-datum.mjs) off the statement by which the dump's own 'gosem.cut.vars' lays the variable. In a bare row this is a premise. The card (YtdninandpkgfkaaDoorCards.lean) ties it to the program's text. -/
def laid_webster_prim_counts {H : Type} : DataW H := .agg [.agg [.lit (.int .i64 1), .lit (.int .i64 1)], .agg [.lit (.int .i64 2), .lit (.int .i64 1)], .agg [.lit (.int .i64 3), .lit (.int .i64 1)], .agg [.lit (.int .i64 4), .lit (.int .i64 1)], .agg [.lit (.int .i64 5), .lit (.int .i64 1)], .agg [.lit (.int .i64 6), .lit (.int .i64 1)], .agg [.lit (.int .i64 7), .lit (.int .i64 1)], .agg [.lit (.int .i64 8), .lit (.int .i64 1)], .agg [.lit (.int .i64 9), .lit (.int .i64 1)], .agg [.lit (.int .i64 10), .lit (.int .i64 1)], .agg [.lit (.int .i64 11), .lit (.int .i64 1)], .agg [.lit (.int .i64 12), .lit (.int .i64 1)], .agg [.lit (.int .i64 14), .lit (.int .i64 1)], .agg [.lit (.int .i64 15), .lit (.int .i64 1)], .agg [.lit (.int .i64 21), .lit (.int .i64 1)], .agg [.lit (.int .i64 22), .lit (.int .i64 1)], .agg [.lit (.int .i64 29), .lit (.int .i64 1)], .agg [.lit (.int .i64 60), .lit (.int .i64 1)], .agg [.lit (.int .i64 61), .lit (.int .i64 2)], .agg [.lit (.int .i64 62), .lit (.int .i64 0)], .agg [.lit (.int .i64 70), .lit (.int .i64 0)], .agg [.lit (.int .i64 71), .lit (.int .i64 1)], .agg [.lit (.int .i64 72), .lit (.int .i64 1)], .agg [.lit (.int .i64 73), .lit (.int .i64 1)], .agg [.lit (.int .i64 74), .lit (.int .i64 2)], .agg [.lit (.int .i64 75), .lit (.int .i64 0)], .agg [.lit (.int .i64 76), .lit (.int .i64 0)], .agg [.lit (.int .i64 110), .lit (.int .i64 1)], .agg [.lit (.int .i64 111), .lit (.int .i64 0)]]

/-- 'websterlaw16.PrimNumbers': WHATEVER THE INPUT: true; the input reads as it did. -/
def primNumbersSpec : ChangeSpec := { name := "primNumbers", fn := fun _ => fun
  | [d1, d2, d3] => { results := [.lit (.bool true)], args := [d1, d2, d3] }
  | _ => none }
def primNumbersRow : OpenClaim := { program := "ytdninandpkgfkaadoor", sum := "ba1019539732882b8c24916fbbf95d98a3c1e2a457c0fcf55090241606099171", func := "webster/websterlaw16.PrimNumbers", spec := "primNumbers", named := ["webster/prim.counts"], apart := false, laid := [("webster/prim.counts", laid_webster_prim_counts)] }
def PrimNumbersSaid : Prop := primNumbersRow.holds Tryd.pinned (OpenSpec.ofChange primNumbersSpec)

/-- ITS FALSE NEIGHBOUR: 'it returns false'. Refute it at one input. -/
def primNumbersWrong : ChangeSpec := { name := "primNumbers", fn := fun _ => fun
  | [d1, d2, d3] => { results := [.lit (.bool false)], args := [d1, d2, d3] }
  | _ => none }
def PrimNumbersWrongFalsely : Prop := primNumbersRow.holds Tryd.pinned (OpenSpec.ofChange primNumbersWrong)

/-- 'websterlaw16.PrimLaws': WHATEVER THE INPUT: true; the input reads as it did. -/
def primLawsSpec : ChangeSpec := { name := "primLaws", fn := fun _ => fun
  | [d1, d2] => { results := [.lit (.bool true)], args := [d1, d2] }
  | _ => none }
def primLawsRow : OpenClaim := { program := "ytdninandpkgfkaadoor", sum := "ba1019539732882b8c24916fbbf95d98a3c1e2a457c0fcf55090241606099171", func := "webster/websterlaw16.PrimLaws", spec := "primLaws", named := ["webster/prim.counts"], apart := false, laid := [("webster/prim.counts", laid_webster_prim_counts)] }
def PrimLawsSaid : Prop := primLawsRow.holds Tryd.pinned (OpenSpec.ofChange primLawsSpec)

/-- ITS FALSE NEIGHBOUR: 'it returns false'. Refute it at one input. -/
def primLawsWrong : ChangeSpec := { name := "primLaws", fn := fun _ => fun
  | [d1, d2] => { results := [.lit (.bool false)], args := [d1, d2] }
  | _ => none }
def PrimLawsWrongFalsely : Prop := primLawsRow.holds Tryd.pinned (OpenSpec.ofChange primLawsWrong)

/-- 'websterlaw16.PrimArith': WHATEVER THE INPUT: true; the input reads as it did. -/
def primArithSpec : ChangeSpec := { name := "primArith", fn := fun _ => fun
  | [d1, d2, d3] => { results := [.lit (.bool true)], args := [d1, d2, d3] }
  | _ => none }
def primArithRow : OpenClaim := { program := "ytdninandpkgfkaadoor", sum := "ba1019539732882b8c24916fbbf95d98a3c1e2a457c0fcf55090241606099171", func := "webster/websterlaw16.PrimArith", spec := "primArith", named := ["webster/prim.counts"], apart := false, laid := [("webster/prim.counts", laid_webster_prim_counts)] }
def PrimArithSaid : Prop := primArithRow.holds Tryd.pinned (OpenSpec.ofChange primArithSpec)

/-- ITS FALSE NEIGHBOUR: 'it returns false'. Refute it at one input. -/
def primArithWrong : ChangeSpec := { name := "primArith", fn := fun _ => fun
  | [d1, d2, d3] => { results := [.lit (.bool false)], args := [d1, d2, d3] }
  | _ => none }
def PrimArithWrongFalsely : Prop := primArithRow.holds Tryd.pinned (OpenSpec.ofChange primArithWrong)

/-- 'websterlaw16.PrimKnown': WHATEVER THE INPUT: true; the input reads as it did. -/
def primKnownSpec : ChangeSpec := { name := "primKnown", fn := fun _ => fun
  | [d] => { results := [.lit (.bool true)], args := [d] }
  | _ => none }
def primKnownRow : OpenClaim := { program := "ytdninandpkgfkaadoor", sum := "ba1019539732882b8c24916fbbf95d98a3c1e2a457c0fcf55090241606099171", func := "webster/websterlaw16.PrimKnown", spec := "primKnown", named := ["webster/prim.counts"], apart := false, laid := [("webster/prim.counts", laid_webster_prim_counts)] }
def PrimKnownSaid : Prop := primKnownRow.holds Tryd.pinned (OpenSpec.ofChange primKnownSpec)

/-- ITS FALSE NEIGHBOUR: 'it returns false'. Refute it at one input. -/
def primKnownWrong : ChangeSpec := { name := "primKnown", fn := fun _ => fun
  | [d] => { results := [.lit (.bool false)], args := [d] }
  | _ => none }
def PrimKnownWrongFalsely : Prop := primKnownRow.holds Tryd.pinned (OpenSpec.ofChange primKnownWrong)

/- THE SECOND FORM. 'bulk': how many values and letters a reading holds, each counted each time it is reached (what is shared counts as often as it is met; a slice's spare places count too). A statement '..UptoSaid' is the law's where the arguments, and the package variables that the reading takes, are together of bulk at most 1048576: NARROWER than '..Said'. Prove '..Said' where nothing that the law and all that it calls make is longer than what came in: it says more and counts as full. Else prove '..UptoSaid'. A law counts once. -/
mutual
def uptoBulk {H : Type} : DataW H → Nat
  | .lit (.string bytes) => bytes.length + 1
  | .lit _ => 1
  | .nil => 1
  | .ptr d => uptoBulk d + 1
  | .slice elems spare => uptoBulkAll elems + uptoBulkAll spare + 1
  | .agg parts => uptoBulkAll parts + 1
  | .iface _ d => uptoBulk d + 1
  | .map entries => uptoBulkEntries entries + 1
  | .held _ => 1
def uptoBulkAll {H : Type} : List (DataW H) → Nat
  | [] => 0
  | d :: r => uptoBulk d + uptoBulkAll r
def uptoBulkEntries {H : Type} : List (Lit × DataW H) → Nat
  | [] => 0
  | x :: r => uptoBulkEntry x + uptoBulkEntries r
def uptoBulkEntry {H : Type} : Lit × DataW H → Nat
  | (.string bytes, d) => bytes.length + uptoBulk d + 1
  | (_, d) => uptoBulk d + 1
 end
def uptoSmall : (H : Type) → List (DataW H) → Bool := fun _ ds => decide (uptoBulkAll ds ≤ 1048576)
def OpenSpec.upto (s : _root_.Go.ChangeSpec) : _root_.Go.OpenSpec := { _root_.Go.OpenSpec.ofChange s with cond := some uptoSmall }

/-- 'websterlaw16.PrimNumbers', WHERE WHAT IT READS IS OF BULK AT MOST 1048576: true; the input reads as it did. -/
def primNumbersUptoRow : OpenClaim := { program := "ytdninandpkgfkaadoor", sum := "ba1019539732882b8c24916fbbf95d98a3c1e2a457c0fcf55090241606099171", func := "webster/websterlaw16.PrimNumbers", spec := "primNumbers", named := ["webster/prim.counts"], apart := false, laid := [("webster/prim.counts", laid_webster_prim_counts)], narrowed := true }
def PrimNumbersUptoSaid : Prop := primNumbersUptoRow.holds Tryd.pinned (OpenSpec.upto primNumbersSpec)

/-- 'websterlaw16.PrimLaws', WHERE WHAT IT READS IS OF BULK AT MOST 1048576: true; the input reads as it did. -/
def primLawsUptoRow : OpenClaim := { program := "ytdninandpkgfkaadoor", sum := "ba1019539732882b8c24916fbbf95d98a3c1e2a457c0fcf55090241606099171", func := "webster/websterlaw16.PrimLaws", spec := "primLaws", named := ["webster/prim.counts"], apart := false, laid := [("webster/prim.counts", laid_webster_prim_counts)], narrowed := true }
def PrimLawsUptoSaid : Prop := primLawsUptoRow.holds Tryd.pinned (OpenSpec.upto primLawsSpec)

/-- 'websterlaw16.PrimArith', WHERE WHAT IT READS IS OF BULK AT MOST 1048576: true; the input reads as it did. -/
def primArithUptoRow : OpenClaim := { program := "ytdninandpkgfkaadoor", sum := "ba1019539732882b8c24916fbbf95d98a3c1e2a457c0fcf55090241606099171", func := "webster/websterlaw16.PrimArith", spec := "primArith", named := ["webster/prim.counts"], apart := false, laid := [("webster/prim.counts", laid_webster_prim_counts)], narrowed := true }
def PrimArithUptoSaid : Prop := primArithUptoRow.holds Tryd.pinned (OpenSpec.upto primArithSpec)

/-- 'websterlaw16.PrimKnown', WHERE WHAT IT READS IS OF BULK AT MOST 1048576: true; the input reads as it did. -/
def primKnownUptoRow : OpenClaim := { program := "ytdninandpkgfkaadoor", sum := "ba1019539732882b8c24916fbbf95d98a3c1e2a457c0fcf55090241606099171", func := "webster/websterlaw16.PrimKnown", spec := "primKnown", named := ["webster/prim.counts"], apart := false, laid := [("webster/prim.counts", laid_webster_prim_counts)], narrowed := true }
def PrimKnownUptoSaid : Prop := primKnownUptoRow.holds Tryd.pinned (OpenSpec.upto primKnownSpec)

end Rows
end Go.Proofs.YtdninandpkgfkaaDoor
