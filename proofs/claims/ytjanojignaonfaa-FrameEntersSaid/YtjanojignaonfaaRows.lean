/-
  No cell of these rows narrows 'for every input' (looked for: loops, veiled, ifaces, maps, wideKeys, modest, calm, conditions, laid).
  DERIVED. THE GIVEN ROWS OF THIS SEAT. 10 by the template 'for every input the law returns true; each argument reads behind the call as it read before'; 0 by the template 'total and deterministic' (their statements: YtjanojignaonfaaTotals.lean).
  GIVEN WITH THE SEED: the statements are not yours to turn. If you find one false, say at which input.
  Laid BY PROGRAM, IN A SANDBOX (cutbox-rows.mjs): the forced cells as the released guide's own fill.sh prints them over the translation af9d0fb155779249… (all of the seat's roots in one cut). By AI agents, Wed Nov 11 2026. No macro, syntax, notation, axiom, sorry.
-/
import Derived.Test.YtjanojignaonfaaChecked
import GoSem.Claim
import GoSem.ClaimJoined
import GoSem.ClaimMapViews
import Derived.JoinedTies
import Derived.KernelRfl
namespace Go.Proofs.Ytjanojignaonfaa
/- THE CELL 'sum', in the pinned program and in every row, IS THE sha256 OF THE DUMP (.gsa) THAT YtjanojignaonfaaProg.lean LOADS. Nothing in Lean hashes anything: it is a label: what it is worth is what the hold of that sum in a sandbox is worth. -/
noncomputable def Try.pinned : Pinned := { name := "ytjanojignaonfaa", sum := "af9d0fb155779249dbad1c0a135ad4b8d6a4e5bbcd4375bbc653feb4557e383e", checked := Try.checked }
namespace Rows
def none {H : Type} : Left H := { results := [], args := [] }

/-- 'websterlaw14.KitHeader': WHATEVER THE INPUT: true; the input reads as it did. -/
def kitHeaderSpec : ChangeSpec := { name := "kitHeader", fn := fun _ => fun
  | [d1, d2] => { results := [.lit (.bool true)], args := [d1, d2] }
  | _ => none }
def kitHeaderRow : OpenClaim := { program := "ytjanojignaonfaa", sum := "af9d0fb155779249dbad1c0a135ad4b8d6a4e5bbcd4375bbc653feb4557e383e", func := "webster/websterlaw14.KitHeader", spec := "kitHeader", unfollowed := true, recurses := true, apart := false }
def KitHeaderSaid : Prop := kitHeaderRow.holds Try.pinned (OpenSpec.ofChange kitHeaderSpec)

/-- ITS FALSE NEIGHBOUR: 'it returns false'. Refute it at one input. -/
def kitHeaderWrong : ChangeSpec := { name := "kitHeader", fn := fun _ => fun
  | [d1, d2] => { results := [.lit (.bool false)], args := [d1, d2] }
  | _ => none }
def KitHeaderWrongFalsely : Prop := kitHeaderRow.holds Try.pinned (OpenSpec.ofChange kitHeaderWrong)

/-- 'websterlaw14.KitClass': WHATEVER THE INPUT: true; the input reads as it did. -/
def kitClassSpec : ChangeSpec := { name := "kitClass", fn := fun _ => fun
  | [d1, d2] => { results := [.lit (.bool true)], args := [d1, d2] }
  | _ => none }
def kitClassRow : OpenClaim := { program := "ytjanojignaonfaa", sum := "af9d0fb155779249dbad1c0a135ad4b8d6a4e5bbcd4375bbc653feb4557e383e", func := "webster/websterlaw14.KitClass", spec := "kitClass", unfollowed := true, recurses := true, apart := false }
def KitClassSaid : Prop := kitClassRow.holds Try.pinned (OpenSpec.ofChange kitClassSpec)

/-- ITS FALSE NEIGHBOUR: 'it returns false'. Refute it at one input. -/
def kitClassWrong : ChangeSpec := { name := "kitClass", fn := fun _ => fun
  | [d1, d2] => { results := [.lit (.bool false)], args := [d1, d2] }
  | _ => none }
def KitClassWrongFalsely : Prop := kitClassRow.holds Try.pinned (OpenSpec.ofChange kitClassWrong)

/-- 'websterlaw14.KitShape': WHATEVER THE INPUT: true; the input reads as it did. -/
def kitShapeSpec : ChangeSpec := { name := "kitShape", fn := fun _ => fun
  | [d1, d2] => { results := [.lit (.bool true)], args := [d1, d2] }
  | _ => none }
def kitShapeRow : OpenClaim := { program := "ytjanojignaonfaa", sum := "af9d0fb155779249dbad1c0a135ad4b8d6a4e5bbcd4375bbc653feb4557e383e", func := "webster/websterlaw14.KitShape", spec := "kitShape", unfollowed := true, recurses := true, apart := false }
def KitShapeSaid : Prop := kitShapeRow.holds Try.pinned (OpenSpec.ofChange kitShapeSpec)

/-- ITS FALSE NEIGHBOUR: 'it returns false'. Refute it at one input. -/
def kitShapeWrong : ChangeSpec := { name := "kitShape", fn := fun _ => fun
  | [d1, d2] => { results := [.lit (.bool false)], args := [d1, d2] }
  | _ => none }
def KitShapeWrongFalsely : Prop := kitShapeRow.holds Try.pinned (OpenSpec.ofChange kitShapeWrong)

/-- 'websterlaw14.KitMakes': WHATEVER THE INPUT: true; the input reads as it did. -/
def kitMakesSpec : ChangeSpec := { name := "kitMakes", fn := fun _ => fun
  | [d1, d2, d3, d4] => { results := [.lit (.bool true)], args := [d1, d2, d3, d4] }
  | _ => none }
def kitMakesRow : OpenClaim := { program := "ytjanojignaonfaa", sum := "af9d0fb155779249dbad1c0a135ad4b8d6a4e5bbcd4375bbc653feb4557e383e", func := "webster/websterlaw14.KitMakes", spec := "kitMakes", unfollowed := true, recurses := true, apart := false }
def KitMakesSaid : Prop := kitMakesRow.holds Try.pinned (OpenSpec.ofChange kitMakesSpec)

/-- ITS FALSE NEIGHBOUR: 'it returns false'. Refute it at one input. -/
def kitMakesWrong : ChangeSpec := { name := "kitMakes", fn := fun _ => fun
  | [d1, d2, d3, d4] => { results := [.lit (.bool false)], args := [d1, d2, d3, d4] }
  | _ => none }
def KitMakesWrongFalsely : Prop := kitMakesRow.holds Try.pinned (OpenSpec.ofChange kitMakesWrong)

/-- 'websterlaw14.KitCache': WHATEVER THE INPUT: true; the input reads as it did. -/
def kitCacheSpec : ChangeSpec := { name := "kitCache", fn := fun _ => fun
  | [d1, d2, d3] => { results := [.lit (.bool true)], args := [d1, d2, d3] }
  | _ => none }
def kitCacheRow : OpenClaim := { program := "ytjanojignaonfaa", sum := "af9d0fb155779249dbad1c0a135ad4b8d6a4e5bbcd4375bbc653feb4557e383e", func := "webster/websterlaw14.KitCache", spec := "kitCache", unfollowed := true, recurses := true, apart := false }
def KitCacheSaid : Prop := kitCacheRow.holds Try.pinned (OpenSpec.ofChange kitCacheSpec)

/-- ITS FALSE NEIGHBOUR: 'it returns false'. Refute it at one input. -/
def kitCacheWrong : ChangeSpec := { name := "kitCache", fn := fun _ => fun
  | [d1, d2, d3] => { results := [.lit (.bool false)], args := [d1, d2, d3] }
  | _ => none }
def KitCacheWrongFalsely : Prop := kitCacheRow.holds Try.pinned (OpenSpec.ofChange kitCacheWrong)

/-- 'websterlaw15.FrameNums': WHATEVER THE INPUT: true; the input reads as it did. -/
def frameNumsSpec : ChangeSpec := { name := "frameNums", fn := fun _ => fun
  | [d1, d2] => { results := [.lit (.bool true)], args := [d1, d2] }
  | _ => none }
def frameNumsRow : OpenClaim := { program := "ytjanojignaonfaa", sum := "af9d0fb155779249dbad1c0a135ad4b8d6a4e5bbcd4375bbc653feb4557e383e", func := "webster/websterlaw15.FrameNums", spec := "frameNums", unfollowed := true, recurses := true, apart := false }
def FrameNumsSaid : Prop := frameNumsRow.holds Try.pinned (OpenSpec.ofChange frameNumsSpec)

/-- ITS FALSE NEIGHBOUR: 'it returns false'. Refute it at one input. -/
def frameNumsWrong : ChangeSpec := { name := "frameNums", fn := fun _ => fun
  | [d1, d2] => { results := [.lit (.bool false)], args := [d1, d2] }
  | _ => none }
def FrameNumsWrongFalsely : Prop := frameNumsRow.holds Try.pinned (OpenSpec.ofChange frameNumsWrong)

/-- 'websterlaw15.FrameHomes': WHATEVER THE INPUT: true; the input reads as it did. -/
def frameHomesSpec : ChangeSpec := { name := "frameHomes", fn := fun _ => fun
  | [d1, d2, d3] => { results := [.lit (.bool true)], args := [d1, d2, d3] }
  | _ => none }
def frameHomesRow : OpenClaim := { program := "ytjanojignaonfaa", sum := "af9d0fb155779249dbad1c0a135ad4b8d6a4e5bbcd4375bbc653feb4557e383e", func := "webster/websterlaw15.FrameHomes", spec := "frameHomes", unfollowed := true, recurses := true, apart := false }
def FrameHomesSaid : Prop := frameHomesRow.holds Try.pinned (OpenSpec.ofChange frameHomesSpec)

/-- ITS FALSE NEIGHBOUR: 'it returns false'. Refute it at one input. -/
def frameHomesWrong : ChangeSpec := { name := "frameHomes", fn := fun _ => fun
  | [d1, d2, d3] => { results := [.lit (.bool false)], args := [d1, d2, d3] }
  | _ => none }
def FrameHomesWrongFalsely : Prop := frameHomesRow.holds Try.pinned (OpenSpec.ofChange frameHomesWrong)

/-- 'websterlaw15.FrameStack': WHATEVER THE INPUT: true; the input reads as it did. -/
def frameStackSpec : ChangeSpec := { name := "frameStack", fn := fun _ => fun
  | [d] => { results := [.lit (.bool true)], args := [d] }
  | _ => none }
def frameStackRow : OpenClaim := { program := "ytjanojignaonfaa", sum := "af9d0fb155779249dbad1c0a135ad4b8d6a4e5bbcd4375bbc653feb4557e383e", func := "webster/websterlaw15.FrameStack", spec := "frameStack", unfollowed := true, recurses := true, apart := false }
def FrameStackSaid : Prop := frameStackRow.holds Try.pinned (OpenSpec.ofChange frameStackSpec)

/-- ITS FALSE NEIGHBOUR: 'it returns false'. Refute it at one input. -/
def frameStackWrong : ChangeSpec := { name := "frameStack", fn := fun _ => fun
  | [d] => { results := [.lit (.bool false)], args := [d] }
  | _ => none }
def FrameStackWrongFalsely : Prop := frameStackRow.holds Try.pinned (OpenSpec.ofChange frameStackWrong)

/-- 'websterlaw15.FrameTemps': WHATEVER THE INPUT: true; the input reads as it did. -/
def frameTempsSpec : ChangeSpec := { name := "frameTemps", fn := fun _ => fun
  | [d1, d2, d3] => { results := [.lit (.bool true)], args := [d1, d2, d3] }
  | _ => none }
def frameTempsRow : OpenClaim := { program := "ytjanojignaonfaa", sum := "af9d0fb155779249dbad1c0a135ad4b8d6a4e5bbcd4375bbc653feb4557e383e", func := "webster/websterlaw15.FrameTemps", spec := "frameTemps", unfollowed := true, recurses := true, apart := false }
def FrameTempsSaid : Prop := frameTempsRow.holds Try.pinned (OpenSpec.ofChange frameTempsSpec)

/-- ITS FALSE NEIGHBOUR: 'it returns false'. Refute it at one input. -/
def frameTempsWrong : ChangeSpec := { name := "frameTemps", fn := fun _ => fun
  | [d1, d2, d3] => { results := [.lit (.bool false)], args := [d1, d2, d3] }
  | _ => none }
def FrameTempsWrongFalsely : Prop := frameTempsRow.holds Try.pinned (OpenSpec.ofChange frameTempsWrong)

/-- 'websterlaw15.FrameEnters': WHATEVER THE INPUT: true; the input reads as it did. -/
def frameEntersSpec : ChangeSpec := { name := "frameEnters", fn := fun _ => fun
  | [d1, d2, d3, d4, d5] => { results := [.lit (.bool true)], args := [d1, d2, d3, d4, d5] }
  | _ => none }
def frameEntersRow : OpenClaim := { program := "ytjanojignaonfaa", sum := "af9d0fb155779249dbad1c0a135ad4b8d6a4e5bbcd4375bbc653feb4557e383e", func := "webster/websterlaw15.FrameEnters", spec := "frameEnters", unfollowed := true, recurses := true, apart := false }
def FrameEntersSaid : Prop := frameEntersRow.holds Try.pinned (OpenSpec.ofChange frameEntersSpec)

/-- ITS FALSE NEIGHBOUR: 'it returns false'. Refute it at one input. -/
def frameEntersWrong : ChangeSpec := { name := "frameEnters", fn := fun _ => fun
  | [d1, d2, d3, d4, d5] => { results := [.lit (.bool false)], args := [d1, d2, d3, d4, d5] }
  | _ => none }
def FrameEntersWrongFalsely : Prop := frameEntersRow.holds Try.pinned (OpenSpec.ofChange frameEntersWrong)

/- THE SECOND FORM. 'bulk': how many values and letters a reading holds, each counted each time it is reached (what is shared counts as often as it is met; a slice's spare places count too). A statement '..UptoSaid' is the law's where the arguments, and the package variables that the reading takes, are together of bulk at most 1048576: NARROWER than '..Said'. Prove '..Said' where nothing that the law and all that it calls make is longer than what came in: it says more and counts as full. Else prove '..UptoSaid'. A law counts once. -/
mutual
def uptoBulk {H : Type} : DataW H → Nat
  | .lit (.string bytes) => bytes.length + 1
  | .lit _ => 1
  | .nil => 1
  | .ptr d => uptoBulk d + 1
  | .slice elems spare => uptoBulkAll elems + uptoBulkAll spare + 1
  | .agg parts => uptoBulkAll parts + 1
  | .iface _ d => uptoBulk d + 1
  | .map entries => uptoBulkEntries entries + 1
  | .held _ => 1
def uptoBulkAll {H : Type} : List (DataW H) → Nat
  | [] => 0
  | d :: r => uptoBulk d + uptoBulkAll r
def uptoBulkEntries {H : Type} : List (Lit × DataW H) → Nat
  | [] => 0
  | x :: r => uptoBulkEntry x + uptoBulkEntries r
def uptoBulkEntry {H : Type} : Lit × DataW H → Nat
  | (.string bytes, d) => bytes.length + uptoBulk d + 1
  | (_, d) => uptoBulk d + 1
 end
def uptoSmall : (H : Type) → List (DataW H) → Bool := fun _ ds => decide (uptoBulkAll ds ≤ 1048576)
def OpenSpec.upto (s : _root_.Go.ChangeSpec) : _root_.Go.OpenSpec := { _root_.Go.OpenSpec.ofChange s with cond := some uptoSmall }

/-- 'websterlaw14.KitHeader', WHERE WHAT IT READS IS OF BULK AT MOST 1048576: true; the input reads as it did. -/
def kitHeaderUptoRow : OpenClaim := { program := "ytjanojignaonfaa", sum := "af9d0fb155779249dbad1c0a135ad4b8d6a4e5bbcd4375bbc653feb4557e383e", func := "webster/websterlaw14.KitHeader", spec := "kitHeader", unfollowed := true, recurses := true, apart := false, narrowed := true }
def KitHeaderUptoSaid : Prop := kitHeaderUptoRow.holds Try.pinned (OpenSpec.upto kitHeaderSpec)

/-- 'websterlaw14.KitClass', WHERE WHAT IT READS IS OF BULK AT MOST 1048576: true; the input reads as it did. -/
def kitClassUptoRow : OpenClaim := { program := "ytjanojignaonfaa", sum := "af9d0fb155779249dbad1c0a135ad4b8d6a4e5bbcd4375bbc653feb4557e383e", func := "webster/websterlaw14.KitClass", spec := "kitClass", unfollowed := true, recurses := true, apart := false, narrowed := true }
def KitClassUptoSaid : Prop := kitClassUptoRow.holds Try.pinned (OpenSpec.upto kitClassSpec)

/-- 'websterlaw14.KitShape', WHERE WHAT IT READS IS OF BULK AT MOST 1048576: true; the input reads as it did. -/
def kitShapeUptoRow : OpenClaim := { program := "ytjanojignaonfaa", sum := "af9d0fb155779249dbad1c0a135ad4b8d6a4e5bbcd4375bbc653feb4557e383e", func := "webster/websterlaw14.KitShape", spec := "kitShape", unfollowed := true, recurses := true, apart := false, narrowed := true }
def KitShapeUptoSaid : Prop := kitShapeUptoRow.holds Try.pinned (OpenSpec.upto kitShapeSpec)

/-- 'websterlaw14.KitMakes', WHERE WHAT IT READS IS OF BULK AT MOST 1048576: true; the input reads as it did. -/
def kitMakesUptoRow : OpenClaim := { program := "ytjanojignaonfaa", sum := "af9d0fb155779249dbad1c0a135ad4b8d6a4e5bbcd4375bbc653feb4557e383e", func := "webster/websterlaw14.KitMakes", spec := "kitMakes", unfollowed := true, recurses := true, apart := false, narrowed := true }
def KitMakesUptoSaid : Prop := kitMakesUptoRow.holds Try.pinned (OpenSpec.upto kitMakesSpec)

/-- 'websterlaw14.KitCache', WHERE WHAT IT READS IS OF BULK AT MOST 1048576: true; the input reads as it did. -/
def kitCacheUptoRow : OpenClaim := { program := "ytjanojignaonfaa", sum := "af9d0fb155779249dbad1c0a135ad4b8d6a4e5bbcd4375bbc653feb4557e383e", func := "webster/websterlaw14.KitCache", spec := "kitCache", unfollowed := true, recurses := true, apart := false, narrowed := true }
def KitCacheUptoSaid : Prop := kitCacheUptoRow.holds Try.pinned (OpenSpec.upto kitCacheSpec)

/-- 'websterlaw15.FrameNums', WHERE WHAT IT READS IS OF BULK AT MOST 1048576: true; the input reads as it did. -/
def frameNumsUptoRow : OpenClaim := { program := "ytjanojignaonfaa", sum := "af9d0fb155779249dbad1c0a135ad4b8d6a4e5bbcd4375bbc653feb4557e383e", func := "webster/websterlaw15.FrameNums", spec := "frameNums", unfollowed := true, recurses := true, apart := false, narrowed := true }
def FrameNumsUptoSaid : Prop := frameNumsUptoRow.holds Try.pinned (OpenSpec.upto frameNumsSpec)

/-- 'websterlaw15.FrameHomes', WHERE WHAT IT READS IS OF BULK AT MOST 1048576: true; the input reads as it did. -/
def frameHomesUptoRow : OpenClaim := { program := "ytjanojignaonfaa", sum := "af9d0fb155779249dbad1c0a135ad4b8d6a4e5bbcd4375bbc653feb4557e383e", func := "webster/websterlaw15.FrameHomes", spec := "frameHomes", unfollowed := true, recurses := true, apart := false, narrowed := true }
def FrameHomesUptoSaid : Prop := frameHomesUptoRow.holds Try.pinned (OpenSpec.upto frameHomesSpec)

/-- 'websterlaw15.FrameStack', WHERE WHAT IT READS IS OF BULK AT MOST 1048576: true; the input reads as it did. -/
def frameStackUptoRow : OpenClaim := { program := "ytjanojignaonfaa", sum := "af9d0fb155779249dbad1c0a135ad4b8d6a4e5bbcd4375bbc653feb4557e383e", func := "webster/websterlaw15.FrameStack", spec := "frameStack", unfollowed := true, recurses := true, apart := false, narrowed := true }
def FrameStackUptoSaid : Prop := frameStackUptoRow.holds Try.pinned (OpenSpec.upto frameStackSpec)

/-- 'websterlaw15.FrameTemps', WHERE WHAT IT READS IS OF BULK AT MOST 1048576: true; the input reads as it did. -/
def frameTempsUptoRow : OpenClaim := { program := "ytjanojignaonfaa", sum := "af9d0fb155779249dbad1c0a135ad4b8d6a4e5bbcd4375bbc653feb4557e383e", func := "webster/websterlaw15.FrameTemps", spec := "frameTemps", unfollowed := true, recurses := true, apart := false, narrowed := true }
def FrameTempsUptoSaid : Prop := frameTempsUptoRow.holds Try.pinned (OpenSpec.upto frameTempsSpec)

/-- 'websterlaw15.FrameEnters', WHERE WHAT IT READS IS OF BULK AT MOST 1048576: true; the input reads as it did. -/
def frameEntersUptoRow : OpenClaim := { program := "ytjanojignaonfaa", sum := "af9d0fb155779249dbad1c0a135ad4b8d6a4e5bbcd4375bbc653feb4557e383e", func := "webster/websterlaw15.FrameEnters", spec := "frameEnters", unfollowed := true, recurses := true, apart := false, narrowed := true }
def FrameEntersUptoSaid : Prop := frameEntersUptoRow.holds Try.pinned (OpenSpec.upto frameEntersSpec)

end Rows
end Go.Proofs.Ytjanojignaonfaa
