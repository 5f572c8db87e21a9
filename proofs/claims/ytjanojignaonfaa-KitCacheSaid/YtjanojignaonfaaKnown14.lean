/- The chapter's example: websterlaw14.known. -/
import Derived.Test.YtjanojignaonfaaLoaded
namespace Go.Proofs.Ytjanojignaonfaa
set_option linter.unusedVariables false
set_option linter.unusedSimpArgs false
open Go.RowKit

def known14L : List O := setL (newL [] 2 1 2) 2 0 61539

set_option maxRecDepth 100000 in
set_option maxHeartbeats 2000000 in
theorem known14_any (w : World) : Calls Try.prog 15 #[] w fun e w' => e = .returned (.bool true) ∧ Chg No w w' := by
  have i2 : In64 2 := by unfold In64; omega
  have i7 : In64 61539 := by unfold In64; omega
  have a1 : headV 1 3 60 = 61539 := by decide
  have a2 : headE 1 3 60 = 0 := by decide
  have a3 : headE 2 1 0 = 2 := by decide
  have a4 : headV 2 1 0 = 0 := by decide
  have e0 : setE (newL [] 2 1 2) 2 0 61539 = 0 := by decide
  have n1 : newN [] 2 1 2 = 2 := by decide
  have n2 : newE 2 1 2 = 0 := by decide
  have rm : readM known14L 2 = ⟨1, 3, 60, 2, 0, 0⟩ := by kernel_rfl
  have tok : True := trivial
  go_enter Try.func15, Try.ntmps15
  go_wp2_with (first
    | (go_at_call 13
       have _t := tok
       clear tok
       refine (Header_any 1 3 60 0 0 _).mono ?_
       rw [a1, a2]
       rintro e w0 ⟨rfl, h0⟩)
    | (go_at_call 46
       refine (k_flatNew h0).mono ?_
       rintro e w1 ⟨m, rfl, h1⟩)
    | (go_at_call 53
       refine (k_New h1 2 1 2 i2 (by unfold In64; omega) i2 (by decide)).mono ?_
       rw [n1, n2]
       rintro e w2 ⟨rfl, h2⟩
       clear h1)
    | (go_at_call 54
       refine (k_Set h2 2 0 61539 i2 i7).mono ?_
       rw [e0]
       rintro e w3 ⟨rfl, h3⟩
       replace h3 : MemK w w3 m known14L _ := h3
       clear h2)
    | (go_at_call 17
       refine (k_Read h3 2 i2).mono ?_
       rw [rm]
       rintro e w4 ⟨rfl, h4, -⟩
       simp only [ME.cells])
    | (go_at_call 13
       refine (Header_any 2 1 0 0 0 _).mono ?_
       rw [a3, a4]
       rintro e w5 ⟨rfl, c5⟩
       have h5 := (Row.new w4 23 #[.int .i64 1, .int .i64 3, .int .i64 60, .int .i64 2, .int .i64 0]).keep c5 (fun f => f)
       have x5 := h5.five
       have g5 := (h4.chg.alloc _).trans c5))
  go_ret
  exact ⟨rfl, g5⟩

end Go.Proofs.Ytjanojignaonfaa
