/- The chapter's example of frames: websterlaw15.known. -/
import Derived.Test.YtjanojignaonfaaFrameG
namespace Go.Proofs.Ytjanojignaonfaa
set_option linter.unusedVariables false
set_option linter.unusedSimpArgs false
open Go.RowKit

def kn1 : List O := (pushR 16 frameL [21, 23]).1
def kn2 : List O := popL kn1 16
theorem kn_push : pushR 16 frameL [21, 23] = (kn1, 0) := by kernel_rfl
theorem kn_pop : popV kn1 16 = 23 ∧ popE kn1 16 = 0 := ⟨by kernel_rfl, by kernel_rfl⟩
theorem kn_top : topR kn2 16 = (21, 4, 0) := by kernel_rfl
theorem kn_temp : tempV kn2 16 1 = (9, 0) := by kernel_rfl
theorem kn_num : numR kn2 16 2 = (4, 0) := by kernel_rfl
theorem in16 : In64 16 := ⟨by decide, by decide⟩

set_option maxRecDepth 100000 in
set_option maxHeartbeats 1000000 in
theorem known15_any (w : World) : Calls Try.prog 36 #[] w fun e w' => e = .returned (.bool true) ∧ Chg No w w' := by
  have h1 := Lib.hid kn_push
  have h2 := Lib.hid kn_pop
  have h3 := Lib.hid kn_top
  have h4 := Lib.hid kn_temp
  have h5 := Lib.hid kn_num
  go_enter Try.func36, Try.ntmps36
  go_wp2_with (first
    | (go_at_call 32; refine (made15_any _).mono ?_; rintro e w1 ⟨m, rfl, g1⟩; have H1 := Lib.hid g1; clear g1)
    | (go_at_call 40
       refine (k_Push (H1.out.fresh2 3 _ rfl 21 23 ⟨by decide, by decide⟩ ⟨by decide, by decide⟩) 16 in16 _ [21, 23] (fun F v hk => hk.2)).mono ?_
       rw [h1.out]
       rintro e w2 ⟨rfl, g2⟩
       have g2b : MemK w w2 m kn1 (fun _ _ => True) := g2.mono fun _ _ _ => trivial
       have H2 := Lib.hid g2b
       clear g2 g2b)
    | (go_at_call 43
       refine (k_Pop H2.out 16 in16).mono ?_
       rw [h2.out.1, h2.out.2, ← kn2]
       rintro e w3 ⟨rfl, g3⟩
       have H3 := Lib.hid g3
       clear g3)
    | (go_at_call 44; refine (k_Top H3.out 16 in16).mono ?_; rw [h3.out]; rintro e w4 ⟨rfl, g4, -⟩; have H4 := Lib.hid g4; clear g4)
    | (go_at_call 42; refine (k_Temp H4.out 16 1 in16).mono ?_; rw [h4.out]; rintro e w5 ⟨rfl, g5, -⟩; have H5 := Lib.hid g5; clear g5)
    | (go_at_call 35; refine (k_Num H5.out 16 2 in16).mono ?_; rw [h5.out]; rintro e w6 ⟨rfl, g6, -⟩; have H6 := Lib.hid g6; clear g6)
    | fail)
  go_ret
  exact ⟨rfl, H6.out.chg⟩

end Go.Proofs.Ytjanojignaonfaa
