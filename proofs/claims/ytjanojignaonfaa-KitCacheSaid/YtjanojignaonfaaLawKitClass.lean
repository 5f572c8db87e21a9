/- The walks of KitClass and KitShape. -/
import Derived.Test.YtjanojignaonfaaKnown14
import Derived.Test.YtjanojignaonfaaRef14b
namespace Go.Proofs.Ytjanojignaonfaa
set_option linter.unusedVariables false
set_option linter.unusedSimpArgs false
open Go.RowKit

/-- what the document's memory is, when a memory is loaded -/
theorem LoadedK.refM {w w' : World} {lv : Value} {L : List O} {m : Nat} (h : LoadedK w lv L m w') : RefM w' (fun b => b < w.heap.size) (.agg #[lv]) L := by
  obtain ⟨F, -, -, hk⟩ := MemK.opened h
  exact ⟨lv, rfl, hk⟩

set_option maxRecDepth 100000 in
set_option maxHeartbeats 2000000 in
theorem KitClass_any (lv : Value) (L : List O) (o : Int) (o64 : In64 o) (w : World) (h : RefL w (fun _ => True) lv L) (hm : L.length ≤ maxLen) :
    Calls Try.prog 4 #[lv, .int .i64 o] w fun e w' => e = .returned (.bool true) ∧ Below w.heap.size w w' := by
  obtain ⟨A, c, rfl, -⟩ := h.form
  have HLd := Lib.hid (loaded_any _ L w h hm)
  have HH := Lib.hid h
  clear h
  generalize L.length = n at *
  go_enter Try.func4, Try.ntmps4
  go_wp2_with (first
    | (go_at_call 16
       refine HLd.out.mono ?_
       rintro e w1 (⟨rfl, c1, hlb⟩ | ⟨m, rfl, g1, hl200, hlb⟩)
       rotate_left
       have rX := Row.new w1 33 #[.slice A n c]
       have hok1 := fun i (hk : (ob L i).kind ≠ 0) => MemK.okAt g1 hk
       have HOK := Lib.hid hok1
       have g2 : LoadedK w (.slice A n c) L m (w1.alloc (.cells #[.slice A n c] 33)) := MemK.world g1 ((Chg.refl _ _).alloc _)
       have HG := Lib.hid (And.intro g2 rX)
       clear g1 rX hok1 g2
       rotate_left)
    | (go_at_call 18
       refine (k_ClassOf HG.out.1 o o64).mono ?_
       rintro e w3 ⟨rfl, g3, c3⟩
       have x3 : w3.cell? ⟨w1.heap.size, 0, none⟩ = some (.slice A n c) := (HG.out.2.keep c3 (fun f => f)).cell 0
       have H3 := Lib.hid g3
       clear g3 c3)
    | (go_at_call 19
       refine (ClassOf14_any _ _ L _ (LoadedK.refM H3.out) HOK.out o o64).mono ?_
       rintro e w4 ⟨rfl, c4⟩
       have H4 := Lib.hid (H3.out.chg.trans c4)
       clear c4)
    | (go_at_call 15; refine (known14_any _).mono ?_; rintro e w9 ⟨rfl, c9⟩))
  · go_ret
    exact ⟨rfl, (c1.trans ((Chg.alloc (Chg.refl _ _) _).trans c9)).below⟩
  · go_ret
    exact ⟨rfl, (H4.out.trans c9).below⟩

set_option maxRecDepth 100000 in
set_option maxHeartbeats 2000000 in
theorem KitShape_any (lv : Value) (L : List O) (o : Int) (o64 : In64 o) (w : World) (h : RefL w (fun _ => True) lv L) (hm : L.length ≤ maxLen) :
    Calls Try.prog 5 #[lv, .int .i64 o] w fun e w' => e = .returned (.bool true) ∧ Below w.heap.size w w' := by
  obtain ⟨A, c, rfl, -⟩ := h.form
  have HLd := Lib.hid (loaded_any _ L w h hm)
  have HH := Lib.hid h
  clear h
  generalize L.length = n at *
  go_enter Try.func5, Try.ntmps5
  go_wp2_with (first
    | (go_at_call 16
       refine HLd.out.mono ?_
       rintro e w1 (⟨rfl, c1, hlb⟩ | ⟨m, rfl, g1, hl200, hlb⟩)
       rotate_left
       have rX := Row.new w1 33 #[.slice A n c]
       have hok1 := fun i (hk : (ob L i).kind ≠ 0) => MemK.okAt g1 hk
       have HOK := Lib.hid hok1
       have g2 : LoadedK w (.slice A n c) L m (w1.alloc (.cells #[.slice A n c] 33)) := MemK.world g1 ((Chg.refl _ _).alloc _)
       have HG := Lib.hid (And.intro g2 rX)
       clear g1 rX hok1 g2
       rotate_left)
    | (go_at_call 20
       refine (k_Shape HG.out.1 o o64).mono ?_
       rintro e w3 ⟨rfl, g3, c3⟩
       have x3 : w3.cell? ⟨w1.heap.size, 0, none⟩ = some (.slice A n c) := (HG.out.2.keep c3 (fun f => f)).cell 0
       have H3 := Lib.hid g3
       clear g3 c3)
    | (go_at_call 21
       refine (Shape14_any _ _ L _ (LoadedK.refM H3.out) HOK.out o o64).mono ?_
       rintro e w4 ⟨rfl, c4⟩
       have H4 := Lib.hid (H3.out.chg.trans c4)
       clear c4)
    | (go_at_call 15; refine (known14_any _).mono ?_; rintro e w9 ⟨rfl, c9⟩))
  · go_ret
    exact ⟨rfl, (c1.trans ((Chg.alloc (Chg.refl _ _) _).trans c9)).below⟩
  · go_ret
    exact ⟨rfl, (H4.out.trans c9).below⟩

end Go.Proofs.Ytjanojignaonfaa
