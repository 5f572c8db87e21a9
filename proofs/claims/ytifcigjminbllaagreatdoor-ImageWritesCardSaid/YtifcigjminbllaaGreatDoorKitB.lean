/- Classes and methods over a flat memory: Special, ClassOf, Shape, Read, Header (package kit). · Methods over a flat memory: right, Header, Read (package kit); the document's header. -/
import Derived.Test.YtifcigjminbllaaGreatDoorFlatN
import Derived.Test.YtifcigjminbllaaGreatDoorMath
namespace Go.Proofs.YtifcigjminbllaaGreatDoor
set_option linter.unusedVariables false
set_option linter.unusedSimpArgs false
open Go.RowKit

section
variable {w0 w w' : World} {m : Nat} {L L' : List O} {K : (Nat → Prop) → World → Prop} {F F' : Nat → Prop}
end

def classV (L : List O) (o : Int) : Int := if numOk o = true then fetchV L 8 0 else (objV L o).cls
def classE (L : List O) (o : Int) : Int := if numOk o = true then placeE L 8 1 0 else objE L o

section
variable {w0 w w' : World} {m : Nat} {L L' : List O} {K : (Nat → Prop) → World → Prop} {F F' : Nat → Prop}
end

/-! Shape -/
/-- what a class's third word tells -/
def shapeBad (f : Int) : Bool := !numOk f || decide (numV f < 0) || decide (numV f % 4 = 0) || decide (numV f % 4 = 3) || (decide (numV f % 4 = 2) && decide (0 < numV f / 4 % 256))
structure SH where
  k : Int
  n : Int
  m : Bool
  e : Int
def shapeOf (L : List O) (c : Int) : SH :=
  if placeE L c 1 2 ≠ 0 then ⟨0, 0, false, placeE L c 1 2⟩
  else if shapeBad (fetchV L c 2) = true then ⟨0, 0, false, 2⟩
  else ⟨numV (fetchV L c 2) % 4, numV (fetchV L c 2) / 4 % 256, (numV (fetchV L c 2) / 1024 % 2 == 1), 0⟩
theorem fetch64 {L : List O} (hok : ∀ i, (ob L i).kind ≠ 0 → (ob L i).ok) (o i : Int) : In64 (fetchV L o i) := by
  unfold fetchV
  cases hf : fnd L o with
  | none => simp only []; unfold In64; omega
  | some j =>
    simp only []
    split
    · rename_i hc
      have hj := hok j (fnd_some hf).2.1
      have hlt : i.toNat < (ob L j).W.length := by omega
      rw [List.getElem?_eq_getElem hlt]
      exact ref64 (hj.2.2.2.2.1 _ (List.getElem_mem hlt))
    · unfold In64; omega

section
variable {w0 w w' : World} {m : Nat} {L L' : List O} {K : (Nat → Prop) → World → Prop} {F F' : Nat → Prop}
end

def rightB (a t p : Int) : Bool := decide (0 ≤ a) && decide (a < 16) && decide (a ≤ t) && decide (t ≤ 20) && decide (0 ≤ p) && decide (p < 1024)
def headV (a t p : Int) : Int := if rightB a t p = true then 2 * (a + 16 * t + 512 * p) + 1 else 0
def headE (a t p : Int) : Int := if rightB a t p = true then 0 else 2

set_option maxRecDepth 100000 in
set_option maxHeartbeats 1000000 in
theorem right_any (a t p c l : Int) (w : World) : Calls Tryz.prog 70 #[.agg #[.int .i64 a, .int .i64 t, .int .i64 p, .int .i64 c, .int .i64 l]] w fun e w' => e = .returned (.bool (rightB a t p)) ∧ Chg No w w' := by
  unfold rightB
  cases h1 : decide (0 ≤ a)
  · simp only [Bool.false_and]
    go_enter Tryz.func70, Tryz.ntmps70
    go_wp2_with fail
    go_ret
    exact ⟨rfl, (by repeat (with_reducible first | exact Chg.refl _ _ | refine Chg.drew ?_ | refine Chg.alloc ?_ _))⟩
  cases h2 : decide (a < 16)
  · simp only [Bool.false_and, Bool.and_false]
    go_enter Tryz.func70, Tryz.ntmps70
    go_wp2_with fail
    go_ret
    exact ⟨rfl, (by repeat (with_reducible first | exact Chg.refl _ _ | refine Chg.drew ?_ | refine Chg.alloc ?_ _))⟩
  cases h3 : decide (a ≤ t)
  · simp only [Bool.false_and, Bool.and_false]
    go_enter Tryz.func70, Tryz.ntmps70
    go_wp2_with fail
    go_ret
    exact ⟨rfl, (by repeat (with_reducible first | exact Chg.refl _ _ | refine Chg.drew ?_ | refine Chg.alloc ?_ _))⟩
  cases h4 : decide (t ≤ 20)
  · simp only [Bool.false_and, Bool.and_false]
    go_enter Tryz.func70, Tryz.ntmps70
    go_wp2_with fail
    go_ret
    exact ⟨rfl, (by repeat (with_reducible first | exact Chg.refl _ _ | refine Chg.drew ?_ | refine Chg.alloc ?_ _))⟩
  cases h5 : decide (0 ≤ p)
  · simp only [Bool.false_and, Bool.and_false]
    go_enter Tryz.func70, Tryz.ntmps70
    go_wp2_with fail
    go_ret
    exact ⟨rfl, (by repeat (with_reducible first | exact Chg.refl _ _ | refine Chg.drew ?_ | refine Chg.alloc ?_ _))⟩
  cases h6 : decide (p < 1024)
  · simp only [Bool.and_false]
    go_enter Tryz.func70, Tryz.ntmps70
    go_wp2_with fail
    go_ret
    exact ⟨rfl, (by repeat (with_reducible first | exact Chg.refl _ _ | refine Chg.drew ?_ | refine Chg.alloc ?_ _))⟩
  simp only [Bool.true_and]
  go_enter Tryz.func70, Tryz.ntmps70
  go_wp2_with fail
  go_ret
  exact ⟨rfl, (by repeat (with_reducible first | exact Chg.refl _ _ | refine Chg.drew ?_ | refine Chg.alloc ?_ _))⟩

end Go.Proofs.YtifcigjminbllaaGreatDoor
