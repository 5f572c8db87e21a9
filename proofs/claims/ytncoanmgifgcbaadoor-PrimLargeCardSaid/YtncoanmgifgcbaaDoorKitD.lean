/- New objects of a class: what kit.Instance asks of its sizes. -/
import Derived.Test.YtncoanmgifgcbaaDoorKitC
import Derived.Test.YtncoanmgifgcbaaDoorRef14b
namespace Go.Proofs.YtncoanmgifgcbaaDoor
set_option linter.unusedVariables false
set_option linter.unusedSimpArgs false
open Go.RowKit

def badB (k : Int) : Bool := decide (k < 0) || decide (1000 < k)

set_option maxRecDepth 100000 in
theorem bad1_any (k : Int) (w : World) : Calls Tryd.prog 109 #[.int .i64 k] w fun e w' => e = .returned (.bool (badB k)) ∧ w' = w := by
  unfold badB
  cases h1 : decide (k < 0)
  · rw [Bool.false_or]
    go_enter Tryd.func109, Tryd.ntmps109
    go_wp2_with fail
    go_ret
    exact ⟨rfl, rfl⟩
  · rw [Bool.true_or]
    go_enter Tryd.func109, Tryd.ntmps109
    go_wp2_with fail
    go_ret
    exact ⟨rfl, rfl⟩

set_option maxRecDepth 100000 in
set_option maxHeartbeats 1000000 in
theorem index0_any (c : Nat) (A : Option Addr) (w : World) : Calls Tryd.prog 90 #[.slice A 0 c, .func (.func 109) #[] #[]] w fun e w' => e = .returned (.int .i64 (-1)) ∧ w' = w := by
  go_enter Tryd.func90, Tryd.ntmps90
  go_wp2_with fail
  refine wp_loop_rounds 1 ?_
  rw [rounds_succ]
  go_wp2_with fail
  go_ret
  exact ⟨rfl, rfl⟩

set_option maxRecDepth 100000 in
set_option maxHeartbeats 1000000 in
theorem index1_any (c b off : Nat) (k : Int) (w : World) (hc : w.cell? ⟨b, off, none⟩ = some (.int .i64 k)) : Calls Tryd.prog 90 #[.slice (some ⟨b, off, none⟩) 1 c, .func (.func 109) #[] #[]] w fun e w' => e = .returned (.int .i64 (if badB k = true then 0 else -1)) ∧ Chg No w w' := by
  have HB := fun w => bad1_any k w
  cases hb : badB k
  · rw [hb] at HB
    rw [if_neg (by simp)]
    clear hb
    go_enter Tryd.func90, Tryd.ntmps90
    go_wp2_with fail
    refine wp_loop_rounds 2 ?_
    iterate 2 (rw [rounds_succ]; go_wp2_with (go_at_call 109; refine (HB _).mono ?_; rintro e w1 ⟨rfl, rfl⟩))
    go_ret
    exact ⟨rfl, (by repeat (with_reducible first | exact Chg.refl _ _ | refine Chg.drew ?_))⟩
  · rw [hb] at HB
    rw [if_pos rfl]
    clear hb
    go_enter Tryd.func90, Tryd.ntmps90
    go_wp2_with fail
    refine wp_loop_rounds 1 ?_
    iterate 1 (rw [rounds_succ]; go_wp2_with (go_at_call 109; refine (HB _).mono ?_; rintro e w1 ⟨rfl, rfl⟩))
    go_ret
    exact ⟨rfl, (by repeat (with_reducible first | exact Chg.refl _ _ | refine Chg.drew ?_))⟩

set_option maxRecDepth 100000 in
theorem contains0_any (c : Nat) (A : Option Addr) (w : World) : Calls Tryd.prog 56 #[.slice A 0 c, .func (.func 109) #[] #[]] w fun e w' => e = .returned (.bool false) ∧ w' = w := by
  go_enter Tryd.func56, Tryd.ntmps56
  go_wp2_with (go_at_call 90; refine (index0_any _ _ _).mono ?_; rintro e w1 ⟨rfl, rfl⟩)
  go_ret
  exact ⟨rfl, rfl⟩

set_option maxRecDepth 100000 in
theorem contains1_any (c b off : Nat) (k : Int) (w : World) (hc : w.cell? ⟨b, off, none⟩ = some (.int .i64 k)) : Calls Tryd.prog 56 #[.slice (some ⟨b, off, none⟩) 1 c, .func (.func 109) #[] #[]] w fun e w' => e = .returned (.bool (badB k)) ∧ Chg No w w' := by
  have HI := index1_any c b off k w hc
  cases hb : badB k
  · rw [hb, if_neg (by simp)] at HI
    go_enter Tryd.func56, Tryd.ntmps56
    go_wp2_with (go_at_call 90; refine HI.mono ?_; rintro e w1 ⟨rfl, c1⟩)
    go_ret
    exact ⟨rfl, c1⟩
  · rw [hb, if_pos rfl] at HI
    go_enter Tryd.func56, Tryd.ntmps56
    go_wp2_with (go_at_call 90; refine HI.mono ?_; rintro e w1 ⟨rfl, c1⟩)
    go_ret
    exact ⟨rfl, c1⟩

/-- what a new object of a class is, asked for with more places or not -/
def insBad (L : List O) (c : Int) (l : List Int) : Bool := decide (1 < l.length) || l.any badB || (decide (l.length = 1) && !(shapeOf L c).m)
def insOk (L : List O) (c : Int) (l : List Int) : Bool := (shapeOf L c).e == 0 && !insBad L c l
def insN (L : List O) (c : Int) (l : List Int) : Int := if insOk L c l = true then newN L c (shapeOf L c).k ((shapeOf L c).n + l.sum) else 0
def insE (L : List O) (c : Int) (l : List Int) : Int := if (shapeOf L c).e ≠ 0 then (shapeOf L c).e else if insBad L c l = true then 2 else newE c (shapeOf L c).k ((shapeOf L c).n + l.sum)
def insL (L : List O) (c : Int) (l : List Int) : List O := if insOk L c l = true then newL L c (shapeOf L c).k ((shapeOf L c).n + l.sum) else L
theorem shape_bd (L : List O) (c : Int) : 0 ≤ (shapeOf L c).n ∧ (shapeOf L c).n ≤ 255 ∧ 0 ≤ (shapeOf L c).k ∧ (shapeOf L c).k ≤ 3 := by
  unfold shapeOf
  split
  · simp
  · split
    · simp
    · dsimp only; omega

end Go.Proofs.YtncoanmgifgcbaaDoor
