/- What a byte tells by itself: code.constant, code.one. -/
import Derived.Test.YtncoanmgifgcbaaDoorImgA
import Derived.Test.YtncoanmgifgcbaaDoorFlatRep
namespace Go.Proofs.YtncoanmgifgcbaaDoor
set_option linter.unusedVariables false
set_option linter.unusedSimpArgs false
open Go.RowKit

/-- what bytes tell -/
structure P4 where
  k : Int
  n : Int
  m : Int
  l : Int
def P4.cells (x : P4) : Array Value := #[.int .i64 x.k, .int .i64 x.n, .int .i64 x.m, .int .i64 x.l]
def constV (k : Int) : Int := if k = 1 then 4 else if k = 2 then 6 else if k = 3 then 2 else 2 * (k - 5) + 1
def spanL : List (Int × Int × Int) := [(0, 15, 1), (16, 31, 2), (32, 63, 3), (64, 95, 4), (96, 103, 8), (104, 111, 9), (176, 191, 25), (192, 207, 26)]
def storeL : List Int := [1, 2, 3, 4, 5, 6, 0, 7, 8, 9, 0, 10]
/-- what one byte tells -/
def oneP (c : Int) : P4 × Bool :=
  if c ≤ 15 then (⟨1, c, 0, 1⟩, true) else if c ≤ 31 then (⟨2, c - 16, 0, 1⟩, true) else if c ≤ 63 then (⟨3, c - 32, 0, 1⟩, true) else if c ≤ 95 then (⟨4, c - 64, 0, 1⟩, true)
  else if c ≤ 103 then (⟨8, c - 96, 0, 1⟩, true) else if c ≤ 111 then (⟨9, c - 104, 0, 1⟩, true) else if c ≤ 112 then (⟨11, 0, 0, 1⟩, true) else if c ≤ 119 then (⟨12, constV (c - 112), 0, 1⟩, true)
  else if c ≤ 120 then (⟨13, 0, 0, 1⟩, true) else if c ≤ 123 then (⟨14, constV (c - 120), 0, 1⟩, true) else if c ≤ 125 then (⟨c - 109, 0, 0, 1⟩, true) else if c ≤ 127 then (⟨0, 0, 0, 1⟩, true)
  else if c ≤ 134 then (⟨0, 0, 0, 1⟩, false) else if c ≤ 137 then (⟨c - 116, 0, 0, 1⟩, true) else if c ≤ 143 then (⟨0, 0, 0, 1⟩, true) else if c ≤ 151 then (⟨22, c - 143, 0, 1⟩, true)
  else if c ≤ 159 then (⟨24, c - 151, 0, 1⟩, true) else if c ≤ 175 then (⟨0, 0, 0, 1⟩, false) else if c ≤ 191 then (⟨25, c - 176, 0, 1⟩, true) else if c ≤ 207 then (⟨26, c - 192, 0, 1⟩, true)
  else (⟨17, c % 16, (c - 208) / 16, 1⟩, true)
def spanCells : Array Value := (spanL.flatMap fun z => [Value.int .i64 z.1, Value.int .i64 z.2.1, Value.int .i64 z.2.2]).toArray
def storeCells : Array Value := (storeL.map (Value.int .i64)).toArray
/-- the package's tables are as its text lays them -/
def Tabs (w : World) : Prop := (∃ t fr, w.heap[1]? = some (.cells spanCells t fr)) ∧ ∃ t fr, w.heap[2]? = some (.cells storeCells t fr)
theorem Tabs.keep {w w' : World} (h : Tabs w) (c : Chg No w w') : Tabs w' := by
  obtain ⟨⟨t, fr, h1⟩, t2, fr2, h2⟩ := h
  exact ⟨⟨t, fr, (c.block _ (lt_of_block h1) (fun f => f)).trans h1⟩, t2, fr2, (c.block _ (lt_of_block h2) (fun f => f)).trans h2⟩
theorem Tabs.span {w : World} (h : Tabs w) (i : Nat) : w.cell? ⟨1, i, none⟩ = spanCells[i]? := by
  obtain ⟨⟨t, fr, h1⟩, -⟩ := h
  exact cell_of_row w _ i _ t fr h1
theorem Tabs.store {w : World} (h : Tabs w) (i : Nat) : w.cell? ⟨2, i, none⟩ = storeCells[i]? := by
  obtain ⟨-, t, fr, h1⟩ := h
  exact cell_of_row w _ i _ t fr h1

theorem const_any (k : Int) (h : 0 ≤ k ∧ k ≤ 100) (w : World) : Calls Tryd.prog 135 #[.int .i64 k] w fun e w' => e = .returned (.int .i64 (constV k)) ∧ w = w' := by
  by_cases h1 : k = 1
  · subst h1
    go_enter Tryd.func135, Tryd.ntmps135
    go_wp2_with fail
    go_ret
    exact ⟨rfl, rfl⟩
  by_cases h2 : k = 2
  · subst h2
    go_enter Tryd.func135, Tryd.ntmps135
    go_wp2_with fail
    go_ret
    exact ⟨rfl, rfl⟩
  by_cases h3 : k = 3
  · subst h3
    go_enter Tryd.func135, Tryd.ntmps135
    go_wp2_with fail
    go_ret
    exact ⟨rfl, rfl⟩
  have e : constV k = 2 * (k - 5) + 1 := by unfold constV; rw [if_neg h1, if_neg h2, if_neg h3]
  have t1 : (k == 1) = false := by simpa using h1
  have t2 : (k == 2) = false := by simpa using h2
  have t3 : (k == 3) = false := by simpa using h3
  have w1 : IntKind.i64.wrap (k - 5) = k - 5 := IntWalk.i64_in _ (by omega)
  have w2 : IntKind.i64.wrap (2 * (k - 5)) = 2 * (k - 5) := IntWalk.i64_in _ (by omega)
  have w3 : IntKind.i64.wrap (2 * (k - 5) + 1) = 2 * (k - 5) + 1 := IntWalk.i64_in _ (by omega)
  rw [e]
  clear e h1 h2 h3
  go_enter Tryd.func135, Tryd.ntmps135
  go_wp2_with fail
  go_ret
  exact ⟨rfl, rfl⟩


theorem hI0 (w : World) : (Instr.index 185 (.agg #[.int .i64 0, .int .i64 15, .int .i64 1, .int .i64 16, .int .i64 31, .int .i64 2, .int .i64 32, .int .i64 63, .int .i64 3, .int .i64 64, .int .i64 95, .int .i64 4, .int .i64 96, .int .i64 103, .int .i64 8, .int .i64 104, .int .i64 111, .int .i64 9, .int .i64 176, .int .i64 191, .int .i64 25, .int .i64 192, .int .i64 207, .int .i64 26]) (.int .i64 0)).run Tryd.prog w = .ok (.agg #[.int .i64 0, .int .i64 15, .int .i64 1]) w := by kernel_rfl
theorem hI1 (w : World) : (Instr.index 185 (.agg #[.int .i64 0, .int .i64 15, .int .i64 1, .int .i64 16, .int .i64 31, .int .i64 2, .int .i64 32, .int .i64 63, .int .i64 3, .int .i64 64, .int .i64 95, .int .i64 4, .int .i64 96, .int .i64 103, .int .i64 8, .int .i64 104, .int .i64 111, .int .i64 9, .int .i64 176, .int .i64 191, .int .i64 25, .int .i64 192, .int .i64 207, .int .i64 26]) (.int .i64 1)).run Tryd.prog w = .ok (.agg #[.int .i64 16, .int .i64 31, .int .i64 2]) w := by kernel_rfl
theorem hI2 (w : World) : (Instr.index 185 (.agg #[.int .i64 0, .int .i64 15, .int .i64 1, .int .i64 16, .int .i64 31, .int .i64 2, .int .i64 32, .int .i64 63, .int .i64 3, .int .i64 64, .int .i64 95, .int .i64 4, .int .i64 96, .int .i64 103, .int .i64 8, .int .i64 104, .int .i64 111, .int .i64 9, .int .i64 176, .int .i64 191, .int .i64 25, .int .i64 192, .int .i64 207, .int .i64 26]) (.int .i64 2)).run Tryd.prog w = .ok (.agg #[.int .i64 32, .int .i64 63, .int .i64 3]) w := by kernel_rfl
theorem hI3 (w : World) : (Instr.index 185 (.agg #[.int .i64 0, .int .i64 15, .int .i64 1, .int .i64 16, .int .i64 31, .int .i64 2, .int .i64 32, .int .i64 63, .int .i64 3, .int .i64 64, .int .i64 95, .int .i64 4, .int .i64 96, .int .i64 103, .int .i64 8, .int .i64 104, .int .i64 111, .int .i64 9, .int .i64 176, .int .i64 191, .int .i64 25, .int .i64 192, .int .i64 207, .int .i64 26]) (.int .i64 3)).run Tryd.prog w = .ok (.agg #[.int .i64 64, .int .i64 95, .int .i64 4]) w := by kernel_rfl
theorem hI4 (w : World) : (Instr.index 185 (.agg #[.int .i64 0, .int .i64 15, .int .i64 1, .int .i64 16, .int .i64 31, .int .i64 2, .int .i64 32, .int .i64 63, .int .i64 3, .int .i64 64, .int .i64 95, .int .i64 4, .int .i64 96, .int .i64 103, .int .i64 8, .int .i64 104, .int .i64 111, .int .i64 9, .int .i64 176, .int .i64 191, .int .i64 25, .int .i64 192, .int .i64 207, .int .i64 26]) (.int .i64 4)).run Tryd.prog w = .ok (.agg #[.int .i64 96, .int .i64 103, .int .i64 8]) w := by kernel_rfl
theorem hI5 (w : World) : (Instr.index 185 (.agg #[.int .i64 0, .int .i64 15, .int .i64 1, .int .i64 16, .int .i64 31, .int .i64 2, .int .i64 32, .int .i64 63, .int .i64 3, .int .i64 64, .int .i64 95, .int .i64 4, .int .i64 96, .int .i64 103, .int .i64 8, .int .i64 104, .int .i64 111, .int .i64 9, .int .i64 176, .int .i64 191, .int .i64 25, .int .i64 192, .int .i64 207, .int .i64 26]) (.int .i64 5)).run Tryd.prog w = .ok (.agg #[.int .i64 104, .int .i64 111, .int .i64 9]) w := by kernel_rfl
theorem hI6 (w : World) : (Instr.index 185 (.agg #[.int .i64 0, .int .i64 15, .int .i64 1, .int .i64 16, .int .i64 31, .int .i64 2, .int .i64 32, .int .i64 63, .int .i64 3, .int .i64 64, .int .i64 95, .int .i64 4, .int .i64 96, .int .i64 103, .int .i64 8, .int .i64 104, .int .i64 111, .int .i64 9, .int .i64 176, .int .i64 191, .int .i64 25, .int .i64 192, .int .i64 207, .int .i64 26]) (.int .i64 6)).run Tryd.prog w = .ok (.agg #[.int .i64 176, .int .i64 191, .int .i64 25]) w := by kernel_rfl
theorem hI7 (w : World) : (Instr.index 185 (.agg #[.int .i64 0, .int .i64 15, .int .i64 1, .int .i64 16, .int .i64 31, .int .i64 2, .int .i64 32, .int .i64 63, .int .i64 3, .int .i64 64, .int .i64 95, .int .i64 4, .int .i64 96, .int .i64 103, .int .i64 8, .int .i64 104, .int .i64 111, .int .i64 9, .int .i64 176, .int .i64 191, .int .i64 25, .int .i64 192, .int .i64 207, .int .i64 26]) (.int .i64 7)).run Tryd.prog w = .ok (.agg #[.int .i64 192, .int .i64 207, .int .i64 26]) w := by kernel_rfl
set_option maxRecDepth 100000 in
set_option maxHeartbeats 8000000 in
theorem one_any (c : Int) (hc0 : 0 ≤ c) (hc1 : c ≤ 255) (w : World) (ht : Tabs w) : Calls Tryd.prog 127 #[.int .i64 c] w fun e w' => e = .returned (.tuple #[.agg (oneP c).1.cells, .bool (oneP c).2]) ∧ Chg No w w' := by
  obtain ⟨Pr, hP⟩ : ∃ r, oneP c = r := ⟨_, rfl⟩
  rw [hP]
  have HP := Lib.hid hP
  clear hP
  have row := Row.new w 138 #[.int .i64 0, .int .i64 0, .int .i64 0, .int .i64 0]
  have cA : Chg No w (w.alloc (.cells #[.int .i64 0, .int .i64 0, .int .i64 0, .int .i64 0] 138)) := (Chg.refl _ _).alloc _
  obtain ⟨⟨tt, fr, hg1⟩, -⟩ := ht.keep cA
  have HG1 := Lib.hid hg1
  have HA := Lib.hid (And.intro row cA)
  clear row cA ht hg1
  go_enter Tryd.func127, Tryd.ntmps127
  go_wp2_with (refine wpList_load_row rfl 185 _ rfl 1 rfl tt _ fr _ HG1.out Tryd.underlying185 rfl (by kernel_rfl) ?_)
  rw [show spanCells = #[.int .i64 0, .int .i64 15, .int .i64 1, .int .i64 16, .int .i64 31, .int .i64 2, .int .i64 32, .int .i64 63, .int .i64 3, .int .i64 64, .int .i64 95, .int .i64 4, .int .i64 96, .int .i64 103, .int .i64 8, .int .i64 104, .int .i64 111, .int .i64 9, .int .i64 176, .int .i64 191, .int .i64 25, .int .i64 192, .int .i64 207, .int .i64 26] from rfl]
  clear HG1
  go_loopg [8] 8 (fun j v8 wr => ∃ i : Nat, v8 = .int .i64 (i : Int) ∧ i ≤ 8 ∧ 8 - i ≤ j ∧ Row wr w.heap.size 138 #[.int .i64 0, .int .i64 0, .int .i64 0, .int .i64 0] ∧ Chg No w wr ∧ ∀ k, k < i → ¬ ((spanL[k]?.getD (0, 0, 0)).1 ≤ c ∧ c ≤ (spanL[k]?.getD (0, 0, 0)).2.1))
  case atStart => exact ⟨0, rfl, by omega, by omega, HA.out.1, HA.out.2, fun k hk => by omega⟩
  case round =>
    clear HA
    obtain ⟨i, rfl, i1, i2, row, cw, hno⟩ := hrel
    have HC := Lib.hid (And.intro cw row)
    have HN := Lib.hid hno
    have z4 := row.four
    have hsz := row.lt
    clear cw hno row
    rcases (show i = 0 ∨ i = 1 ∨ i = 2 ∨ i = 3 ∨ i = 4 ∨ i = 5 ∨ i = 6 ∨ i = 7 ∨ i = 8 by omega) with rfl | rfl | rfl | rfl | rfl | rfl | rfl | rfl | rfl
    · have hI := hI0
      by_cases hin : 0 ≤ c ∧ c ≤ 15
      · obtain rfl : Pr = (⟨1, c, 0, 1⟩, true) := by
          rw [← HP.out]
          unfold oneP
          repeat (first | rw [if_pos (by omega)] | rw [if_neg (by omega)])
        have t1 : decide (0 ≤ c) = true := decide_eq_true hin.1
        have t2 : decide (c ≤ 15) = true := decide_eq_true hin.2
        have w1 : IntKind.i64.wrap (c - 0) = c - 0 := IntWalk.i64_in _ (by omega)
        go_wp2_with fail
        show bodyPost Tryd.prog Tryd.f127 _ _ _ _
        refine bodyPost_ret (v := .tuple #[.agg #[.int .i64 (1), .int .i64 (c), .int .i64 (0), .int .i64 1], .bool true]) (by simp [results, Tryd.results127, go_sem, z4, hsz]) rfl ⟨rfl, ?_⟩
        repeat (with_reducible first | exact HC.out.1 | refine Chg.alloc ?_ _ | refine Chg.setCell ?_ (.inr (by first | exact Nat.le_refl _ | (simp; done) | (simp; omega))) _)
      · have HN2 := Lib.hid (show ∀ k, k < 1 → ¬ ((spanL[k]?.getD (0, 0, 0)).1 ≤ c ∧ c ≤ (spanL[k]?.getD (0, 0, 0)).2.1) from fun k hk => by
          rcases Nat.lt_or_ge k 0 with h | h
          · exact HN.out k h
          · obtain rfl : k = 0 := by omega
            exact hin)
        by_cases h1 : 0 ≤ c
        · have t1 : decide (0 ≤ c) = true := decide_eq_true h1
          have t2 : decide (c ≤ 15) = false := decide_eq_false (by omega)
          clear hin
          go_wp2_with fail
          go_roundg (8 - 1)
          case measure => omega
          case rel => exact ⟨1, rfl, by omega, by omega, by repeat (with_reducible first | exact HC.out.2 | refine Row.alloc ?_ _), by repeat (with_reducible first | exact HC.out.1 | refine Chg.alloc ?_ _), HN2.out⟩
        · exact absurd hc0 h1
    · have hI := hI1
      by_cases hin : 16 ≤ c ∧ c ≤ 31
      · obtain rfl : Pr = (⟨2, c - 16, 0, 1⟩, true) := by
          rw [← HP.out]
          unfold oneP
          repeat (first | rw [if_pos (by omega)] | rw [if_neg (by omega)])
        have t1 : decide (16 ≤ c) = true := decide_eq_true hin.1
        have t2 : decide (c ≤ 31) = true := decide_eq_true hin.2
        have w1 : IntKind.i64.wrap (c - 16) = c - 16 := IntWalk.i64_in _ (by omega)
        go_wp2_with fail
        show bodyPost Tryd.prog Tryd.f127 _ _ _ _
        refine bodyPost_ret (v := .tuple #[.agg #[.int .i64 (2), .int .i64 (c - 16), .int .i64 (0), .int .i64 1], .bool true]) (by simp [results, Tryd.results127, go_sem, z4, hsz]) rfl ⟨rfl, ?_⟩
        repeat (with_reducible first | exact HC.out.1 | refine Chg.alloc ?_ _ | refine Chg.setCell ?_ (.inr (by first | exact Nat.le_refl _ | (simp; done) | (simp; omega))) _)
      · have HN2 := Lib.hid (show ∀ k, k < 2 → ¬ ((spanL[k]?.getD (0, 0, 0)).1 ≤ c ∧ c ≤ (spanL[k]?.getD (0, 0, 0)).2.1) from fun k hk => by
          rcases Nat.lt_or_ge k 1 with h | h
          · exact HN.out k h
          · obtain rfl : k = 1 := by omega
            exact hin)
        by_cases h1 : 16 ≤ c
        · have t1 : decide (16 ≤ c) = true := decide_eq_true h1
          have t2 : decide (c ≤ 31) = false := decide_eq_false (by omega)
          clear hin
          go_wp2_with fail
          go_roundg (8 - 2)
          case measure => omega
          case rel => exact ⟨2, rfl, by omega, by omega, by repeat (with_reducible first | exact HC.out.2 | refine Row.alloc ?_ _), by repeat (with_reducible first | exact HC.out.1 | refine Chg.alloc ?_ _), HN2.out⟩
        · have t1 : decide (16 ≤ c) = false := decide_eq_false h1
          clear hin
          go_wp2_with fail
          go_roundg (8 - 2)
          case measure => omega
          case rel => exact ⟨2, rfl, by omega, by omega, by repeat (with_reducible first | exact HC.out.2 | refine Row.alloc ?_ _), by repeat (with_reducible first | exact HC.out.1 | refine Chg.alloc ?_ _), HN2.out⟩
    · have hI := hI2
      by_cases hin : 32 ≤ c ∧ c ≤ 63
      · obtain rfl : Pr = (⟨3, c - 32, 0, 1⟩, true) := by
          rw [← HP.out]
          unfold oneP
          repeat (first | rw [if_pos (by omega)] | rw [if_neg (by omega)])
        have t1 : decide (32 ≤ c) = true := decide_eq_true hin.1
        have t2 : decide (c ≤ 63) = true := decide_eq_true hin.2
        have w1 : IntKind.i64.wrap (c - 32) = c - 32 := IntWalk.i64_in _ (by omega)
        go_wp2_with fail
        show bodyPost Tryd.prog Tryd.f127 _ _ _ _
        refine bodyPost_ret (v := .tuple #[.agg #[.int .i64 (3), .int .i64 (c - 32), .int .i64 (0), .int .i64 1], .bool true]) (by simp [results, Tryd.results127, go_sem, z4, hsz]) rfl ⟨rfl, ?_⟩
        repeat (with_reducible first | exact HC.out.1 | refine Chg.alloc ?_ _ | refine Chg.setCell ?_ (.inr (by first | exact Nat.le_refl _ | (simp; done) | (simp; omega))) _)
      · have HN2 := Lib.hid (show ∀ k, k < 3 → ¬ ((spanL[k]?.getD (0, 0, 0)).1 ≤ c ∧ c ≤ (spanL[k]?.getD (0, 0, 0)).2.1) from fun k hk => by
          rcases Nat.lt_or_ge k 2 with h | h
          · exact HN.out k h
          · obtain rfl : k = 2 := by omega
            exact hin)
        by_cases h1 : 32 ≤ c
        · have t1 : decide (32 ≤ c) = true := decide_eq_true h1
          have t2 : decide (c ≤ 63) = false := decide_eq_false (by omega)
          clear hin
          go_wp2_with fail
          go_roundg (8 - 3)
          case measure => omega
          case rel => exact ⟨3, rfl, by omega, by omega, by repeat (with_reducible first | exact HC.out.2 | refine Row.alloc ?_ _), by repeat (with_reducible first | exact HC.out.1 | refine Chg.alloc ?_ _), HN2.out⟩
        · have t1 : decide (32 ≤ c) = false := decide_eq_false h1
          clear hin
          go_wp2_with fail
          go_roundg (8 - 3)
          case measure => omega
          case rel => exact ⟨3, rfl, by omega, by omega, by repeat (with_reducible first | exact HC.out.2 | refine Row.alloc ?_ _), by repeat (with_reducible first | exact HC.out.1 | refine Chg.alloc ?_ _), HN2.out⟩
    · have hI := hI3
      by_cases hin : 64 ≤ c ∧ c ≤ 95
      · obtain rfl : Pr = (⟨4, c - 64, 0, 1⟩, true) := by
          rw [← HP.out]
          unfold oneP
          repeat (first | rw [if_pos (by omega)] | rw [if_neg (by omega)])
        have t1 : decide (64 ≤ c) = true := decide_eq_true hin.1
        have t2 : decide (c ≤ 95) = true := decide_eq_true hin.2
        have w1 : IntKind.i64.wrap (c - 64) = c - 64 := IntWalk.i64_in _ (by omega)
        go_wp2_with fail
        show bodyPost Tryd.prog Tryd.f127 _ _ _ _
        refine bodyPost_ret (v := .tuple #[.agg #[.int .i64 (4), .int .i64 (c - 64), .int .i64 (0), .int .i64 1], .bool true]) (by simp [results, Tryd.results127, go_sem, z4, hsz]) rfl ⟨rfl, ?_⟩
        repeat (with_reducible first | exact HC.out.1 | refine Chg.alloc ?_ _ | refine Chg.setCell ?_ (.inr (by first | exact Nat.le_refl _ | (simp; done) | (simp; omega))) _)
      · have HN2 := Lib.hid (show ∀ k, k < 4 → ¬ ((spanL[k]?.getD (0, 0, 0)).1 ≤ c ∧ c ≤ (spanL[k]?.getD (0, 0, 0)).2.1) from fun k hk => by
          rcases Nat.lt_or_ge k 3 with h | h
          · exact HN.out k h
          · obtain rfl : k = 3 := by omega
            exact hin)
        by_cases h1 : 64 ≤ c
        · have t1 : decide (64 ≤ c) = true := decide_eq_true h1
          have t2 : decide (c ≤ 95) = false := decide_eq_false (by omega)
          clear hin
          go_wp2_with fail
          go_roundg (8 - 4)
          case measure => omega
          case rel => exact ⟨4, rfl, by omega, by omega, by repeat (with_reducible first | exact HC.out.2 | refine Row.alloc ?_ _), by repeat (with_reducible first | exact HC.out.1 | refine Chg.alloc ?_ _), HN2.out⟩
        · have t1 : decide (64 ≤ c) = false := decide_eq_false h1
          clear hin
          go_wp2_with fail
          go_roundg (8 - 4)
          case measure => omega
          case rel => exact ⟨4, rfl, by omega, by omega, by repeat (with_reducible first | exact HC.out.2 | refine Row.alloc ?_ _), by repeat (with_reducible first | exact HC.out.1 | refine Chg.alloc ?_ _), HN2.out⟩
    · have hI := hI4
      by_cases hin : 96 ≤ c ∧ c ≤ 103
      · obtain rfl : Pr = (⟨8, c - 96, 0, 1⟩, true) := by
          rw [← HP.out]
          unfold oneP
          repeat (first | rw [if_pos (by omega)] | rw [if_neg (by omega)])
        have t1 : decide (96 ≤ c) = true := decide_eq_true hin.1
        have t2 : decide (c ≤ 103) = true := decide_eq_true hin.2
        have w1 : IntKind.i64.wrap (c - 96) = c - 96 := IntWalk.i64_in _ (by omega)
        go_wp2_with fail
        show bodyPost Tryd.prog Tryd.f127 _ _ _ _
        refine bodyPost_ret (v := .tuple #[.agg #[.int .i64 (8), .int .i64 (c - 96), .int .i64 (0), .int .i64 1], .bool true]) (by simp [results, Tryd.results127, go_sem, z4, hsz]) rfl ⟨rfl, ?_⟩
        repeat (with_reducible first | exact HC.out.1 | refine Chg.alloc ?_ _ | refine Chg.setCell ?_ (.inr (by first | exact Nat.le_refl _ | (simp; done) | (simp; omega))) _)
      · have HN2 := Lib.hid (show ∀ k, k < 5 → ¬ ((spanL[k]?.getD (0, 0, 0)).1 ≤ c ∧ c ≤ (spanL[k]?.getD (0, 0, 0)).2.1) from fun k hk => by
          rcases Nat.lt_or_ge k 4 with h | h
          · exact HN.out k h
          · obtain rfl : k = 4 := by omega
            exact hin)
        by_cases h1 : 96 ≤ c
        · have t1 : decide (96 ≤ c) = true := decide_eq_true h1
          have t2 : decide (c ≤ 103) = false := decide_eq_false (by omega)
          clear hin
          go_wp2_with fail
          go_roundg (8 - 5)
          case measure => omega
          case rel => exact ⟨5, rfl, by omega, by omega, by repeat (with_reducible first | exact HC.out.2 | refine Row.alloc ?_ _), by repeat (with_reducible first | exact HC.out.1 | refine Chg.alloc ?_ _), HN2.out⟩
        · have t1 : decide (96 ≤ c) = false := decide_eq_false h1
          clear hin
          go_wp2_with fail
          go_roundg (8 - 5)
          case measure => omega
          case rel => exact ⟨5, rfl, by omega, by omega, by repeat (with_reducible first | exact HC.out.2 | refine Row.alloc ?_ _), by repeat (with_reducible first | exact HC.out.1 | refine Chg.alloc ?_ _), HN2.out⟩
    · have hI := hI5
      by_cases hin : 104 ≤ c ∧ c ≤ 111
      · obtain rfl : Pr = (⟨9, c - 104, 0, 1⟩, true) := by
          rw [← HP.out]
          unfold oneP
          repeat (first | rw [if_pos (by omega)] | rw [if_neg (by omega)])
        have t1 : decide (104 ≤ c) = true := decide_eq_true hin.1
        have t2 : decide (c ≤ 111) = true := decide_eq_true hin.2
        have w1 : IntKind.i64.wrap (c - 104) = c - 104 := IntWalk.i64_in _ (by omega)
        go_wp2_with fail
        show bodyPost Tryd.prog Tryd.f127 _ _ _ _
        refine bodyPost_ret (v := .tuple #[.agg #[.int .i64 (9), .int .i64 (c - 104), .int .i64 (0), .int .i64 1], .bool true]) (by simp [results, Tryd.results127, go_sem, z4, hsz]) rfl ⟨rfl, ?_⟩
        repeat (with_reducible first | exact HC.out.1 | refine Chg.alloc ?_ _ | refine Chg.setCell ?_ (.inr (by first | exact Nat.le_refl _ | (simp; done) | (simp; omega))) _)
      · have HN2 := Lib.hid (show ∀ k, k < 6 → ¬ ((spanL[k]?.getD (0, 0, 0)).1 ≤ c ∧ c ≤ (spanL[k]?.getD (0, 0, 0)).2.1) from fun k hk => by
          rcases Nat.lt_or_ge k 5 with h | h
          · exact HN.out k h
          · obtain rfl : k = 5 := by omega
            exact hin)
        by_cases h1 : 104 ≤ c
        · have t1 : decide (104 ≤ c) = true := decide_eq_true h1
          have t2 : decide (c ≤ 111) = false := decide_eq_false (by omega)
          clear hin
          go_wp2_with fail
          go_roundg (8 - 6)
          case measure => omega
          case rel => exact ⟨6, rfl, by omega, by omega, by repeat (with_reducible first | exact HC.out.2 | refine Row.alloc ?_ _), by repeat (with_reducible first | exact HC.out.1 | refine Chg.alloc ?_ _), HN2.out⟩
        · have t1 : decide (104 ≤ c) = false := decide_eq_false h1
          clear hin
          go_wp2_with fail
          go_roundg (8 - 6)
          case measure => omega
          case rel => exact ⟨6, rfl, by omega, by omega, by repeat (with_reducible first | exact HC.out.2 | refine Row.alloc ?_ _), by repeat (with_reducible first | exact HC.out.1 | refine Chg.alloc ?_ _), HN2.out⟩
    · have hI := hI6
      by_cases hin : 176 ≤ c ∧ c ≤ 191
      · obtain rfl : Pr = (⟨25, c - 176, 0, 1⟩, true) := by
          rw [← HP.out]
          unfold oneP
          repeat (first | rw [if_pos (by omega)] | rw [if_neg (by omega)])
        have t1 : decide (176 ≤ c) = true := decide_eq_true hin.1
        have t2 : decide (c ≤ 191) = true := decide_eq_true hin.2
        have w1 : IntKind.i64.wrap (c - 176) = c - 176 := IntWalk.i64_in _ (by omega)
        go_wp2_with fail
        show bodyPost Tryd.prog Tryd.f127 _ _ _ _
        refine bodyPost_ret (v := .tuple #[.agg #[.int .i64 (25), .int .i64 (c - 176), .int .i64 (0), .int .i64 1], .bool true]) (by simp [results, Tryd.results127, go_sem, z4, hsz]) rfl ⟨rfl, ?_⟩
        repeat (with_reducible first | exact HC.out.1 | refine Chg.alloc ?_ _ | refine Chg.setCell ?_ (.inr (by first | exact Nat.le_refl _ | (simp; done) | (simp; omega))) _)
      · have HN2 := Lib.hid (show ∀ k, k < 7 → ¬ ((spanL[k]?.getD (0, 0, 0)).1 ≤ c ∧ c ≤ (spanL[k]?.getD (0, 0, 0)).2.1) from fun k hk => by
          rcases Nat.lt_or_ge k 6 with h | h
          · exact HN.out k h
          · obtain rfl : k = 6 := by omega
            exact hin)
        by_cases h1 : 176 ≤ c
        · have t1 : decide (176 ≤ c) = true := decide_eq_true h1
          have t2 : decide (c ≤ 191) = false := decide_eq_false (by omega)
          clear hin
          go_wp2_with fail
          go_roundg (8 - 7)
          case measure => omega
          case rel => exact ⟨7, rfl, by omega, by omega, by repeat (with_reducible first | exact HC.out.2 | refine Row.alloc ?_ _), by repeat (with_reducible first | exact HC.out.1 | refine Chg.alloc ?_ _), HN2.out⟩
        · have t1 : decide (176 ≤ c) = false := decide_eq_false h1
          clear hin
          go_wp2_with fail
          go_roundg (8 - 7)
          case measure => omega
          case rel => exact ⟨7, rfl, by omega, by omega, by repeat (with_reducible first | exact HC.out.2 | refine Row.alloc ?_ _), by repeat (with_reducible first | exact HC.out.1 | refine Chg.alloc ?_ _), HN2.out⟩
    · have hI := hI7
      by_cases hin : 192 ≤ c ∧ c ≤ 207
      · obtain rfl : Pr = (⟨26, c - 192, 0, 1⟩, true) := by
          rw [← HP.out]
          unfold oneP
          repeat (first | rw [if_pos (by omega)] | rw [if_neg (by omega)])
        have t1 : decide (192 ≤ c) = true := decide_eq_true hin.1
        have t2 : decide (c ≤ 207) = true := decide_eq_true hin.2
        have w1 : IntKind.i64.wrap (c - 192) = c - 192 := IntWalk.i64_in _ (by omega)
        go_wp2_with fail
        show bodyPost Tryd.prog Tryd.f127 _ _ _ _
        refine bodyPost_ret (v := .tuple #[.agg #[.int .i64 (26), .int .i64 (c - 192), .int .i64 (0), .int .i64 1], .bool true]) (by simp [results, Tryd.results127, go_sem, z4, hsz]) rfl ⟨rfl, ?_⟩
        repeat (with_reducible first | exact HC.out.1 | refine Chg.alloc ?_ _ | refine Chg.setCell ?_ (.inr (by first | exact Nat.le_refl _ | (simp; done) | (simp; omega))) _)
      · have HN2 := Lib.hid (show ∀ k, k < 8 → ¬ ((spanL[k]?.getD (0, 0, 0)).1 ≤ c ∧ c ≤ (spanL[k]?.getD (0, 0, 0)).2.1) from fun k hk => by
          rcases Nat.lt_or_ge k 7 with h | h
          · exact HN.out k h
          · obtain rfl : k = 7 := by omega
            exact hin)
        by_cases h1 : 192 ≤ c
        · have t1 : decide (192 ≤ c) = true := decide_eq_true h1
          have t2 : decide (c ≤ 207) = false := decide_eq_false (by omega)
          clear hin
          go_wp2_with fail
          go_roundg (8 - 8)
          case measure => omega
          case rel => exact ⟨8, rfl, by omega, by omega, by repeat (with_reducible first | exact HC.out.2 | refine Row.alloc ?_ _), by repeat (with_reducible first | exact HC.out.1 | refine Chg.alloc ?_ _), HN2.out⟩
        · have t1 : decide (192 ≤ c) = false := decide_eq_false h1
          clear hin
          go_wp2_with fail
          go_roundg (8 - 8)
          case measure => omega
          case rel => exact ⟨8, rfl, by omega, by omega, by repeat (with_reducible first | exact HC.out.2 | refine Row.alloc ?_ _), by repeat (with_reducible first | exact HC.out.1 | refine Chg.alloc ?_ _), HN2.out⟩
    · have hn : ∀ k, k < 8 → ¬ ((spanL[k]?.getD (0, 0, 0)).1 ≤ c ∧ c ≤ (spanL[k]?.getD (0, 0, 0)).2.1) := HN.out
      have n0 : ¬ (0 ≤ c ∧ c ≤ 15) := hn 0 (by omega)
      have n1 : ¬ (16 ≤ c ∧ c ≤ 31) := hn 1 (by omega)
      have n2 : ¬ (32 ≤ c ∧ c ≤ 63) := hn 2 (by omega)
      have n3 : ¬ (64 ≤ c ∧ c ≤ 95) := hn 3 (by omega)
      have n4 : ¬ (96 ≤ c ∧ c ≤ 103) := hn 4 (by omega)
      have n5 : ¬ (104 ≤ c ∧ c ≤ 111) := hn 5 (by omega)
      have n6 : ¬ (176 ≤ c ∧ c ≤ 191) := hn 6 (by omega)
      have n7 : ¬ (192 ≤ c ∧ c ≤ 207) := hn 7 (by omega)
      clear hn HN
      rcases (show c = 112 ∨ (113 ≤ c ∧ c ≤ 119) ∨ c = 120 ∨ (121 ≤ c ∧ c ≤ 123) ∨ c = 124 ∨ c = 125 ∨ (126 ≤ c ∧ c ≤ 127) ∨ (128 ≤ c ∧ c ≤ 134) ∨ (135 ≤ c ∧ c ≤ 137) ∨ (138 ≤ c ∧ c ≤ 143) ∨ (144 ≤ c ∧ c ≤ 151) ∨ (152 ≤ c ∧ c ≤ 159) ∨ (160 ≤ c ∧ c ≤ 175) ∨ (208 ≤ c ∧ c ≤ 255) by omega) with hin | hin | hin | hin | hin | hin | hin | hin | hin | hin | hin | hin | hin | hin
      · clear n0 n1 n2 n3 n4 n5 n6 n7
        obtain rfl : Pr = (⟨11, 0, 0, 1⟩, true) := by
          rw [← HP.out]
          unfold oneP
          repeat (first | rw [if_pos (by omega)] | rw [if_neg (by omega)])
          try (subst hin; rfl)
        subst hin
        go_wp2_with fail
        show bodyPost Tryd.prog Tryd.f127 _ _ _ _
        refine bodyPost_ret (v := .tuple #[.agg #[.int .i64 (11), .int .i64 (0), .int .i64 (0), .int .i64 1], .bool true]) (by simp [results, Tryd.results127, go_sem, z4, hsz]) rfl ⟨rfl, ?_⟩
        repeat (with_reducible first | exact HC.out.1 | refine Chg.alloc ?_ _ | refine Chg.setCell ?_ (.inr (by first | exact Nat.le_refl _ | (simp; done) | (simp; omega))) _)
      · clear n0 n1 n2 n3 n4 n5 n6 n7
        obtain rfl : Pr = (⟨12, constV (c - 112), 0, 1⟩, true) := by
          rw [← HP.out]
          unfold oneP
          repeat (first | rw [if_pos (by omega)] | rw [if_neg (by omega)])
        have q0 : (c == 112) = false := beq_eq_false_iff_ne.2 (by omega)
        have q1 : decide (112 < c) = true := decide_eq_true (by omega)
        have q2 : decide (c < 120) = true := decide_eq_true (by omega)
        have q3 : (c == 120) = false := beq_eq_false_iff_ne.2 (by omega)
        have q4 : decide (120 < c) = false := decide_eq_false (by omega)
        have q5 : decide (c < 124) = true := decide_eq_true (by omega)
        have q6 : (c == 124) = false := beq_eq_false_iff_ne.2 (by omega)
        have q7 : (c == 125) = false := beq_eq_false_iff_ne.2 (by omega)
        have q8 : decide (135 ≤ c) = false := decide_eq_false (by omega)
        have q9 : decide (c ≤ 137) = true := decide_eq_true (by omega)
        have q10 : decide (144 ≤ c) = false := decide_eq_false (by omega)
        have q11 : decide (c < 152) = true := decide_eq_true (by omega)
        have q12 : decide (152 ≤ c) = false := decide_eq_false (by omega)
        have q13 : decide (c < 160) = true := decide_eq_true (by omega)
        have q14 : decide (208 ≤ c) = false := decide_eq_false (by omega)
        have q15 : decide (c < 128) = true := decide_eq_true (by omega)
        have q16 : decide (175 < c) = false := decide_eq_false (by omega)
        have q17 : decide (138 ≤ c) = false := decide_eq_false (by omega)
        have q18 : decide (c < 144) = true := decide_eq_true (by omega)
        have w1 : IntKind.i64.wrap (c - 112) = c - 112 := IntWalk.i64_in _ (by omega)
        go_wp2_with (go_at_call 135; refine (const_any (c - 112) (by omega) _).mono ?_; rintro e w' ⟨rfl, rfl⟩)
        show bodyPost Tryd.prog Tryd.f127 _ _ _ _
        refine bodyPost_ret (v := .tuple #[.agg #[.int .i64 (12), .int .i64 (constV (c - 112)), .int .i64 (0), .int .i64 1], .bool true]) (by simp [results, Tryd.results127, go_sem, z4, hsz]) rfl ⟨rfl, ?_⟩
        repeat (with_reducible first | exact HC.out.1 | refine Chg.alloc ?_ _ | refine Chg.setCell ?_ (.inr (by first | exact Nat.le_refl _ | (simp; done) | (simp; omega))) _)
      · clear n0 n1 n2 n3 n4 n5 n6 n7
        obtain rfl : Pr = (⟨13, 0, 0, 1⟩, true) := by
          rw [← HP.out]
          unfold oneP
          repeat (first | rw [if_pos (by omega)] | rw [if_neg (by omega)])
          try (subst hin; rfl)
        subst hin
        go_wp2_with fail
        show bodyPost Tryd.prog Tryd.f127 _ _ _ _
        refine bodyPost_ret (v := .tuple #[.agg #[.int .i64 (13), .int .i64 (0), .int .i64 (0), .int .i64 1], .bool true]) (by simp [results, Tryd.results127, go_sem, z4, hsz]) rfl ⟨rfl, ?_⟩
        repeat (with_reducible first | exact HC.out.1 | refine Chg.alloc ?_ _ | refine Chg.setCell ?_ (.inr (by first | exact Nat.le_refl _ | (simp; done) | (simp; omega))) _)
      · clear n0 n1 n2 n3 n4 n5 n6 n7
        obtain rfl : Pr = (⟨14, constV (c - 120), 0, 1⟩, true) := by
          rw [← HP.out]
          unfold oneP
          repeat (first | rw [if_pos (by omega)] | rw [if_neg (by omega)])
        have q0 : (c == 112) = false := beq_eq_false_iff_ne.2 (by omega)
        have q1 : decide (112 < c) = true := decide_eq_true (by omega)
        have q2 : decide (c < 120) = false := decide_eq_false (by omega)
        have q3 : (c == 120) = false := beq_eq_false_iff_ne.2 (by omega)
        have q4 : decide (120 < c) = true := decide_eq_true (by omega)
        have q5 : decide (c < 124) = true := decide_eq_true (by omega)
        have q6 : (c == 124) = false := beq_eq_false_iff_ne.2 (by omega)
        have q7 : (c == 125) = false := beq_eq_false_iff_ne.2 (by omega)
        have q8 : decide (135 ≤ c) = false := decide_eq_false (by omega)
        have q9 : decide (c ≤ 137) = true := decide_eq_true (by omega)
        have q10 : decide (144 ≤ c) = false := decide_eq_false (by omega)
        have q11 : decide (c < 152) = true := decide_eq_true (by omega)
        have q12 : decide (152 ≤ c) = false := decide_eq_false (by omega)
        have q13 : decide (c < 160) = true := decide_eq_true (by omega)
        have q14 : decide (208 ≤ c) = false := decide_eq_false (by omega)
        have q15 : decide (c < 128) = true := decide_eq_true (by omega)
        have q16 : decide (175 < c) = false := decide_eq_false (by omega)
        have q17 : decide (138 ≤ c) = false := decide_eq_false (by omega)
        have q18 : decide (c < 144) = true := decide_eq_true (by omega)
        have w1 : IntKind.i64.wrap (c - 120) = c - 120 := IntWalk.i64_in _ (by omega)
        go_wp2_with (go_at_call 135; refine (const_any (c - 120) (by omega) _).mono ?_; rintro e w' ⟨rfl, rfl⟩)
        show bodyPost Tryd.prog Tryd.f127 _ _ _ _
        refine bodyPost_ret (v := .tuple #[.agg #[.int .i64 (14), .int .i64 (constV (c - 120)), .int .i64 (0), .int .i64 1], .bool true]) (by simp [results, Tryd.results127, go_sem, z4, hsz]) rfl ⟨rfl, ?_⟩
        repeat (with_reducible first | exact HC.out.1 | refine Chg.alloc ?_ _ | refine Chg.setCell ?_ (.inr (by first | exact Nat.le_refl _ | (simp; done) | (simp; omega))) _)
      · clear n0 n1 n2 n3 n4 n5 n6 n7
        obtain rfl : Pr = (⟨15, 0, 0, 1⟩, true) := by
          rw [← HP.out]
          unfold oneP
          repeat (first | rw [if_pos (by omega)] | rw [if_neg (by omega)])
          try (subst hin; rfl)
        subst hin
        go_wp2_with fail
        show bodyPost Tryd.prog Tryd.f127 _ _ _ _
        refine bodyPost_ret (v := .tuple #[.agg #[.int .i64 (15), .int .i64 (0), .int .i64 (0), .int .i64 1], .bool true]) (by simp [results, Tryd.results127, go_sem, z4, hsz]) rfl ⟨rfl, ?_⟩
        repeat (with_reducible first | exact HC.out.1 | refine Chg.alloc ?_ _ | refine Chg.setCell ?_ (.inr (by first | exact Nat.le_refl _ | (simp; done) | (simp; omega))) _)
      · clear n0 n1 n2 n3 n4 n5 n6 n7
        obtain rfl : Pr = (⟨16, 0, 0, 1⟩, true) := by
          rw [← HP.out]
          unfold oneP
          repeat (first | rw [if_pos (by omega)] | rw [if_neg (by omega)])
          try (subst hin; rfl)
        subst hin
        go_wp2_with fail
        show bodyPost Tryd.prog Tryd.f127 _ _ _ _
        refine bodyPost_ret (v := .tuple #[.agg #[.int .i64 (16), .int .i64 (0), .int .i64 (0), .int .i64 1], .bool true]) (by simp [results, Tryd.results127, go_sem, z4, hsz]) rfl ⟨rfl, ?_⟩
        repeat (with_reducible first | exact HC.out.1 | refine Chg.alloc ?_ _ | refine Chg.setCell ?_ (.inr (by first | exact Nat.le_refl _ | (simp; done) | (simp; omega))) _)
      · clear n0 n1 n2 n3 n4 n5 n6 n7
        obtain rfl : Pr = (⟨0, 0, 0, 1⟩, true) := by
          rw [← HP.out]
          unfold oneP
          repeat (first | rw [if_pos (by omega)] | rw [if_neg (by omega)])
        have q0 : (c == 112) = false := beq_eq_false_iff_ne.2 (by omega)
        have q1 : decide (112 < c) = true := decide_eq_true (by omega)
        have q2 : decide (c < 120) = false := decide_eq_false (by omega)
        have q3 : (c == 120) = false := beq_eq_false_iff_ne.2 (by omega)
        have q4 : decide (120 < c) = true := decide_eq_true (by omega)
        have q5 : decide (c < 124) = false := decide_eq_false (by omega)
        have q6 : (c == 124) = false := beq_eq_false_iff_ne.2 (by omega)
        have q7 : (c == 125) = false := beq_eq_false_iff_ne.2 (by omega)
        have q8 : decide (135 ≤ c) = false := decide_eq_false (by omega)
        have q9 : decide (c ≤ 137) = true := decide_eq_true (by omega)
        have q10 : decide (144 ≤ c) = false := decide_eq_false (by omega)
        have q11 : decide (c < 152) = true := decide_eq_true (by omega)
        have q12 : decide (152 ≤ c) = false := decide_eq_false (by omega)
        have q13 : decide (c < 160) = true := decide_eq_true (by omega)
        have q14 : decide (208 ≤ c) = false := decide_eq_false (by omega)
        have q15 : decide (c < 128) = true := decide_eq_true (by omega)
        have q16 : decide (175 < c) = false := decide_eq_false (by omega)
        have q17 : decide (138 ≤ c) = false := decide_eq_false (by omega)
        have q18 : decide (c < 144) = true := decide_eq_true (by omega)
        go_wp2_with fail
        show bodyPost Tryd.prog Tryd.f127 _ _ _ _
        refine bodyPost_ret (v := .tuple #[.agg #[.int .i64 (0), .int .i64 (0), .int .i64 (0), .int .i64 1], .bool true]) (by simp [results, Tryd.results127, go_sem, z4, hsz]) rfl ⟨rfl, ?_⟩
        repeat (with_reducible first | exact HC.out.1 | refine Chg.alloc ?_ _ | refine Chg.setCell ?_ (.inr (by first | exact Nat.le_refl _ | (simp; done) | (simp; omega))) _)
      · clear n0 n1 n2 n3 n4 n5 n6 n7
        obtain rfl : Pr = (⟨0, 0, 0, 1⟩, false) := by
          rw [← HP.out]
          unfold oneP
          repeat (first | rw [if_pos (by omega)] | rw [if_neg (by omega)])
        have q0 : (c == 112) = false := beq_eq_false_iff_ne.2 (by omega)
        have q1 : decide (112 < c) = true := decide_eq_true (by omega)
        have q2 : decide (c < 120) = false := decide_eq_false (by omega)
        have q3 : (c == 120) = false := beq_eq_false_iff_ne.2 (by omega)
        have q4 : decide (120 < c) = true := decide_eq_true (by omega)
        have q5 : decide (c < 124) = false := decide_eq_false (by omega)
        have q6 : (c == 124) = false := beq_eq_false_iff_ne.2 (by omega)
        have q7 : (c == 125) = false := beq_eq_false_iff_ne.2 (by omega)
        have q8 : decide (135 ≤ c) = false := decide_eq_false (by omega)
        have q9 : decide (c ≤ 137) = true := decide_eq_true (by omega)
        have q10 : decide (144 ≤ c) = false := decide_eq_false (by omega)
        have q11 : decide (c < 152) = true := decide_eq_true (by omega)
        have q12 : decide (152 ≤ c) = false := decide_eq_false (by omega)
        have q13 : decide (c < 160) = true := decide_eq_true (by omega)
        have q14 : decide (208 ≤ c) = false := decide_eq_false (by omega)
        have q15 : decide (c < 128) = false := decide_eq_false (by omega)
        have q16 : decide (175 < c) = false := decide_eq_false (by omega)
        have q17 : decide (138 ≤ c) = false := decide_eq_false (by omega)
        have q18 : decide (c < 144) = true := decide_eq_true (by omega)
        go_wp2_with fail
        show bodyPost Tryd.prog Tryd.f127 _ _ _ _
        refine bodyPost_ret (v := .tuple #[.agg #[.int .i64 (0), .int .i64 (0), .int .i64 (0), .int .i64 1], .bool false]) (by simp [results, Tryd.results127, go_sem, z4, hsz]) rfl ⟨rfl, ?_⟩
        repeat (with_reducible first | exact HC.out.1 | refine Chg.alloc ?_ _ | refine Chg.setCell ?_ (.inr (by first | exact Nat.le_refl _ | (simp; done) | (simp; omega))) _)
      · clear n0 n1 n2 n3 n4 n5 n6 n7
        obtain rfl : Pr = (⟨c - 116, 0, 0, 1⟩, true) := by
          rw [← HP.out]
          unfold oneP
          repeat (first | rw [if_pos (by omega)] | rw [if_neg (by omega)])
        have q0 : (c == 112) = false := beq_eq_false_iff_ne.2 (by omega)
        have q1 : decide (112 < c) = true := decide_eq_true (by omega)
        have q2 : decide (c < 120) = false := decide_eq_false (by omega)
        have q3 : (c == 120) = false := beq_eq_false_iff_ne.2 (by omega)
        have q4 : decide (120 < c) = true := decide_eq_true (by omega)
        have q5 : decide (c < 124) = false := decide_eq_false (by omega)
        have q6 : (c == 124) = false := beq_eq_false_iff_ne.2 (by omega)
        have q7 : (c == 125) = false := beq_eq_false_iff_ne.2 (by omega)
        have q8 : decide (135 ≤ c) = true := decide_eq_true (by omega)
        have q9 : decide (c ≤ 137) = true := decide_eq_true (by omega)
        have q10 : decide (144 ≤ c) = false := decide_eq_false (by omega)
        have q11 : decide (c < 152) = true := decide_eq_true (by omega)
        have q12 : decide (152 ≤ c) = false := decide_eq_false (by omega)
        have q13 : decide (c < 160) = true := decide_eq_true (by omega)
        have q14 : decide (208 ≤ c) = false := decide_eq_false (by omega)
        have q15 : decide (c < 128) = false := decide_eq_false (by omega)
        have q16 : decide (175 < c) = false := decide_eq_false (by omega)
        have q17 : decide (138 ≤ c) = false := decide_eq_false (by omega)
        have q18 : decide (c < 144) = true := decide_eq_true (by omega)
        have w1 : IntKind.i64.wrap (19 + c) = 19 + c := IntWalk.i64_in _ (by omega)
        have w2 : IntKind.i64.wrap (19 + c - 135) = c - 116 := (IntWalk.i64_in _ (by omega)).trans (by omega)
        go_wp2_with fail
        show bodyPost Tryd.prog Tryd.f127 _ _ _ _
        refine bodyPost_ret (v := .tuple #[.agg #[.int .i64 (c - 116), .int .i64 (0), .int .i64 (0), .int .i64 1], .bool true]) (by simp [results, Tryd.results127, go_sem, z4, hsz]) rfl ⟨rfl, ?_⟩
        repeat (with_reducible first | exact HC.out.1 | refine Chg.alloc ?_ _ | refine Chg.setCell ?_ (.inr (by first | exact Nat.le_refl _ | (simp; done) | (simp; omega))) _)
      · clear n0 n1 n2 n3 n4 n5 n6 n7
        obtain rfl : Pr = (⟨0, 0, 0, 1⟩, true) := by
          rw [← HP.out]
          unfold oneP
          repeat (first | rw [if_pos (by omega)] | rw [if_neg (by omega)])
        have q0 : (c == 112) = false := beq_eq_false_iff_ne.2 (by omega)
        have q1 : decide (112 < c) = true := decide_eq_true (by omega)
        have q2 : decide (c < 120) = false := decide_eq_false (by omega)
        have q3 : (c == 120) = false := beq_eq_false_iff_ne.2 (by omega)
        have q4 : decide (120 < c) = true := decide_eq_true (by omega)
        have q5 : decide (c < 124) = false := decide_eq_false (by omega)
        have q6 : (c == 124) = false := beq_eq_false_iff_ne.2 (by omega)
        have q7 : (c == 125) = false := beq_eq_false_iff_ne.2 (by omega)
        have q8 : decide (135 ≤ c) = true := decide_eq_true (by omega)
        have q9 : decide (c ≤ 137) = false := decide_eq_false (by omega)
        have q10 : decide (144 ≤ c) = false := decide_eq_false (by omega)
        have q11 : decide (c < 152) = true := decide_eq_true (by omega)
        have q12 : decide (152 ≤ c) = false := decide_eq_false (by omega)
        have q13 : decide (c < 160) = true := decide_eq_true (by omega)
        have q14 : decide (208 ≤ c) = false := decide_eq_false (by omega)
        have q15 : decide (c < 128) = false := decide_eq_false (by omega)
        have q16 : decide (175 < c) = false := decide_eq_false (by omega)
        have q17 : decide (138 ≤ c) = true := decide_eq_true (by omega)
        have q18 : decide (c < 144) = true := decide_eq_true (by omega)
        go_wp2_with fail
        show bodyPost Tryd.prog Tryd.f127 _ _ _ _
        refine bodyPost_ret (v := .tuple #[.agg #[.int .i64 (0), .int .i64 (0), .int .i64 (0), .int .i64 1], .bool true]) (by simp [results, Tryd.results127, go_sem, z4, hsz]) rfl ⟨rfl, ?_⟩
        repeat (with_reducible first | exact HC.out.1 | refine Chg.alloc ?_ _ | refine Chg.setCell ?_ (.inr (by first | exact Nat.le_refl _ | (simp; done) | (simp; omega))) _)
      · clear n0 n1 n2 n3 n4 n5 n6 n7
        obtain rfl : Pr = (⟨22, c - 143, 0, 1⟩, true) := by
          rw [← HP.out]
          unfold oneP
          repeat (first | rw [if_pos (by omega)] | rw [if_neg (by omega)])
        have q0 : (c == 112) = false := beq_eq_false_iff_ne.2 (by omega)
        have q1 : decide (112 < c) = true := decide_eq_true (by omega)
        have q2 : decide (c < 120) = false := decide_eq_false (by omega)
        have q3 : (c == 120) = false := beq_eq_false_iff_ne.2 (by omega)
        have q4 : decide (120 < c) = true := decide_eq_true (by omega)
        have q5 : decide (c < 124) = false := decide_eq_false (by omega)
        have q6 : (c == 124) = false := beq_eq_false_iff_ne.2 (by omega)
        have q7 : (c == 125) = false := beq_eq_false_iff_ne.2 (by omega)
        have q8 : decide (135 ≤ c) = true := decide_eq_true (by omega)
        have q9 : decide (c ≤ 137) = false := decide_eq_false (by omega)
        have q10 : decide (144 ≤ c) = true := decide_eq_true (by omega)
        have q11 : decide (c < 152) = true := decide_eq_true (by omega)
        have q12 : decide (152 ≤ c) = false := decide_eq_false (by omega)
        have q13 : decide (c < 160) = true := decide_eq_true (by omega)
        have q14 : decide (208 ≤ c) = false := decide_eq_false (by omega)
        have q15 : decide (c < 128) = false := decide_eq_false (by omega)
        have q16 : decide (175 < c) = false := decide_eq_false (by omega)
        have q17 : decide (138 ≤ c) = true := decide_eq_true (by omega)
        have q18 : decide (c < 144) = false := decide_eq_false (by omega)
        have w1 : IntKind.i64.wrap (c - 143) = c - 143 := IntWalk.i64_in _ (by omega)
        go_wp2_with fail
        show bodyPost Tryd.prog Tryd.f127 _ _ _ _
        refine bodyPost_ret (v := .tuple #[.agg #[.int .i64 (22), .int .i64 (c - 143), .int .i64 (0), .int .i64 1], .bool true]) (by simp [results, Tryd.results127, go_sem, z4, hsz]) rfl ⟨rfl, ?_⟩
        repeat (with_reducible first | exact HC.out.1 | refine Chg.alloc ?_ _ | refine Chg.setCell ?_ (.inr (by first | exact Nat.le_refl _ | (simp; done) | (simp; omega))) _)
      · clear n0 n1 n2 n3 n4 n5 n6 n7
        obtain rfl : Pr = (⟨24, c - 151, 0, 1⟩, true) := by
          rw [← HP.out]
          unfold oneP
          repeat (first | rw [if_pos (by omega)] | rw [if_neg (by omega)])
        have q0 : (c == 112) = false := beq_eq_false_iff_ne.2 (by omega)
        have q1 : decide (112 < c) = true := decide_eq_true (by omega)
        have q2 : decide (c < 120) = false := decide_eq_false (by omega)
        have q3 : (c == 120) = false := beq_eq_false_iff_ne.2 (by omega)
        have q4 : decide (120 < c) = true := decide_eq_true (by omega)
        have q5 : decide (c < 124) = false := decide_eq_false (by omega)
        have q6 : (c == 124) = false := beq_eq_false_iff_ne.2 (by omega)
        have q7 : (c == 125) = false := beq_eq_false_iff_ne.2 (by omega)
        have q8 : decide (135 ≤ c) = true := decide_eq_true (by omega)
        have q9 : decide (c ≤ 137) = false := decide_eq_false (by omega)
        have q10 : decide (144 ≤ c) = true := decide_eq_true (by omega)
        have q11 : decide (c < 152) = false := decide_eq_false (by omega)
        have q12 : decide (152 ≤ c) = true := decide_eq_true (by omega)
        have q13 : decide (c < 160) = true := decide_eq_true (by omega)
        have q14 : decide (208 ≤ c) = false := decide_eq_false (by omega)
        have q15 : decide (c < 128) = false := decide_eq_false (by omega)
        have q16 : decide (175 < c) = false := decide_eq_false (by omega)
        have q17 : decide (138 ≤ c) = true := decide_eq_true (by omega)
        have q18 : decide (c < 144) = false := decide_eq_false (by omega)
        have w1 : IntKind.i64.wrap (c - 151) = c - 151 := IntWalk.i64_in _ (by omega)
        go_wp2_with fail
        show bodyPost Tryd.prog Tryd.f127 _ _ _ _
        refine bodyPost_ret (v := .tuple #[.agg #[.int .i64 (24), .int .i64 (c - 151), .int .i64 (0), .int .i64 1], .bool true]) (by simp [results, Tryd.results127, go_sem, z4, hsz]) rfl ⟨rfl, ?_⟩
        repeat (with_reducible first | exact HC.out.1 | refine Chg.alloc ?_ _ | refine Chg.setCell ?_ (.inr (by first | exact Nat.le_refl _ | (simp; done) | (simp; omega))) _)
      · clear n0 n1 n2 n3 n4 n5 n6 n7
        obtain rfl : Pr = (⟨0, 0, 0, 1⟩, false) := by
          rw [← HP.out]
          unfold oneP
          repeat (first | rw [if_pos (by omega)] | rw [if_neg (by omega)])
        have q0 : (c == 112) = false := beq_eq_false_iff_ne.2 (by omega)
        have q1 : decide (112 < c) = true := decide_eq_true (by omega)
        have q2 : decide (c < 120) = false := decide_eq_false (by omega)
        have q3 : (c == 120) = false := beq_eq_false_iff_ne.2 (by omega)
        have q4 : decide (120 < c) = true := decide_eq_true (by omega)
        have q5 : decide (c < 124) = false := decide_eq_false (by omega)
        have q6 : (c == 124) = false := beq_eq_false_iff_ne.2 (by omega)
        have q7 : (c == 125) = false := beq_eq_false_iff_ne.2 (by omega)
        have q8 : decide (135 ≤ c) = true := decide_eq_true (by omega)
        have q9 : decide (c ≤ 137) = false := decide_eq_false (by omega)
        have q10 : decide (144 ≤ c) = true := decide_eq_true (by omega)
        have q11 : decide (c < 152) = false := decide_eq_false (by omega)
        have q12 : decide (152 ≤ c) = true := decide_eq_true (by omega)
        have q13 : decide (c < 160) = false := decide_eq_false (by omega)
        have q14 : decide (208 ≤ c) = false := decide_eq_false (by omega)
        have q15 : decide (c < 128) = false := decide_eq_false (by omega)
        have q16 : decide (175 < c) = false := decide_eq_false (by omega)
        have q17 : decide (138 ≤ c) = true := decide_eq_true (by omega)
        have q18 : decide (c < 144) = false := decide_eq_false (by omega)
        go_wp2_with fail
        show bodyPost Tryd.prog Tryd.f127 _ _ _ _
        refine bodyPost_ret (v := .tuple #[.agg #[.int .i64 (0), .int .i64 (0), .int .i64 (0), .int .i64 1], .bool false]) (by simp [results, Tryd.results127, go_sem, z4, hsz]) rfl ⟨rfl, ?_⟩
        repeat (with_reducible first | exact HC.out.1 | refine Chg.alloc ?_ _ | refine Chg.setCell ?_ (.inr (by first | exact Nat.le_refl _ | (simp; done) | (simp; omega))) _)
      · clear n0 n1 n2 n3 n4 n5 n6 n7
        obtain rfl : Pr = (⟨17, c % 16, (c - 208) / 16, 1⟩, true) := by
          rw [← HP.out]
          unfold oneP
          repeat (first | rw [if_pos (by omega)] | rw [if_neg (by omega)])
        have q0 : (c == 112) = false := beq_eq_false_iff_ne.2 (by omega)
        have q1 : decide (112 < c) = true := decide_eq_true (by omega)
        have q2 : decide (c < 120) = false := decide_eq_false (by omega)
        have q3 : (c == 120) = false := beq_eq_false_iff_ne.2 (by omega)
        have q4 : decide (120 < c) = true := decide_eq_true (by omega)
        have q5 : decide (c < 124) = false := decide_eq_false (by omega)
        have q6 : (c == 124) = false := beq_eq_false_iff_ne.2 (by omega)
        have q7 : (c == 125) = false := beq_eq_false_iff_ne.2 (by omega)
        have q8 : decide (135 ≤ c) = true := decide_eq_true (by omega)
        have q9 : decide (c ≤ 137) = false := decide_eq_false (by omega)
        have q10 : decide (144 ≤ c) = true := decide_eq_true (by omega)
        have q11 : decide (c < 152) = false := decide_eq_false (by omega)
        have q12 : decide (152 ≤ c) = true := decide_eq_true (by omega)
        have q13 : decide (c < 160) = false := decide_eq_false (by omega)
        have q14 : decide (208 ≤ c) = true := decide_eq_true (by omega)
        have q15 : decide (c < 128) = false := decide_eq_false (by omega)
        have q16 : decide (175 < c) = true := decide_eq_true (by omega)
        have q17 : decide (138 ≤ c) = true := decide_eq_true (by omega)
        have q18 : decide (c < 144) = false := decide_eq_false (by omega)
        have w1 : IntKind.i64.wrap (c - 208) = c - 208 := IntWalk.i64_in _ (by omega)
        have w2 : c.tmod 16 = c % 16 := Int.tmod_eq_emod_of_nonneg (by omega)
        have w3 : (c - 208).tdiv 16 = (c - 208) / 16 := Int.tdiv_eq_ediv_of_nonneg (by omega)
        have w4 : IntKind.i64.wrap (c % 16) = c % 16 := IntWalk.i64_in _ (by omega)
        have w5 : IntKind.i64.wrap ((c - 208) / 16) = (c - 208) / 16 := IntWalk.i64_in _ (by omega)
        go_wp2_with fail
        show bodyPost Tryd.prog Tryd.f127 _ _ _ _
        refine bodyPost_ret (v := .tuple #[.agg #[.int .i64 (17), .int .i64 (c % 16), .int .i64 ((c - 208) / 16), .int .i64 1], .bool true]) (by simp [results, Tryd.results127, go_sem, z4, hsz]) rfl ⟨rfl, ?_⟩
        repeat (with_reducible first | exact HC.out.1 | refine Chg.alloc ?_ _ | refine Chg.setCell ?_ (.inr (by first | exact Nat.le_refl _ | (simp; done) | (simp; omega))) _)

end Go.Proofs.YtncoanmgifgcbaaDoor
