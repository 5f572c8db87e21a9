/- Walks: prim.Known over the table prim.counts. -/
import Derived.Test.YtncoanmgifgcbaaDoorPrimB
import Derived.LaidLaws
import Derived.Deep.LoopGhost
import Derived.WalkMore
namespace Go.Proofs.YtncoanmgifgcbaaDoor
set_option linter.unusedVariables false
set_option linter.unusedSimpArgs false
open Go.RowKit

def tabL : List (Int × Int) := [(1, 1), (2, 1), (3, 1), (4, 1), (5, 1), (6, 1), (7, 1), (8, 1), (9, 1), (10, 1), (11, 1), (12, 1), (14, 1), (15, 1), (21, 1), (22, 1), (29, 1), (60, 1), (61, 2), (62, 0), (70, 0), (71, 1), (72, 1), (73, 1), (74, 2), (75, 0), (76, 0), (110, 1), (111, 0)]
def tabCells : Array Value := #[.int .i64 1, .int .i64 1, .int .i64 2, .int .i64 1, .int .i64 3, .int .i64 1, .int .i64 4, .int .i64 1, .int .i64 5, .int .i64 1, .int .i64 6, .int .i64 1, .int .i64 7, .int .i64 1, .int .i64 8, .int .i64 1, .int .i64 9, .int .i64 1, .int .i64 10, .int .i64 1, .int .i64 11, .int .i64 1, .int .i64 12, .int .i64 1, .int .i64 14, .int .i64 1, .int .i64 15, .int .i64 1, .int .i64 21, .int .i64 1, .int .i64 22, .int .i64 1, .int .i64 29, .int .i64 1, .int .i64 60, .int .i64 1, .int .i64 61, .int .i64 2, .int .i64 62, .int .i64 0, .int .i64 70, .int .i64 0, .int .i64 71, .int .i64 1, .int .i64 72, .int .i64 1, .int .i64 73, .int .i64 1, .int .i64 74, .int .i64 2, .int .i64 75, .int .i64 0, .int .i64 76, .int .i64 0, .int .i64 110, .int .i64 1, .int .i64 111, .int .i64 0]
/-- what the document's table tells; -1: there is none -/
def kn (n : Int) : Int :=
  if 1 ≤ n ∧ n ≤ 12 ∨ n = 14 ∨ n = 15 ∨ n = 21 ∨ n = 22 ∨ n = 29 then 1 else if n = 60 ∨ n = 71 ∨ n = 72 ∨ n = 73 ∨ n = 110 then 1
  else if n = 61 ∨ n = 74 then 2 else if n = 62 ∨ n = 70 ∨ n = 75 ∨ n = 76 ∨ n = 111 then 0 else -1
def knOk (n : Int) : Bool := decide (0 ≤ kn n)
def knV (n : Int) : Int := if 0 ≤ kn n then kn n else 0
def look (n : Int) : List (Int × Int) → Int × Bool
  | [] => (0, false)
  | c :: l => if c.1 = n then (c.2, true) else look n l

theorem look_kn (n : Int) : look n tabL = (knV n, knOk n) := by
  by_cases h : 1 ≤ n ∧ n ≤ 12
  · rw [show knV n = 1 by simp [knV, kn, h], show knOk n = true by simp [knOk, kn, h]]
    have : n = 1 ∨ n = 2 ∨ n = 3 ∨ n = 4 ∨ n = 5 ∨ n = 6 ∨ n = 7 ∨ n = 8 ∨ n = 9 ∨ n = 10 ∨ n = 11 ∨ n = 12 := by omega
    rcases this with h | h | h | h | h | h | h | h | h | h | h | h <;> (subst h; rfl)
  by_cases h2 : n = 14 ∨ n = 15 ∨ n = 21 ∨ n = 22 ∨ n = 29
  · rcases h2 with h | h | h | h | h <;> (subst h; rfl)
  by_cases h3 : n = 60 ∨ n = 71 ∨ n = 72 ∨ n = 73 ∨ n = 110
  · rcases h3 with h | h | h | h | h <;> (subst h; rfl)
  by_cases h4 : n = 61 ∨ n = 74
  · rcases h4 with h | h <;> (subst h; rfl)
  by_cases h5 : n = 62 ∨ n = 70 ∨ n = 75 ∨ n = 76 ∨ n = 111
  · rcases h5 with h | h | h | h | h <;> (subst h; rfl)
  have hk : kn n = -1 := by simp [kn, *]
  rw [show knV n = 0 by simp [knV, hk], show knOk n = false by simp [knOk, hk]]
  simp only [look, tabL]
  repeat' rw [if_neg (by omega)]

theorem look_at (n : Int) (i : Nat) (hi : i < 29) : look n (tabL.drop i) = if (tabL[i]?.getD (0, 0)).1 = n then ((tabL[i]?.getD (0, 0)).2, true) else look n (tabL.drop (i + 1)) := by
  have hl : i < tabL.length := hi
  rw [List.drop_eq_getElem_cons hl, List.getElem?_eq_getElem hl]
  rfl
theorem look_hit {n : Int} {i : Nat} (hi : i < 29) (hl : Aside (look n (tabL.drop i) = look n tabL)) (h : (tabL[i]?.getD (0, 0)).1 = n) : (tabL[i]?.getD (0, 0)).2 = knV n ∧ true = knOk n := by
  have h1 := hl.out
  rw [look_at n i hi, if_pos h, look_kn] at h1
  exact ⟨congrArg Prod.fst h1, congrArg Prod.snd h1⟩
theorem look_miss {n : Int} {i : Nat} (hi : i < 29) (hl : Aside (look n (tabL.drop i) = look n tabL)) (h : ¬ (tabL[i]?.getD (0, 0)).1 = n) : look n (tabL.drop (i + 1)) = look n tabL := by
  have h1 := hl.out
  rwa [look_at n i hi, if_neg h] at h1
theorem look_end {n : Int} (hl : Aside (look n (tabL.drop 29) = look n tabL)) : 0 = knV n ∧ false = knOk n := by
  have h1 := hl.out
  rw [look_kn] at h1
  exact ⟨congrArg Prod.fst h1, congrArg Prod.snd h1⟩
theorem ret_ib {a b : Int} {x y : Bool} (h : a = b) (h' : x = y) : Ending.returned (.tuple #[.int .i64 a, .bool x]) = .returned (.tuple #[.int .i64 b, .bool y]) := by rw [h, h']

/-- THE TABLE IS IN MEMORY -/
def Tab (w : World) : Prop := ∃ t fr, w.heap[0]? = some (.cells tabCells t fr)
theorem Tab.below {w w' : World} (h : Tab w) (hb : Below w.heap.size w w') : Tab w' := by
  obtain ⟨t, fr, h⟩ := h
  refine ⟨t, fr, ?_⟩
  have hlt : 0 < w.heap.size := by
    rcases Nat.lt_or_ge 0 w.heap.size with h1 | h1
    · exact h1
    · rw [Array.getElem?_eq_none h1] at h; cases h
  rw [← h]
  exact hb.block _ hlt

theorem tabAt (w : World) : ∀ k : Nat, k < 29 → (Instr.index 91 (.agg tabCells) (.int .i64 k)).run Tryd.prog w = .ok (.agg #[.int .i64 (tabL.getD k (0, 0)).1, .int .i64 (tabL.getD k (0, 0)).2]) w
  | 0, _ => by kernel_rfl
  | 1, _ => by kernel_rfl
  | 2, _ => by kernel_rfl
  | 3, _ => by kernel_rfl
  | 4, _ => by kernel_rfl
  | 5, _ => by kernel_rfl
  | 6, _ => by kernel_rfl
  | 7, _ => by kernel_rfl
  | 8, _ => by kernel_rfl
  | 9, _ => by kernel_rfl
  | 10, _ => by kernel_rfl
  | 11, _ => by kernel_rfl
  | 12, _ => by kernel_rfl
  | 13, _ => by kernel_rfl
  | 14, _ => by kernel_rfl
  | 15, _ => by kernel_rfl
  | 16, _ => by kernel_rfl
  | 17, _ => by kernel_rfl
  | 18, _ => by kernel_rfl
  | 19, _ => by kernel_rfl
  | 20, _ => by kernel_rfl
  | 21, _ => by kernel_rfl
  | 22, _ => by kernel_rfl
  | 23, _ => by kernel_rfl
  | 24, _ => by kernel_rfl
  | 25, _ => by kernel_rfl
  | 26, _ => by kernel_rfl
  | 27, _ => by kernel_rfl
  | 28, _ => by kernel_rfl
  | k + 29, h => by omega

set_option maxHeartbeats 400000 in
theorem Known_any (n : Int) (w : World) (ht : Tab w) :
    Calls Tryd.prog 23 #[.int .i64 n] w fun e w' => e = .returned (.tuple #[.int .i64 (knV n), .bool (knOk n)]) ∧ Below w.heap.size w w' := by
  obtain ⟨t, fr, hg⟩ := ht
  go_enter Tryd.func23, Tryd.ntmps23
  go_wp2_with fail
  go_step3
  go_wp2_with fail
  go_step3
  go_wp2_with (refine wpList_load_row rfl 91 _ rfl 0 rfl _ tabCells _ _ hg Tryd.underlying91 rfl (by kernel_rfl) ?_)
  go_loopg [7] 29 (fun k v wr => ∃ i : Nat, v = .int .i64 i ∧ i + k = 29 ∧ Below w.heap.size w wr ∧ Aside (look n (tabL.drop i) = look n tabL))
  case atStart => exact ⟨0, rfl, rfl, Below.refl _ _, rfl⟩
  case round =>
    obtain ⟨i, rfl, hk, hb, hl⟩ := hrel
    by_cases hi : i < 29
    · have hat := fun w => tabAt w i hi
      by_cases hn : (tabL[i]?.getD (0, 0)).1 = n
      · have hn1 : ((tabL[i]?.getD (0, 0)).1 != n) = false := by simp [hn]
        have hh := look_hit hi hl hn
        have HH := Lib.hid hh
        clear hh hl hn
        go_wp2_with fail
        rw [Exit.noGoto_ret]
        go_ret2
        exact ⟨ret_ib HH.out.1 HH.out.2, (hb.alloc (by simp [hb.size]) _)⟩
      · have hn1 : ((tabL[i]?.getD (0, 0)).1 != n) = true := by simp [hn]
        have hh := look_miss hi hl hn
        have HH := Lib.hid hh
        clear hh hl hn
        go_wp2_with fail
        go_roundg (gk - 1)
        case measure => omega
        case rel => exact ⟨i + 1, by go_num, by omega, hb.alloc (by simp [hb.size]) _, HH.out⟩
    · obtain rfl : i = 29 := by omega
      have hh := look_end hl
      have HH := Lib.hid hh
      clear hh hl
      go_wp2_with fail
      rw [Exit.noGoto_ret]
      go_ret2
      exact ⟨ret_ib HH.out.1 HH.out.2, hb⟩

end Go.Proofs.YtncoanmgifgcbaaDoor
