/- Is a number among some? slices.Index, Contains over numbers. -/
import Derived.Test.YtncoanmgifgcbaaDoorLoadA
import Derived.Test.YtncoanmgifgcbaaDoorRegion
import Derived.WalkMore
namespace Go.Proofs.YtncoanmgifgcbaaDoor
set_option linter.unusedVariables false
set_option linter.unusedSimpArgs false
open Go.RowKit

/-- a place is told, or less than 0 -/
def Idx2 (b : Bool) (w : World) (e : Ending) (w' : World) : Prop := ∃ k : Int, e = .returned (.int .i64 k) ∧ decide (0 ≤ k) = b ∧ Chg No w w'

set_option maxRecDepth 100000 in
set_option maxHeartbeats 400000 in
theorem IndexI2_any (v : Value) (l : List Int) (S : Nat → Prop) (x : Int) (w : World) (h : IntS w S v l) : Calls Tryd.prog 70 #[v, .int .i64 x] w (Idx2 (decide (x ∈ l)) w) := by
  obtain ⟨A, c, rfl, -, hc, -⟩ := h.form
  have hm : l.length ≤ 9223372036854775807 := by
    obtain ⟨A', c', e, h1, h2, -⟩ := h.form
    unfold maxLen at h2; simp at h2; omega
  have HX := Lib.hid h
  clear h hc
  generalize hn : l.length = n at *
  have HN := Lib.hid hn
  clear hn
  obtain ⟨R, hR⟩ : ∃ R, R = decide (x ∈ l) := ⟨_, rfl⟩
  rw [← hR]
  have HR := Lib.hid hR
  clear hR
  go_enter Tryd.func70, Tryd.ntmps70
  go_wp2_with fail
  go_loopg [8] n (fun j v8 wr => ∃ i : Nat, v8 = .int .i64 (i : Int) ∧ i ≤ n ∧ n - i ≤ j ∧ x ∉ l.take i ∧ wr = w)
  case atStart => exact ⟨0, rfl, by omega, by omega, by simp, rfl⟩
  case round =>
    obtain ⟨i, rfl, i1, i2, hno, hwr⟩ := hrel
    have hwr' := hwr.symm
    subst hwr'
    by_cases hi : i < n
    · obtain ⟨g, off, rfl, hg, hcc, x64, -⟩ := HX.out.at (i := i) (by rw [HN.out]; exact hi)
      have hil : i < l.length := by rw [HN.out]; exact hi
      have hsn : l.take (i + 1) = l.take i ++ [l[i]?.getD 0] := by rw [List.take_succ_eq_append_getElem hil, List.getElem?_eq_getElem hil, Option.getD_some]
      have hmem : l[i]?.getD 0 ∈ l := by rw [List.getElem?_eq_getElem hil, Option.getD_some]; exact List.getElem_mem hil
      generalize l[i]?.getD 0 = y at *
      have t1 : decide ((i : Int) < (n : Int)) = true := decide_eq_true (by omega)
      by_cases e : x = y
      · subst e
        have t2 : (x == x) = true := beq_self_eq_true x
        obtain rfl : R = true := by rw [HR.out]; exact decide_eq_true hmem
        clear hmem hsn hno
        go_wp2_with fail
        go_ret
        exact ⟨_, rfl, decide_eq_true (by omega), Chg.refl _ _⟩
      · have t2 : (x == y) = false := beq_eq_false_iff_ne.2 e
        have HS := Lib.hid (And.intro hsn hno)
        clear hmem hsn hno
        go_wp2_with fail
        go_roundg (n - (i + 1))
        case measure => omega
        case rel =>
          refine ⟨i + 1, by go_num, by omega, by omega, ?_, rfl⟩
          rw [HS.out.1, List.mem_append, List.mem_singleton]
          rintro (h | h)
          · exact HS.out.2 h
          · exact e h
    · obtain rfl : i = n := by omega
      have t1 : decide ((i : Int) < (i : Int)) = false := decide_eq_false (by omega)
      rw [List.take_of_length_le (by rw [HN.out]; omega)] at hno
      obtain rfl : R = false := by rw [HR.out]; exact decide_eq_false hno
      clear hno
      go_wp2_with fail
      go_ret
      exact ⟨_, rfl, by decide, Chg.refl _ _⟩

set_option maxRecDepth 100000 in
set_option maxHeartbeats 400000 in
theorem ContainsI2_any (v : Value) (l : List Int) (S : Nat → Prop) (x : Int) (w : World) (h : IntS w S v l) : Calls Tryd.prog 45 #[v, .int .i64 x] w fun e w' => e = .returned (.bool (decide (x ∈ l))) ∧ Chg No w w' := by
  have HQ := Lib.hid (IndexI2_any v l S x w h)
  obtain ⟨A, c, rfl, -⟩ := h.form
  generalize l.length = n at *
  generalize decide (x ∈ l) = R at *
  clear h
  go_enter Tryd.func45, Tryd.ntmps45
  go_wp2_with (first
    | (go_at_call 70; refine HQ.out.mono ?_; rintro e w1 ⟨k, rfl, hk, c1⟩)
    | fail)
  go_ret
  first
    | exact ⟨rfl, c1⟩
    | exact ⟨by rw [← hk]; rfl, c1⟩

end Go.Proofs.YtncoanmgifgcbaaDoor
