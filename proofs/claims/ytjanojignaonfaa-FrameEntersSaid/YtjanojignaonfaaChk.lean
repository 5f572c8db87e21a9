/- May an object be? The document's Check and the program's. -/
import Derived.Test.YtjanojignaonfaaArgs
import Derived.Test.YtjanojignaonfaaRegion
import Derived.Deep.LoopGhost
namespace Go.Proofs.Ytjanojignaonfaa
set_option linter.unusedVariables false
set_option linter.unusedSimpArgs false
open Go.RowKit

/-- what an object shows at once -/
def hdB (o : O) : Bool := namedOk o.cls && (o.kind == 1 || o.kind == 2) && decide (o.W.length ≤ 1000) && decide (o.B.length ≤ 1000) && !(o.kind == 1 && decide (0 < o.B.length)) && !(o.kind == 2 && decide (0 < o.W.length))
def okB (o : O) : Bool := hdB o && o.W.all refOk
def chk (o : O) : Int := if okB o = true then 0 else 2
theorem okB_iff {o : O} (hB : ∀ x ∈ o.B, 0 ≤ x ∧ x ≤ 255) : okB o = true ↔ o.ok := by
  unfold okB hdB O.ok
  simp only [Bool.and_eq_true, Bool.or_eq_true, decide_eq_true_eq, beq_iff_eq, Bool.not_eq_true', Bool.and_eq_false_iff, decide_eq_false_iff_not, beq_eq_false_iff_ne, List.all_eq_true, Nat.not_lt, Nat.le_zero, List.length_eq_zero_iff]
  constructor
  · rintro ⟨⟨⟨⟨⟨⟨h1, h2⟩, h3⟩, h4⟩, h5⟩, h6⟩, h7⟩
    refine ⟨h1, ?_, h3, h4, h7, hB⟩
    rcases h2 with h2 | h2
    · exact .inl ⟨h2, h5.resolve_left (fun h => h h2)⟩
    · exact .inr ⟨h2, h6.resolve_left (fun h => h h2)⟩
  · rintro ⟨h1, h2, h3, h4, h7, _⟩
    rcases h2 with ⟨h2, h5⟩ | ⟨h2, h5⟩
    · exact ⟨⟨⟨⟨⟨⟨h1, .inl h2⟩, h3⟩, h4⟩, .inr h5⟩, .inl (by omega)⟩, h7⟩
    · exact ⟨⟨⟨⟨⟨⟨h1, .inr h2⟩, h3⟩, h4⟩, .inl (by omega)⟩, .inr h5⟩, h7⟩

theorem chk_no {o : O} (h : ¬ (namedOk o.cls = true ∧ (o.kind = 1 ∧ o.B.length = 0 ∨ o.kind = 2 ∧ o.W.length = 0) ∧ o.W.length ≤ 1000 ∧ o.B.length ≤ 1000)) : chk o = 2 := by
  unfold chk
  rw [if_neg]
  intro hk
  refine h ?_
  unfold okB hdB at hk
  simp only [Bool.and_eq_true, Bool.or_eq_true, decide_eq_true_eq, beq_iff_eq, Bool.not_eq_true', Bool.and_eq_false_iff, decide_eq_false_iff_not, beq_eq_false_iff_ne] at hk
  obtain ⟨⟨⟨⟨⟨⟨h1, h2⟩, h3⟩, h4⟩, h5⟩, h6⟩, h7⟩ := hk
  exact ⟨h1, by omega, h3, h4⟩
theorem chk_yes {o : O} (h1 : namedOk o.cls = true) (h2 : o.kind = 1 ∧ o.B.length = 0 ∨ o.kind = 2 ∧ o.W.length = 0) (h3 : o.W.length ≤ 1000) (h4 : o.B.length ≤ 1000) : chk o = if o.W.all refOk = true then 0 else 2 := by
  have : hdB o = true := by
    unfold hdB
    simp only [Bool.and_eq_true, Bool.or_eq_true, decide_eq_true_eq, beq_iff_eq, Bool.not_eq_true', Bool.and_eq_false_iff, decide_eq_false_iff_not, beq_eq_false_iff_ne]
    exact ⟨⟨⟨⟨⟨h1, by omega⟩, h3⟩, h4⟩, by omega⟩, by omega⟩
  simp [chk, okB, this]

theorem chk_no' {o : O} {n m : Nat} (hn : o.W.length = n) (hm : o.B.length = m) (h : ¬ (namedOk o.cls = true ∧ (o.kind = 1 ∧ m = 0 ∨ o.kind = 2 ∧ n = 0) ∧ n ≤ 1000 ∧ m ≤ 1000)) : chk o = 2 := by
  subst hn hm
  exact chk_no h

theorem all_take_succ {l : List Int} {i : Nat} (hi : i < l.length) {p : Int → Bool} (h : (l.take i).all p = true) (h2 : p (l[i]?.getD 0) = true) : (l.take (i + 1)).all p = true := by
  rw [List.take_succ_eq_append_getElem hi, List.all_append, h]
  rw [List.getElem?_eq_getElem hi] at h2
  simpa using h2
theorem all_false_at {l : List Int} {i : Nat} (hi : i < l.length) {p : Int → Bool} (h2 : p (l[i]?.getD 0) = false) : l.all p = false := by
  rw [List.getElem?_eq_getElem hi] at h2
  rw [List.all_eq_false]
  exact ⟨_, List.getElem_mem hi, by simpa using h2⟩

set_option maxRecDepth 100000 in
set_option maxHeartbeats 2000000 in
theorem Check05_any (v : Value) (o : O) (S : Nat → Prop) (w : World) (h : ObjR w S v o) : Calls Try.prog 45 #[v] w fun e w' => e = .returned (.int .i64 (chk o)) ∧ Chg No w w' := by
  obtain ⟨wv, bv, rfl, h1, h2, c64, k64⟩ := h
  obtain ⟨A, ca, rfl, hl1, hl2, hl3, hcell⟩ := h1.form
  obtain ⟨B, cb, rfl, hb1, hb2, -⟩ := h2.form
  obtain ⟨k1, k2⟩ := k64
  have hmax : o.W.length ≤ 9223372036854775807 := by unfold maxLen at hl2; omega
  have hmax2 : o.B.length ≤ 9223372036854775807 := by unfold maxLen at hb2; omega
  have hH := Lib.hid hcell
  clear h1 h2 hl3 hl1 hl2 hb1 hb2 hcell
  simp only [cells2]
  generalize hN : o.W.length = n at *
  generalize hM : o.B.length = m at *
  generalize hR : chk o = r at *
  have HN := Lib.hid hN
  have HM := Lib.hid hM
  have HR := Lib.hid hR
  clear hN hM hR
  cases hn : namedOk o.cls
  · obtain rfl : r = 2 := HR.out.symm.trans (chk_no (by rw [hn]; rintro ⟨h, _⟩; cases h))
    go_enter Try.func45, Try.ntmps45
    go_wp2_with (go_at_call 75; refine (Named01_any o.cls c64 _).mono ?_; rintro e w' ⟨rfl, rfl⟩)
    go_ret
    exact ⟨rfl, (Chg.refl _ _).alloc _⟩
  by_cases e1 : o.kind = 1
  · have t1 : (o.kind != 1) = false := by simp [e1]
    have t2 : (o.kind == 1) = true := by simp [e1]
    have t3 : (o.kind == 2) = false := by simp [e1]
    by_cases g1 : 1000 < n
    · obtain rfl : r = 2 := HR.out.symm.trans (chk_no' HN.out HM.out (by rintro ⟨_, _, h, _⟩; omega))
      have t4 : decide (1000 < (n : Int)) = true := decide_eq_true (by omega)
      go_enter Try.func45, Try.ntmps45
      go_wp2_with (go_at_call 75; refine (Named01_any o.cls c64 _).mono ?_; rintro e w' ⟨rfl, rfl⟩)
      go_ret
      exact ⟨rfl, (Chg.refl _ _).alloc _⟩
    have t4 : decide (1000 < (n : Int)) = false := decide_eq_false (by omega)
    by_cases g2 : 1000 < m
    · obtain rfl : r = 2 := HR.out.symm.trans (chk_no' HN.out HM.out (by rintro ⟨_, _, _, h⟩; omega))
      have t5 : decide (1000 < (m : Int)) = true := decide_eq_true (by omega)
      go_enter Try.func45, Try.ntmps45
      go_wp2_with (go_at_call 75; refine (Named01_any o.cls c64 _).mono ?_; rintro e w' ⟨rfl, rfl⟩)
      go_ret
      exact ⟨rfl, (Chg.refl _ _).alloc _⟩
    have t5 : decide (1000 < (m : Int)) = false := decide_eq_false (by omega)
    by_cases g3 : 0 < m
    · obtain rfl : r = 2 := HR.out.symm.trans (chk_no' HN.out HM.out (by rintro ⟨_, h, _, _⟩; omega))
      have t6 : decide (0 < m) = true := decide_eq_true g3
      go_enter Try.func45, Try.ntmps45
      go_wp2_with (go_at_call 75; refine (Named01_any o.cls c64 _).mono ?_; rintro e w' ⟨rfl, rfl⟩)
      go_ret
      exact ⟨rfl, (Chg.refl _ _).alloc _⟩
    obtain rfl : m = 0 := by omega
    have hch := chk_yes hn (.inl ⟨e1, HM.out⟩) (by rw [HN.out]; omega) (by rw [HM.out]; omega)
    clear e1 g1 g2 g3
    have HC := Lib.hid (HR.out.symm.trans hch)
    clear hch HR
    go_enter Try.func45, Try.ntmps45
    go_wp2_with (go_at_call 75; refine (Named01_any o.cls c64 _).mono ?_; rintro e w' ⟨rfl, rfl⟩)
    go_loopg [5] n (fun j v5 wr => ∃ i : Nat, v5 = .int .i64 i ∧ i ≤ n ∧ n - i ≤ j ∧ wr = w.alloc (.cells #[.int .i64 o.cls, .int .i64 o.kind, .slice A n ca, .slice B 0 cb] 39) ∧ (o.W.take i).all refOk = true)
    case atStart => exact ⟨0, rfl, by omega, by omega, rfl, by simp⟩
    case round =>
      obtain ⟨i, rfl, i1, i2, rfl, hall⟩ := hrel
      have HA := Lib.hid hall
      clear hall
      by_cases hi : i < n
      · obtain ⟨b, off, rfl, -, hb, hc, x64⟩ := hH.out i hi
        cases hr : refOk (o.W[i]?.getD 0)
        · obtain rfl : r = 2 := HC.out.trans (by rw [all_false_at (by rw [HN.out]; exact hi) hr]; rfl)
          generalize o.W[i]?.getD 0 = x at *
          go_wp2_with (go_at_call 39; refine (Ref05_any x x64 _).mono ?_; rw [hr]; rintro e w' ⟨rfl, rfl⟩)
          go_ret
          exact ⟨rfl, (Chg.refl _ _).alloc _⟩
        · have HX := Lib.hid (all_take_succ (by rw [HN.out]; exact hi) HA.out hr)
          generalize o.W[i]?.getD 0 = x at *
          go_wp2_with (go_at_call 39; refine (Ref05_any x x64 _).mono ?_; rw [hr]; rintro e w' ⟨rfl, rfl⟩)
          go_roundg (n - (i + 1))
          case measure => omega
          case rel => exact ⟨i + 1, by go_num, by omega, by omega, rfl, HX.out⟩
      · obtain rfl : i = n := by omega
        have hfin : o.W.all refOk = true := by
          have := HA.out
          rwa [List.take_of_length_le (by have := HN.out; omega)] at this
        obtain rfl : r = 0 := HC.out.trans (by rw [if_pos hfin])
        clear hfin
        go_wp2_with fail
        go_ret
        exact ⟨rfl, (Chg.refl _ _).alloc _⟩
  by_cases e2 : o.kind = 2
  · have t1 : (o.kind != 2) = false := by simp [e2]
    have t0 : (o.kind != 1) = true := by simp [e2]
    have t2 : (o.kind == 1) = false := by simp [e2]
    have t3 : (o.kind == 2) = true := by simp [e2]
    by_cases g1 : 1000 < n
    · obtain rfl : r = 2 := HR.out.symm.trans (chk_no' HN.out HM.out (by rintro ⟨_, _, h, _⟩; omega))
      have t4 : decide (1000 < (n : Int)) = true := decide_eq_true (by omega)
      go_enter Try.func45, Try.ntmps45
      go_wp2_with (go_at_call 75; refine (Named01_any o.cls c64 _).mono ?_; rintro e w' ⟨rfl, rfl⟩)
      go_ret
      exact ⟨rfl, (Chg.refl _ _).alloc _⟩
    have t4 : decide (1000 < (n : Int)) = false := decide_eq_false (by omega)
    by_cases g2 : 1000 < m
    · obtain rfl : r = 2 := HR.out.symm.trans (chk_no' HN.out HM.out (by rintro ⟨_, _, _, h⟩; omega))
      have t5 : decide (1000 < (m : Int)) = true := decide_eq_true (by omega)
      go_enter Try.func45, Try.ntmps45
      go_wp2_with (go_at_call 75; refine (Named01_any o.cls c64 _).mono ?_; rintro e w' ⟨rfl, rfl⟩)
      go_ret
      exact ⟨rfl, (Chg.refl _ _).alloc _⟩
    have t5 : decide (1000 < (m : Int)) = false := decide_eq_false (by omega)
    by_cases g3 : 0 < n
    · obtain rfl : r = 2 := HR.out.symm.trans (chk_no' HN.out HM.out (by rintro ⟨_, h, _, _⟩; omega))
      have t6 : decide (0 < n) = true := decide_eq_true g3
      go_enter Try.func45, Try.ntmps45
      go_wp2_with (go_at_call 75; refine (Named01_any o.cls c64 _).mono ?_; rintro e w' ⟨rfl, rfl⟩)
      go_ret
      exact ⟨rfl, (Chg.refl _ _).alloc _⟩
    obtain rfl : n = 0 := by omega
    have hch := chk_yes hn (.inr ⟨e2, HN.out⟩) (by rw [HN.out]; omega) (by rw [HM.out]; omega)
    clear e1 e2 g1 g2 g3
    have HC := Lib.hid (HR.out.symm.trans hch)
    clear hch HR
    go_enter Try.func45, Try.ntmps45
    go_wp2_with (go_at_call 75; refine (Named01_any o.cls c64 _).mono ?_; rintro e w' ⟨rfl, rfl⟩)
    go_loopg [5] 0 (fun j v5 wr => ∃ i : Nat, v5 = .int .i64 i ∧ i ≤ 0 ∧ 0 - i ≤ j ∧ wr = w.alloc (.cells #[.int .i64 o.cls, .int .i64 o.kind, .slice A 0 ca, .slice B m cb] 39) ∧ (o.W.take i).all refOk = true)
    case atStart => exact ⟨0, rfl, by omega, by omega, rfl, by simp⟩
    case round =>
      obtain ⟨i, rfl, i1, i2, rfl, hall⟩ := hrel
      have HA := Lib.hid hall
      clear hall
      obtain rfl : i = 0 := by omega
      have hfin : o.W.all refOk = true := by
        have := HA.out
        rwa [List.take_of_length_le (by have := HN.out; omega)] at this
      obtain rfl : r = 0 := HC.out.trans (by rw [if_pos hfin])
      clear hfin
      go_wp2_with fail
      go_ret
      exact ⟨rfl, (Chg.refl _ _).alloc _⟩
  · obtain rfl : r = 2 := HR.out.symm.trans (chk_no' HN.out HM.out (by rintro ⟨_, h, _, _⟩; omega))
    have t1 : (o.kind != 2) = true := by simp [e2]
    have t0 : (o.kind != 1) = true := by simp [e1]
    clear e1 e2
    go_enter Try.func45, Try.ntmps45
    go_wp2_with (go_at_call 75; refine (Named01_any o.cls c64 _).mono ?_; rintro e w' ⟨rfl, rfl⟩)
    go_ret
    exact ⟨rfl, (Chg.refl _ _).alloc _⟩

end Go.Proofs.Ytjanojignaonfaa
