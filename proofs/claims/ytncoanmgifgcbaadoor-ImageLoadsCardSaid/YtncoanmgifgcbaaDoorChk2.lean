/- May an object be? The document's Check and the program's. · May an object be? The program's Check, and whether all of a row may be. -/
import Derived.Test.YtncoanmgifgcbaaDoorArgs
import Derived.Test.YtncoanmgifgcbaaDoorRegion
import Derived.Deep.LoopGhost
namespace Go.Proofs.YtncoanmgifgcbaaDoor
set_option linter.unusedVariables false
set_option linter.unusedSimpArgs false
open Go.RowKit

/-- what an object shows at once -/
def hdB (o : O) : Bool := namedOk o.cls && (o.kind == 1 || o.kind == 2) && decide (o.W.length ≤ 1000) && decide (o.B.length ≤ 1000) && !(o.kind == 1 && decide (0 < o.B.length)) && !(o.kind == 2 && decide (0 < o.W.length))
def okB (o : O) : Bool := hdB o && o.W.all refOk
def chk (o : O) : Int := if okB o = true then 0 else 2
theorem okB_iff {o : O} (hB : ∀ x ∈ o.B, 0 ≤ x ∧ x ≤ 255) : okB o = true ↔ o.ok := by
  unfold okB hdB O.ok
  simp only [Bool.and_eq_true, Bool.or_eq_true, decide_eq_true_eq, beq_iff_eq, Bool.not_eq_true', Bool.and_eq_false_iff, decide_eq_false_iff_not, beq_eq_false_iff_ne, List.all_eq_true, Nat.not_lt, Nat.le_zero, List.length_eq_zero_iff]
  constructor
  · rintro ⟨⟨⟨⟨⟨⟨h1, h2⟩, h3⟩, h4⟩, h5⟩, h6⟩, h7⟩
    refine ⟨h1, ?_, h3, h4, h7, hB⟩
    rcases h2 with h2 | h2
    · exact .inl ⟨h2, h5.resolve_left (fun h => h h2)⟩
    · exact .inr ⟨h2, h6.resolve_left (fun h => h h2)⟩
  · rintro ⟨h1, h2, h3, h4, h7, _⟩
    rcases h2 with ⟨h2, h5⟩ | ⟨h2, h5⟩
    · exact ⟨⟨⟨⟨⟨⟨h1, .inl h2⟩, h3⟩, h4⟩, .inr h5⟩, .inl (by omega)⟩, h7⟩
    · exact ⟨⟨⟨⟨⟨⟨h1, .inr h2⟩, h3⟩, h4⟩, .inl (by omega)⟩, .inr h5⟩, h7⟩

theorem chk_no {o : O} (h : ¬ (namedOk o.cls = true ∧ (o.kind = 1 ∧ o.B.length = 0 ∨ o.kind = 2 ∧ o.W.length = 0) ∧ o.W.length ≤ 1000 ∧ o.B.length ≤ 1000)) : chk o = 2 := by
  unfold chk
  rw [if_neg]
  intro hk
  refine h ?_
  unfold okB hdB at hk
  simp only [Bool.and_eq_true, Bool.or_eq_true, decide_eq_true_eq, beq_iff_eq, Bool.not_eq_true', Bool.and_eq_false_iff, decide_eq_false_iff_not, beq_eq_false_iff_ne] at hk
  obtain ⟨⟨⟨⟨⟨⟨h1, h2⟩, h3⟩, h4⟩, h5⟩, h6⟩, h7⟩ := hk
  exact ⟨h1, by omega, h3, h4⟩
theorem chk_yes {o : O} (h1 : namedOk o.cls = true) (h2 : o.kind = 1 ∧ o.B.length = 0 ∨ o.kind = 2 ∧ o.W.length = 0) (h3 : o.W.length ≤ 1000) (h4 : o.B.length ≤ 1000) : chk o = if o.W.all refOk = true then 0 else 2 := by
  have : hdB o = true := by
    unfold hdB
    simp only [Bool.and_eq_true, Bool.or_eq_true, decide_eq_true_eq, beq_iff_eq, Bool.not_eq_true', Bool.and_eq_false_iff, decide_eq_false_iff_not, beq_eq_false_iff_ne]
    exact ⟨⟨⟨⟨⟨h1, by omega⟩, h3⟩, h4⟩, by omega⟩, by omega⟩
  simp [chk, okB, this]

theorem chk_no' {o : O} {n m : Nat} (hn : o.W.length = n) (hm : o.B.length = m) (h : ¬ (namedOk o.cls = true ∧ (o.kind = 1 ∧ m = 0 ∨ o.kind = 2 ∧ n = 0) ∧ n ≤ 1000 ∧ m ≤ 1000)) : chk o = 2 := by
  subst hn hm
  exact chk_no h

theorem all_take_succ {l : List Int} {i : Nat} (hi : i < l.length) {p : Int → Bool} (h : (l.take i).all p = true) (h2 : p (l[i]?.getD 0) = true) : (l.take (i + 1)).all p = true := by
  rw [List.take_succ_eq_append_getElem hi, List.all_append, h]
  rw [List.getElem?_eq_getElem hi] at h2
  simpa using h2
theorem all_false_at {l : List Int} {i : Nat} (hi : i < l.length) {p : Int → Bool} (h2 : p (l[i]?.getD 0) = false) : l.all p = false := by
  rw [List.getElem?_eq_getElem hi] at h2
  rw [List.all_eq_false]
  exact ⟨_, List.getElem_mem hi, by simpa using h2⟩

set_option maxRecDepth 100000 in
set_option maxHeartbeats 2000000 in
theorem Check05_any (v : Value) (o : O) (S : Nat → Prop) (w : World) (h : ObjR w S v o) : Calls Tryd.prog 49 #[v] w fun e w' => e = .returned (.int .i64 (chk o)) ∧ Chg No w w' := by
  obtain ⟨wv, bv, rfl, h1, h2, c64, k64⟩ := h
  obtain ⟨A, ca, rfl, hl1, hl2, hl3, hcell⟩ := h1.form
  obtain ⟨B, cb, rfl, hb1, hb2, -⟩ := h2.form
  obtain ⟨k1, k2⟩ := k64
  have hmax : o.W.length ≤ 9223372036854775807 := by unfold maxLen at hl2; omega
  have hmax2 : o.B.length ≤ 9223372036854775807 := by unfold maxLen at hb2; omega
  have hH := Lib.hid hcell
  clear h1 h2 hl3 hl1 hl2 hb1 hb2 hcell
  simp only [cells2]
  generalize hN : o.W.length = n at *
  generalize hM : o.B.length = m at *
  generalize hR : chk o = r at *
  have HN := Lib.hid hN
  have HM := Lib.hid hM
  have HR := Lib.hid hR
  clear hN hM hR
  cases hn : namedOk o.cls
  · obtain rfl : r = 2 := HR.out.symm.trans (chk_no (by rw [hn]; rintro ⟨h, _⟩; cases h))
    go_enter Tryd.func49, Tryd.ntmps49
    go_wp2_with (go_at_call 86; refine (Named01_any o.cls c64 _).mono ?_; rintro e w' ⟨rfl, rfl⟩)
    go_ret
    exact ⟨rfl, (Chg.refl _ _).alloc _⟩
  by_cases e1 : o.kind = 1
  · have t1 : (o.kind != 1) = false := by simp [e1]
    have t2 : (o.kind == 1) = true := by simp [e1]
    have t3 : (o.kind == 2) = false := by simp [e1]
    by_cases g1 : 1000 < n
    · obtain rfl : r = 2 := HR.out.symm.trans (chk_no' HN.out HM.out (by rintro ⟨_, _, h, _⟩; omega))
      have t4 : decide (1000 < (n : Int)) = true := decide_eq_true (by omega)
      go_enter Tryd.func49, Tryd.ntmps49
      go_wp2_with (go_at_call 86; refine (Named01_any o.cls c64 _).mono ?_; rintro e w' ⟨rfl, rfl⟩)
      go_ret
      exact ⟨rfl, (Chg.refl _ _).alloc _⟩
    have t4 : decide (1000 < (n : Int)) = false := decide_eq_false (by omega)
    by_cases g2 : 1000 < m
    · obtain rfl : r = 2 := HR.out.symm.trans (chk_no' HN.out HM.out (by rintro ⟨_, _, _, h⟩; omega))
      have t5 : decide (1000 < (m : Int)) = true := decide_eq_true (by omega)
      go_enter Tryd.func49, Tryd.ntmps49
      go_wp2_with (go_at_call 86; refine (Named01_any o.cls c64 _).mono ?_; rintro e w' ⟨rfl, rfl⟩)
      go_ret
      exact ⟨rfl, (Chg.refl _ _).alloc _⟩
    have t5 : decide (1000 < (m : Int)) = false := decide_eq_false (by omega)
    by_cases g3 : 0 < m
    · obtain rfl : r = 2 := HR.out.symm.trans (chk_no' HN.out HM.out (by rintro ⟨_, h, _, _⟩; omega))
      have t6 : decide (0 < m) = true := decide_eq_true g3
      go_enter Tryd.func49, Tryd.ntmps49
      go_wp2_with (go_at_call 86; refine (Named01_any o.cls c64 _).mono ?_; rintro e w' ⟨rfl, rfl⟩)
      go_ret
      exact ⟨rfl, (Chg.refl _ _).alloc _⟩
    obtain rfl : m = 0 := by omega
    have hch := chk_yes hn (.inl ⟨e1, HM.out⟩) (by rw [HN.out]; omega) (by rw [HM.out]; omega)
    clear e1 g1 g2 g3
    have HC := Lib.hid (HR.out.symm.trans hch)
    clear hch HR
    go_enter Tryd.func49, Tryd.ntmps49
    go_wp2_with (go_at_call 86; refine (Named01_any o.cls c64 _).mono ?_; rintro e w' ⟨rfl, rfl⟩)
    go_loopg [5] n (fun j v5 wr => ∃ i : Nat, v5 = .int .i64 i ∧ i ≤ n ∧ n - i ≤ j ∧ wr = w.alloc (.cells #[.int .i64 o.cls, .int .i64 o.kind, .slice A n ca, .slice B 0 cb] 41) ∧ (o.W.take i).all refOk = true)
    case atStart => exact ⟨0, rfl, by omega, by omega, rfl, by simp⟩
    case round =>
      obtain ⟨i, rfl, i1, i2, rfl, hall⟩ := hrel
      have HA := Lib.hid hall
      clear hall
      by_cases hi : i < n
      · obtain ⟨b, off, rfl, -, hb, hc, x64⟩ := hH.out i hi
        cases hr : refOk (o.W[i]?.getD 0)
        · obtain rfl : r = 2 := HC.out.trans (by rw [all_false_at (by rw [HN.out]; exact hi) hr]; rfl)
          generalize o.W[i]?.getD 0 = x at *
          go_wp2_with (go_at_call 18; refine (Ref05_any x x64 _).mono ?_; rw [hr]; rintro e w' ⟨rfl, rfl⟩)
          go_ret
          exact ⟨rfl, (Chg.refl _ _).alloc _⟩
        · have HX := Lib.hid (all_take_succ (by rw [HN.out]; exact hi) HA.out hr)
          generalize o.W[i]?.getD 0 = x at *
          go_wp2_with (go_at_call 18; refine (Ref05_any x x64 _).mono ?_; rw [hr]; rintro e w' ⟨rfl, rfl⟩)
          go_roundg (n - (i + 1))
          case measure => omega
          case rel => exact ⟨i + 1, by go_num, by omega, by omega, rfl, HX.out⟩
      · obtain rfl : i = n := by omega
        have hfin : o.W.all refOk = true := by
          have := HA.out
          rwa [List.take_of_length_le (by have := HN.out; omega)] at this
        obtain rfl : r = 0 := HC.out.trans (by rw [if_pos hfin])
        clear hfin
        go_wp2_with fail
        go_ret
        exact ⟨rfl, (Chg.refl _ _).alloc _⟩
  by_cases e2 : o.kind = 2
  · have t1 : (o.kind != 2) = false := by simp [e2]
    have t0 : (o.kind != 1) = true := by simp [e2]
    have t2 : (o.kind == 1) = false := by simp [e2]
    have t3 : (o.kind == 2) = true := by simp [e2]
    by_cases g1 : 1000 < n
    · obtain rfl : r = 2 := HR.out.symm.trans (chk_no' HN.out HM.out (by rintro ⟨_, _, h, _⟩; omega))
      have t4 : decide (1000 < (n : Int)) = true := decide_eq_true (by omega)
      go_enter Tryd.func49, Tryd.ntmps49
      go_wp2_with (go_at_call 86; refine (Named01_any o.cls c64 _).mono ?_; rintro e w' ⟨rfl, rfl⟩)
      go_ret
      exact ⟨rfl, (Chg.refl _ _).alloc _⟩
    have t4 : decide (1000 < (n : Int)) = false := decide_eq_false (by omega)
    by_cases g2 : 1000 < m
    · obtain rfl : r = 2 := HR.out.symm.trans (chk_no' HN.out HM.out (by rintro ⟨_, _, _, h⟩; omega))
      have t5 : decide (1000 < (m : Int)) = true := decide_eq_true (by omega)
      go_enter Tryd.func49, Tryd.ntmps49
      go_wp2_with (go_at_call 86; refine (Named01_any o.cls c64 _).mono ?_; rintro e w' ⟨rfl, rfl⟩)
      go_ret
      exact ⟨rfl, (Chg.refl _ _).alloc _⟩
    have t5 : decide (1000 < (m : Int)) = false := decide_eq_false (by omega)
    by_cases g3 : 0 < n
    · obtain rfl : r = 2 := HR.out.symm.trans (chk_no' HN.out HM.out (by rintro ⟨_, h, _, _⟩; omega))
      have t6 : decide (0 < n) = true := decide_eq_true g3
      go_enter Tryd.func49, Tryd.ntmps49
      go_wp2_with (go_at_call 86; refine (Named01_any o.cls c64 _).mono ?_; rintro e w' ⟨rfl, rfl⟩)
      go_ret
      exact ⟨rfl, (Chg.refl _ _).alloc _⟩
    obtain rfl : n = 0 := by omega
    have hch := chk_yes hn (.inr ⟨e2, HN.out⟩) (by rw [HN.out]; omega) (by rw [HM.out]; omega)
    clear e1 e2 g1 g2 g3
    have HC := Lib.hid (HR.out.symm.trans hch)
    clear hch HR
    go_enter Tryd.func49, Tryd.ntmps49
    go_wp2_with (go_at_call 86; refine (Named01_any o.cls c64 _).mono ?_; rintro e w' ⟨rfl, rfl⟩)
    go_loopg [5] 0 (fun j v5 wr => ∃ i : Nat, v5 = .int .i64 i ∧ i ≤ 0 ∧ 0 - i ≤ j ∧ wr = w.alloc (.cells #[.int .i64 o.cls, .int .i64 o.kind, .slice A 0 ca, .slice B m cb] 41) ∧ (o.W.take i).all refOk = true)
    case atStart => exact ⟨0, rfl, by omega, by omega, rfl, by simp⟩
    case round =>
      obtain ⟨i, rfl, i1, i2, rfl, hall⟩ := hrel
      have HA := Lib.hid hall
      clear hall
      obtain rfl : i = 0 := by omega
      have hfin : o.W.all refOk = true := by
        have := HA.out
        rwa [List.take_of_length_le (by have := HN.out; omega)] at this
      obtain rfl : r = 0 := HC.out.trans (by rw [if_pos hfin])
      clear hfin
      go_wp2_with fail
      go_ret
      exact ⟨rfl, (Chg.refl _ _).alloc _⟩
  · obtain rfl : r = 2 := HR.out.symm.trans (chk_no' HN.out HM.out (by rintro ⟨_, h, _, _⟩; omega))
    have t1 : (o.kind != 2) = true := by simp [e2]
    have t0 : (o.kind != 1) = true := by simp [e1]
    clear e1 e2
    go_enter Tryd.func49, Tryd.ntmps49
    go_wp2_with (go_at_call 86; refine (Named01_any o.cls c64 _).mono ?_; rintro e w' ⟨rfl, rfl⟩)
    go_ret
    exact ⟨rfl, (Chg.refl _ _).alloc _⟩

set_option maxHeartbeats 400000 in
theorem wideRef_any (v : Int) (h64 : In64 v) (w : World) : Calls Tryd.prog 66 #[.int .i64 v] w fun e w' => e = .returned (.bool (refOk v)) ∧ w = w' := by
  obtain ⟨b1, b2⟩ := h64
  have key : ∀ b, refOk v = b → (numOk v = true ∧ b = true ∨ numOk v = false ∧ b = namedOk v) → Calls Tryd.prog 66 #[.int .i64 v] w fun e w' => e = .returned (.bool b) ∧ w = w' := by
    intro b _ hb
    rcases hb with ⟨h1, rfl⟩ | ⟨h1, rfl⟩
    all_goals
      go_enter Tryd.func66, Tryd.ntmps66
      go_wp2_with (first | (go_at_call 35; refine (Number_any _ (by omega) (by omega) _).mono ?_; rintro e w' ⟨rfl, rfl⟩) | (go_at_call 29; refine (Named_any _ (by omega) (by omega) _).mono ?_; rintro e w' ⟨rfl, rfl⟩))
      all_goals (go_ret; exact ⟨rfl, rfl⟩)
  cases h1 : numOk v
  · exact key _ rfl (.inr ⟨h1, by simp [refOk, h1]⟩)
  · exact key _ rfl (.inl ⟨h1, by simp [refOk, h1]⟩)
theorem noRef_any (v : Int) (h64 : In64 v) (w : World) : Calls Tryd.prog 65 #[.int .i64 v] w fun e w' => e = .returned (.bool (!refOk v)) ∧ w = w' := by
  go_enter Tryd.func65, Tryd.ntmps65
  go_wp2_with (go_at_call 66; refine (wideRef_any v h64 _).mono ?_; rintro e w' ⟨rfl, rfl⟩)
  go_ret
  exact ⟨rfl, rfl⟩

/-- the place of the first that may not be, or -1 -/
def firstBad (l : List Int) : Int := if l.all refOk = true then -1 else (l.findIdx fun x => !refOk x : Nat)
theorem firstBad_at {l : List Int} {i : Nat} (hi : i < l.length) (h : (l.take i).all refOk = true) (h2 : refOk (l[i]?.getD 0) = false) : firstBad l = i := by
  rw [firstBad, if_neg (by rw [all_false_at hi h2]; decide)]
  have : l.findIdx (fun x => !refOk x) = i := by
    rw [List.findIdx_eq hi]
    rw [List.getElem?_eq_getElem hi] at h2
    refine ⟨by simpa using h2, fun j hj => ?_⟩
    have := List.all_eq_true.1 h l[j] (by
      rw [List.mem_iff_getElem?]
      exact ⟨j, by rw [List.getElem?_take_of_lt hj, List.getElem?_eq_getElem (by omega)]⟩)
    simp [this]
  rw [this]

set_option maxRecDepth 100000 in
set_option maxHeartbeats 1000000 in
theorem IndexBad_any (v : Value) (l : List Int) (S : Nat → Prop) (w : World) (h : IntS w S v l) : Calls Tryd.prog 90 #[v, .func (.func 65) #[] #[]] w fun e w' => e = .returned (.int .i64 (firstBad l)) ∧ w = w' := by
  obtain ⟨A, ca, rfl, hl1, hl2, hl3, hcell⟩ := h.form
  have hmax : l.length ≤ 9223372036854775807 := by unfold maxLen at hl2; omega
  have hH := Lib.hid hcell
  clear h hl1 hl2 hl3 hcell
  generalize hN : l.length = n at *
  have HN := Lib.hid hN
  generalize hR : firstBad l = r at *
  have HR := Lib.hid hR
  clear hN hR
  go_enter Tryd.func90, Tryd.ntmps90
  go_wp2_with fail
  go_loopg [5, 8] n (fun j v5 v8 wr => ∃ i : Nat, v8 = .int .i64 i ∧ i ≤ n ∧ n - i ≤ j ∧ w = wr ∧ (l.take i).all refOk = true)
  case atStart => exact ⟨0, rfl, by omega, by omega, rfl, by simp⟩
  case round =>
    obtain ⟨i, rfl, i1, i2, rfl, hall⟩ := hrel
    have HA := Lib.hid hall
    clear hall
    by_cases hi : i < n
    · obtain ⟨b, off, rfl, -, hb, hc, x64⟩ := hH.out i hi
      cases hr : refOk (l[i]?.getD 0)
      · obtain rfl : r = i := HR.out.symm.trans (firstBad_at (by rw [HN.out]; exact hi) HA.out hr)
        generalize l[i]?.getD 0 = x at *
        go_wp2_with (go_at_call 65; refine (noRef_any x x64 _).mono ?_; rw [hr]; rintro e w' ⟨rfl, rfl⟩)
        go_ret
        exact ⟨rfl, rfl⟩
      · have HX := Lib.hid (all_take_succ (by rw [HN.out]; exact hi) HA.out hr)
        generalize l[i]?.getD 0 = x at *
        go_wp2_with (go_at_call 65; refine (noRef_any x x64 _).mono ?_; rw [hr]; rintro e w' ⟨rfl, rfl⟩)
        go_roundg (n - (i + 1))
        case measure => omega
        case rel => exact ⟨i + 1, by go_num, by omega, by omega, rfl, HX.out⟩
    · obtain rfl : i = n := by omega
      have hfin : l.all refOk = true := by
        have := HA.out
        rwa [List.take_of_length_le (by have := HN.out; omega)] at this
      obtain rfl : r = -1 := HR.out.symm.trans (by rw [firstBad, if_pos hfin])
      clear hfin
      go_wp2_with fail
      go_ret
      exact ⟨rfl, rfl⟩

theorem AnyBad_any (v : Value) (l : List Int) (S : Nat → Prop) (w : World) (h : IntS w S v l) : Calls Tryd.prog 56 #[v, .func (.func 65) #[] #[]] w fun e w' => e = .returned (.bool (!l.all refOk)) ∧ w = w' := by
  have hB : decide (0 ≤ firstBad l) = !l.all refOk := by
    unfold firstBad
    cases l.all refOk <;> simp
  go_enter Tryd.func56, Tryd.ntmps56
  go_wp2_with (go_at_call 90; refine (IndexBad_any v l S _ h).mono ?_; rintro e w' ⟨rfl, rfl⟩)
  go_ret
  exact ⟨rfl, rfl⟩

set_option maxRecDepth 100000 in
set_option maxHeartbeats 2000000 in
theorem Check_any (v : Value) (o : O) (S : Nat → Prop) (w : World) (h : ObjR w S v o) : Calls Tryd.prog 42 #[v] w fun e w' => e = .returned (.int .i64 (chk o)) ∧ Chg No w w' := by
  obtain ⟨wv, bv, rfl, h1, h2, c64, k64⟩ := h
  have HI := Lib.hid h1
  obtain ⟨A, ca, rfl, hl1, hl2, hl3, hcell⟩ := h1.form
  obtain ⟨B, cb, rfl, hb1, hb2, -⟩ := h2.form
  obtain ⟨k1, k2⟩ := k64
  have hmax : o.W.length ≤ 9223372036854775807 := by unfold maxLen at hl2; omega
  have hmax2 : o.B.length ≤ 9223372036854775807 := by unfold maxLen at hb2; omega
  clear h1 h2 hl3 hl1 hl2 hb1 hb2 hcell
  simp only [cells2]
  generalize hN : o.W.length = n at *
  generalize hM : o.B.length = m at *
  generalize hR : chk o = r at *
  have HN := Lib.hid hN
  have HM := Lib.hid hM
  have HR := Lib.hid hR
  clear hN hM hR
  by_cases e1 : o.kind = 1
  · have t2 : (o.kind == 1) = true := by simp [e1]
    cases hn : namedOk o.cls
    · obtain rfl : r = 2 := HR.out.symm.trans (chk_no (by rw [hn]; rintro ⟨h, _⟩; cases h))
      clear e1
      go_enter Tryd.func42, Tryd.ntmps42
      go_wp2_with (first
        | (go_at_call 29; refine (Named_any o.cls (by unfold In64 at c64; omega) (by unfold In64 at c64; omega) _).mono ?_; rintro e w' ⟨rfl, rfl⟩)
        | (go_at_call 56; refine (AnyBad_any _ o.W S _ (HI.out.keep (F := No) ((Chg.refl _ _).alloc _) (fun _ _ f => f))).mono ?_; rw [hr]; rintro e w' ⟨rfl, rfl⟩))
      go_ret
      exact ⟨rfl, (Chg.refl _ _).alloc _⟩
    by_cases g3 : m = 0
    · subst g3
      by_cases g1 : 1000 < n
      · obtain rfl : r = 2 := HR.out.symm.trans (chk_no' HN.out HM.out (by rintro ⟨_, _, h, _⟩; omega))
        have t4 : decide ((n : Int) ≤ 1000) = false := decide_eq_false (by omega)
        clear e1
        go_enter Tryd.func42, Tryd.ntmps42
        go_wp2_with (first
          | (go_at_call 29; refine (Named_any o.cls (by unfold In64 at c64; omega) (by unfold In64 at c64; omega) _).mono ?_; rintro e w' ⟨rfl, rfl⟩)
          | (go_at_call 56; refine (AnyBad_any _ o.W S _ (HI.out.keep (F := No) ((Chg.refl _ _).alloc _) (fun _ _ f => f))).mono ?_; rw [hr]; rintro e w' ⟨rfl, rfl⟩))
        go_ret
        exact ⟨rfl, (Chg.refl _ _).alloc _⟩
      have t4 : decide ((n : Int) ≤ 1000) = true := decide_eq_true (by omega)
      have hch := HR.out.symm.trans (chk_yes hn (.inl ⟨e1, HM.out⟩) (by rw [HN.out]; omega) (by rw [HM.out]; omega))
      cases hr : o.W.all refOk
      · obtain rfl : r = 2 := by rw [hch, hr]; rfl
        clear e1 hch
        go_enter Tryd.func42, Tryd.ntmps42
        go_wp2_with (first
          | (go_at_call 29; refine (Named_any o.cls (by unfold In64 at c64; omega) (by unfold In64 at c64; omega) _).mono ?_; rintro e w' ⟨rfl, rfl⟩)
          | (go_at_call 56; refine (AnyBad_any _ o.W S _ (HI.out.keep (F := No) ((Chg.refl _ _).alloc _) (fun _ _ f => f))).mono ?_; rw [hr]; rintro e w' ⟨rfl, rfl⟩))
        go_ret
        exact ⟨rfl, (Chg.refl _ _).alloc _⟩
      · obtain rfl : r = 0 := by rw [hch, if_pos hr]
        clear e1 hch
        go_enter Tryd.func42, Tryd.ntmps42
        go_wp2_with (first
          | (go_at_call 29; refine (Named_any o.cls (by unfold In64 at c64; omega) (by unfold In64 at c64; omega) _).mono ?_; rintro e w' ⟨rfl, rfl⟩)
          | (go_at_call 56; refine (AnyBad_any _ o.W S _ (HI.out.keep (F := No) ((Chg.refl _ _).alloc _) (fun _ _ f => f))).mono ?_; rw [hr]; rintro e w' ⟨rfl, rfl⟩))
        go_ret
        exact ⟨rfl, (Chg.refl _ _).alloc _⟩
    · obtain rfl : r = 2 := HR.out.symm.trans (chk_no' HN.out HM.out (by rintro ⟨_, h, _, _⟩; omega))
      have t5 : (m == 0) = false := beq_eq_false_iff_ne.2 g3
      have t6 : ((m : Int) == 0) = false := beq_eq_false_iff_ne.2 (by omega)
      clear e1
      go_enter Tryd.func42, Tryd.ntmps42
      go_wp2_with (first
        | (go_at_call 29; refine (Named_any o.cls (by unfold In64 at c64; omega) (by unfold In64 at c64; omega) _).mono ?_; rintro e w' ⟨rfl, rfl⟩)
        | (go_at_call 56; refine (AnyBad_any _ o.W S _ (HI.out.keep (F := No) ((Chg.refl _ _).alloc _) (fun _ _ f => f))).mono ?_; rw [hr]; rintro e w' ⟨rfl, rfl⟩))
      go_ret
      exact ⟨rfl, (Chg.refl _ _).alloc _⟩
  have t1 : (o.kind == 1) = false := by simp [e1]
  by_cases e2 : o.kind = 2
  · have t3 : (o.kind == 2) = true := by simp [e2]
    cases hn : namedOk o.cls
    · obtain rfl : r = 2 := HR.out.symm.trans (chk_no (by rw [hn]; rintro ⟨h, _⟩; cases h))
      clear e1 e2
      go_enter Tryd.func42, Tryd.ntmps42
      go_wp2_with (first
        | (go_at_call 29; refine (Named_any o.cls (by unfold In64 at c64; omega) (by unfold In64 at c64; omega) _).mono ?_; rintro e w' ⟨rfl, rfl⟩)
        | (go_at_call 56; refine (AnyBad_any _ o.W S _ (HI.out.keep (F := No) ((Chg.refl _ _).alloc _) (fun _ _ f => f))).mono ?_; rw [hr]; rintro e w' ⟨rfl, rfl⟩))
      go_ret
      exact ⟨rfl, (Chg.refl _ _).alloc _⟩
    by_cases g3 : n = 0
    · subst g3
      by_cases g1 : 1000 < m
      · obtain rfl : r = 2 := HR.out.symm.trans (chk_no' HN.out HM.out (by rintro ⟨_, _, _, h⟩; omega))
        have t4 : decide ((m : Int) ≤ 1000) = false := decide_eq_false (by omega)
        clear e1 e2
        go_enter Tryd.func42, Tryd.ntmps42
        go_wp2_with (first
          | (go_at_call 29; refine (Named_any o.cls (by unfold In64 at c64; omega) (by unfold In64 at c64; omega) _).mono ?_; rintro e w' ⟨rfl, rfl⟩)
          | (go_at_call 56; refine (AnyBad_any _ o.W S _ (HI.out.keep (F := No) ((Chg.refl _ _).alloc _) (fun _ _ f => f))).mono ?_; rw [hr]; rintro e w' ⟨rfl, rfl⟩))
        go_ret
        exact ⟨rfl, (Chg.refl _ _).alloc _⟩
      have t4 : decide ((m : Int) ≤ 1000) = true := decide_eq_true (by omega)
      have hch := HR.out.symm.trans (chk_yes hn (.inr ⟨e2, HN.out⟩) (by rw [HN.out]; omega) (by rw [HM.out]; omega))
      obtain rfl : r = 0 := by rw [hch, show o.W = [] from List.eq_nil_of_length_eq_zero HN.out]; rfl
      clear e1 e2 hch
      go_enter Tryd.func42, Tryd.ntmps42
      go_wp2_with (first
        | (go_at_call 29; refine (Named_any o.cls (by unfold In64 at c64; omega) (by unfold In64 at c64; omega) _).mono ?_; rintro e w' ⟨rfl, rfl⟩)
        | (go_at_call 56; refine (AnyBad_any _ o.W S _ (HI.out.keep (F := No) ((Chg.refl _ _).alloc _) (fun _ _ f => f))).mono ?_; rw [hr]; rintro e w' ⟨rfl, rfl⟩))
      go_ret
      exact ⟨rfl, (Chg.refl _ _).alloc _⟩
    · obtain rfl : r = 2 := HR.out.symm.trans (chk_no' HN.out HM.out (by rintro ⟨_, h, _, _⟩; omega))
      have t5 : (n == 0) = false := beq_eq_false_iff_ne.2 g3
      have t6 : ((n : Int) == 0) = false := beq_eq_false_iff_ne.2 (by omega)
      clear e1 e2
      go_enter Tryd.func42, Tryd.ntmps42
      go_wp2_with (first
        | (go_at_call 29; refine (Named_any o.cls (by unfold In64 at c64; omega) (by unfold In64 at c64; omega) _).mono ?_; rintro e w' ⟨rfl, rfl⟩)
        | (go_at_call 56; refine (AnyBad_any _ o.W S _ (HI.out.keep (F := No) ((Chg.refl _ _).alloc _) (fun _ _ f => f))).mono ?_; rw [hr]; rintro e w' ⟨rfl, rfl⟩))
      go_ret
      exact ⟨rfl, (Chg.refl _ _).alloc _⟩
  · obtain rfl : r = 2 := HR.out.symm.trans (chk_no' HN.out HM.out (by rintro ⟨_, h, _, _⟩; omega))
    have t3 : (o.kind == 2) = false := by simp [e2]
    clear e1 e2
    go_enter Tryd.func42, Tryd.ntmps42
    go_wp2_with (first
      | (go_at_call 29; refine (Named_any o.cls (by unfold In64 at c64; omega) (by unfold In64 at c64; omega) _).mono ?_; rintro e w' ⟨rfl, rfl⟩)
      | (go_at_call 56; refine (AnyBad_any _ o.W S _ (HI.out.keep (F := No) ((Chg.refl _ _).alloc _) (fun _ _ f => f))).mono ?_; rw [hr]; rintro e w' ⟨rfl, rfl⟩))
    go_ret
    exact ⟨rfl, (Chg.refl _ _).alloc _⟩

theorem noObj_any (v : Value) (o : O) (S : Nat → Prop) (w : World) (h : ObjR w S v o) : Calls Tryd.prog 41 #[v] w fun e w' => e = .returned (.bool (!okB o)) ∧ Chg No w w' := by
  have hc : (chk o != 0) = !okB o := by unfold chk; cases okB o <;> simp
  have H := Lib.hid h
  obtain ⟨A, c, B, d, rfl⟩ := h.shape
  clear h
  go_enter Tryd.func41, Tryd.ntmps41
  go_wp2_with (go_at_call 42; refine (Check_any _ o S _ (H.out.keep (F := No) ((Chg.refl _ _).alloc _) (fun _ _ f => f))).mono ?_; rintro e w' ⟨rfl, hg⟩)
  go_ret
  exact ⟨rfl, ((Chg.refl _ _).alloc _).trans hg⟩

/-- the place of the first object that may not be, or -1 -/
def firstNo (L : List O) : Int := if L.all okB = true then -1 else (L.findIdx fun x => !okB x : Nat)
theorem firstNo_at {l : List O} {i : Nat} (hi : i < l.length) (h : (l.take i).all okB = true) (h2 : okB (ob l i) = false) : firstNo l = i := by
  have h3 : okB l[i] = false := by rw [ob, List.getElem?_eq_getElem hi] at h2; exact h2
  have ha : l.all okB = false := by rw [List.all_eq_false]; exact ⟨_, List.getElem_mem hi, by simpa using h3⟩
  rw [firstNo, if_neg (by rw [ha]; decide)]
  have : l.findIdx (fun x => !okB x) = i := by
    rw [List.findIdx_eq hi]
    refine ⟨by simpa using h3, fun j hj => ?_⟩
    have := List.all_eq_true.1 h l[j] (by
      rw [List.mem_iff_getElem?]
      exact ⟨j, by rw [List.getElem?_take_of_lt hj, List.getElem?_eq_getElem (by omega)]⟩)
    simp [this]
  rw [this]
theorem take_all_succ {l : List O} {i : Nat} (hi : i < l.length) (h : (l.take i).all okB = true) (h2 : okB (ob l i) = true) : (l.take (i + 1)).all okB = true := by
  have h3 : okB l[i] = true := by rw [ob, List.getElem?_eq_getElem hi] at h2; exact h2
  rw [List.take_succ_eq_append_getElem hi, List.all_append, h]
  simpa using h3

set_option maxRecDepth 100000 in
set_option maxHeartbeats 1000000 in
theorem IndexNo_any (v : Value) (l : List O) (S : Nat → Prop) (w : World) (h : RefL w S v l) (hm : l.length ≤ maxLen) : Calls Tryd.prog 64 #[v, .func (.func 41) #[] #[]] w fun e w' => e = .returned (.int .i64 (firstNo l)) ∧ Chg No w w' := by
  have hat := fun i hi => h.at (i := i) hi
  obtain ⟨T, hT, ⟨A, ca, rfl, -⟩, -⟩ := h
  have hTL : T.length = l.length := by rw [← hT]; simp
  rw [hTL] at hat ⊢
  have hmax : l.length ≤ 9223372036854775807 := by unfold maxLen at hm; omega
  have hH := Lib.hid hat
  clear hm hat hT hTL T
  generalize hN : l.length = n at *
  have HN := Lib.hid hN
  generalize hR : firstNo l = r at *
  have HR := Lib.hid hR
  clear hN hR
  go_enter Tryd.func64, Tryd.ntmps64
  go_wp2_with fail
  go_loopg [5, 8] n (fun j v5 v8 wr => ∃ i : Nat, v8 = .int .i64 i ∧ i ≤ n ∧ n - i ≤ j ∧ Chg No w wr ∧ (l.take i).all okB = true)
  case atStart => exact ⟨0, rfl, by omega, by omega, Chg.refl _ _, by simp⟩
  case round =>
    obtain ⟨i, rfl, i1, i2, hcw, hall⟩ := hrel
    have HA := Lib.hid (And.intro hall hcw)
    clear hall
    by_cases hi : i < n
    · obtain ⟨b, off, cp, wv, bv, hA, -, hbl, hor, z0, z1, z2, z3⟩ := hH.out i hi
      obtain ⟨rfl, -, rfl⟩ := Value.slice.inj hA
      have y0 : wr.cell? ⟨b, off + i * 4, none⟩ = some (.int .i64 (ob l i).cls) := by rw [Nat.mul_comm]; exact (hcw.cell hbl (fun f => f)).trans z0
      have y1 : wr.cell? ⟨b, off + i * 4 + 1, none⟩ = some (.int .i64 (ob l i).kind) := by rw [Nat.mul_comm, Nat.add_assoc]; exact (hcw.cell hbl (fun f => f)).trans z1
      have y2 : wr.cell? ⟨b, off + i * 4 + 2, none⟩ = some wv := by rw [Nat.mul_comm, Nat.add_assoc]; exact (hcw.cell hbl (fun f => f)).trans z2
      have y3 : wr.cell? ⟨b, off + i * 4 + 3, none⟩ = some bv := by rw [Nat.mul_comm, Nat.add_assoc]; exact (hcw.cell hbl (fun f => f)).trans z3
      have HO := Lib.hid (hor.keep hcw (fun _ _ f => f))
      clear z0 z1 z2 z3 hA hcw hor
      cases hr : okB (ob l i)
      · obtain rfl : r = i := HR.out.symm.trans (firstNo_at (by rw [HN.out]; exact hi) HA.out.1 hr)
        generalize ob l i = x at *
        go_wp2_with (go_at_call 41; refine (noObj_any _ x S _ HO.out).mono ?_; rw [hr]; rintro e w' ⟨rfl, hg⟩)
        go_ret
        exact ⟨rfl, HA.out.2.trans hg⟩
      · have HX := Lib.hid (take_all_succ (by rw [HN.out]; exact hi) HA.out.1 hr)
        generalize ob l i = x at *
        go_wp2_with (go_at_call 41; refine (noObj_any _ x S _ HO.out).mono ?_; rw [hr]; rintro e w' ⟨rfl, hg⟩)
        go_roundg (n - (i + 1))
        case measure => omega
        case rel => exact ⟨i + 1, by go_num, by omega, by omega, HA.out.2.trans hg, HX.out⟩
    · obtain rfl : i = n := by omega
      have hfin : l.all okB = true := by
        have := HA.out.1
        rwa [List.take_of_length_le (by have := HN.out; omega)] at this
      obtain rfl : r = -1 := HR.out.symm.trans (by rw [firstNo, if_pos hfin])
      clear hfin hcw
      go_wp2_with fail
      go_ret
      exact ⟨rfl, HA.out.2⟩

theorem AnyNo_any (v : Value) (l : List O) (S : Nat → Prop) (w : World) (h : RefL w S v l) (hm : l.length ≤ maxLen) : Calls Tryd.prog 40 #[v, .func (.func 41) #[] #[]] w fun e w' => e = .returned (.bool (!l.all okB)) ∧ Chg No w w' := by
  have hB : decide (0 ≤ firstNo l) = !l.all okB := by
    unfold firstNo
    cases l.all okB <;> simp
  have H := Lib.hid h
  have HM := Lib.hid hm
  clear h hm
  go_enter Tryd.func40, Tryd.ntmps40
  go_wp2_with (go_at_call 64; refine (IndexNo_any v l S _ H.out HM.out).mono ?_; rintro e w' ⟨rfl, hg⟩)
  go_ret
  exact ⟨rfl, hg⟩

end Go.Proofs.YtncoanmgifgcbaaDoor
