/- The document on words' bytes: websterref01.Put, Get, All. -/
import Derived.Test.YtifcigjminbllaaGreatDoorImgB
namespace Go.Proofs.YtifcigjminbllaaGreatDoor
set_option linter.unusedVariables false
set_option linter.unusedSimpArgs false
open Go.RowKit

set_option maxRecDepth 100000 in
set_option maxHeartbeats 1000000 in
theorem Put01_any (o : Int) (o64 : In64 o) (w : World) : Calls Tryz.prog 28 #[.int .i64 o] w (Ret (Puts w o)) := by
  have e0 : o % 4294967296 / 16777216 = o / 16777216 % 256 := by omega
  have e1 : o % 4294967296 / 65536 % 256 = o / 65536 % 256 := by omega
  have e2 : o % 4294967296 / 256 % 256 = o / 256 % 256 := by omega
  have HE := Lib.hid (And.intro e0 (And.intro e1 e2))
  clear e0 e1 e2
  go_enter Tryz.func28, Tryz.ntmps28
  go_wp2_with fail
  go_ret
  rw [HE.out.1, HE.out.2.1, HE.out.2.2]
  have r := Row.new w 5 #[.int .u8 (o / 16777216 % 256), .int .u8 (o / 65536 % 256), .int .u8 (o / 256 % 256), .int .u8 (o % 256)]
  exact Ret.mk ⟨rfl, own_of_row (cs := (putB o).map (.int .u8)) r rfl (Nat.le_refl _) (by unfold maxLen; simp [putB]), (Chg.refl _ _).alloc _⟩

set_option maxRecDepth 100000 in
set_option maxHeartbeats 1000000 in
theorem Get01_any (bv : Value) (l : List Int) (S : Nat → Prop) (w : World) (h : ByteS w S bv l) (at_ : Int) (h64 : In64 at_) :
    Calls Tryz.prog 20 #[bv, .int .i64 at_] w fun e w' => e = .returned (.tuple #[.int .i64 (getV l at_), .int .i64 (getE l at_)]) ∧ w = w' := by
  obtain ⟨A, c, rfl, hlc, hcm, -⟩ := h.form
  have hmax : l.length ≤ 9223372036854775807 := by unfold maxLen at hcm; simp at hcm; omega
  have hle := h64.2
  have hge := h64.1
  have w1 : IntKind.i64.wrap ((l.length : Int) - 4) = (l.length : Int) - 4 := IntWalk.i64_in _ (by omega)
  by_cases h0 : at_ < 0
  · have t0 : decide (at_ < 0) = true := decide_eq_true h0
    have e0 : getOk l at_ = false := by unfold getOk; exact decide_eq_false (by omega)
    have ev : getV l at_ = 0 := by unfold getV; rw [e0]; rfl
    have ee : getE l at_ = 2 := by unfold getE; rw [e0]; rfl
    rw [ev, ee]
    clear h e0 ev ee h0
    go_enter Tryz.func20, Tryz.ntmps20
    go_wp2_with fail
    go_ret2
    exact ⟨rfl, rfl⟩
  · have t0 : decide (at_ < 0) = false := decide_eq_false h0
    by_cases h1 : l.length < 4
    · have t1 : decide (l.length < 4) = true := decide_eq_true h1
      have t1' : decide ((l.length : Int) < 4) = true := decide_eq_true (by omega)
      have e0 : getOk l at_ = false := by unfold getOk; exact decide_eq_false (by omega)
      have ev : getV l at_ = 0 := by unfold getV; rw [e0]; rfl
      have ee : getE l at_ = 2 := by unfold getE; rw [e0]; rfl
      rw [ev, ee]
      clear h e0 ev ee h0 h1
      go_enter Tryz.func20, Tryz.ntmps20
      go_wp2_with fail
      go_ret2
      exact ⟨rfl, rfl⟩
    · have t1 : decide (l.length < 4) = false := decide_eq_false h1
      have t1' : decide ((l.length : Int) < 4) = false := decide_eq_false (by omega)
      by_cases h2 : (l.length : Int) - 4 < at_
      · have t2 : decide ((l.length : Int) - 4 < at_) = true := decide_eq_true h2
        have e0 : getOk l at_ = false := by unfold getOk; exact decide_eq_false (by omega)
        have ev : getV l at_ = 0 := by unfold getV; rw [e0]; rfl
        have ee : getE l at_ = 2 := by unfold getE; rw [e0]; rfl
        rw [ev, ee]
        clear h e0 ev ee h0 h1 h2
        go_enter Tryz.func20, Tryz.ntmps20
        go_wp2_with fail
        go_ret2
        exact ⟨rfl, rfl⟩
      · have t2 : decide ((l.length : Int) - 4 < at_) = false := decide_eq_false h2
        obtain ⟨a, rfl⟩ : ∃ a : Nat, at_ = (a : Int) := ⟨at_.toNat, by omega⟩
        have e0 : getOk l (a : Int) = true := by unfold getOk; exact decide_eq_true (by omega)
        have ev : getV l (a : Int) = get4 (l[a]?.getD 0) (l[a + 1]?.getD 0) (l[a + 2]?.getD 0) (l[a + 3]?.getD 0) := by unfold getV; rw [if_pos e0, Int.toNat_natCast]
        have ee : getE l (a : Int) = 0 := by unfold getE; rw [e0]; rfl
        rw [ev, ee]
        obtain ⟨b, off, rfl⟩ := h.some (by omega)
        obtain ⟨y0, b0⟩ := h.lay (i := a) (by omega)
        obtain ⟨y1, b1⟩ := h.lay (i := a + 1) (by omega)
        obtain ⟨y2, b2⟩ := h.lay (i := a + 2) (by omega)
        obtain ⟨y3, b3⟩ := h.lay (i := a + 3) (by omega)
        generalize l[a]?.getD 0 = x0 at *
        generalize l[a + 1]?.getD 0 = x1 at *
        generalize l[a + 2]?.getD 0 = x2 at *
        generalize l[a + 3]?.getD 0 = x3 at *
        generalize hn : l.length = n at *
        have HN := Lib.hid hn
        clear hn ev ee e0 h
        by_cases h5 : 2147483648 ≤ 256 * (256 * (256 * x0 + x1) + x2) + x3
        · have t5 : decide (2147483648 ≤ 256 * (256 * (256 * x0 + x1) + x2) + x3) = true := decide_eq_true h5
          have eg : get4 x0 x1 x2 x3 = 256 * (256 * (256 * x0 + x1) + x2) + x3 - 4294967296 := by unfold get4; rw [IntKind.wrap_i32]; omega
          rw [eg]
          clear eg
          go_enter Tryz.func20, Tryz.ntmps20
          go_wp2_with fail
          refine wp_loop_rounds 5 ?_
          iterate 5
            rw [rounds_succ]
            go_wp2_with fail
          go_ret2
          exact ⟨rfl, rfl⟩
        · have t5 : decide (2147483648 ≤ 256 * (256 * (256 * x0 + x1) + x2) + x3) = false := decide_eq_false h5
          have eg : get4 x0 x1 x2 x3 = 256 * (256 * (256 * x0 + x1) + x2) + x3 := by unfold get4; rw [IntKind.wrap_i32]; omega
          rw [eg]
          clear eg
          go_enter Tryz.func20, Tryz.ntmps20
          go_wp2_with fail
          refine wp_loop_rounds 5 ?_
          iterate 5
            rw [rounds_succ]
            go_wp2_with fail
          go_ret2
          exact ⟨rfl, rfl⟩

set_option maxRecDepth 100000 in
set_option maxHeartbeats 1000000 in
/-- a copy of bytes -/
theorem CopyU_any (v : Value) (l : List Int) (S : Nat → Prop) (w : World) (h : ByteS w S v l) (hl : l.length ≤ 1000000000) : Calls Tryz.prog 44 #[v] w (Ret fun u w' => OwnB w' w.heap.size u l ∧ Chg No w w') := by
  obtain ⟨A, c, w', hr, ho, hc⟩ := app_bytes (OwnB.nil w w.heap.size) h (by simpa using hl) (Nat.le_refl _) 22
  have hc' : Chg No w w' := hc.mono fun k hk e => by omega
  rw [List.nil_append] at hr ho
  obtain ⟨B, n, d, rfl⟩ : ∃ B n d, v = .slice B n d := by
    obtain ⟨B, d, e, -⟩ := h.form
    exact ⟨B, _, d, e⟩
  have HR := Lib.hid hr
  have H := Lib.hid (And.intro ho hc')
  clear hr ho hc hc' h
  go_enter Tryz.func44, Tryz.ntmps44
  go_wp2_with (first
    | (at_builtin; refine wpList_append_run rfl _ _ _ rfl rfl rfl HR.out ?_)
    | fail)
  go_ret
  exact Ret.mk H.out

end Go.Proofs.YtifcigjminbllaaGreatDoor
