/- A flat memory's new objects: Blank, New, flat.New, Made; Oop. -/
import Derived.Test.YtjanojignaonfaaFlatC
namespace Go.Proofs.Ytjanojignaonfaa
set_option linter.unusedVariables false
set_option linter.unusedSimpArgs false
open Go.RowKit

def blankOk (class_ kind size : Int) : Bool := namedOk class_ && (kind == 1 || kind == 2) && decide (0 ≤ size) && decide (size ≤ 1000)
def newO (class_ kind size : Int) : O := ⟨class_, kind, if kind = 1 then List.replicate size.toNat 2 else [], if kind = 1 then [] else List.replicate size.toNat 0⟩

/-- a new object, and a truth beside it -/
def Blanked (w : World) (o : O) (v : Value) (w' : World) : Prop :=
  ∃ wv bv, v = .tuple #[.agg (cells2 o wv bv), .bool true] ∧ Chg No w w' ∧ w'.ownsRow w.heap.size 3 1 wv o.W.length (o.W.map (.int .i64)) ∧ w'.ownsRow w.heap.size 5 1 bv o.B.length (o.B.map (.int .u8))
def NoBlank (w : World) (v : Value) (w' : World) : Prop := v = .tuple #[.agg #[.int .i64 0, .int .i64 0, .slice none 0 0, .slice none 0 0], .bool false] ∧ Chg No w w'

set_option maxRecDepth 100000 in
set_option maxHeartbeats 400000 in
theorem Blank_words (c : Int) (N : Nat) (hc : namedOk c = true) (hN : N ≤ 1000) (w : World) :
    Calls Try.prog 83 #[.int .i64 c, .int .i64 1, .int .i64 N] w (Ret (Blanked w (newO c 1 N))) := by
  have h64 := named64 hc
  have hO : newO c 1 N = ⟨c, 1, List.replicate N 2, []⟩ := by simp [newO]
  rw [hO]
  obtain ⟨b1, b2⟩ := h64
  have hN' : (N : Int) ≤ 1000 := by omega
  go_enter Try.func83, Try.ntmps83
  go_wp2_with (go_at_call 87; refine (Named_any _ (by omega) (by omega) _).mono ?_; rintro e w' ⟨rfl, rfl⟩)
  refine (Repeat_any (w.heap.size + 1 + 1) 2 N hN _ (by simp [go_sem])).mono ?_
  rintro e w1 ⟨rfl, hc1, hr1⟩
  have ha : Row w1 w.heap.size 39 #[.int .i64 0, .int .i64 0, .slice none 0 0, .slice none 0 0] := Row.keep (((Row.new w _ _).alloc _).alloc _) hc1 (fun f => f)
  have hb : Row w1 (w.heap.size + 1) 39 #[.int .i64 c, .int .i64 1, .slice none 0 0, .slice none 0 0] := Row.keep (Row.alloc (by simpa using Row.new (w.alloc _) _ _) _) hc1 (fun f => f)
  obtain ⟨a0, a1, a2, a3, af⟩ := ha.four
  obtain ⟨d0, d1, d2, d3, df⟩ := hb.four
  have hsz : w.heap.size + 3 ≤ w1.heap.size := by have := hc1.size; simpa using this
  have hd : Chg No w w1 := Chg.trans ((((Chg.refl _ _).alloc _).alloc _).alloc _) hc1
  simp only [World.size_alloc] at hr1
  have HR := Lib.hid hr1
  have HD := Lib.hid hd
  clear ha hb hc1 hd hr1
  go_wp2_with fail
  refine bodyPost_ret (v := .tuple #[.agg (cells2 ⟨c, 1, List.replicate N 2, []⟩ _ _), .bool true]) (by simp [results, Try.results83, go_sem, a0, a1, a2, a3]; rfl) rfl (Ret.mk ⟨_, _, rfl, ?_, ?_, ?_⟩)
  · repeat (with_reducible first | exact HD.out | refine Chg.drew ?_ | refine Chg.setCell ?_ (.inr (by simp)) _)
  · refine own_keep (F := fun b => b = w.heap.size ∨ b = w.heap.size + 1) (w := w1) ?_ ?_ (fun b hb => by cases hb; simp only [World.size_alloc]; omega)
    · have h := own_of_row (base := w.heap.size) (n := N) (cs := List.replicate N (Value.int .i64 2)) HR.out (by simp) (by omega) (by unfold maxLen; omega)
      simpa using h
    · repeat (with_reducible first | exact Chg.refl _ _ | refine Chg.drew ?_ | refine Chg.setCell ?_ (.inl (by simp)) _)
  · exact World.ownsRow_nil _ _ _ _

set_option maxRecDepth 100000 in
set_option maxHeartbeats 400000 in
theorem Blank_bytes (c : Int) (N : Nat) (hc : namedOk c = true) (hN : N ≤ 1000) (w : World) :
    Calls Try.prog 83 #[.int .i64 c, .int .i64 2, .int .i64 N] w (Ret (Blanked w (newO c 2 N))) := by
  have h64 := named64 hc
  have hO : newO c 2 N = ⟨c, 2, [], List.replicate N 0⟩ := by simp [newO]
  rw [hO]
  obtain ⟨b1, b2⟩ := h64
  have hN' : (N : Int) ≤ 1000 := by omega
  obtain ⟨i0, hi, hz0, hz1, hz2⟩ := info_parts info_u8
  have Hz := Lib.hid (And.intro hz0 (And.intro hz1 hz2))
  clear hz0 hz1 hz2
  go_enter Try.func83, Try.ntmps83
  go_wp2_with (first
    | (go_at_call 87; refine (Named_any _ (by omega) (by omega) _).mono ?_; rintro e w' ⟨rfl, rfl⟩)
    | (at_make
       refine wpList_make_full _ rfl _ _ _ rfl (w.heap.size + 1 + 1) 5 i0 (.int .u8 0) 1 Try.underlying37 hi Hz.out.1 Hz.out.2.1 _ _ _ _ N rfl rfl (by omega) (by omega) (by rw [Hz.out.2.2]; omega) (by unfold maxLen; omega) (by simp) ?_
       intro w1 hown hgrow
       have hc1 : Chg No _ w1 := (Chg.refl _ _).grown hgrow (by simp)
       have ha : Row w1 w.heap.size 39 #[.int .i64 0, .int .i64 0, .slice none 0 0, .slice none 0 0] := Row.keep ((Row.new w _ _).alloc _) hc1 (fun f => f)
       have hb : Row w1 (w.heap.size + 1) 39 #[.int .i64 c, .int .i64 2, .slice none 0 0, .slice none 0 0] := Row.keep (by simpa using Row.new (w.alloc _) _ _) hc1 (fun f => f)
       obtain ⟨a0, a1, a2, a3, af⟩ := ha.four
       obtain ⟨d0, d1, d2, d3, df⟩ := hb.four
       have hsz : w.heap.size + 2 ≤ w1.heap.size := by have := hc1.size; simpa using this
       have hd : Chg No w w1 := Chg.trans (((Chg.refl _ _).alloc _).alloc _) hc1
       have HR := Lib.hid hown
       have HD := Lib.hid hd
       clear ha hb hc1 hd hown hgrow))
  refine bodyPost_ret (v := .tuple #[.agg (cells2 ⟨c, 2, [], List.replicate N 0⟩ _ _), .bool true]) (by simp [results, Try.results83, go_sem, a0, a1, a2, a3]; rfl) rfl (Ret.mk ⟨_, _, rfl, ?_, ?_, ?_⟩)
  · repeat (with_reducible first | exact HD.out | refine Chg.drew ?_ | refine Chg.setCell ?_ (.inr (by simp)) _)
  · exact World.ownsRow_nil _ _ _ _
  · refine own_keep (F := fun b => b = w.heap.size ∨ b = w.heap.size + 1) (w := w1) (own_base ?_ (Nat.le_add_right _ 2)) ?_ (fun b hb => by cases hb; simp only [World.size_alloc]; omega)
    · have h := HR.out
      simpa [Value.cells, toList_madeCells_one] using h
    · repeat (with_reducible first | exact Chg.refl _ _ | refine Chg.drew ?_ | refine Chg.setCell ?_ (.inl (by simp)) _)

set_option maxRecDepth 100000 in
set_option maxHeartbeats 1000000 in
theorem Blank_bad (c k s : Int) (hc : In64 c) (hk : In64 k) (hs : In64 s) (hbad : blankOk c k s = false) (w : World) :
    Calls Try.prog 83 #[.int .i64 c, .int .i64 k, .int .i64 s] w (Ret (NoBlank w)) := by
  obtain ⟨b1, b2⟩ := hc
  obtain ⟨b3, b4⟩ := hk
  obtain ⟨b5, b6⟩ := hs
  have HN := fun w => Named_any c b1 b2 w
  cases hn : namedOk c
  · clear hbad
    simp only [hn] at HN
    go_enter Try.func83, Try.ntmps83
    go_wp2_with (go_at_call 87; refine (HN _).mono ?_; rintro e w' ⟨rfl, rfl⟩)
    refine bodyPost_ret (v := .tuple #[.agg #[.int .i64 0, .int .i64 0, .slice none 0 0, .slice none 0 0], .bool false]) (by simp [results, Try.results83, go_sem]) rfl (Ret.mk ⟨rfl, ?_⟩)
    repeat (with_reducible first | exact Chg.refl _ _ | refine Chg.drew ?_ | refine Chg.setCell ?_ (.inr (by simp)) _ | refine Chg.alloc ?_ _)
  · simp only [blankOk, hn, Bool.true_and] at hbad
    simp only [hn] at HN
    by_cases h12 : k = 1 ∨ k = 2
    · have hs' : s < 0 ∨ 1000 < s := by
        rcases h12 with rfl | rfl <;> simp at hbad <;> omega
      clear hbad
      rcases hs' with h0 | h0
      · rcases h12 with rfl | rfl
        · go_enter Try.func83, Try.ntmps83
          go_wp2_with (go_at_call 87; refine (HN _).mono ?_; rintro e w' ⟨rfl, rfl⟩)
          refine bodyPost_ret (v := .tuple #[.agg #[.int .i64 0, .int .i64 0, .slice none 0 0, .slice none 0 0], .bool false]) (by simp [results, Try.results83, go_sem]) rfl (Ret.mk ⟨rfl, ?_⟩)
          repeat (with_reducible first | exact Chg.refl _ _ | refine Chg.drew ?_ | refine Chg.setCell ?_ (.inr (by simp)) _ | refine Chg.alloc ?_ _)
        · go_enter Try.func83, Try.ntmps83
          go_wp2_with (go_at_call 87; refine (HN _).mono ?_; rintro e w' ⟨rfl, rfl⟩)
          refine bodyPost_ret (v := .tuple #[.agg #[.int .i64 0, .int .i64 0, .slice none 0 0, .slice none 0 0], .bool false]) (by simp [results, Try.results83, go_sem]) rfl (Ret.mk ⟨rfl, ?_⟩)
          repeat (with_reducible first | exact Chg.refl _ _ | refine Chg.drew ?_ | refine Chg.setCell ?_ (.inr (by simp)) _ | refine Chg.alloc ?_ _)
      · have h1 : decide (s < 0) = false := by simp; omega
        rcases h12 with rfl | rfl
        · go_enter Try.func83, Try.ntmps83
          go_wp2_with (go_at_call 87; refine (HN _).mono ?_; rintro e w' ⟨rfl, rfl⟩)
          refine bodyPost_ret (v := .tuple #[.agg #[.int .i64 0, .int .i64 0, .slice none 0 0, .slice none 0 0], .bool false]) (by simp [results, Try.results83, go_sem]) rfl (Ret.mk ⟨rfl, ?_⟩)
          repeat (with_reducible first | exact Chg.refl _ _ | refine Chg.drew ?_ | refine Chg.setCell ?_ (.inr (by simp)) _ | refine Chg.alloc ?_ _)
        · go_enter Try.func83, Try.ntmps83
          go_wp2_with (go_at_call 87; refine (HN _).mono ?_; rintro e w' ⟨rfl, rfl⟩)
          refine bodyPost_ret (v := .tuple #[.agg #[.int .i64 0, .int .i64 0, .slice none 0 0, .slice none 0 0], .bool false]) (by simp [results, Try.results83, go_sem]) rfl (Ret.mk ⟨rfl, ?_⟩)
          repeat (with_reducible first | exact Chg.refl _ _ | refine Chg.drew ?_ | refine Chg.setCell ?_ (.inr (by simp)) _ | refine Chg.alloc ?_ _)
    · have k1 : (k != 1) = true := by simp; omega
      have k2 : (k != 2) = true := by simp; omega
      clear hbad
      go_enter Try.func83, Try.ntmps83
      go_wp2_with (go_at_call 87; refine (HN _).mono ?_; rintro e w' ⟨rfl, rfl⟩)
      refine bodyPost_ret (v := .tuple #[.agg #[.int .i64 0, .int .i64 0, .slice none 0 0, .slice none 0 0], .bool false]) (by simp [results, Try.results83, go_sem]) rfl (Ret.mk ⟨rfl, ?_⟩)
      repeat (with_reducible first | exact Chg.refl _ _ | refine Chg.drew ?_ | refine Chg.setCell ?_ (.inr (by simp)) _ | refine Chg.alloc ?_ _)

theorem Oop_any (k : Int) (h : In64 k) (w : World) :
    Calls Try.prog 84 #[.int .i64 k] w fun e w' => e = .returned (.int .i64 (if 1 ≤ k ∧ k ≤ 1073741823 then 2 * k else 0)) ∧ w = w' := by
  obtain ⟨b1, b2⟩ := h
  by_cases h1 : 1 ≤ k ∧ k ≤ 1073741823
  · rw [if_pos h1]
    have e1 : decide (k < 1) = false := by simp; omega
    have e2 : decide (1073741824 ≤ k) = false := by simp; omega
    have e3 : IntKind.i64.wrap (2 * k) = 2 * k := IntWalk.i64_in _ (by omega)
    go_enter Try.func84, Try.ntmps84
    go_wp2
    go_ret
    exact ⟨by go_num, rfl⟩
  · rw [if_neg h1]
    by_cases h2 : k < 1
    · go_enter Try.func84, Try.ntmps84
      go_wp2
      go_ret
      exact ⟨rfl, rfl⟩
    · have h3 : 1073741824 ≤ k := by omega
      go_enter Try.func84, Try.ntmps84
      go_wp2
      go_ret
      exact ⟨rfl, rfl⟩

set_option maxHeartbeats 400000 in
theorem Made_any {w : World} {m : Nat} {F : Nat → Prop} {L : List O} {q : Nat} {es : List (Int × Value)} {ad : Nat → Nat} {wv bv : Nat → Value} (h : FlatI w m F L q es ad wv bv) :
    Calls Try.prog 127 #[.pointer (some ⟨m, 0, none⟩)] w fun e w' => e = .returned (.int .i64 L.length) ∧ w = w' := by
  have c1 : w.cell? ⟨m, 1, none⟩ = some (.int .i64 L.length) := h.row.cell 1
  clear h
  go_enter Try.func127, Try.ntmps127
  go_wp2
  go_ret
  exact ⟨rfl, rfl⟩

end Go.Proofs.Ytjanojignaonfaa
