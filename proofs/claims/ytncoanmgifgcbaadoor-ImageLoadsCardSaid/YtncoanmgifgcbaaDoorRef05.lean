/- The document's own answers on words and objects (websterref00, 01, 05): their walks. -/
import Derived.Test.YtncoanmgifgcbaaDoorFlatG
import Derived.BigQuiet
import Derived.Laws.BytesArg
namespace Go.Proofs.YtncoanmgifgcbaaDoor
set_option linter.unusedVariables false
set_option linter.unusedSimpArgs false
open Go.RowKit

set_option maxRecDepth 100000 in
set_option maxHeartbeats 1000000 in
theorem Ref05_any (v : Int) (h64 : In64 v) (w : World) : Calls Tryd.prog 18 #[.int .i64 v] w fun e w' => e = .returned (.bool (refOk v)) ∧ w = w' := by
  obtain ⟨b1, b2⟩ := h64
  by_cases hm : v % 2 = 0
  · have q0 : (v.tmod 2 != 0) = false := by rw [tmod_two]; simp; split <;> omega
    have q1 : (v.tmod 2 == 0) = true := by rw [tmod_two]; simp; split <;> omega
    have q2 : (v % 2 != 0) = false := by simp; omega
    have q3 : (v % 2 == 0) = true := by simp; omega
    rcases (show (0 < v ∧ v < 2147483648) ∨ v ≤ 0 ∨ 2147483648 ≤ v by omega) with ⟨h1, h2⟩ | h1 | h1
    · rw [show refOk v = true by simp [refOk, namedOk]; omega]
      clear hm
      go_enter Tryd.func18, Tryd.ntmps18
      go_wp2
      go_ret
      exact ⟨rfl, rfl⟩
    · rw [show refOk v = false by simp [refOk, namedOk, numOk]; omega]
      clear hm
      go_enter Tryd.func18, Tryd.ntmps18
      go_wp2
      go_ret
      exact ⟨rfl, rfl⟩
    · have h0 : 0 < v := by omega
      have q4 : decide (v < 2147483648) = false := by simp; omega
      rw [show refOk v = false by simp [refOk, namedOk, numOk]; omega]
      clear hm
      go_enter Tryd.func18, Tryd.ntmps18
      go_wp2
      go_ret
      exact ⟨rfl, rfl⟩
  · have q0 : (v.tmod 2 != 0) = true := by rw [tmod_two]; simp; split <;> omega
    have q1 : (v.tmod 2 == 0) = false := by rw [tmod_two]; simp; split <;> omega
    have q2 : (v % 2 != 0) = true := by simp; omega
    have q3 : (v % 2 == 0) = false := by simp; omega
    rcases (show (-2147483647 ≤ v ∧ v ≤ 2147483647) ∨ v < -2147483647 ∨ 2147483647 < v by omega) with ⟨h1, h2⟩ | h1 | h1
    · rw [show refOk v = true by simp [refOk, numOk]; omega]
      clear hm
      go_enter Tryd.func18, Tryd.ntmps18
      go_wp2
      go_ret
      exact ⟨rfl, rfl⟩
    · rw [show refOk v = false by simp [refOk, namedOk, numOk]; omega]
      clear hm
      go_enter Tryd.func18, Tryd.ntmps18
      go_wp2
      go_ret
      exact ⟨rfl, rfl⟩
    · have h0 : -2147483647 ≤ v := by omega
      have q4 : decide (v ≤ 2147483647) = false := by simp; omega
      rw [show refOk v = false by simp [refOk, namedOk, numOk]; omega]
      clear hm
      go_enter Tryd.func18, Tryd.ntmps18
      go_wp2
      go_ret
      exact ⟨rfl, rfl⟩

set_option maxRecDepth 100000 in
set_option maxHeartbeats 1000000 in
theorem Named01_any (v : Int) (h64 : In64 v) (w : World) : Calls Tryd.prog 86 #[.int .i64 v] w fun e w' => e = .returned (.tuple #[.int .i64 (namedV v), .bool (namedOk v)]) ∧ w = w' := by
  obtain ⟨b1, b2⟩ := h64
  by_cases hm : v % 2 = 0
  · have q0 : (v.tmod 2 != 0) = false := by rw [tmod_two]; simp; split <;> omega
    have q2 : (v % 2 != 0) = false := by simp; omega
    rcases (show (2 ≤ v ∧ v ≤ 2147483646) ∨ v < 2 ∨ 2147483646 < v by omega) with ⟨h1, h2⟩ | h1 | h1
    · rw [show namedOk v = true by simp [namedOk]; omega, show namedV v = v / 2 by unfold namedV; rw [if_pos (by omega)]]
      clear hm
      go_enter Tryd.func86, Tryd.ntmps86
      go_wp2
      go_ret2
      exact ⟨rfl, rfl⟩
    · rw [show namedOk v = false by simp [namedOk]; omega, show namedV v = 0 by unfold namedV; rw [if_neg (by omega)]]
      clear hm
      go_enter Tryd.func86, Tryd.ntmps86
      go_wp2
      go_ret2
      exact ⟨rfl, rfl⟩
    · have h0 : 2 ≤ v := by omega
      rw [show namedOk v = false by simp [namedOk]; omega, show namedV v = 0 by unfold namedV; rw [if_neg (by omega)]]
      clear hm
      go_enter Tryd.func86, Tryd.ntmps86
      go_wp2
      go_ret2
      exact ⟨rfl, rfl⟩
  · have q0 : (v.tmod 2 != 0) = true := by rw [tmod_two]; simp; split <;> omega
    have q2 : (v % 2 != 0) = true := by simp; omega
    rw [show namedOk v = false by simp [namedOk]; omega, show namedV v = 0 by unfold namedV; rw [if_neg (by omega)]]
    clear hm
    go_enter Tryd.func86, Tryd.ntmps86
    go_wp2
    go_ret2
    exact ⟨rfl, rfl⟩

set_option maxRecDepth 100000 in
set_option maxHeartbeats 1000000 in
theorem SameInts_eq (a b : Value) (l : List Int) (S : Nat → Prop) (w : World) (ha : IntS w S a l) (hb : IntS w S b l) :
    Calls Tryd.prog 62 #[a, b] w fun e w' => e = .returned (.bool true) ∧ Chg No w w' := by
  obtain ⟨A, c, rfl, h1, h2, h3, h4⟩ := ha.form
  obtain ⟨B, c', rfl, h1', h2', h3', h4'⟩ := hb.form
  have HA := Lib.hid (And.intro ha h4)
  have HB := Lib.hid (And.intro hb h4')
  have hmax : l.length ≤ 9223372036854775807 := by unfold maxLen at h2; omega
  clear ha hb h3 h3' h4 h4' h1 h1' h2 h2'
  generalize hn : l.length = n at *
  go_enter Tryd.func62, Tryd.ntmps62
  go_wp2_with fail
  go_loopg [5] n (fun j v5 wr => ∃ k : Nat, v5 = .int .i64 k ∧ k ≤ n ∧ n - k ≤ j ∧ Chg No w wr)
  case atStart => exact ⟨0, rfl, by omega, by omega, Chg.refl _ _⟩
  case round =>
    obtain ⟨k, rfl, k1, k2, ck⟩ := hrel
    by_cases hkn : k < n
    · obtain ⟨b, off, rfl, _, hb, hcx, _⟩ := HA.out.2 k hkn
      obtain ⟨b', off', rfl, _, hb', hcy, _⟩ := HB.out.2 k hkn
      replace hcx := (ck.cell (p := ⟨b, off + k, none⟩) hb (fun f => f)).trans hcx
      replace hcy := (ck.cell (p := ⟨b', off' + k, none⟩) hb' (fun f => f)).trans hcy
      generalize l[k]?.getD 0 = x at *
      go_wp2_with fail
      go_quiet (fail)
      go_wp2_with fail
      go_roundg (n - (k + 1))
      case measure => omega
      case rel => exact ⟨k + 1, by go_num, by omega, by omega, ck.drewN _⟩
    · obtain rfl : k = n := by omega
      go_wp2_with fail
      go_ret
      exact ⟨rfl, ck⟩

/-- a slice of bytes as a text -/
theorem conv_bytes {w : World} {S : Nat → Prop} {a : Value} {l : List Int} (ha : ByteS w S a l) : (convert 39 9 a).run Tryd.prog w = .ok (.string (strOfNums l)) w := by
  obtain ⟨A, c, rfl, h1, h2, h3, h4⟩ := ha.form
  cases A with
  | none =>
    obtain rfl := h3 rfl
    have hl : l = [] := List.eq_nil_of_length_eq_zero (by omega)
    subst hl
    exact run_convert_bytes_nil w _ _ Tryd.underlying39 Tryd.underlying5 _ _ _ Tryd.underlying9
  | some p =>
    rcases Nat.eq_zero_or_pos l.length with h0 | h0
    · have hl : l = [] := List.eq_nil_of_length_eq_zero h0
      subst hl
      rw [run_convert_bytes_string w _ _ _ _ _ _ Tryd.underlying39 Tryd.underlying5 Tryd.underlying9, run_bytesToString w p _ c [] (by simp [loadCells, loadCellsFrom, Sem.run_pure])]
      rfl
    · obtain ⟨b, off, hp, _⟩ := h4 0 h0
      cases hp
      refine run_convert_bytes_arg w _ _ Tryd.underlying39 Tryd.underlying5 b off _ _ l rfl (fun i hi => ?_) _ Tryd.underlying9
      obtain ⟨b', off', hp', _, _, hc, _⟩ := h4 i hi
      cases hp'
      simpa using hc

set_option maxRecDepth 100000 in
set_option maxHeartbeats 1000000 in
theorem Same00_eq (a b : Value) (l : List Int) (S : Nat → Prop) (w : World) (ha : ByteS w S a l) (hb : ByteS w S b l) :
    Calls Tryd.prog 63 #[a, b] w fun e w' => e = .returned (.bool true) ∧ Chg No w w' := by
  have c1 := conv_bytes ha
  have c2 := conv_bytes hb
  obtain ⟨A, c, rfl, -⟩ := ha.form
  obtain ⟨B, c', rfl, -⟩ := hb.form
  generalize strOfNums l = s at *
  clear ha hb
  go_enter Tryd.func63, Tryd.ntmps63
  go_wp2_with fail
  go_ret
  exact ⟨rfl, Chg.refl _ _⟩

set_option maxRecDepth 100000 in
set_option maxHeartbeats 1000000 in
theorem Same05_eq (a b : Value) (o : O) (S : Nat → Prop) (w : World) (ha : ObjR w S a o) (hb : ObjR w S b o) :
    Calls Tryd.prog 39 #[a, b] w fun e w' => e = .returned (.bool true) ∧ Chg No w w' := by
  obtain ⟨aw, ab, rfl, h1, h2, -⟩ := ha
  obtain ⟨bw, bb, rfl, h3, h4, -⟩ := hb
  have H := Lib.hid (And.intro (And.intro h1 h2) (And.intro h3 h4))
  obtain ⟨A1, c1, rfl, -⟩ := h1.form
  obtain ⟨A2, c2, rfl, -⟩ := h2.form
  obtain ⟨A3, c3, rfl, -⟩ := h3.form
  obtain ⟨A4, c4, rfl, -⟩ := h4.form
  clear h1 h2 h3 h4
  simp only [cells2]
  go_enter Tryd.func39, Tryd.ntmps39
  go_wp2_with (first
    | (go_at_call 62
       refine (SameInts_eq _ _ o.W S _ (H.out.1.1.keep (((Chg.refl No _).alloc _).alloc _) (fun _ _ f => f)) (H.out.2.1.keep (((Chg.refl No _).alloc _).alloc _) (fun _ _ f => f))).mono ?_
       rintro e w1 ⟨rfl, g1⟩
       have hs := g1.size
       have q1 : Row w1 w.heap.size 41 #[.int .i64 o.cls, .int .i64 o.kind, .slice A1 o.W.length c1, .slice A2 o.B.length c2] := Row.keep ((Row.new w _ _).alloc _) g1 (fun f => f)
       have q2 : Row w1 (w.heap.size + 1) 41 #[.int .i64 o.cls, .int .i64 o.kind, .slice A3 o.W.length c3, .slice A4 o.B.length c4] := Row.keep (by simpa using Row.new (w.alloc _) _ _) g1 (fun f => f)
       have r1 := q1.four
       have r2 := q2.four
       clear q1 q2)
    | (go_at_call 63
       refine (Same00_eq _ _ o.B S _ (H.out.1.2.keep ((((Chg.refl No _).alloc _).alloc _).trans g1) (fun _ _ f => f)) (H.out.2.2.keep ((((Chg.refl No _).alloc _).alloc _).trans g1) (fun _ _ f => f))).mono ?_
       rintro e w2 ⟨rfl, g2⟩))
  go_ret
  exact ⟨rfl, ((((Chg.refl No _).alloc _).alloc _).trans g1).trans g2⟩

end Go.Proofs.YtncoanmgifgcbaaDoor
