/- Primitives over a flat memory: prim.Do where it comes to objects, whatever that tells. -/
import Derived.Test.YtncoanmgifgcbaaDoorPrmD
namespace Go.Proofs.YtncoanmgifgcbaaDoor
set_option linter.unusedVariables false
set_option linter.unusedSimpArgs false
open Go.RowKit

section
variable {w0 w w' : World} {m : Nat} {L L' : List O} {K : (Nat → Prop) → World → Prop} {F F' : Nat → Prop}
theorem Tab.chg {w w' : World} (h : Tab w) (c : Chg No w w') : Tab w' := h.below c.below
theorem IntS.row3 {w : World} {r : Nat} {t : TypeId} {a b c : Int} (h : Row w r t #[.int .i64 a, .int .i64 b, .int .i64 c]) (ha : In64 a) (hb : In64 b) (hc : In64 c) : IntS w (fun b => b = r) (.slice (some ⟨r, 0, none⟩) 3 3) [a, b, c] :=
  ⟨by simpa using Slc.row (S := fun k => k = r) h 3 1 rfl (by unfold maxLen; omega) rfl, by intro x hx; simp at hx; rcases hx with rfl | rfl | rfl <;> assumption⟩
set_option maxRecDepth 100000 in
set_option maxHeartbeats 1000000 in
theorem k_DoObj (h : MemK w0 w m L K) (ht : Tab w) (n o : Int) (hn : 30 ≤ n) (A : Option Addr) (nl c : Nat) (hk : knOk n = true) (hkv : knV n = nl) (V E : Int)
    (hob : ∀ w1, MemK w0 w1 m L K → Chg No w w1 → Calls Tryd.prog 47 #[.iface 27 (.pointer (some ⟨m, 0, none⟩)), .int .i64 n, .int .i64 o, .slice A nl c] w1 fun e' w' => e' = .returned (.tuple #[.int .i64 V, .int .i64 E]) ∧ MemK w0 w' m L' K) :
    Calls Tryd.prog 20 #[.iface 27 (.pointer (some ⟨m, 0, none⟩)), .int .i64 n, .int .i64 o, .slice A nl c] w fun e' w' => e' = .returned (.tuple #[.int .i64 (if E = 0 then V else 0), .bool (E == 0), .int .i64 (if E = 3 then 3 else 0)]) ∧ MemK w0 w' m L' K := by
  have HM := Lib.hid h
  have HKN := Lib.hid (And.intro hkv hk)
  have HNI := Lib.hid (show decide (n ∈ ([21, 22, 29] : List Int)) = false from decide_eq_false (by simp; omega))
  have t1 : decide (n < 16) = false := decide_eq_false (by omega)
  have t2 : ((nl : Int) != (nl : Int)) = false := by simp
  clear h hk hkv
  by_cases h0 : E = 0
  · subst h0
    rw [if_pos rfl, if_neg (by simp)]
    go_enter Tryd.func20, Tryd.ntmps20
    go_wp2_with (first
                  | (go_at_call 23
                     refine (Known_any n _ ht).mono ?_
                     rw [HKN.out.1, HKN.out.2]
                     rintro e' w1 ⟨rfl, hb⟩
                     have c1 := Chg.of_below (F := No) hb
                     obtain ⟨W2, hW2⟩ : ∃ W, w1.alloc (.cells #[.int .i64 0, .int .i64 0, .int .i64 1, .int .i64 2, .int .i64 3, .int .i64 4, .int .i64 5, .int .i64 6, .int .i64 7, .int .i64 8, .int .i64 9, .int .i64 10, .int .i64 13, .int .i64 0, .int .i64 14, .int .i64 15] 3) = W := ⟨_, rfl⟩
                     obtain ⟨W3, hW3⟩ : ∃ W, W2.alloc (.cells #[.int .i64 21, .int .i64 22, .int .i64 29] 3) = W := ⟨_, rfl⟩
                     have c2 : Chg No w1 W2 := by rw [← hW2]; exact (Chg.refl _ _).alloc _
                     have c3 : Chg No W2 W3 := by rw [← hW3]; exact (Chg.refl _ _).alloc _
                     have r3 : Row W3 W2.heap.size 3 #[.int .i64 21, .int .i64 22, .int .i64 29] := by rw [← hW3]; exact Row.new _ _ _
                     have H3 := Lib.hid (And.intro (c1.trans (c2.trans c3)) (IntS.row3 r3 (by unfold In64; omega) (by unfold In64; omega) (by unfold In64; omega)))
                     have HW2 := Lib.hid hW2
                     have HW3 := Lib.hid hW3
                     clear c1 c2 c3 r3 hW2 hW3 hb)
                  | (rw [HW2.out])
                  | (rw [HW3.out])
                  | (go_at_call 45
                     refine (ContainsI2_any _ [21, 22, 29] _ n _ H3.out.2).mono ?_
                     rw [HNI.out]
                     rintro e' w4 ⟨rfl, c4⟩
                     have HOB := Lib.hid (hob w4 (HM.out.world (H3.out.1.trans c4)) (H3.out.1.trans c4))
                     clear c4)
                  | (go_at_call 47
                     refine HOB.out.mono ?_
                     rintro e' w5 ⟨rfl, g5⟩
                     have H5 := Lib.hid g5
                     clear g5)
                  | fail)
    exact bodyPost_ret (v := .tuple #[.int .i64 V, .bool true, .int .i64 0]) (by simp [results, Tryd.results20, go_sem]) rfl ⟨rfl, H5.out⟩
  · have t3 : (E == 0) = false := beq_eq_false_iff_ne.2 h0
    rw [if_neg h0, t3]
    by_cases h3 : E = 3
    · subst h3
      rw [if_pos rfl]
      go_enter Tryd.func20, Tryd.ntmps20
      go_wp2_with (first
                    | (go_at_call 23
                       refine (Known_any n _ ht).mono ?_
                       rw [HKN.out.1, HKN.out.2]
                       rintro e' w1 ⟨rfl, hb⟩
                       have c1 := Chg.of_below (F := No) hb
                       obtain ⟨W2, hW2⟩ : ∃ W, w1.alloc (.cells #[.int .i64 0, .int .i64 0, .int .i64 1, .int .i64 2, .int .i64 3, .int .i64 4, .int .i64 5, .int .i64 6, .int .i64 7, .int .i64 8, .int .i64 9, .int .i64 10, .int .i64 13, .int .i64 0, .int .i64 14, .int .i64 15] 3) = W := ⟨_, rfl⟩
                       obtain ⟨W3, hW3⟩ : ∃ W, W2.alloc (.cells #[.int .i64 21, .int .i64 22, .int .i64 29] 3) = W := ⟨_, rfl⟩
                       have c2 : Chg No w1 W2 := by rw [← hW2]; exact (Chg.refl _ _).alloc _
                       have c3 : Chg No W2 W3 := by rw [← hW3]; exact (Chg.refl _ _).alloc _
                       have r3 : Row W3 W2.heap.size 3 #[.int .i64 21, .int .i64 22, .int .i64 29] := by rw [← hW3]; exact Row.new _ _ _
                       have H3 := Lib.hid (And.intro (c1.trans (c2.trans c3)) (IntS.row3 r3 (by unfold In64; omega) (by unfold In64; omega) (by unfold In64; omega)))
                       have HW2 := Lib.hid hW2
                       have HW3 := Lib.hid hW3
                       clear c1 c2 c3 r3 hW2 hW3 hb)
                    | (rw [HW2.out])
                    | (rw [HW3.out])
                    | (go_at_call 45
                       refine (ContainsI2_any _ [21, 22, 29] _ n _ H3.out.2).mono ?_
                       rw [HNI.out]
                       rintro e' w4 ⟨rfl, c4⟩
                       have HOB := Lib.hid (hob w4 (HM.out.world (H3.out.1.trans c4)) (H3.out.1.trans c4))
                       clear c4)
                    | (go_at_call 47
                       refine HOB.out.mono ?_
                       rintro e' w5 ⟨rfl, g5⟩
                       have H5 := Lib.hid g5
                       clear g5)
                    | fail)
      exact bodyPost_ret (v := .tuple #[.int .i64 0, .bool false, .int .i64 3]) (by simp [results, Tryd.results20, go_sem]) rfl ⟨rfl, H5.out⟩
    · have t4 : (E == 3) = false := beq_eq_false_iff_ne.2 h3
      rw [if_neg h3]
      go_enter Tryd.func20, Tryd.ntmps20
      go_wp2_with (first
                    | (go_at_call 23
                       refine (Known_any n _ ht).mono ?_
                       rw [HKN.out.1, HKN.out.2]
                       rintro e' w1 ⟨rfl, hb⟩
                       have c1 := Chg.of_below (F := No) hb
                       obtain ⟨W2, hW2⟩ : ∃ W, w1.alloc (.cells #[.int .i64 0, .int .i64 0, .int .i64 1, .int .i64 2, .int .i64 3, .int .i64 4, .int .i64 5, .int .i64 6, .int .i64 7, .int .i64 8, .int .i64 9, .int .i64 10, .int .i64 13, .int .i64 0, .int .i64 14, .int .i64 15] 3) = W := ⟨_, rfl⟩
                       obtain ⟨W3, hW3⟩ : ∃ W, W2.alloc (.cells #[.int .i64 21, .int .i64 22, .int .i64 29] 3) = W := ⟨_, rfl⟩
                       have c2 : Chg No w1 W2 := by rw [← hW2]; exact (Chg.refl _ _).alloc _
                       have c3 : Chg No W2 W3 := by rw [← hW3]; exact (Chg.refl _ _).alloc _
                       have r3 : Row W3 W2.heap.size 3 #[.int .i64 21, .int .i64 22, .int .i64 29] := by rw [← hW3]; exact Row.new _ _ _
                       have H3 := Lib.hid (And.intro (c1.trans (c2.trans c3)) (IntS.row3 r3 (by unfold In64; omega) (by unfold In64; omega) (by unfold In64; omega)))
                       have HW2 := Lib.hid hW2
                       have HW3 := Lib.hid hW3
                       clear c1 c2 c3 r3 hW2 hW3 hb)
                    | (rw [HW2.out])
                    | (rw [HW3.out])
                    | (go_at_call 45
                       refine (ContainsI2_any _ [21, 22, 29] _ n _ H3.out.2).mono ?_
                       rw [HNI.out]
                       rintro e' w4 ⟨rfl, c4⟩
                       have HOB := Lib.hid (hob w4 (HM.out.world (H3.out.1.trans c4)) (H3.out.1.trans c4))
                       clear c4)
                    | (go_at_call 47
                       refine HOB.out.mono ?_
                       rintro e' w5 ⟨rfl, g5⟩
                       have H5 := Lib.hid g5
                       clear g5)
                    | fail)
      exact bodyPost_ret (v := .tuple #[.int .i64 0, .bool false, .int .i64 0]) (by simp [results, Tryd.results20, go_sem]) rfl ⟨rfl, H5.out⟩
end

end Go.Proofs.YtncoanmgifgcbaaDoor
