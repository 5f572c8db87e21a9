/- websterlaw18.ImageChecks: the walk. -/
import Derived.Test.YtifcigjminbllaaDoorImgT
import Derived.Test.YtifcigjminbllaaDoorImgP
namespace Go.Proofs.YtifcigjminbllaaDoor
set_option linter.unusedVariables false
set_option linter.unusedSimpArgs false
open Go.RowKit

set_option maxRecDepth 100000 in
set_option maxHeartbeats 1000000 in
theorem ImageChecks_any (lv : Value) (T : List T3) (f : Int) (f64 : In64 f) (w : World) (h : RefT w (fun _ => True) lv T) (hm : T.length ≤ maxLen) (ht : Tabs w) : Calls Tryd.prog 4 #[.agg #[lv, .int .i64 f]] w fun e w' => e = .returned (.bool true) ∧ Chg No w w' := by
  have hmax : (T.map (·.1)).length ≤ 9223372036854775807 := by rw [List.length_map]; unfold maxLen at hm; simp at hm; omega
  obtain ⟨A, n, c, rfl⟩ : ∃ A n c, lv = .slice A n c := by
    obtain ⟨⟨A, c, e, -⟩, -⟩ := h
    exact ⟨A, _, c, e⟩
  obtain ⟨W1, hW1⟩ : ∃ W, w.alloc (.cells #[.slice A n c, .int .i64 f] 24) = W := ⟨_, rfl⟩
  have c01 : Chg No w W1 := by rw [← hW1]; exact (Chg.refl _ _).alloc _
  have rA : Row W1 w.heap.size 24 #[.slice A n c, .int .i64 f] := by rw [← hW1]; exact Row.new w _ _
  have x0 := rA.cell 0
  have x1 := rA.cell 1
  simp at x0 x1
  have HW1 := Lib.hid hW1
  have HA := Lib.hid rA
  have HC := Lib.hid c01
  have HR := Lib.hid (h.keep c01 (fun _ _ f => f))
  have HT := Lib.hid (ht.keep c01)
  obtain ⟨ie, hie⟩ : ∃ x, imgE (T.map (·.1)) f = x := ⟨_, rfl⟩
  have HIE := Lib.hid hie
  have te : (ie == ie) = true := by simp
  clear hW1 rA c01 h ht hie
  go_enter Tryd.func4, Tryd.ntmps4
  go_wp2_with (first
    | (rw [HW1.out])
    | (go_at_call 6
       refine (much_any _ _ _ _ HR.out.toL hmax).mono ?_
       rintro e w2 ⟨r, rfl, c2, -⟩
       have H2 := Lib.hid c2
       have y0 : ∀ v, Chg No w2 v → v.cell? ⟨w.heap.size, 0, none⟩ = some (.slice A n c) := fun v hv => ((HA.out.keep H2.out (fun f => f)).keep hv (fun f => f)).cell 0
       have y1 : ∀ v, Chg No w2 v → v.cell? ⟨w.heap.size, 1, none⟩ = some (.int .i64 f) := fun v hv => ((HA.out.keep H2.out (fun f => f)).keep hv (fun f => f)).cell 1
       clear c2
       cases r)
    | (go_at_call 7
       refine (known18_any _ (HT.out.keep H2.out)).mono ?_
       rintro e w3 ⟨rfl, c3⟩)
    | fail)
  · refine q_region (C := (Chg No w2)) (by kernel_rfl) (by kernel_rfl) ?_ ?_
    · exact (Chg.refl _ _).drew
    repeat
      refine q_step (fun K hK => ?_)
      go_simp
      first
        | ((with_reducible refine hK _ ?_); clear hK K)
        | (refine (if_neg (by simp [undef])).mpr ?_; (with_reducible refine hK _ ?_); clear hK K)
        | (apply Exists.intro
           with_reducible refine ⟨fun v hv => ?_, hK _ ?_⟩
           · first
               | with_reducible exact rfl
               | with_reducible exact ⟨rfl, rfl⟩
               | (go_simp
                  first
                    | done
                    | with_reducible exact rfl
                    | with_reducible exact ⟨rfl, rfl⟩
                    | (first | (go_at_call 13; refine (ImgCheck_any _ T f f64 _ (HR.out.keep (H2.out.trans hv) (fun _ _ f => f)) hm (HT.out.keep (H2.out.trans hv))).mono ?_; rw [HIE.out]; rintro e w5 ⟨rfl, g5⟩; exact ⟨rfl, hv.trans g5⟩) | (go_at_call 14; refine (Check18_any _ T f f64 _ (HR.out.keep (H2.out.trans hv) (fun _ _ f => f)) hm).mono ?_; rw [HIE.out]; rintro e w5 ⟨rfl, g5⟩; exact ⟨rfl, hv.trans g5⟩) | (go_at_call 7; refine (known18_any _ (HT.out.keep (H2.out.trans hv))).mono ?_; rintro e w5 ⟨rfl, g5⟩; exact ⟨rfl, hv.trans g5⟩)))
           clear hK K)
    refine q_nil ?_
    intro V hV
    go_wp2_with fail
    go_ret
    exact ⟨rfl, HC.out.trans (H2.out.trans hV)⟩
  · go_ret
    exact ⟨rfl, HC.out.trans (H2.out.trans c3)⟩

end Go.Proofs.YtifcigjminbllaaDoor
