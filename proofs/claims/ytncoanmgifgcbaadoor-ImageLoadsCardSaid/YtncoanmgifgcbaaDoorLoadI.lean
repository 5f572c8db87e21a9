/- image.Load, into a flat memory without any. -/
import Derived.Test.YtncoanmgifgcbaaDoorImgO
namespace Go.Proofs.YtncoanmgifgcbaaDoor
set_option linter.unusedVariables false
set_option linter.unusedSimpArgs false
open Go.RowKit

section
variable {w0 w : World} {m : Nat} {K : (Nat → Prop) → World → Prop}
set_option maxRecDepth 100000 in
set_option maxHeartbeats 1000000 in
theorem LoadI_bad (h : MemK w0 w m [] K) (lv : Value) (T : List T3) (f : Int) (f64 : In64 f) (hm : T.length ≤ maxLen) (hx : ∀ F v, K F v → RefT v (fun b => ¬ F b) lv T) (ht : Tabs w) (hno : imgOk (T.map (·.1)) f = false) :
    Calls Tryd.prog 10 #[.iface 27 (.pointer (some ⟨m, 0, none⟩)), .agg #[lv, .int .i64 f]] w fun e w' => e = .returned (.int .i64 180) ∧ MemK w0 w' m [] K ∧ Chg No w w' := by
  have HIE := Lib.hid (show imgE (T.map (·.1)) f = 180 by unfold imgE; rw [hno]; rfl)
  obtain ⟨F, -, -, hk⟩ := h.opened
  have hT := (hx F w hk).more (S' := fun _ => True) (fun _ _ _ => trivial)
  obtain ⟨A, n, c, rfl⟩ : ∃ A n c, lv = .slice A n c := by
    obtain ⟨⟨A, c, e, -⟩, -⟩ := hT
    exact ⟨A, _, c, e⟩
  obtain ⟨W1, hW1⟩ : ∃ W, w.alloc (.cells #[.slice A n c, .int .i64 f] 24) = W := ⟨_, rfl⟩
  have c01 : Chg No w W1 := by rw [← hW1]; exact (Chg.refl _ _).alloc _
  have row := Row.new w 24 #[.slice A n c, .int .i64 f]
  rw [hW1] at row
  have x0 : W1.cell? ⟨w.heap.size, 0, none⟩ = some (.slice A n c) := row.cell 0
  have x1 : W1.cell? ⟨w.heap.size, 1, none⟩ = some (.int .i64 f) := row.cell 1
  have HW1 := Lib.hid hW1
  have HA := Lib.hid (And.intro c01 row)
  have HT := Lib.hid hT
  have HTB := Lib.hid ht
  have H := Lib.hid h
  have HX := Lib.hid hx
  clear hW1 row c01 hT ht h hx hk
  go_enter Tryd.func10, Tryd.ntmps10
  go_wp2_with (first
    | (rw [HW1.out])
    | (go_at_call 11
       refine (ImgCheck_any _ T f f64 _ (HT.out.keep HA.out.1 (fun _ _ f => f)) hm (HTB.out.keep HA.out.1)).mono ?_
       rw [HIE.out]
       rintro e w2 ⟨rfl, c2⟩
       have y0 : w2.cell? ⟨w.heap.size, 0, none⟩ = some (.slice A n c) := (HA.out.2.keep c2 (fun f => f)).cell 0
       have H2 := Lib.hid (HA.out.1.trans c2)
       clear c2)
    | fail)
  go_ret
  exact ⟨rfl, H.out.world H2.out, H2.out⟩
set_option maxRecDepth 100000 in
set_option maxHeartbeats 1000000 in
theorem LoadI_ok (h : MemK w0 w m [] K) (lv : Value) (T : List T3) (f : Int) (f64 : In64 f) (hm : T.length ≤ maxLen) (hx : ∀ F v, K F v → RefT v (fun b => ¬ F b) lv T) (ht : Tabs w) (hyes : imgOk (T.map (·.1)) f = true) :
    Calls Tryd.prog 10 #[.iface 27 (.pointer (some ⟨m, 0, none⟩)), .agg #[lv, .int .i64 f]] w fun e w' => e = .returned (.int .i64 0) ∧ MemK w0 w' m (T.map (·.1)) K := by
  have HIE := Lib.hid (show imgE (T.map (·.1)) f = 0 by unfold imgE; rw [hyes]; rfl)
  have HOK := Lib.hid hyes
  clear hyes
  obtain ⟨F, -, -, hk⟩ := h.opened
  have hT := (hx F w hk).more (S' := fun _ => True) (fun _ _ _ => trivial)
  obtain ⟨A, n, c, rfl⟩ : ∃ A n c, lv = .slice A n c := by
    obtain ⟨⟨A, c, e, -⟩, -⟩ := hT
    exact ⟨A, _, c, e⟩
  obtain ⟨W1, hW1⟩ : ∃ W, w.alloc (.cells #[.slice A n c, .int .i64 f] 24) = W := ⟨_, rfl⟩
  have c01 : Chg No w W1 := by rw [← hW1]; exact (Chg.refl _ _).alloc _
  have row := Row.new w 24 #[.slice A n c, .int .i64 f]
  rw [hW1] at row
  have x0 : W1.cell? ⟨w.heap.size, 0, none⟩ = some (.slice A n c) := row.cell 0
  have x1 : W1.cell? ⟨w.heap.size, 1, none⟩ = some (.int .i64 f) := row.cell 1
  have HW1 := Lib.hid hW1
  have HA := Lib.hid (And.intro c01 row)
  have HT := Lib.hid hT
  have HTB := Lib.hid ht
  have H := Lib.hid h
  have HX := Lib.hid hx
  clear hW1 row c01 hT ht h hx hk
  go_enter Tryd.func10, Tryd.ntmps10
  go_wp2_with (first
    | (rw [HW1.out])
    | (go_at_call 11
       refine (ImgCheck_any _ T f f64 _ (HT.out.keep HA.out.1 (fun _ _ f => f)) hm (HTB.out.keep HA.out.1)).mono ?_
       rw [HIE.out]
       rintro e w2 ⟨rfl, c2⟩
       have y0 : w2.cell? ⟨w.heap.size, 0, none⟩ = some (.slice A n c) := (HA.out.2.keep c2 (fun f => f)).cell 0
       have H2 := Lib.hid (HA.out.1.trans c2)
       clear c2)
    | (go_at_call 17
       refine (k_Load_ok (H.out.world H2.out) _ T (by
         have h1 := HOK.out
         unfold imgOk at h1
         simp only [Bool.and_eq_true, decide_eq_true_eq, List.length_map] at h1
         omega) HX.out (by
         have h1 := HOK.out
         unfold imgOk at h1
         simp only [Bool.and_eq_true] at h1
         exact h1.2.2.2.2.2.2.1)).mono ?_
       rintro e w3 ⟨rfl, g3⟩
       have HG := Lib.hid g3
       clear g3)
    | fail)
  go_ret
  exact ⟨rfl, HG.out⟩
end

end Go.Proofs.YtncoanmgifgcbaaDoor
