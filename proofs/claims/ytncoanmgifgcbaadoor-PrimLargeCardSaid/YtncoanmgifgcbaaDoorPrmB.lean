/- Places of objects over a flat memory: prim.behind, at, get, put, small. -/
import Derived.Test.YtncoanmgifgcbaaDoorPrmA
import Derived.Test.YtncoanmgifgcbaaDoorRegion
namespace Go.Proofs.YtncoanmgifgcbaaDoor
set_option linter.unusedVariables false
set_option linter.unusedSimpArgs false
open Go.RowKit

theorem szO_bd {w0 w : World} {m : Nat} {L : List O} {K : (Nat → Prop) → World → Prop} (h : MemK w0 w m L K) (o : Int) : 0 ≤ szO (objV L o) ∧ szO (objV L o) ≤ 1000 := by
  unfold objV
  cases hf : fnd L o with
  | none => simp [szO, O.zero]
  | some i =>
    have hk := h.okAt (fnd_some hf).2.1
    obtain ⟨-, -, h1, h2, -⟩ := hk
    simp only []
    unfold szO
    split
    · omega
    · split <;> omega
theorem byte64 {w0 w : World} {m : Nat} {L : List O} {K : (Nat → Prop) → World → Prop} (h : MemK w0 w m L K) (o i : Int) : 0 ≤ byteV L o i ∧ byteV L o i ≤ 255 := by
  unfold byteV
  cases hf : fnd L o with
  | none => simp
  | some j =>
    have hk := h.okAt (fnd_some hf).2.1
    obtain ⟨-, -, -, -, -, h2⟩ := hk
    simp only []
    split
    · rename_i hc
      have hlt : i.toNat < (ob L j).B.length := by omega
      rw [List.getElem?_eq_getElem hlt]
      exact h2 _ (List.getElem_mem hlt)
    · omega

section
variable {w0 w w' : World} {m : Nat} {L L' : List O} {K : (Nat → Prop) → World → Prop} {F F' : Nat → Prop}
set_option maxRecDepth 100000 in
set_option maxHeartbeats 1000000 in
theorem k_behind (h : MemK w0 w m L K) (o : Int) (ho : In64 o) :
    Calls Tryd.prog 80 #[.iface 27 (.pointer (some ⟨m, 0, none⟩)), .int .i64 o] w fun e w' => e = .returned (.tuple #[.int .i64 (behF L o), .int .i64 (behN L o), .int .i64 (behK L o), .int .i64 (behE L o)]) ∧ MemK w0 w' m L K ∧ Chg No w w' := by
  have hzb := szO_bd h o
  have H := Lib.hid h
  clear h
  unfold behF behN behK behE
  obtain ⟨e0, he0⟩ : ∃ e, objE L o = e := ⟨_, rfl⟩
  obtain ⟨x, hx⟩ : ∃ x, objV L o = x := ⟨_, rfl⟩
  obtain ⟨⟨sk, sn, sm, se⟩, hs⟩ : ∃ s, shapeOf L x.cls = s := ⟨_, rfl⟩
  have hbd := shape_bd L x.cls
  rw [he0, hx, hs]
  rw [hx] at hzb
  rw [hs] at hbd
  dsimp only at hbd ⊢
  obtain ⟨z, hz⟩ : ∃ z, szO x = z := ⟨_, rfl⟩
  rw [hz] at hzb ⊢
  have HX := Lib.hid (And.intro he0 hx)
  have HS := Lib.hid hs
  have HZ := Lib.hid hz
  clear he0 hx hs hz
  by_cases h0 : e0 = 0
  · subst h0
    rw [if_neg (by simp), if_neg (by simp), if_neg (by simp), if_neg (by simp)]
    have hw1 : IntKind.i64.wrap (z - sn) = z - sn := IntWalk.i64_in _ (by omega)
    by_cases h1 : se = 0
    · subst h1
      rw [if_neg (by simp)]
      by_cases h2 : z < sn
      · have t1 : decide (z < sn) = true := decide_eq_true h2
        rw [if_pos h2]
        go_enter Tryd.func80, Tryd.ntmps80
        go_wp2_with (first
          | (go_at_call 156
             refine (k_ObjC H.out o ho).mono ?_
             rw [HX.out.1, HX.out.2]
             rintro e w1 ⟨r, rfl, g1, hr, c1⟩
             obtain ⟨wv1, bv1, rfl, hI1, hB1, i64, j64⟩ := hr
             obtain ⟨A1, d1, rfl, -⟩ := hI1.form
             obtain ⟨A2, d2, rfl, -⟩ := hB1.form
             simp only [cells2]
             obtain ⟨W2, hW2⟩ : ∃ W, w1.alloc (.cells #[.int .i64 x.cls, .int .i64 x.kind, .slice A1 x.W.length d1, .slice A2 x.B.length d2] 41) = W := ⟨_, rfl⟩
             have c2 : Chg No w1 W2 := by rw [← hW2]; exact (Chg.refl _ _).alloc _
             have r2 : Row W2 w1.heap.size 41 #[.int .i64 x.cls, .int .i64 x.kind, .slice A1 x.W.length d1, .slice A2 x.B.length d2] := by rw [← hW2]; exact Row.new _ _ _
             have H2 := Lib.hid (And.intro (g1.world c2) (And.intro (c1.trans c2) (And.intro r2 i64)))
             have HW2 := Lib.hid hW2
             obtain ⟨y0, y1, y2, y3, -⟩ := r2.four
             clear hI1 hB1 i64 j64 g1 c1 c2 r2 hW2)
          | (rw [HW2.out])
          | (go_at_call 108
             refine (k_Shape H2.out.1 x.cls H2.out.2.2.2).mono ?_
             rw [HS.out]
             rintro e w3 ⟨rfl, g3, c3⟩
             have r3 := H2.out.2.2.1.keep c3 (fun f => f)
             have H3 := Lib.hid (And.intro g3 (And.intro (H2.out.2.1.trans c3) r3))
             obtain ⟨z0, z1, z2, z3, -⟩ := r3.four
             clear g3 c3 r3)
          | (go_at_call 43
             refine (Size_any _ _ _ _ _ _ _ _ _ _ rfl rfl _).mono ?_
             rw [show (if x.kind = 1 then (x.W.length : Int) else if x.kind = 2 then (x.B.length : Int) else 0) = z from HZ.out]
             rintro e w' ⟨rfl, hb⟩
             have c4 := Chg.of_below (F := No) hb
             have r4 := H3.out.2.2.keep c4 (fun f => f)
             have H4 := Lib.hid (And.intro (H3.out.1.world c4) (And.intro (H3.out.2.1.trans c4) r4))
             clear c4 r4 hb)
          | fail)
        have v0 : ∀ v, Chg No w' v → v.cell? ⟨w1.heap.size, 0, none⟩ = some (.int .i64 x.cls) ∧ v.cell? ⟨w1.heap.size, 1, none⟩ = some (.int .i64 x.kind) ∧ v.cell? ⟨w1.heap.size, 2, none⟩ = some (.slice A1 x.W.length d1) ∧ v.cell? ⟨w1.heap.size, 3, none⟩ = some (.slice A2 x.B.length d2) := fun v hv => by
          obtain ⟨u0, u1, u2, u3, -⟩ := (H4.out.2.2.keep hv (fun f => f)).four
          exact ⟨u0, u1, u2, u3⟩
        refine q_region (C := (Chg No w')) (by kernel_rfl) (by kernel_rfl) ?_ ?_
        · exact (Chg.refl _ _).drew
        repeat
          refine q_step (fun K hK => ?_)
          go_simp
          first
            | ((with_reducible refine hK _ ?_); clear hK K)
            | (refine (if_neg (by simp [undef])).mpr ?_; (with_reducible refine hK _ ?_); clear hK K)
            | (apply Exists.intro
               with_reducible refine ⟨fun v hv => ?_, hK _ ?_⟩
               · first
                   | with_reducible exact rfl
                   | with_reducible exact ⟨rfl, rfl⟩
                   | (go_simp
                      first
                        | done
                        | with_reducible exact rfl
                        | with_reducible exact ⟨rfl, rfl⟩
                        | (go_at_call 43; refine (Size_any _ _ _ _ _ _ _ _ _ _ rfl rfl _).mono ?_; rw [show (if x.kind = 1 then (x.W.length : Int) else if x.kind = 2 then (x.B.length : Int) else 0) = z from HZ.out]; rintro e w5 ⟨rfl, hb⟩; exact ⟨rfl, hv.trans (Chg.of_below hb)⟩))
               clear hK K)
        refine q_nil ?_
        intro V hV
        go_wp2_with fail
        exact bodyPost_ret (v := .tuple #[.int .i64 sn, .int .i64 (z - sn), .int .i64 x.kind, .int .i64 2]) (by simp [results, Tryd.results80, go_sem]) rfl ⟨rfl, H4.out.1.world hV, H4.out.2.1.trans hV⟩
      · have t1 : decide (z < sn) = false := decide_eq_false h2
        rw [if_neg h2]
        go_enter Tryd.func80, Tryd.ntmps80
        go_wp2_with (first
          | (go_at_call 156
             refine (k_ObjC H.out o ho).mono ?_
             rw [HX.out.1, HX.out.2]
             rintro e w1 ⟨r, rfl, g1, hr, c1⟩
             obtain ⟨wv1, bv1, rfl, hI1, hB1, i64, j64⟩ := hr
             obtain ⟨A1, d1, rfl, -⟩ := hI1.form
             obtain ⟨A2, d2, rfl, -⟩ := hB1.form
             simp only [cells2]
             obtain ⟨W2, hW2⟩ : ∃ W, w1.alloc (.cells #[.int .i64 x.cls, .int .i64 x.kind, .slice A1 x.W.length d1, .slice A2 x.B.length d2] 41) = W := ⟨_, rfl⟩
             have c2 : Chg No w1 W2 := by rw [← hW2]; exact (Chg.refl _ _).alloc _
             have r2 : Row W2 w1.heap.size 41 #[.int .i64 x.cls, .int .i64 x.kind, .slice A1 x.W.length d1, .slice A2 x.B.length d2] := by rw [← hW2]; exact Row.new _ _ _
             have H2 := Lib.hid (And.intro (g1.world c2) (And.intro (c1.trans c2) (And.intro r2 i64)))
             have HW2 := Lib.hid hW2
             obtain ⟨y0, y1, y2, y3, -⟩ := r2.four
             clear hI1 hB1 i64 j64 g1 c1 c2 r2 hW2)
          | (rw [HW2.out])
          | (go_at_call 108
             refine (k_Shape H2.out.1 x.cls H2.out.2.2.2).mono ?_
             rw [HS.out]
             rintro e w3 ⟨rfl, g3, c3⟩
             have r3 := H2.out.2.2.1.keep c3 (fun f => f)
             have H3 := Lib.hid (And.intro g3 (And.intro (H2.out.2.1.trans c3) r3))
             obtain ⟨z0, z1, z2, z3, -⟩ := r3.four
             clear g3 c3 r3)
          | (go_at_call 43
             refine (Size_any _ _ _ _ _ _ _ _ _ _ rfl rfl _).mono ?_
             rw [show (if x.kind = 1 then (x.W.length : Int) else if x.kind = 2 then (x.B.length : Int) else 0) = z from HZ.out]
             rintro e w' ⟨rfl, hb⟩
             have c4 := Chg.of_below (F := No) hb
             have r4 := H3.out.2.2.keep c4 (fun f => f)
             have H4 := Lib.hid (And.intro (H3.out.1.world c4) (And.intro (H3.out.2.1.trans c4) r4))
             clear c4 r4 hb)
          | fail)
        have v0 : ∀ v, Chg No w' v → v.cell? ⟨w1.heap.size, 0, none⟩ = some (.int .i64 x.cls) ∧ v.cell? ⟨w1.heap.size, 1, none⟩ = some (.int .i64 x.kind) ∧ v.cell? ⟨w1.heap.size, 2, none⟩ = some (.slice A1 x.W.length d1) ∧ v.cell? ⟨w1.heap.size, 3, none⟩ = some (.slice A2 x.B.length d2) := fun v hv => by
          obtain ⟨u0, u1, u2, u3, -⟩ := (H4.out.2.2.keep hv (fun f => f)).four
          exact ⟨u0, u1, u2, u3⟩
        refine q_region (C := (Chg No w')) (by kernel_rfl) (by kernel_rfl) ?_ ?_
        · exact (Chg.refl _ _).drew
        repeat
          refine q_step (fun K hK => ?_)
          go_simp
          first
            | ((with_reducible refine hK _ ?_); clear hK K)
            | (refine (if_neg (by simp [undef])).mpr ?_; (with_reducible refine hK _ ?_); clear hK K)
            | (apply Exists.intro
               with_reducible refine ⟨fun v hv => ?_, hK _ ?_⟩
               · first
                   | with_reducible exact rfl
                   | with_reducible exact ⟨rfl, rfl⟩
                   | (go_simp
                      first
                        | done
                        | with_reducible exact rfl
                        | with_reducible exact ⟨rfl, rfl⟩
                        | (go_at_call 43; refine (Size_any _ _ _ _ _ _ _ _ _ _ rfl rfl _).mono ?_; rw [show (if x.kind = 1 then (x.W.length : Int) else if x.kind = 2 then (x.B.length : Int) else 0) = z from HZ.out]; rintro e w5 ⟨rfl, hb⟩; exact ⟨rfl, hv.trans (Chg.of_below hb)⟩))
               clear hK K)
        refine q_nil ?_
        intro V hV
        go_wp2_with fail
        exact bodyPost_ret (v := .tuple #[.int .i64 sn, .int .i64 (z - sn), .int .i64 x.kind, .int .i64 0]) (by simp [results, Tryd.results80, go_sem]) rfl ⟨rfl, H4.out.1.world hV, H4.out.2.1.trans hV⟩
    · have t1 : (se == 0) = false := beq_eq_false_iff_ne.2 h1
      rw [if_pos h1]
      go_enter Tryd.func80, Tryd.ntmps80
      go_wp2_with (first
        | (go_at_call 156
           refine (k_ObjC H.out o ho).mono ?_
           rw [HX.out.1, HX.out.2]
           rintro e w1 ⟨r, rfl, g1, hr, c1⟩
           obtain ⟨wv1, bv1, rfl, hI1, hB1, i64, j64⟩ := hr
           obtain ⟨A1, d1, rfl, -⟩ := hI1.form
           obtain ⟨A2, d2, rfl, -⟩ := hB1.form
           simp only [cells2]
           obtain ⟨W2, hW2⟩ : ∃ W, w1.alloc (.cells #[.int .i64 x.cls, .int .i64 x.kind, .slice A1 x.W.length d1, .slice A2 x.B.length d2] 41) = W := ⟨_, rfl⟩
           have c2 : Chg No w1 W2 := by rw [← hW2]; exact (Chg.refl _ _).alloc _
           have r2 : Row W2 w1.heap.size 41 #[.int .i64 x.cls, .int .i64 x.kind, .slice A1 x.W.length d1, .slice A2 x.B.length d2] := by rw [← hW2]; exact Row.new _ _ _
           have H2 := Lib.hid (And.intro (g1.world c2) (And.intro (c1.trans c2) (And.intro r2 i64)))
           have HW2 := Lib.hid hW2
           obtain ⟨y0, y1, y2, y3, -⟩ := r2.four
           clear hI1 hB1 i64 j64 g1 c1 c2 r2 hW2)
        | (rw [HW2.out])
        | (go_at_call 108
           refine (k_Shape H2.out.1 x.cls H2.out.2.2.2).mono ?_
           rw [HS.out]
           rintro e w3 ⟨rfl, g3, c3⟩
           have r3 := H2.out.2.2.1.keep c3 (fun f => f)
           have H3 := Lib.hid (And.intro g3 (And.intro (H2.out.2.1.trans c3) r3))
           obtain ⟨z0, z1, z2, z3, -⟩ := r3.four
           clear g3 c3 r3)
        | fail)
      have v0 : ∀ v, Chg No w3 v → v.cell? ⟨w1.heap.size, 0, none⟩ = some (.int .i64 x.cls) ∧ v.cell? ⟨w1.heap.size, 1, none⟩ = some (.int .i64 x.kind) ∧ v.cell? ⟨w1.heap.size, 2, none⟩ = some (.slice A1 x.W.length d1) ∧ v.cell? ⟨w1.heap.size, 3, none⟩ = some (.slice A2 x.B.length d2) := fun v hv => by
        obtain ⟨u0, u1, u2, u3, -⟩ := (H3.out.2.2.keep hv (fun f => f)).four
        exact ⟨u0, u1, u2, u3⟩
      refine q_region (C := (Chg No w3)) (by kernel_rfl) (by kernel_rfl) ?_ ?_
      · exact (Chg.refl _ _).drew
      repeat
        refine q_step (fun K hK => ?_)
        go_simp
        first
          | ((with_reducible refine hK _ ?_); clear hK K)
          | (refine (if_neg (by simp [undef])).mpr ?_; (with_reducible refine hK _ ?_); clear hK K)
          | (apply Exists.intro
             with_reducible refine ⟨fun v hv => ?_, hK _ ?_⟩
             · first
                 | with_reducible exact rfl
                 | with_reducible exact ⟨rfl, rfl⟩
                 | (go_simp
                    first
                      | done
                      | with_reducible exact rfl
                      | with_reducible exact ⟨rfl, rfl⟩
                      | (go_at_call 43; refine (Size_any _ _ _ _ _ _ _ _ _ _ rfl rfl _).mono ?_; rw [show (if x.kind = 1 then (x.W.length : Int) else if x.kind = 2 then (x.B.length : Int) else 0) = z from HZ.out]; rintro e w5 ⟨rfl, hb⟩; exact ⟨rfl, hv.trans (Chg.of_below hb)⟩))
             clear hK K)
      refine q_nil ?_
      intro V hV
      go_wp2_with fail
      exact bodyPost_ret (v := .tuple #[.int .i64 sn, .int .i64 (z - sn), .int .i64 x.kind, .int .i64 se]) (by simp [results, Tryd.results80, go_sem]) rfl ⟨rfl, H3.out.1.world hV, H3.out.2.1.trans hV⟩
  · have t1 : (e0 != 0) = true := by simpa using h0
    rw [if_pos h0, if_pos h0, if_pos h0, if_pos h0]
    go_enter Tryd.func80, Tryd.ntmps80
    go_wp2_with (first
      | (go_at_call 156
         refine (k_ObjC H.out o ho).mono ?_
         rw [HX.out.1, HX.out.2]
         rintro e w1 ⟨r, rfl, g1, hr, c1⟩
         obtain ⟨wv1, bv1, rfl, hI1, hB1, i64, j64⟩ := hr
         obtain ⟨A1, d1, rfl, -⟩ := hI1.form
         obtain ⟨A2, d2, rfl, -⟩ := hB1.form
         simp only [cells2]
         obtain ⟨W2, hW2⟩ : ∃ W, w1.alloc (.cells #[.int .i64 x.cls, .int .i64 x.kind, .slice A1 x.W.length d1, .slice A2 x.B.length d2] 41) = W := ⟨_, rfl⟩
         have c2 : Chg No w1 W2 := by rw [← hW2]; exact (Chg.refl _ _).alloc _
         have r2 : Row W2 w1.heap.size 41 #[.int .i64 x.cls, .int .i64 x.kind, .slice A1 x.W.length d1, .slice A2 x.B.length d2] := by rw [← hW2]; exact Row.new _ _ _
         have H2 := Lib.hid (And.intro (g1.world c2) (And.intro (c1.trans c2) (And.intro r2 i64)))
         have HW2 := Lib.hid hW2
         obtain ⟨y0, y1, y2, y3, -⟩ := r2.four
         clear hI1 hB1 i64 j64 g1 c1 c2 r2 hW2)
      | (rw [HW2.out])
      | fail)
    exact bodyPost_ret (v := .tuple #[.int .i64 0, .int .i64 0, .int .i64 0, .int .i64 e0]) (by simp [results, Tryd.results80, go_sem]) rfl ⟨rfl, H2.out.1, H2.out.2.1⟩

end

end Go.Proofs.YtncoanmgifgcbaaDoor
