/- websterref16.Same where both are the same. -/
import Derived.Test.YtncoanmgifgcbaaDoorFew16
import Derived.Test.YtncoanmgifgcbaaDoorPrmH
namespace Go.Proofs.YtncoanmgifgcbaaDoor
set_option linter.unusedVariables false
set_option linter.unusedSimpArgs false
open Go.RowKit

theorem RefT.form {w : World} {S : Nat → Prop} {lv : Value} {T : List T3} (h : RefT w S lv T) : ∃ A c, lv = .slice A T.length c ∧ T.length ≤ c ∧ c ≤ maxLen := by
  obtain ⟨⟨A, c, e, -, h1, h2, -⟩, -⟩ := h
  exact ⟨A, c, e, h1, h2⟩

set_option maxRecDepth 100000 in
set_option maxHeartbeats 1000000 in
theorem Same16_eq (lv v : Value) (T T2 : List T3) (S S2 : Nat → Prop) (w : World) (h : RefT w S lv T) (h2 : RefT w S2 v T2) (he : T.map (·.1) = T2.map (·.1)) :
    Calls Tryd.prog 24 #[.agg #[lv], v] w fun e w' => e = .returned (.bool true) ∧ Chg No w w' := by
  obtain ⟨A, c, rfl, hlc, hcm⟩ := h.form
  obtain ⟨B, d, rfl, -⟩ := h2.form
  have hl : T.length = T2.length := by simpa using congrArg List.length he
  have hmax : T.length ≤ 9223372036854775807 := by unfold maxLen at hcm; simp at hcm; omega
  have HT := Lib.hid (And.intro h h2)
  have HE := Lib.hid he
  clear h h2 he hlc hcm
  rw [← hl] at HT ⊢
  generalize hn : T.length = n at *
  have HN := Lib.hid (And.intro hn hl.symm)
  clear hn hl
  obtain ⟨W, hW⟩ : ∃ W, w.alloc (.cells #[.slice A n c] 55) = W := ⟨_, rfl⟩
  have cW : Chg No w W := by rw [← hW]; exact (Chg.refl _ _).alloc _
  have rW : Row W w.heap.size 55 #[.slice A n c] := by rw [← hW]; exact Row.new w _ _
  have x0 : W.cell? ⟨w.heap.size, 0, none⟩ = some (.slice A n c) := rW.cell 0
  have t0 : ((n : Int) != (n : Int)) = false := by simp
  have HA := Lib.hid (And.intro cW rW)
  have HW := Lib.hid hW
  clear cW rW hW
  go_enter Tryd.func24, Tryd.ntmps24
  go_wp2_with (first
    | (rw [HW.out])
    | fail)
  go_loopg [5] n (fun j v5 wr => ∃ i : Nat, v5 = .int .i64 (i : Int) ∧ i ≤ n ∧ n - i ≤ j ∧ Chg No W wr)
  case atStart => exact ⟨0, rfl, by omega, by omega, Chg.refl _ _⟩
  case round =>
    obtain ⟨i, rfl, i1, i2, cw⟩ := hrel
    by_cases hi : i < n
    · have t1 : decide ((i : Int) < (n : Int)) = true := decide_eq_true (by omega)
      have l1 : (i : Int) < (n : Int) := by omega
      have wi : IntKind.i64.wrap ((i : Int) + 1) = ((i + 1 : Nat) : Int) := (IntWalk.i64_in _ (by omega)).trans (by omega)
      obtain ⟨⟨x, wv, bv⟩, hti⟩ : ∃ t, T[i]? = some t := ⟨_, List.getElem?_eq_getElem (by rw [HN.out.1]; exact hi)⟩
      obtain ⟨⟨x', wv', bv'⟩, hti'⟩ : ∃ t, T2[i]? = some t := ⟨_, List.getElem?_eq_getElem (by rw [HN.out.2]; exact hi)⟩
      obtain rfl : x = x' := by
        have h1 : (T.map (·.1))[i]? = some x := by rw [List.getElem?_map, hti]; rfl
        have h2 : (T2.map (·.1))[i]? = some x' := by rw [List.getElem?_map, hti']; rfl
        rw [HE.out, h2] at h1
        exact (Option.some.inj h1).symm
      obtain ⟨b, off, rfl, -, hb, hok, y0, y1, y2, y3⟩ := (HT.out.1.keep (HA.out.1.trans cw) (fun _ _ f => f)).at hti
      obtain ⟨b', off', rfl, -, hb', hok', z0, z1, z2, z3⟩ := (HT.out.2.keep (HA.out.1.trans cw) (fun _ _ f => f)).at hti'
      dsimp only at hok y0 y1 y2 y3 hok' z0 z1 z2 z3
      have rB := HA.out.2.keep cw (fun f => f)
      have a0 : ∀ v, Chg No wr v → v.cell? ⟨b, off + i * 4, none⟩ = some (.int .i64 x.cls) := fun v hv => (hv.cell hb (fun f => f)).trans y0
      have a1 : ∀ v, Chg No wr v → v.cell? ⟨b, off + i * 4 + 1, none⟩ = some (.int .i64 x.kind) := fun v hv => (hv.cell hb (fun f => f)).trans y1
      have a2 : ∀ v, Chg No wr v → v.cell? ⟨b, off + i * 4 + 2, none⟩ = some wv := fun v hv => (hv.cell hb (fun f => f)).trans y2
      have a3 : ∀ v, Chg No wr v → v.cell? ⟨b, off + i * 4 + 3, none⟩ = some bv := fun v hv => (hv.cell hb (fun f => f)).trans y3
      have d0 : ∀ v, Chg No wr v → v.cell? ⟨b', off' + i * 4, none⟩ = some (.int .i64 x.cls) := fun v hv => (hv.cell hb' (fun f => f)).trans z0
      have d1 : ∀ v, Chg No wr v → v.cell? ⟨b', off' + i * 4 + 1, none⟩ = some (.int .i64 x.kind) := fun v hv => (hv.cell hb' (fun f => f)).trans z1
      have d2 : ∀ v, Chg No wr v → v.cell? ⟨b', off' + i * 4 + 2, none⟩ = some wv' := fun v hv => (hv.cell hb' (fun f => f)).trans z2
      have d3 : ∀ v, Chg No wr v → v.cell? ⟨b', off' + i * 4 + 3, none⟩ = some bv' := fun v hv => (hv.cell hb' (fun f => f)).trans z3
      have e0 : ∀ v, Chg No wr v → v.cell? ⟨w.heap.size, 0, none⟩ = some (.slice (some ⟨b, off, none⟩) n c) := fun v hv => (rB.keep hv (fun f => f)).cell 0
      have G := Lib.hid (And.intro cw (And.intro (show ObjR wr (fun _ => True) (.agg (cells2 x wv bv)) x from ⟨wv, bv, rfl, hok.1.more (fun _ _ _ => trivial), hok.2.1.more (fun _ _ _ => trivial), hok.2.2⟩) (show ObjR wr (fun _ => True) (.agg (cells2 x wv' bv')) x from ⟨wv', bv', rfl, hok'.1.more (fun _ _ _ => trivial), hok'.2.1.more (fun _ _ _ => trivial), hok'.2.2⟩)))
      obtain ⟨P1, p1, hP1, -⟩ := hok.1.form
      obtain ⟨P2, p2, hP2, -⟩ := hok.2.1.form
      obtain ⟨P3, p3, hP3, -⟩ := hok'.1.form
      obtain ⟨P4, p4, hP4, -⟩ := hok'.2.1.form
      dsimp only at hP1 hP2 hP3 hP4
      subst hP1 hP2 hP3 hP4
      simp only [cells2] at G
      clear hok hok' y0 y1 y2 y3 z0 z1 z2 z3 hb hb' cw hti hti' rB x0
      go_wp2_with fail
      refine q_region (C := (Chg No wr)) (by kernel_rfl) (by kernel_rfl) ?_ ?_
      · exact (Chg.refl _ _).drew
      repeat
        refine q_step (fun K hK => ?_)
        go_simp
        first
          | ((with_reducible refine hK _ ?_); clear hK K)
          | (refine (if_neg (by simp [undef])).mpr ?_; (with_reducible refine hK _ ?_); clear hK K)
          | (apply Exists.intro
             with_reducible refine ⟨fun v hv => ?_, hK _ ?_⟩
             · first
                 | with_reducible exact rfl
                 | with_reducible exact ⟨rfl, rfl⟩
                 | (go_simp
                    first
                      | done
                      | with_reducible exact rfl
                      | with_reducible exact ⟨rfl, rfl⟩
                      | (go_at_call 39; refine (Same05_eq _ _ x (fun _ => True) _ (G.out.2.1.keep hv (fun _ _ f => f)) (G.out.2.2.keep hv (fun _ _ f => f))).mono ?_; rintro e w5 ⟨rfl, g5⟩; exact ⟨rfl, hv.trans g5⟩))
             clear hK K)
      refine q_nil ?_
      intro V hV
      go_wp2_with fail
      go_roundg (n - (i + 1))
      case measure => omega
      case rel => exact ⟨i + 1, by go_num, by omega, by omega, G.out.1.trans hV⟩
    · obtain rfl : i = n := by omega
      have t1 : decide ((i : Int) < (i : Int)) = false := decide_eq_false (by omega)
      have HC := Lib.hid cw
      clear cw x0
      go_wp2_with fail
      go_ret
      exact ⟨rfl, HA.out.1.trans HC.out⟩
/-- of a memory that nothing is gone from: all that is in it -/
theorem all_objs {L : List O} (h : Full L) (hl : L.length < 1073741823) : (allL L).map (objV L) = L := by
  have h1 : allL L = (List.range L.length).map fun i : Nat => 2 * ((i : Int) + 1) := by
    unfold allL allTo
    rw [List.filter_eq_self.2 (by
      intro i hi
      have := h i (List.mem_range.1 hi)
      simpa using this)]
  rw [h1, List.map_map]
  apply List.ext_getElem
  · simp
  · intro i h2 h3
    rw [List.getElem_map, List.getElem_range]
    show objV L (2 * ((i : Int) + 1)) = _
    have hf : fnd L (2 * ((i : Int) + 1)) = some i := by
      unfold fnd
      have e : (2 * ((i : Int) + 1) / 2 - 1).toNat = i := by omega
      rw [e, if_pos ⟨by unfold namedOk; exact decide_eq_true (by omega), h i h3⟩]
    unfold objV
    rw [hf]
    simp [ob, h3]
theorem allL_full {L : List O} (h : Full L) : (allL L).length = L.length := by
  unfold allL allTo
  rw [List.length_map, List.filter_eq_self.2 (by
    intro i hi
    have := h i (List.mem_range.1 hi)
    simpa using this)]
  simp

end Go.Proofs.YtncoanmgifgcbaaDoor
