/- Objects on a disk, by the document: websterref06's Drop of one number. · Objects on a disk, by the document: websterref06's Near. · Objects on a disk, by the document: Make, Store, Drop, told as the program's are. -/
import Derived.Test.YtdpmmafkomchaaaGreatSecS9
import Derived.Test.YtdpmmafkomchaaaGreatRefs05
namespace Go.Proofs.YtdpmmafkomchaaaGreat
set_option linter.unusedVariables false
set_option linter.unusedSimpArgs false
open Go.RowKit

set_option maxRecDepth 100000 in
set_option maxHeartbeats 800000 in
theorem Drop06_no (v : Value) (T : List T8) (S : Nat → Prop) (w : World) (h : R8 w S v T) (hm : T.length ≤ 1048576) (N made : Nat) (id : Int) {ib : Nat} (hi : w.cell? ⟨ib, 0, none⟩ = some (.int .i64 id)) (hk : lk (T.map (·.1)) id = none) :
    Calls Tryz.prog 15 #[.agg #[v, .int .i64 N, .int .i64 made], .slice (some ⟨ib, 0, none⟩) 1 1] w (Ret fun u w' => ∃ x, u = .tuple #[x, .int .i64 4] ∧ Spd w S N (T.map (·.1)) made x w') := by
  obtain ⟨A, c, rfl, hnc, hcm, hA0⟩ := h.form
  have HV := Lib.hid h
  obtain ⟨W, hW⟩ : ∃ W, ((w.alloc (.cells #[.slice A T.length c, .int .i64 N, .int .i64 made] 32)).alloc (.cells #[.slice none 0 0, .int .i64 0, .int .i64 0] 32)).alloc (.cells #[.slice A T.length c, .int .i64 N, .int .i64 made] 32) = W := ⟨_, rfl⟩
  have cW : Chg No w W := by rw [← hW]; exact (((Chg.refl _ _).alloc _).alloc _).alloc _
  have sW : W.heap.size = w.heap.size + 1 + 1 + 1 := by rw [← hW]; simp
  have r0 : Row W w.heap.size 32 #[.slice A T.length c, .int .i64 N, .int .i64 made] := by rw [← hW]; exact ((Row.new w _ _).alloc _).alloc _
  have r1 : Row W (w.heap.size + 1) 32 #[.slice none 0 0, .int .i64 0, .int .i64 0] := by rw [← hW]; exact Row.alloc (by simpa using Row.new (w.alloc _) _ _) _
  have r2 : Row W (w.heap.size + 1 + 1) 32 #[.slice A T.length c, .int .i64 N, .int .i64 made] := by rw [← hW]; simpa using Row.new ((w.alloc (.cells #[.slice A T.length c, .int .i64 N, .int .i64 made] 32)).alloc (.cells #[.slice none 0 0, .int .i64 0, .int .i64 0] 32)) 32 #[.slice A T.length c, .int .i64 N, .int .i64 made]
  have y0 : ∀ v, Chg No W v → v.cell? ⟨ib, 0, none⟩ = some (.int .i64 id) := fun v hv => ((cW.trans hv).cell (p := ⟨ib, 0, none⟩) (lt_of_cell hi).1 (fun f => f)).trans hi
  have y1 : ∀ v, Chg No W v → v.cell? ⟨w.heap.size + 1 + 1, 0, none⟩ = some (.slice A T.length c) := fun v hv => (r2.keep hv (fun f => f)).cell 0
  have y2 : ∀ v, Chg No W v → v.cell? ⟨w.heap.size + 1 + 1, 1, none⟩ = some (.int .i64 N) := fun v hv => (r2.keep hv (fun f => f)).cell 1
  have y3 : ∀ v, Chg No W v → v.cell? ⟨w.heap.size + 1 + 1, 2, none⟩ = some (.int .i64 made) := fun v hv => (r2.keep hv (fun f => f)).cell 2
  have HR := Lib.hid (And.intro cW (And.intro sW (And.intro r0 (And.intro r1 r2))))
  have HW := Lib.hid hW
  clear h hW r0 r1 r2 cW sW hi
  generalize hn : T.length = n at *
  have HN := Lib.hid hn
  clear hn
  have hpo := posR_none hk
  have sW := HR.out.2.1
  have HQ := Lib.hid (fun V (hV : Chg No W V) => Find06_any _ T S V (HV.out.keep (HR.out.1.trans hV) (fun _ _ f => f)) (by rw [HN.out]; exact hm) N made id)
  rw [hpo] at HQ
  clear hk hpo
  go_enter Tryz.func15, Tryz.ntmps15
  go_wp2_with (first
    | (rw [HW.out])
    | fail)
  refine wp_loop_rounds 2 ?_
  rw [rounds_succ]
  go_wp2_with fail
  refine q_region (C := (Chg No W)) (by kernel_rfl) (by kernel_rfl) ?_ ?_
  · exact (Chg.refl _ _).drew
  repeat
    refine q_step (fun K hK => ?_)
    go_simp
    first
      | ((with_reducible refine hK _ ?_); clear hK K)
      | (refine (if_neg (by simp [undef])).mpr ?_; (with_reducible refine hK _ ?_); clear hK K)
      | (apply Exists.intro
         with_reducible refine ⟨fun v hv => ?_, hK _ ?_⟩
         · first
             | with_reducible exact rfl
             | with_reducible exact ⟨rfl, rfl⟩
             | (go_simp
                first
                  | done
                  | with_reducible exact rfl
                  | with_reducible exact ⟨rfl, rfl⟩
                  | (go_at_call 10; refine (HQ.out _ hv).mono ?_; rintro e w5 ⟨rfl, g5⟩; exact ⟨rfl, hv.trans g5⟩))
         clear hK K)
  refine q_nil ?_
  intro V hV
  have q0 := HR.out.2.2.1.keep hV (fun f => f)
  have q1 := HR.out.2.2.2.1.keep hV (fun f => f)
  obtain ⟨a0, a1, a2, -⟩ := q0.three
  obtain ⟨d0, d1, d2, df⟩ := q1.three
  have H5 := Lib.hid (And.intro q1 (HR.out.1.trans hV))
  clear q0 q1
  go_wp2_with fail
  obtain ⟨z0, z1, z2, -⟩ := (H5.out.1.set3 (.slice A n c) (.int .i64 N) (.int .i64 made)).three
  exact bodyPost_ret (v := .tuple #[.agg #[.slice A n c, .int .i64 N, .int .i64 made], .int .i64 4]) (by simp [results, Tryz.results15, go_sem, z0, z1, z2]) rfl (Ret.mk ⟨_, rfl, Spd.same HV.out (H5.out.2.three (by omega) _ _ _)⟩)

set_option maxRecDepth 100000 in
set_option maxHeartbeats 800000 in
theorem Drop06_some (v : Value) (T : List T8) (S : Nat → Prop) (w : World) (h : R8 w S v T) (hm : T.length ≤ 1048576) (N made : Nat) (id : Int) {ib : Nat} (hi : w.cell? ⟨ib, 0, none⟩ = some (.int .i64 id)) {k : Nat} {t : T8} (hp : posR (T.map (·.1)) id = k) (ht : T[k]? = some t) :
    Calls Tryz.prog 15 #[.agg #[v, .int .i64 N, .int .i64 made], .slice (some ⟨ib, 0, none⟩) 1 1] w (Ret fun u w' => ∃ x, u = .tuple #[x, .int .i64 0] ∧ Spd w S N ((T.map (·.1)).eraseIdx k) made x w') := by
  obtain ⟨A, c, rfl, hnc, hcm, hA0⟩ := h.form
  have HV := Lib.hid h
  obtain ⟨W, hW⟩ : ∃ W, ((w.alloc (.cells #[.slice A T.length c, .int .i64 N, .int .i64 made] 32)).alloc (.cells #[.slice none 0 0, .int .i64 0, .int .i64 0] 32)).alloc (.cells #[.slice A T.length c, .int .i64 N, .int .i64 made] 32) = W := ⟨_, rfl⟩
  have cW : Chg No w W := by rw [← hW]; exact (((Chg.refl _ _).alloc _).alloc _).alloc _
  have sW : W.heap.size = w.heap.size + 1 + 1 + 1 := by rw [← hW]; simp
  have r0 : Row W w.heap.size 32 #[.slice A T.length c, .int .i64 N, .int .i64 made] := by rw [← hW]; exact ((Row.new w _ _).alloc _).alloc _
  have r1 : Row W (w.heap.size + 1) 32 #[.slice none 0 0, .int .i64 0, .int .i64 0] := by rw [← hW]; exact Row.alloc (by simpa using Row.new (w.alloc _) _ _) _
  have r2 : Row W (w.heap.size + 1 + 1) 32 #[.slice A T.length c, .int .i64 N, .int .i64 made] := by rw [← hW]; simpa using Row.new ((w.alloc (.cells #[.slice A T.length c, .int .i64 N, .int .i64 made] 32)).alloc (.cells #[.slice none 0 0, .int .i64 0, .int .i64 0] 32)) 32 #[.slice A T.length c, .int .i64 N, .int .i64 made]
  have y0 : ∀ v, Chg No W v → v.cell? ⟨ib, 0, none⟩ = some (.int .i64 id) := fun v hv => ((cW.trans hv).cell (p := ⟨ib, 0, none⟩) (lt_of_cell hi).1 (fun f => f)).trans hi
  have y1 : ∀ v, Chg No W v → v.cell? ⟨w.heap.size + 1 + 1, 0, none⟩ = some (.slice A T.length c) := fun v hv => (r2.keep hv (fun f => f)).cell 0
  have y2 : ∀ v, Chg No W v → v.cell? ⟨w.heap.size + 1 + 1, 1, none⟩ = some (.int .i64 N) := fun v hv => (r2.keep hv (fun f => f)).cell 1
  have y3 : ∀ v, Chg No W v → v.cell? ⟨w.heap.size + 1 + 1, 2, none⟩ = some (.int .i64 made) := fun v hv => (r2.keep hv (fun f => f)).cell 2
  have HR := Lib.hid (And.intro cW (And.intro sW (And.intro r0 (And.intro r1 r2))))
  have HW := Lib.hid hW
  clear h hW r0 r1 r2 cW sW hi
  generalize hn : T.length = n at *
  have HN := Lib.hid hn
  clear hn
  have sW := HR.out.2.1
  have HQ := Lib.hid (fun V (hV : Chg No W V) => Find06_any _ T S V (HV.out.keep (HR.out.1.trans hV) (fun _ _ f => f)) (by rw [HN.out]; exact hm) N made id)
  rw [hp] at HQ
  have HT := Lib.hid ht
  have hkn : k < n := by rw [← HN.out]; exact (List.getElem?_eq_some_iff.1 ht).1
  have t0 : decide ((k : Int) < 0) = false := decide_eq_false (by omega)
  have u1 : (k : Int) < (n : Int) := by omega
  have u2 : (0 : Int) ≤ (k : Int) := by omega
  have u3 : IntKind.i64.wrap ((k : Int) + 1) = (k : Int) + 1 := IntWalk.i64_in _ (by omega)
  have u4 : (k : Int) + 1 ≤ (n : Int) := by omega
  have u5 : (k : Int) ≤ (n : Int) := by omega
  have u6 : k ≤ n := by omega
  have u7 : k + 1 ≤ n := by omega
  have u8 : k ≤ c := by omega
  have u9 : (k : Int) ≤ (c : Int) := by omega
  obtain ⟨bT, offT, A31, c31, A32, c32, rfl, -, -⟩ := HV.out.elem ht
  have hbl : S bT ∧ bT < w.heap.size := by
    obtain ⟨⟨A', c', e, h1, h2, h3, h4, h5⟩, -⟩ := HV.out
    obtain ⟨b5, o5, e5, h6, h7, -⟩ := h5 (by rw [HN.out]; omega)
    obtain ⟨rfl, -, -⟩ := Value.slice.inj e
    obtain ⟨rfl, -, -⟩ := Addr.mk.inj (Option.some.inj e5)
    exact ⟨h6, h7⟩
  have htl : (T.take k).length = k := by rw [List.length_take, HN.out]; omega
  have hdl : (T.drop (k + 1)).length = n - (k + 1) := by rw [List.length_drop, HN.out]
  clear ht hp hA0
  go_enter Tryz.func15, Tryz.ntmps15
  go_wp2_with (first
    | (rw [HW.out])
    | fail)
  refine wp_loop_rounds 2 ?_
  rw [rounds_succ]
  go_wp2_with fail
  refine q_region (C := (Chg No W)) (by kernel_rfl) (by kernel_rfl) ?_ ?_
  · exact (Chg.refl _ _).drew
  repeat
    refine q_step (fun K hK => ?_)
    go_simp
    first
      | ((with_reducible refine hK _ ?_); clear hK K)
      | (refine (if_neg (by simp [undef])).mpr ?_; (with_reducible refine hK _ ?_); clear hK K)
      | (apply Exists.intro
         with_reducible refine ⟨fun v hv => ?_, hK _ ?_⟩
         · first
             | with_reducible exact rfl
             | with_reducible exact ⟨rfl, rfl⟩
             | (go_simp
                first
                  | done
                  | with_reducible exact rfl
                  | with_reducible exact ⟨rfl, rfl⟩
                  | (go_at_call 10; refine (HQ.out _ hv).mono ?_; rintro e w5 ⟨rfl, g5⟩; exact ⟨rfl, hv.trans g5⟩))
         clear hK K)
  refine q_nil ?_
  intro V hV
  have cwV := HR.out.1.trans hV
  have hVR := HV.out.keep cwV (fun _ _ f => f)
  have hbV : bT < V.heap.size := by have := cwV.size; omega
  obtain ⟨A6, k6, W6, hr6, ho6, cg6, hn6⟩ := Own8.apps (T := []) (T' := T.take k) (Own8.nil V V.heap.size) (by rw [htl, cellsS_take T k (by rw [HN.out]; omega)]; exact Slc.takeN (by have := hVR.1; rw [HN.out] at this; exact this) k u6) (fun x hx => R8.ones hVR x (by rw [cellsS_take T k (by rw [HN.out]; omega)] at hx; exact List.mem_of_mem_take hx)) (Nat.le_refl _) (by simp; omega) 30
  rw [htl] at hr6 ho6 hn6
  rw [List.nil_append] at ho6
  simp only [List.length_nil, Nat.zero_add] at hr6 ho6 hn6
  have c6 : Chg No V W6 := cg6.mono (fun k hk e => by simp [Value.ownBlock] at e)
  have hVR6 := hVR.keep c6 (fun _ _ f => f)
  have hs6 := c6.size
  have q0 := (HR.out.2.2.1.keep hV (fun f => f))
  have q1 := (HR.out.2.2.2.1.keep hV (fun f => f))
  have q2 := (HR.out.2.2.2.2.keep hV (fun f => f))
  obtain ⟨a0, a1, a2, -⟩ := q0.three
  obtain ⟨b0, b1, b2, bf⟩ := q2.three
  obtain ⟨g0, g1, g2, gf⟩ := (q2.keep c6 (fun f => f)).three
  have hqs := q2.lt
  have hrest : ∀ A' c', Slc W6 S 8 (.slice A' (n - (k + 1)) c') (n - (k + 1)) (cellsS (T.drop (k + 1))) → ∃ A7 k7 W7, (Builtin.append_ #[30, 30] 30 #[.slice A6 k k6, .slice A' (n - (k + 1)) c']).run Tryz.prog W6 = .ok (.slice A7 (k + (n - (k + 1))) k7) W7 ∧ Own8 W7 V.heap.size (.slice A7 (k + (n - (k + 1))) k7) (T.eraseIdx k) ∧ Chg No V W7 := by
    intro A' c' hs
    obtain ⟨A7, k7, W7, hr7, ho7, cg7, -⟩ := Own8.apps (T := T.take k) (T' := T.drop (k + 1)) (show Own8 W6 V.heap.size (.slice A6 k k6) (T.take k) from ho6) (by rw [hdl]; exact hs) (fun x hx => R8.ones hVR6 x (by rw [cellsS_drop T (k + 1) (by rw [HN.out]; omega)] at hx; exact List.mem_of_mem_drop hx)) hs6 (by rw [htl, hdl]; omega) 30
    rw [htl, hdl] at hr7 ho7
    refine ⟨A7, k7, W7, hr7, ?_, c6.then cg7 (fun b hb e => by have := own_ge ho6 e; omega)⟩
    rw [List.eraseIdx_eq_take_drop_succ]
    exact ho7
  have HR6 := Lib.hid hr6
  have HRS := Lib.hid hrest
  have H6 := Lib.hid (And.intro hVR6 (And.intro c6 (And.intro q0 (And.intro q1 (And.intro q2 cwV)))))
  clear hVR hr6 ho6 cg6 hn6 c6 hVR6 q0 q1 q2 y0 y1 y2 y3 hrest
  by_cases hcap : c = k + 1
  · have v1 : (k : Int) + 1 ≤ (c : Int) := by omega
    have v2 : ((k : Int) + 1 == (c : Int)) = true := by simp; omega
    have hs7 : Slc W6 S 8 (.slice (some ⟨bT, offT, none⟩) (n - (k + 1)) 0) (n - (k + 1)) (cellsS (T.drop (k + 1))) := by
      have e1 : n - (k + 1) = 0 := by omega
      rw [e1, List.drop_of_length_le (by rw [HN.out]; omega)]
      exact Slc.emptyN _ _ _ _ _ ⟨hbl.1, by omega⟩
    obtain ⟨A7, k7, W7, hr7, ho7, c7⟩ := HRS.out _ _ hs7
    have r0 := H6.out.2.2.1.keep c7 (fun f => f)
    have r1 := H6.out.2.2.2.1.keep c7 (fun f => f)
    have r2 := H6.out.2.2.2.2.1.keep c7 (fun f => f)
    obtain ⟨m0, m1, m2, -⟩ := r0.three
    obtain ⟨o0, o1, o2, of⟩ := r2.three
    obtain ⟨W8, hW8⟩ : ∃ W, ((W7.setCell ⟨w.heap.size + 1 + 1, 0, none⟩ (.slice A7 (k + (n - (k + 1))) k7)).setCell ⟨w.heap.size + 1 + 1, 1, none⟩ (.int .i64 N)).setCell ⟨w.heap.size + 1 + 1, 2, none⟩ (.int .i64 made) = W := ⟨_, rfl⟩
    have c8 : Chg (fun b => b = w.heap.size + 1 + 1) W7 W8 := by rw [← hW8]; exact ((Chg.one _ _ _ _).trans (Chg.one _ _ _ _)).trans (Chg.one _ _ _ _)
    have cw7 : Chg No w W7 := H6.out.2.2.2.2.2.trans c7
    have cw8 : Chg No w W8 := cw7.then c8 (fun b hb e => by have e' : b = w.heap.size + 1 + 1 := e; omega)
    have x2 : Row W8 (w.heap.size + 1 + 1) 32 #[.slice A7 (k + (n - (k + 1))) k7, .int .i64 N, .int .i64 made] := by rw [← hW8]; exact r2.set3 _ _ _
    have x1 := r1.keep c8 (by omega)
    obtain ⟨p0, p1, p2, -⟩ := x2.three
    obtain ⟨d0, d1, d2, df⟩ := x1.three
    have hok : ∀ u ∈ T.eraseIdx k, ok8 W7 (fun b => S b ∧ b < w.heap.size) u := fun u hu => ((HV.out.2 u (List.mem_of_mem_eraseIdx hu)).more (S' := fun b => S b ∧ b < w.heap.size) (fun b hb hS => ⟨hS, hb⟩)).keep cw7 (fun _ _ f => f)
    have hR7 := (ho7.rows hok).keep c8 (fun b hb e => by
      have e' : b = w.heap.size + 1 + 1 := e
      rcases hb with hb | hb
      · omega
      · omega)
    have HR7 := Lib.hid hr7
    have HW8 := Lib.hid hW8
    have H8 := Lib.hid (And.intro hR7 (And.intro x1 cw8))
    clear hr7 ho7 c7 r0 r1 r2 hW8 c8 cw7 cw8 x1 x2 hok hR7 hs7 HRS HW
    go_wp2_with (first
      | (at_builtin; refine wpList_append_run rfl _ _ _ rfl rfl rfl HR6.out ?_; clear HR6)
      | (at_builtin; refine wpList_append_run rfl _ _ _ rfl rfl rfl HR7.out ?_)
      | (rw [HW8.out])
      | fail)
    rw [rounds_succ]
    go_wp2_with fail
    have r3 := H8.out.2.1.set3 (.slice A7 (k + (n - (k + 1))) k7) (.int .i64 N) (.int .i64 made)
    obtain ⟨z0, z1, z2, -⟩ := r3.three
    have c9 : Chg (fun b => b = w.heap.size + 1) W8 (((W8.setCell ⟨w.heap.size + 1, 0, none⟩ (.slice A7 (k + (n - (k + 1))) k7)).setCell ⟨w.heap.size + 1, 1, none⟩ (.int .i64 N)).setCell ⟨w.heap.size + 1, 2, none⟩ (.int .i64 made)) := ((Chg.one _ _ _ _).trans (Chg.one _ _ _ _)).trans (Chg.one _ _ _ _)
    have hR9 := H8.out.1.keep c9 (fun b hb e => by
      have e' : b = w.heap.size + 1 := e
      rcases hb with hb | hb
      · omega
      · omega)
    refine bodyPost_ret (v := .tuple #[.agg #[.slice A7 (k + (n - (k + 1))) k7, .int .i64 N, .int .i64 made], .int .i64 0]) (by simp [results, Tryz.results15, go_sem, z0, z1, z2]) rfl (Ret.mk ⟨_, rfl, _, _, rfl, ?_, hR9.more (fun b _ hb => by
      rcases hb with hb | hb
      · exact .inl hb.1
      · exact .inr (by omega)), (H8.out.2.2.three (by omega) _ _ _)⟩)
    rw [← map_erase]
  · have v1 : (k : Int) + 1 ≤ (c : Int) := by omega
    have v2 : ((k : Int) + 1 == (c : Int)) = false := beq_eq_false_iff_ne.2 (by omega)
    have hs7 : Slc W6 S 8 (.slice (some ⟨bT, offT + (k + 1) * 8, none⟩) (n - (k + 1)) (c - (k + 1))) (n - (k + 1)) (cellsS (T.drop (k + 1))) := by
      rw [cellsS_drop T (k + 1) (by rw [HN.out]; omega)]
      exact Slc.dropN (by have := H6.out.1.1; rw [HN.out] at this; exact this) (k + 1) u7 ⟨hbl.1, by omega⟩
    obtain ⟨A7, k7, W7, hr7, ho7, c7⟩ := HRS.out _ _ hs7
    have r0 := H6.out.2.2.1.keep c7 (fun f => f)
    have r1 := H6.out.2.2.2.1.keep c7 (fun f => f)
    have r2 := H6.out.2.2.2.2.1.keep c7 (fun f => f)
    obtain ⟨m0, m1, m2, -⟩ := r0.three
    obtain ⟨o0, o1, o2, of⟩ := r2.three
    obtain ⟨W8, hW8⟩ : ∃ W, ((W7.setCell ⟨w.heap.size + 1 + 1, 0, none⟩ (.slice A7 (k + (n - (k + 1))) k7)).setCell ⟨w.heap.size + 1 + 1, 1, none⟩ (.int .i64 N)).setCell ⟨w.heap.size + 1 + 1, 2, none⟩ (.int .i64 made) = W := ⟨_, rfl⟩
    have c8 : Chg (fun b => b = w.heap.size + 1 + 1) W7 W8 := by rw [← hW8]; exact ((Chg.one _ _ _ _).trans (Chg.one _ _ _ _)).trans (Chg.one _ _ _ _)
    have cw7 : Chg No w W7 := H6.out.2.2.2.2.2.trans c7
    have cw8 : Chg No w W8 := cw7.then c8 (fun b hb e => by have e' : b = w.heap.size + 1 + 1 := e; omega)
    have x2 : Row W8 (w.heap.size + 1 + 1) 32 #[.slice A7 (k + (n - (k + 1))) k7, .int .i64 N, .int .i64 made] := by rw [← hW8]; exact r2.set3 _ _ _
    have x1 := r1.keep c8 (by omega)
    obtain ⟨p0, p1, p2, -⟩ := x2.three
    obtain ⟨d0, d1, d2, df⟩ := x1.three
    have hok : ∀ u ∈ T.eraseIdx k, ok8 W7 (fun b => S b ∧ b < w.heap.size) u := fun u hu => ((HV.out.2 u (List.mem_of_mem_eraseIdx hu)).more (S' := fun b => S b ∧ b < w.heap.size) (fun b hb hS => ⟨hS, hb⟩)).keep cw7 (fun _ _ f => f)
    have hR7 := (ho7.rows hok).keep c8 (fun b hb e => by
      have e' : b = w.heap.size + 1 + 1 := e
      rcases hb with hb | hb
      · omega
      · omega)
    have HR7 := Lib.hid hr7
    have HW8 := Lib.hid hW8
    have H8 := Lib.hid (And.intro hR7 (And.intro x1 cw8))
    clear hr7 ho7 c7 r0 r1 r2 hW8 c8 cw7 cw8 x1 x2 hok hR7 hs7 HRS HW
    go_wp2_with (first
      | (at_builtin; refine wpList_append_run rfl _ _ _ rfl rfl rfl HR6.out ?_; clear HR6)
      | (at_builtin; refine wpList_append_run rfl _ _ _ rfl rfl rfl HR7.out ?_)
      | (rw [HW8.out])
      | fail)
    rw [rounds_succ]
    go_wp2_with fail
    have r3 := H8.out.2.1.set3 (.slice A7 (k + (n - (k + 1))) k7) (.int .i64 N) (.int .i64 made)
    obtain ⟨z0, z1, z2, -⟩ := r3.three
    have c9 : Chg (fun b => b = w.heap.size + 1) W8 (((W8.setCell ⟨w.heap.size + 1, 0, none⟩ (.slice A7 (k + (n - (k + 1))) k7)).setCell ⟨w.heap.size + 1, 1, none⟩ (.int .i64 N)).setCell ⟨w.heap.size + 1, 2, none⟩ (.int .i64 made)) := ((Chg.one _ _ _ _).trans (Chg.one _ _ _ _)).trans (Chg.one _ _ _ _)
    have hR9 := H8.out.1.keep c9 (fun b hb e => by
      have e' : b = w.heap.size + 1 := e
      rcases hb with hb | hb
      · omega
      · omega)
    refine bodyPost_ret (v := .tuple #[.agg #[.slice A7 (k + (n - (k + 1))) k7, .int .i64 N, .int .i64 made], .int .i64 0]) (by simp [results, Tryz.results15, go_sem, z0, z1, z2]) rfl (Ret.mk ⟨_, rfl, _, _, rfl, ?_, hR9.more (fun b _ hb => by
      rcases hb with hb | hb
      · exact .inl hb.1
      · exact .inr (by omega)), (H8.out.2.2.three (by omega) _ _ _)⟩)
    rw [← map_erase]

/-- the rows, read: in every world that keeps them -/
theorem R8.base {w : World} {S : Nat → Prop} {A : Option Addr} {n c : Nat} {T : List T8} (h : R8 w S (.slice A n c) T) (h0 : 0 < T.length) : ∃ b off, A = some ⟨b, off, none⟩ ∧ ∀ (i : Nat) (t : T8), T[i]? = some t → (∃ A1 c1 A2 c2, t.2.1 = .slice A1 t.1.o.W.length c1 ∧ t.2.2 = .slice A2 t.1.o.B.length c2) ∧ ∀ W, Chg No w W → ObjR W S (.agg (cells2 t.1.o t.2.1 t.2.2)) t.1.o ∧ In64 t.1.id ∧
    W.cell? ⟨b, off + i * 8, none⟩ = some (.int .i64 t.1.id) ∧ W.cell? ⟨b, off + i * 8 + 1, none⟩ = some (.int .i64 t.1.o.cls) ∧ W.cell? ⟨b, off + i * 8 + 1 + 1, none⟩ = some (.int .i64 t.1.o.kind) ∧ W.cell? ⟨b, off + i * 8 + 1 + 2, none⟩ = some t.2.1 ∧ W.cell? ⟨b, off + i * 8 + 1 + 3, none⟩ = some t.2.2 := by
  obtain ⟨t0, ht0⟩ : ∃ t, T[0]? = some t := ⟨_, List.getElem?_eq_getElem h0⟩
  obtain ⟨b, off, -, -, -, -, rfl, -⟩ := h.elem ht0
  refine ⟨b, off, rfl, fun i t ht => ?_⟩
  obtain ⟨b', off', A1, c1, A2, c2, e, -, e1, e2, hc⟩ := h.elem ht
  obtain ⟨rfl, rfl⟩ : b = b' ∧ off = off' := by simpa using e
  refine ⟨⟨A1, c1, A2, c2, e1, e2⟩, fun W hW => ?_⟩
  obtain ⟨u0, u1, u2, u3, u4, u5, u6, -⟩ := hc W hW
  exact ⟨u0, u1, u2, u3, u4, u5, u6⟩
theorem take_row {L : List Rw} {i : Nat} {r : Rw} (h : L[i]? = some r) : L.take (i + 1) = L.take i ++ [r] := by rw [List.take_add_one, h]; rfl
theorem near_in64 {L : List Rw} {R : List Int} {N made : Nat} (G : Good N L made) {k : Int} (h : NearR L R k) : In64 k := by
  have ht := h.isThere
  unfold thereR at ht
  obtain ⟨r, hr⟩ := Option.isSome_iff_exists.1 ht
  obtain ⟨h1, h2⟩ := lk_mem hr
  exact G.ids k (List.mem_map.2 ⟨r, h1, h2⟩)
theorem OwnInts.ints {w : World} {base : Nat} {v : Value} {l : List Int} (h : OwnInts w base v l) (hw : ∀ x ∈ l, In64 x) : IntS w (fun b => base ≤ b) v l := IntS.of_own h hw
theorem OwnInts.below {w : World} {base : Nat} {v : Value} {l : List Int} (h : OwnInts w base v l) {b : Nat} (hb : v.ownBlock = some b) : b < w.heap.size := by
  obtain ⟨cs, hrw⟩ := own_block h hb
  exact hrw.lt
theorem refs_in64 (o : O) : ∀ x ∈ refsO o, In64 x := by
  intro x hx
  unfold refsO at hx
  obtain ⟨y, -, hy⟩ := List.mem_filterMap.1 hx
  unfold idOf at hy
  split at hy
  · next h =>
    have h2 : y % 2 = 0 ∧ 2 ≤ y ∧ y ≤ 2147483646 := of_decide_eq_true h
    obtain rfl := Option.some.inj hy
    unfold In64
    omega
  · cases hy
theorem unsN_nil (L : List Rw) : unsN L [] ≤ L.length := unseen_le L _

set_option maxRecDepth 100000 in
set_option maxHeartbeats 800000 in
theorem Near06_any (v rv : Value) (T : List T8) (R : List Int) (S Sr : Nat → Prop) (w : World) (h : R8 w S v T) (N made : Nat) (G : Good N (T.map (·.1)) made) (hr : IntS w Sr rv R) (hR : R.length ≤ 100000000) (a m : Int) :
    Calls Tryz.prog 24 #[.agg #[v, .int .i64 a, .int .i64 m], rv] w (Ret fun u w' => OwnInts w' w.heap.size u (nearL (T.map (·.1)) R) ∧ Chg No w w') := by
  obtain ⟨A, c, rfl, -⟩ := h.form
  obtain ⟨Ar, cr, rfl, -⟩ := hr.form
  obtain ⟨L, hL⟩ : ∃ L, T.map (·.1) = L := ⟨_, rfl⟩
  rw [hL] at G ⊢
  have hm := G.len
  have HX := Lib.hid (And.intro h hr)
  have hTL : T.length = L.length := by rw [← hL, List.length_map]
  have HG := Lib.hid (And.intro G (fun (i : Nat) (t : T8) (ht : T[i]? = some t) => show L[i]? = some t.1 by rw [← hL, List.getElem?_map, ht]; rfl))
  rw [hTL]
  generalize hn : L.length = n at *
  have HN := Lib.hid (And.intro hn hTL)
  have hun := unsN_nil L
  rw [hn] at hun
  clear h hr hL hn hTL G
  go_enter Tryz.func24, Tryz.ntmps24
  go_wp2_with fail
  go_loopg [5, 6] (n + 1) (fun j v5 v6 wr => ∃ (s : List Int) (b : Bool), v6 = .bool b ∧ OwnInts wr (w.heap.size + 1) v5 s ∧ (∀ k ∈ s, NearR L R k) ∧ s.length + unsN L s ≤ n ∧ unsN L s + b.toNat ≤ j ∧ (b = false → ∀ r ∈ L, r.id ∈ s ∨ namedB L R s r.id = false) ∧ Row wr w.heap.size 32 #[.slice A n c, .int .i64 a, .int .i64 m] ∧ Chg No w wr)
  case atStart => exact ⟨[], true, rfl, World.ownsRow_nil _ _ _ _, by simp, by simpa using hun, by simp; exact hun, by simp, Row.new w _ _, (Chg.refl _ _).alloc _⟩
  case round =>
    obtain ⟨s, b, rfl, own, hnear, hlen, hj, hcl, row, cw⟩ := hrel
    obtain ⟨A5, c5, rfl⟩ := own.form
    cases b with
    | false =>
      have hfin := near_closed HG.out.1.rise hnear (hcl rfl)
      have hs64' : ∀ x ∈ s, In64 x := fun x hx => near_in64 HG.out.1 (hnear x hx)
      have HF := Lib.hid (And.intro own (And.intro row (And.intro cw hfin)))
      generalize hsl : s.length = q at *
      have HQ := Lib.hid hsl
      clear own hnear hcl row cw hfin hsl
      have hs64 : ∀ x ∈ s, In64 x := hs64'
      clear hs64'
      have HS := Lib.hid hs64
      clear hs64
      obtain ⟨z, hz⟩ : ∃ z, wr.heap.size = z := ⟨_, rfl⟩
      have hzw : w.heap.size < z := by have := HF.out.2.1.lt; omega
      have hlt : ∀ b, (Value.slice A5 q c5).ownBlock = some b → b < z := fun b hb => by rw [← hz]; exact HF.out.1.below hb
      go_wp2_with fail
      go_loopg [10, 11] n (fun j v10 v11 wr => ∃ i : Nat, v11 = .int .i64 (i : Int) ∧ i ≤ n ∧ n - i ≤ j ∧ OwnInts wr z v10 (((L.take i).map Rw.id).filter fun k => decide (k ∈ s)) ∧ OwnInts wr (w.heap.size + 1) (.slice A5 q c5) s ∧ Row wr w.heap.size 32 #[.slice A n c, .int .i64 a, .int .i64 m] ∧ Chg No w wr ∧ z ≤ wr.heap.size)
      case atStart => exact ⟨0, rfl, by omega, by omega, World.ownsRow_nil _ _ _ _, HF.out.1, HF.out.2.1, HF.out.2.2.1, by omega⟩
      case round =>
        obtain ⟨i, rfl, i1, i2, own, hsw, row, cw, hzr⟩ := hrel
        obtain ⟨z0, z1, z2, -⟩ := row.three
        obtain ⟨A10, c10, rfl⟩ := own.form
        by_cases hi : i < n
        · have t1 : decide ((i : Int) < (n : Int)) = true := decide_eq_true (by omega)
          have t0 : (i : Int) < (n : Int) := by omega
          obtain ⟨t, ht⟩ : ∃ t, T[i]? = some t := ⟨_, List.getElem?_eq_getElem (by rw [HN.out.2]; omega)⟩
          obtain ⟨bT, offT, rfl, hat⟩ := HX.out.1.base (by rw [HN.out.2]; omega)
          obtain ⟨-, hc⟩ := hat i t ht
          obtain ⟨-, hid64, d0, -⟩ := hc wr cw
          have hLi := HG.out.2 i t ht
          have hsn : ((L.take (i + 1)).map Rw.id).filter (fun k => decide (k ∈ s)) = ((L.take i).map Rw.id).filter (fun k => decide (k ∈ s)) ++ (if t.1.id ∈ s then [t.1.id] else []) := by
            rw [take_row hLi, List.map_append, List.filter_append]
            by_cases hh : t.1.id ∈ s <;> simp [hh]
          have hlen2 : (((L.take i).map Rw.id).filter fun k => decide (k ∈ s)).length ≤ i := Nat.le_trans (List.length_filter_le _ _) (by simp; omega)
          have HIN := In06_any _ s _ wr (hsw.ints HS.out) (by rw [HQ.out]; omega) t.1.id
          generalize hidq : t.1.id = id at *
          have HID := Lib.hid hidq
          clear hidq
          have HI := Lib.hid HIN
          by_cases hmem : id ∈ s
          · rw [if_pos hmem] at hsn
            rw [decide_eq_true hmem] at HI
            have HC := Lib.hid (And.intro hsn (And.intro own (And.intro hsw (And.intro row (And.intro cw hat)))))
            have HIT := Lib.hid ht
            clear hc hat ht hLi own hsw row cw HIN hsn hmem
            generalize hk10 : (((L.take i).map Rw.id).filter fun k => decide (k ∈ s)).length = k10 at *
            have HK10 := Lib.hid hk10
            clear hk10
            go_wp2_with (first
              | (go_at_call 47
                 refine HI.out.mono ?_
                 rintro e w5 ⟨rfl, g5⟩
                 have row5 := HC.out.2.2.2.1.keep g5 (fun f => f)
                 obtain ⟨y0, y1, y2, -⟩ := row5.three
                 obtain ⟨-, hc5⟩ := HC.out.2.2.2.2.2 i t HIT.out
                 obtain ⟨-, -, e0, -⟩ := hc5 w5 (HC.out.2.2.2.2.1.trans g5)
                 rw [HID.out] at e0
                 obtain ⟨A11, c11, w6, hr6, ho6, cg6⟩ := app_one (own_keep (F := No) HC.out.2.1 g5 (fun _ _ f => f)) (by rw [HK10.out]; omega) (by have := g5.size; omega) id 23
                 rw [HK10.out] at hr6 ho6
                 have HR6 := Lib.hid hr6
                 have H6 := Lib.hid (And.intro ho6 (And.intro (own_keep (own_keep (F := No) HC.out.2.2.1 g5 (fun _ _ f => f)) cg6 (fun b hb e => by have := hlt b hb; omega)) (And.intro (row5.keep cg6 (by omega)) (And.intro ((HC.out.2.2.2.2.1.trans g5).then cg6 (fun b hb e => by omega)) (Nat.le_trans hzr (Nat.le_trans g5.size cg6.size))))))
                 clear g5 row5 hc5 hr6 ho6 cg6)
              | (at_builtin; refine wpList_append_run rfl _ _ _ rfl rfl rfl HR6.out ?_)
              | fail)
            go_roundg (n - (i + 1))
            case measure => omega
            case rel => exact ⟨i + 1, by go_num, by omega, by omega, by rw [HC.out.1]; exact H6.out.1, H6.out.2⟩
          · rw [if_neg hmem, List.append_nil] at hsn
            rw [decide_eq_false hmem] at HI
            have HC := Lib.hid (And.intro hsn (And.intro own (And.intro hsw (And.intro row cw))))
            clear hc hat ht hLi own hsw row cw HIN hsn hmem
            generalize hk10 : (((L.take i).map Rw.id).filter fun k => decide (k ∈ s)).length = k10 at *
            have HK10 := Lib.hid hk10
            clear hk10
            go_wp2_with (first
              | (go_at_call 47
                 refine HI.out.mono ?_
                 rintro e w5 ⟨rfl, g5⟩
                 have H5 := Lib.hid g5
                 clear g5)
              | fail)
            go_roundg (n - (i + 1))
            case measure => omega
            case rel => exact ⟨i + 1, by go_num, by omega, by omega, by rw [HC.out.1]; have := own_keep (F := No) HC.out.2.1 H5.out (fun _ _ f => f); unfold OwnInts; rw [HK10.out]; unfold OwnInts at this; rw [HK10.out] at this; exact this, own_keep (F := No) HC.out.2.2.1 H5.out (fun _ _ f => f), HC.out.2.2.2.1.keep H5.out (fun f => f), HC.out.2.2.2.2.trans H5.out, Nat.le_trans hzr H5.out.size⟩
        · obtain rfl : i = n := by omega
          have t1 : decide ((i : Int) < (i : Int)) = false := decide_eq_false (by omega)
          rw [List.take_of_length_le (by rw [HN.out.1]; exact Nat.le_refl _), ← HF.out.2.2.2] at own ⊢
          have HC := Lib.hid (And.intro (show OwnInts wr w.heap.size (.slice A10 (nearL L R).length c10) (nearL L R) from own_base own (by omega)) cw)
          clear own cw row hsw
          generalize (nearL L R).length = k10 at *
          go_wp2_with fail
          go_ret
          exact Ret.mk HC.out
    | true =>
      have HP := Lib.hid (And.intro own (And.intro hnear (And.intro row cw)))
      generalize hsl : s.length = q at *
      have HQ := Lib.hid hsl
      clear own hnear hcl row cw hsl
      obtain ⟨u0, hu0⟩ : ∃ x, unsN L s = x := ⟨_, rfl⟩
      rw [hu0] at hj hlen
      have hj1 : u0 + 1 ≤ gk := by simpa using hj
      have HU0 := Lib.hid hu0
      clear hj hu0
      go_wp2_with fail
      go_loopg [5, 6, 7] n (fun j v5 v6 v7 wr => ∃ (i : Nat) (s' : List Int) (b : Bool), v7 = .int .i64 (i : Int) ∧ v6 = .bool b ∧ OwnInts wr (w.heap.size + 1) v5 s' ∧ i ≤ n ∧ n - i ≤ j ∧ (∀ k ∈ s', NearR L R k) ∧ s'.length + unsN L s' ≤ n ∧ (b = false → s' = s ∧ ∀ r ∈ L.take i, r.id ∈ s ∨ namedB L R s r.id = false) ∧ (b = true → unsN L s' < u0) ∧ Row wr w.heap.size 32 #[.slice A n c, .int .i64 a, .int .i64 m] ∧ Chg No w wr)
      case atStart => exact ⟨0, s, false, rfl, rfl, HP.out.1, by omega, by omega, HP.out.2.1, by rw [HQ.out, HU0.out]; exact hlen, fun _ => ⟨rfl, by simp⟩, (fun e => by cases e), HP.out.2.2.1, HP.out.2.2.2⟩
      case round =>
        obtain ⟨i, s', b, rfl, rfl, own, i1, i2, hnear, hlen', hcl, hdn, row, cw⟩ := hrel
        obtain ⟨z0, z1, z2, -⟩ := row.three
        obtain ⟨A7, c7, rfl⟩ := own.form
        by_cases hi : i < n
        · have t1 : decide ((i : Int) < (n : Int)) = true := decide_eq_true (by omega)
          have t0 : (i : Int) < (n : Int) := by omega
          obtain ⟨t, ht⟩ : ∃ t, T[i]? = some t := ⟨_, List.getElem?_eq_getElem (by rw [HN.out.2]; omega)⟩
          obtain ⟨bT, offT, rfl, hat⟩ := HX.out.1.base (by rw [HN.out.2]; omega)
          obtain ⟨-, hc⟩ := hat i t ht
          have hLi := HG.out.2 i t ht
          have hs64 : ∀ x ∈ s', In64 x := fun x hx => near_in64 HG.out.1 (hnear x hx)
          have hidr : ∀ v, Chg No w v → v.cell? ⟨bT, offT + i * 8, none⟩ = some (.int .i64 t.1.id) := fun v hv => (hc v hv).2.2.1
          have hidL : t.1.id ∈ L.map Rw.id := List.mem_map.2 ⟨t.1, List.mem_of_getElem? hLi, rfl⟩
          have htk := take_row hLi
          have hun2 : t.1.id ∉ s' → unsN L (s' ++ [t.1.id]) < unsN L s' := fun hh => unsN_lt (List.mem_of_getElem? hLi) hh
          obtain ⟨id, hid⟩ : ∃ id, t.1.id = id := ⟨_, rfl⟩
          rw [hid] at hidr hidL hun2
          have HID := Lib.hid (And.intro hid (And.intro htk (And.intro hidL hun2)))
          have HAT := Lib.hid hat
          have HS := Lib.hid hs64
          have d0 := hidr wr cw
          have HIDR := Lib.hid hidr
          have HC := Lib.hid (And.intro own (And.intro hnear (And.intro hlen' (And.intro hcl (And.intro hdn (And.intro row cw))))))
          have HIN := In06_any _ s' _ wr (own.ints hs64) (by omega) id
          generalize hsl' : s'.length = q' at *
          have HQ' := Lib.hid hsl'
          clear hsl' hcl hdn row cw own hnear hc hat hLi hs64 hidr hid ht hidL htk hun2
          by_cases hmem : id ∈ s'
          · rw [decide_eq_true hmem] at HIN
            have HI := Lib.hid HIN
            have HM := Lib.hid hmem
            clear HIN hmem
            go_wp2_with (first
              | (go_at_call 47
                 refine HI.out.mono ?_
                 rintro e w5 ⟨rfl, g5⟩
                 have H5 := Lib.hid g5
                 clear g5)
              | fail)
            go_roundg (n - (i + 1))
            case measure => omega
            case rel =>
              obtain ⟨own, hnear, hlen', hcl, hdn, row, cw⟩ := HC.out
              refine ⟨i + 1, s', b, by go_num, rfl, ?_, by omega, by omega, hnear, by rw [HQ'.out]; exact hlen', fun hb => ⟨(hcl hb).1, fun r hr => ?_⟩, hdn, row.keep H5.out (fun f => f), cw.trans H5.out⟩
              · have := own_keep (F := No) own H5.out (fun _ _ f => f)
                unfold OwnInts
                rw [HQ'.out] at this ⊢
                exact this
              · rw [HID.out.2.1] at hr
                rcases List.mem_append.1 hr with h1 | h1
                · exact (hcl hb).2 r h1
                · rw [List.mem_singleton.1 h1, HID.out.1, ← (hcl hb).1]
                  exact .inl HM.out
          · rw [decide_eq_false hmem] at HIN
            have HI := Lib.hid HIN
            have HM := Lib.hid hmem
            obtain ⟨br, hbr⟩ : ∃ br, decide (id ∈ R) = br := ⟨_, rfl⟩
            have HBR := Lib.hid hbr
            clear HIN hmem hbr
            have tok : True := trivial
            go_wp2_with (first
              | (go_at_call 47
                 have _t := tok
                 clear tok
                 refine HI.out.mono ?_
                 rintro e w5 ⟨rfl, g5⟩
                 have row5 := HC.out.2.2.2.2.2.1.keep g5 (fun f => f)
                 obtain ⟨y0, y1, y2, -⟩ := row5.three
                 have e0 := HIDR.out w5 (HC.out.2.2.2.2.2.2.trans g5)
                 have H5 := Lib.hid (And.intro row5 g5)
                 clear g5 row5)
              | (go_at_call 47
                 refine (In06_any _ R _ _ (HX.out.2.keep (HC.out.2.2.2.2.2.2.trans H5.out.2) (fun _ _ f => f)) hR id).mono ?_
                 rw [HBR.out]
                 rintro e w6 ⟨rfl, g6⟩
                 have g56 := H5.out.2.trans g6
                 have own6 : OwnInts w6 (w.heap.size + 1) (.slice A7 q' c7) s' := own_keep (F := No) HC.out.1 g56 (fun _ _ f => f)
                 have H6 := Lib.hid (And.intro own6 (And.intro (HC.out.2.2.2.2.2.1.keep g56 (fun f => f)) (HC.out.2.2.2.2.2.2.trans g56)))
                 clear g6 g56 own6)
              | fail)
            clear y0 y1 y2 e0 z0 z1 z2 d0
            go_loopg [8, 9] n (fun j v8 v9 wr => ∃ (k : Nat) (nb : Bool), v9 = .int .i64 (k : Int) ∧ v8 = .bool nb ∧ k ≤ n ∧ n - k ≤ j ∧ nb = (br || (L.take k).any fun r => decide (r.id ∈ s') && decide (id ∈ refsO r.o)) ∧ OwnInts wr (w.heap.size + 1) (.slice A7 q' c7) s' ∧ Row wr w.heap.size 32 #[.slice (some ⟨bT, offT, none⟩) n c, .int .i64 a, .int .i64 m] ∧ Chg No w wr)
            case atStart => exact ⟨0, br, rfl, rfl, by omega, by omega, by simp, H6.out⟩
            case round =>
              obtain ⟨k, nb, rfl, rfl, k1, k2, hnb, own, row, cw⟩ := hrel
              have y0 : ∀ v, Chg No wr v → v.cell? ⟨w.heap.size, 0, none⟩ = some (.slice (some ⟨bT, offT, none⟩) n c) := fun v hv => (row.keep hv (fun f => f)).cell 0
              have x0 := y0 wr (Chg.refl _ _)
              by_cases hk : k < n
              · have w1 : decide ((k : Int) < (n : Int)) = true := decide_eq_true (by omega)
                have w0 : (k : Int) < (n : Int) := by omega
                obtain ⟨tk, htk⟩ : ∃ t, T[k]? = some t := ⟨_, List.getElem?_eq_getElem (by rw [HN.out.2]; omega)⟩
                obtain ⟨⟨A21, c21, A22, c22, e21, e22⟩, hc⟩ := HAT.out k tk htk
                have hLk := HG.out.2 k tk htk
                have hok := okB_cases (HG.out.1.ok tk.1 (List.mem_of_getElem? hLk))
                have y1 : ∀ v, Chg No wr v → v.cell? ⟨bT, offT + i * 8, none⟩ = some (.int .i64 id) := fun v hv => HIDR.out v (cw.trans hv)
                have y2 : ∀ v, Chg No wr v → v.cell? ⟨bT, offT + k * 8, none⟩ = some (.int .i64 tk.1.id) ∧ v.cell? ⟨bT, offT + k * 8 + 1, none⟩ = some (.int .i64 tk.1.o.cls) ∧ v.cell? ⟨bT, offT + k * 8 + 1 + 1, none⟩ = some (.int .i64 tk.1.o.kind) ∧ v.cell? ⟨bT, offT + k * 8 + 1 + 2, none⟩ = some (.slice A21 tk.1.o.W.length c21) ∧ v.cell? ⟨bT, offT + k * 8 + 1 + 3, none⟩ = some (.slice A22 tk.1.o.B.length c22) := fun v hv => by
                  obtain ⟨-, -, u0, u1, u2, u3, u4⟩ := hc v (cw.trans hv)
                  rw [e21] at u3
                  rw [e22] at u4
                  exact ⟨u0, u1, u2, u3, u4⟩
                have hobj : ∀ v, Chg No wr v → ObjR v S (.agg #[.int .i64 tk.1.o.cls, .int .i64 tk.1.o.kind, .slice A21 tk.1.o.W.length c21, .slice A22 tk.1.o.B.length c22]) tk.1.o := fun v hv => by
                  have := (hc v (cw.trans hv)).1
                  rw [e21, e22] at this
                  exact this
                have hsn := named_part (s := s') (k := id) hLk br
                rw [← hnb] at hsn
                have hWl : tk.1.o.W.length ≤ 1000000 := by omega
                have hrl : (refsO tk.1.o).length ≤ 1001 := Nat.le_trans (fm_len _) (by simp; omega)
                have HO := Lib.hid (And.intro hobj (And.intro hWl (And.intro hrl hsn)))
                have HW := Lib.hid (And.intro own (And.intro row cw))
                have HIS := Lib.hid (fun V (hV : Chg No wr V) => In06_any _ s' _ V (OwnInts.ints (show OwnInts V (w.heap.size + 1) (.slice A7 q' c7) s' from own_keep (F := No) own hV (fun _ _ f => f)) HS.out) (by rw [HQ'.out]; omega) tk.1.id)
                obtain ⟨g1, hg1⟩ : ∃ x, decide (tk.1.id ∈ s') = x := ⟨_, rfl⟩
                obtain ⟨g2, hg2⟩ : ∃ x, decide (id ∈ refsO tk.1.o) = x := ⟨_, rfl⟩
                have HGG := Lib.hid (And.intro hg1 hg2)
                clear hobj hWl hrl hsn hok hnb own row cw hc e21 e22 htk hLk hg1 hg2
                cases nb with
                | true =>
                  go_wp2_with fail
                  refine q_region (C := (Chg No wr)) (by kernel_rfl) (by kernel_rfl) ?_ ?_
                  · exact (Chg.refl _ _).drew
                  repeat
                    refine q_step (fun K hK => ?_)
                    go_simp
                    first
                      | ((with_reducible refine hK _ ?_); clear hK K)
                      | (refine (if_neg (by simp [undef])).mpr ?_; (with_reducible refine hK _ ?_); clear hK K)
                      | (apply Exists.intro
                         with_reducible refine ⟨fun v hv => ?_, hK _ ?_⟩
                         · first
                             | with_reducible exact rfl
                             | with_reducible exact ⟨rfl, rfl⟩
                             | (go_simp
                                first
                                  | done
                                  | with_reducible exact rfl
                                  | with_reducible exact ⟨rfl, rfl⟩
                                  | fail)
                         clear hK K)
                  refine q_nil ?_
                  intro V hV
                  go_wp2_with fail
                  go_roundg (n - (k + 1))
                  case measure => omega
                  case rel => exact ⟨k + 1, true, by go_num, rfl, by omega, by omega, by rw [HO.out.2.2.2]; rfl, by have := own_keep (F := No) HW.out.1 hV (fun _ _ f => f); unfold OwnInts; rw [HQ'.out] at this ⊢; exact this, HW.out.2.1.keep hV (fun f => f), HW.out.2.2.trans hV⟩
                | false =>
                  cases g1 with
                  | false =>
                    go_wp2_with fail
                    refine q_region (C := (Chg No wr)) (by kernel_rfl) (by kernel_rfl) ?_ ?_
                    · exact (Chg.refl _ _).drew
                    repeat
                      refine q_step (fun K hK => ?_)
                      go_simp
                      first
                        | ((with_reducible refine hK _ ?_); clear hK K)
                        | (refine (if_neg (by simp [undef])).mpr ?_; (with_reducible refine hK _ ?_); clear hK K)
                        | (apply Exists.intro
                           with_reducible refine ⟨fun v hv => ?_, hK _ ?_⟩
                           · first
                               | with_reducible exact rfl
                               | with_reducible exact ⟨rfl, rfl⟩
                               | (go_simp
                                  first
                                    | done
                                    | with_reducible exact rfl
                                    | with_reducible exact ⟨rfl, rfl⟩
                                    | (go_at_call 47; refine (HIS.out _ hv).mono ?_; rw [HGG.out.1]; rintro e w7 ⟨rfl, g7⟩; exact ⟨rfl, hv.trans g7⟩))
                           clear hK K)
                    refine q_nil ?_
                    intro V hV
                    go_wp2_with fail
                    go_roundg (n - (k + 1))
                    case measure => omega
                    case rel => exact ⟨k + 1, false, by go_num, rfl, by omega, by omega, by rw [HO.out.2.2.2, HGG.out.1]; rfl, by have := own_keep (F := No) HW.out.1 hV (fun _ _ f => f); unfold OwnInts; rw [HQ'.out] at this ⊢; exact this, HW.out.2.1.keep hV (fun f => f), HW.out.2.2.trans hV⟩
                  | true =>
                    go_wp2_with fail
                    have tok : True := trivial
                    go_region_held3 (fun w' => Chg No wr w') (repeat (with_reducible first | assumption | exact Chg.refl _ _ | refine Chg.drew ?_))
                      (first
                        | (go_at_call 47
                           have _t := tok
                           clear tok
                           refine (Calls.heldC (F := No) (W := wr) (by assumption) (HIS.out _ (by assumption))).mono ?_
                           rw [HGG.out.1]
                           rintro e w7 ⟨⟨rfl, g7⟩, hh⟩
                           have hC7 : Chg No wr w7 := hh.trans g7
                           clear g7)
                        | (go_at_call 48
                           refine (Calls.heldC (F := No) (W := wr) (by assumption) (Refs05_any _ tk.1.o _ _ (HO.out.1 _ (by assumption)) HO.out.2.1)).mono ?_
                           rintro e w8 ⟨⟨v8, rfl, ho8, g8⟩, hh⟩
                           obtain ⟨A8, c8, rfl⟩ := ho8.form
                           have hC8 : Chg No wr w8 := hh.trans g8
                           have HR8 := Lib.hid ho8
                           clear g8 ho8)
                        | (go_at_call 47
                           refine (Calls.heldC (F := No) (W := wr) (by assumption) (In06_any _ (refsO tk.1.o) _ _ (OwnInts.ints HR8.out (refs_in64 _)) (by have := HO.out.2.2.1; omega) id)).mono ?_
                           rw [HGG.out.2]
                           rintro e w9 ⟨⟨rfl, g9⟩, hh⟩
                           have hC9 : Chg No wr w9 := hh.trans g9
                           clear g9)
                        | fail)
                    all_goals
                      go_wp2_with fail
                      go_roundg (n - (k + 1))
                      case measure => omega
                      case rel => exact ⟨k + 1, g2, by go_num, rfl, by omega, by omega, by rw [HO.out.2.2.2, HGG.out.1, HGG.out.2]; rfl, by have := own_keep (F := No) HW.out.1 hC9 (fun _ _ f => f); unfold OwnInts; rw [HQ'.out] at this ⊢; exact this, HW.out.2.1.keep hC9 (fun f => f), HW.out.2.2.trans hC9⟩
              · obtain rfl : k = n := by omega
                have w1 : decide ((k : Int) < (k : Int)) = false := decide_eq_false (by omega)
                rw [List.take_of_length_le (by rw [HN.out.1]; exact Nat.le_refl _)] at hnb
                have hnm : nb = namedB L R s' id := by rw [hnb, ← HBR.out]; rfl
                have HNM := Lib.hid hnm
                obtain ⟨-, hnear, hlen2, hcl, hdn, -⟩ := HC.out
                cases nb with
                | false =>
                  have HF := Lib.hid (And.intro hnear (And.intro hcl (And.intro hdn (And.intro own (And.intro row cw)))))
                  clear own row cw hnb hnm hnear hcl hdn y0
                  go_wp2_with fail
                  go_roundg (k - (i + 1))
                  case measure => omega
                  case rel =>
                    obtain ⟨hnear, hcl, hdn, own, row, cw⟩ := HF.out
                    refine ⟨i + 1, s', b, by go_num, rfl, ?_, by omega, by omega, hnear, by rw [HQ'.out]; exact hlen2, fun hb => ⟨(hcl hb).1, fun r hr => ?_⟩, hdn, row, cw⟩
                    · have o2 := own
                      unfold OwnInts at o2 ⊢
                      rw [HQ'.out] at o2 ⊢
                      exact o2
                    · rw [HID.out.2.1] at hr
                      rcases List.mem_append.1 hr with h1 | h1
                      · exact (hcl hb).2 r h1
                      · rw [List.mem_singleton.1 h1, HID.out.1, ← (hcl hb).1]
                        exact .inr HNM.out.symm
                | true =>
                  have hnid := named_near HG.out.1.rise hnear HID.out.2.2.1 HNM.out.symm
                  have hlt := HID.out.2.2.2 HM.out
                  have hrl := row.lt
                  obtain ⟨A9, c9, w9, hr9, ho9, cg9⟩ := app_one own (by rw [HQ'.out]; omega) hrl id 23
                  rw [HQ'.out] at hr9
                  have x1 := HIDR.out wr cw
                  have HR9 := Lib.hid hr9
                  have HF := Lib.hid (And.intro hnear (And.intro hcl (And.intro hdn (And.intro ho9 (And.intro (row.keep cg9 (by omega)) (And.intro (cw.then cg9 (fun b hb e => by omega)) (And.intro hnid hlt)))))))
                  clear own row cw hnb hnm hnear hcl hdn hr9 ho9 cg9 hnid y0
                  go_wp2_with (first
                    | (at_builtin; refine wpList_append_run rfl _ _ _ rfl rfl rfl HR9.out ?_)
                    | fail)
                  go_roundg (k - (i + 1))
                  case measure => omega
                  case rel =>
                    obtain ⟨hnear, hcl, hdn, own, row, cw, hnid, hlt⟩ := HF.out
                    refine ⟨i + 1, s' ++ [id], true, by go_num, rfl, ?_, by omega, by omega, fun x hx => ?_, ?_, (fun e => by cases e), fun _ => ?_, row, cw⟩
                    · have o2 := own
                      unfold OwnInts at o2 ⊢
                      simp only [List.length_append, List.length_cons, List.length_nil, HQ'.out, Nat.zero_add] at o2 ⊢
                      exact o2
                    · rcases List.mem_append.1 hx with h1 | h1
                      · exact hnear x h1
                      · rw [List.mem_singleton.1 h1]; exact hnid
                    · rw [List.length_append, HQ'.out]
                      simp
                      omega
                    · cases b with
                      | true => have := hdn rfl; omega
                      | false =>
                        have h1 := (hcl rfl).1
                        rw [h1, HU0.out] at hlt
                        rw [h1]
                        omega
        · obtain rfl : i = n := by omega
          have t1 : decide ((i : Int) < (i : Int)) = false := decide_eq_false (by omega)
          have HC := Lib.hid (And.intro own (And.intro hnear (And.intro hlen' (And.intro hcl (And.intro hdn (And.intro row cw))))))
          generalize hsl' : s'.length = q' at *
          clear own hnear hcl hdn row cw
          go_wp2_with fail
          go_roundg (unsN L s' + b.toNat)
          case measure =>
            obtain ⟨-, -, -, hcl, hdn, -⟩ := HC.out
            cases b with
            | true => have := hdn rfl; simp; omega
            | false => have := (hcl rfl).1; subst this; rw [HU0.out]; simp; omega
          case rel =>
            obtain ⟨own, hnear, hlen', hcl, hdn, row, cw⟩ := HC.out
            refine ⟨s', b, rfl, ?_, hnear, by rw [hsl']; exact hlen', Nat.le_refl _, fun hb => ?_, row, cw⟩
            · have o2 := own
              unfold OwnInts at o2 ⊢
              rw [hsl'] at o2 ⊢
              exact o2
            · have h1 := hcl hb
              rw [List.take_of_length_le (by rw [HN.out.1]; exact Nat.le_refl _)] at h1
              rw [h1.1]
              exact h1.2

theorem Spd.told {w w' : World} {S : Nat → Prop} {N made : Int} {L : List Rw} {x : Value} (h : Spd w S N L made x w') : ∃ v, x = .agg #[v, .int .i64 N, .int .i64 made] ∧ SpR w' (fun b => S b ∨ w.heap.size ≤ b) v L ∧ Chg No w w' := by
  obtain ⟨v, T, e, hT, hR, c⟩ := h
  exact ⟨v, e, ⟨T, hT, hR⟩, c⟩
/-- a space told anew, and what came with it -/
def Made6 (w : World) (S : Nat → Prop) (N : Int) (L : List Rw) (made : Int) (rest : List Value) (u : Value) (w' : World) : Prop := ∃ v, u = .tuple (Value.agg #[v, .int .i64 N, .int .i64 made] :: rest).toArray ∧ SpR w' (fun b => S b ∨ w.heap.size ≤ b) v L ∧ Chg No w w'

section
variable {N made : Nat} {L : List Rw} {S So : Nat → Prop} {w : World} {v ov : Value} {o : O} {id : Int}
theorem Make06_any (h : SpR w S v L) (G : Good N L made) (hN : N ≤ 20000) (ho : ObjR w So ov o) :
    Calls Tryz.prog 8 #[.agg #[v, .int .i64 N, .int .i64 made], ov] w (Ret (Made6 w S N (mkL N L made o) (mkM N L made o) [.int .i64 (mkI N L made o), .int .i64 (mkE N L made o)])) := by
  obtain ⟨T, rfl, hR⟩ := h
  have hm : T.length ≤ 1048576 := by have := G.len; rwa [List.length_map] at this
  cases hk : okB o with
  | false =>
    have e : mkF N (T.map (·.1)) made o = none := by unfold mkF; rw [if_neg (by simp [hk])]
    obtain ⟨e1, e2, e3⟩ := mkL_none e
    rw [e1, e2, e3]
    have e4 : mkE N (T.map (·.1)) made o = 2 := by unfold mkE; rw [hk]; rfl
    rw [e4]
    refine (Make06_bad v ov T S So w hR hm N made o ho hk).mono ?_
    rintro e' w' ⟨u, rfl, x, rfl, hs⟩
    obtain ⟨v', rfl, h1, h2⟩ := hs.told
    exact ⟨_, rfl, v', rfl, h1, h2⟩
  | true =>
    cases e : mkF N (T.map (·.1)) made o with
    | none =>
      obtain ⟨e1, e2, e3⟩ := mkL_none e
      rw [e1, e2, e3]
      have e4 : mkE N (T.map (·.1)) made o = 3 := by unfold mkE; rw [hk, e]; rfl
      rw [e4]
      refine (Make06_full v ov T S So w hR hm N made o ho hk G hN e).mono ?_
      rintro e' w' ⟨u, rfl, x, rfl, hs⟩
      obtain ⟨v', rfl, h1, h2⟩ := hs.told
      exact ⟨_, rfl, v', rfl, h1, h2⟩
    | some f =>
      obtain ⟨e1, e2, e3⟩ := mkL_some e
      rw [e1, e2, e3, (mkE_some e).1]
      refine (Make06_some v ov T S So w hR hm N made o ho hk G hN e).mono ?_
      rintro e' w' ⟨u, rfl, x, rfl, hs⟩
      obtain ⟨v', rfl, h1, h2⟩ := hs.told
      exact ⟨_, rfl, v', rfl, h1, h2⟩

theorem Store06_any (h : SpR w S v L) (G : Good N L made) (hN : N ≤ 20000) (ho : ObjR w So ov o) :
    Calls Tryz.prog 13 #[.agg #[v, .int .i64 N, .int .i64 made], .int .i64 id, ov] w (Ret (Made6 w S N (stL N L id o) made [.int .i64 (stE N L id o)])) := by
  obtain ⟨T, rfl, hR⟩ := h
  have hm : T.length ≤ 1048576 := by have := G.len; rwa [List.length_map] at this
  cases hr : lk (T.map (·.1)) id with
  | none =>
    have e1 : stF N (T.map (·.1)) id o = none := by unfold stF; rw [hr]
    have e2 : stE N (T.map (·.1)) id o = 4 := by unfold stE; rw [hr]; rfl
    rw [stL_none e1, e2]
    refine (Store06_no v ov T S So w hR hm N made id o ho hr).mono ?_
    rintro e' w' ⟨u, rfl, x, rfl, hs⟩
    obtain ⟨v', rfl, h1, h2⟩ := hs.told
    exact ⟨_, rfl, v', rfl, h1, h2⟩
  | some r =>
    obtain ⟨L1, L2, eL, hp, hd, hs⟩ := row_split G.rise hr
    have hid := (lk_mem hr).2
    have hLk : (T.map (·.1))[L1.length]? = some r := by rw [eL]; simp
    obtain ⟨t, ht, rfl⟩ : ∃ t, T[L1.length]? = some t ∧ t.1 = r := by
      rw [List.getElem?_map] at hLk
      cases h1 : T[L1.length]? with
      | none => rw [h1] at hLk; cases hLk
      | some t => rw [h1] at hLk; exact ⟨t, rfl, Option.some.inj hLk⟩
    have herase : (T.map (·.1)).eraseIdx L1.length = delR (T.map (·.1)) id := by
      rw [hd, eL, List.eraseIdx_append_of_length_le (Nat.le_refl _), Nat.sub_self]
      rfl
    have hset : ∀ x, (T.map (·.1)).set L1.length x = setR (T.map (·.1)) id x := fun x => by
      rw [hs x, eL, List.set_append_right _ _ (Nat.le_refl _), Nat.sub_self]
      rfl
    cases hk : okB o with
    | false =>
      have e1 : stF N (T.map (·.1)) id o = none := by unfold stF; rw [hr]; simp [hk]
      have e2 : stE N (T.map (·.1)) id o = 2 := by unfold stE; rw [hr, hk]; rfl
      rw [stL_none e1, e2]
      refine (Store06_bad v ov T S So w hR hm N made id o ho hp hk).mono ?_
      rintro e' w' ⟨u, rfl, x, rfl, hs⟩
      obtain ⟨v', rfl, h1, h2⟩ := hs.told
      exact ⟨_, rfl, v', rfl, h1, h2⟩
    | true =>
      have e0 : stF N (T.map (·.1)) id o = setF (((T.map (·.1)).map Rw.xt).eraseIdx L1.length) N t.1.xt (encB o) := by
        unfold stF
        rw [hr, map_erase, herase]
        simp [hk]
      cases e : setF (((T.map (·.1)).map Rw.xt).eraseIdx L1.length) N t.1.xt (encB o) with
      | none =>
        rw [e] at e0
        have e2 : stE N (T.map (·.1)) id o = 3 := by unfold stE; rw [hr, hk, e0]; rfl
        rw [stL_none e0, e2]
        refine (Store06_full v ov T S So w hR hm N made id o ho hp ht hk G hN e).mono ?_
        rintro e' w' ⟨u, rfl, x, rfl, hs⟩
        obtain ⟨v', rfl, h1, h2⟩ := hs.told
        exact ⟨_, rfl, v', rfl, h1, h2⟩
      | some f =>
        rw [e] at e0
        have e2 : stE N (T.map (·.1)) id o = 0 := by unfold stE; rw [hr, hk, e0]; rfl
        rw [(stL_some e0).1, e2, ← hset]
        refine (Store06_some v ov T S So w hR hm N made id o ho hp ht hid hk G hN e).mono ?_
        rintro e' w' ⟨u, rfl, x, rfl, hs⟩
        obtain ⟨v', rfl, h1, h2⟩ := hs.told
        exact ⟨_, rfl, v', rfl, h1, h2⟩

theorem Drop06_any (h : SpR w S v L) (G : Good N L made) {ib : Nat} (hi : w.cell? ⟨ib, 0, none⟩ = some (.int .i64 id)) :
    Calls Tryz.prog 15 #[.agg #[v, .int .i64 N, .int .i64 made], .slice (some ⟨ib, 0, none⟩) 1 1] w (Ret (Made6 w S N (if dropB L [id] = true then dropL L [id] else L) made [.int .i64 (if dropB L [id] = true then 0 else 4)])) := by
  obtain ⟨T, rfl, hR⟩ := h
  have hm : T.length ≤ 1048576 := by have := G.len; rwa [List.length_map] at this
  rw [dropB_one]
  cases hr : lk (T.map (·.1)) id with
  | none =>
    refine (Drop06_no v T S w hR hm N made id hi hr).mono ?_
    rintro e' w' ⟨u, rfl, x, rfl, hs⟩
    obtain ⟨v', rfl, h1, h2⟩ := hs.told
    exact ⟨_, rfl, v', rfl, h1, h2⟩
  | some r =>
    obtain ⟨L1, L2, eL, hp, hd, -⟩ := row_split G.rise hr
    have hLk : (T.map (·.1))[L1.length]? = some r := by rw [eL]; simp
    obtain ⟨t, ht, rfl⟩ : ∃ t, T[L1.length]? = some t ∧ t.1 = r := by
      rw [List.getElem?_map] at hLk
      cases h1 : T[L1.length]? with
      | none => rw [h1] at hLk; cases hLk
      | some t => rw [h1] at hLk; exact ⟨t, rfl, Option.some.inj hLk⟩
    have herase : (T.map (·.1)).eraseIdx L1.length = delR (T.map (·.1)) id := by
      rw [hd, eL, List.eraseIdx_append_of_length_le (Nat.le_refl _), Nat.sub_self]
      rfl
    refine (Drop06_some v T S w hR hm N made id hi hp ht).mono ?_
    rintro e' w' ⟨u, rfl, x, rfl, hs⟩
    rw [herase] at hs
    obtain ⟨v', rfl, h1, h2⟩ := hs.told
    exact ⟨_, rfl, v', rfl, h1, h2⟩

theorem Find6_any (h : SpR w S v L) (G : Good N L made) (a m id : Int) :
    Calls Tryz.prog 10 #[.agg #[v, .int .i64 a, .int .i64 m], .int .i64 id] w fun e w' => e = .returned (.int .i64 (posR L id)) ∧ Chg No w w' := by
  obtain ⟨T, rfl, hR⟩ := h
  exact Find06_any v T S w hR (by have := G.len; rwa [List.length_map] at this) a m id
theorem Used6_any (h : SpR w S v L) (G : Good N L made) (hN : N ≤ 20000) (a m : Int) :
    Calls Tryz.prog 17 #[.agg #[v, .int .i64 a, .int .i64 m]] w fun e w' => e = .returned (.int .i64 (usedL L)) ∧ Chg No w w' := by
  obtain ⟨T, rfl, hR⟩ := h
  exact Used06_any v T S w hR (by have := G.len; rwa [List.length_map] at this) (fun t ht => G.ok _ (List.mem_map.2 ⟨t, ht, rfl⟩)) (Nat.le_trans G.used hN) a m
theorem Ids6_any (h : SpR w S v L) (G : Good N L made) (a m : Int) :
    Calls Tryz.prog 22 #[.agg #[v, .int .i64 a, .int .i64 m]] w (Ret fun u w' => OwnInts w' w.heap.size u (L.map Rw.id) ∧ Chg No w w') := by
  obtain ⟨T, rfl, hR⟩ := h
  exact Ids06_any v T S w hR (by have := G.len; rwa [List.length_map] at this) a m
theorem Near6_any {rv : Value} {R : List Int} {Sr : Nat → Prop} (h : SpR w S v L) (G : Good N L made) (hr : IntS w Sr rv R) (hR : R.length ≤ 100000000) (a m : Int) :
    Calls Tryz.prog 24 #[.agg #[v, .int .i64 a, .int .i64 m], rv] w (Ret fun u w' => OwnInts w' w.heap.size u (nearL L R) ∧ Chg No w w') := by
  obtain ⟨T, rfl, hRR⟩ := h
  exact Near06_any v rv T R S Sr w hRR N made G hr hR a m
end

end Go.Proofs.YtdpmmafkomchaaaGreat
