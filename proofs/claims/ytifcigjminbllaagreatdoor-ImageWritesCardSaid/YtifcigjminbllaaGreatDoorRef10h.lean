/- The document's memory (websterref10): Step: set, become, next. -/
import Derived.Test.YtifcigjminbllaaGreatDoorRef10g
namespace Go.Proofs.YtifcigjminbllaaGreatDoor
set_option linter.unusedVariables false
set_option linter.unusedSimpArgs false
open Go.RowKit

/-- what is held at the call goes along -/
theorem Calls.held {P : Program} {f : Nat} {args : Array Value} {w0 W : World} {F : Nat → Prop} {Q : Ending → World → Prop} (hh : Chg F W w0) (h : Calls P f args w0 Q) : Calls P f args w0 (fun e w' => Q e w' ∧ Chg F W w0) := h.mono fun _ _ h => ⟨h, hh⟩
theorem IntS.empty {w w' : World} {S S' : Nat → Prop} {v : Value} (h : IntS w S v []) : IntS w' S' v [] := by
  obtain ⟨⟨A, c, hv, hl, h1, h2, h0, -⟩, hw⟩ := h
  exact ⟨⟨A, c, hv, hl, h1, h2, h0, fun h => absurd h (by simp)⟩, hw⟩
theorem ByteS.empty {w w' : World} {S S' : Nat → Prop} {v : Value} (h : ByteS w S v []) : ByteS w' S' v [] := by
  obtain ⟨⟨A, c, hv, hl, h1, h2, h0, -⟩, hw⟩ := h
  exact ⟨⟨A, c, hv, hl, h1, h2, h0, fun h => absurd h (by simp)⟩, hw⟩

set_option maxRecDepth 100000 in
set_option maxHeartbeats 4000000 in
theorem step10_4 (v : Value) (S : Nat → Prop) (L : List O) (w : World) (hv : RefM w S v L) (hL : L.length < 1073741823) (hok : ∀ i, (ob L i).kind ≠ 0 → (ob L i).ok) (da db dc : Int) (da64 : In64 da) (dc64 : In64 dc) :
    Calls Tryz.prog 60 #[v, .agg #[.int .i64 4, .int .i64 da, .int .i64 db, .int .i64 dc]] w (Ret (Stepped w S (setL L da db dc) ⟨0, O.zero, false, setE L da db dc⟩)) := by
  have HV := Lib.hid hv
  obtain ⟨lv, rfl, hl⟩ := hv
  obtain ⟨A, c, rfl, hm⟩ := hl.form
  have HL := Lib.hid hl
  obtain ⟨W, hW⟩ : ∃ W, (((w.alloc (.cells #[.slice A L.length c] 71)).alloc (.cells #[.int .i64 4, .int .i64 da, .int .i64 db, .int .i64 dc] 108)).alloc (.cells #[.slice none 0 0] 71)).alloc (.cells #[.int .i64 0, .int .i64 0, .int .i64 0, .slice none 0 0, .slice none 0 0, .bool false, .int .i64 0] 104) = W := ⟨_, rfl⟩
  have cW : Chg No w W := by rw [← hW]; exact ((((Chg.refl _ _).alloc _).alloc _).alloc _).alloc _
  have sW : W.heap.size = w.heap.size + 1 + 1 + 1 + 1 := by rw [← hW]; simp
  have r0 : Row W w.heap.size 71 #[.slice A L.length c] := by rw [← hW]; exact (((Row.new w _ _).alloc _).alloc _).alloc _
  have r1 : Row W (w.heap.size + 1) 108 #[.int .i64 4, .int .i64 da, .int .i64 db, .int .i64 dc] := by rw [← hW]; exact Row.alloc (Row.alloc (by simpa using Row.new (w.alloc _) _ _) _) _
  have r2 : Row W (w.heap.size + 1 + 1) 71 #[.slice none 0 0] := by rw [← hW]; exact Row.alloc (by simpa using Row.new ((w.alloc _).alloc _) _ _) _
  have r3 : Row W (w.heap.size + 1 + 1 + 1) 104 #[.int .i64 0, .int .i64 0, .int .i64 0, .slice none 0 0, .slice none 0 0, .bool false, .int .i64 0] := by rw [← hW]; simpa using Row.new (((w.alloc _).alloc _).alloc _) 104 #[.int .i64 0, .int .i64 0, .int .i64 0, .slice none 0 0, .slice none 0 0, .bool false, .int .i64 0]
  have HR := Lib.hid (And.intro cW (And.intro sW (And.intro r0 (And.intro r1 (And.intro r2 r3)))))
  have HW := Lib.hid hW
  clear hl cW sW r0 r1 r2 r3 hW
  generalize hn : L.length = n at *
  have HN := Lib.hid hn
  clear hn
  have sW := HR.out.2.1
  go_enter Tryz.func60, Tryz.ntmps60
  go_wp2_with (go_at_call 75
               rw [HW.out]
               refine (set10_4 _ (fun b => S b ∧ b < w.heap.size) L _ ((HV.out.more (S' := fun b => S b ∧ b < w.heap.size) (fun b h1 h2 => ⟨h2, h1⟩)).keep HR.out.1 (fun _ _ f => f)) (by rw [HN.out]; exact hL) hok da db dc da64 dc64).mono ?_
               rintro e w1 ⟨r1, rfl, m', t', rfl, ⟨lx, rfl, hlx⟩, ⟨wv, bv, rfl, hI, hB, k1, k2⟩, c1⟩
               obtain ⟨A5, k5, rfl, -⟩ := hlx.form
               obtain ⟨A6, c6, rfl, -⟩ := hI.form
               obtain ⟨A7, c7, rfl, -⟩ := hB.form
               generalize (setL L da db dc).length = n5 at *
               simp only [TD.cells, O.zero, List.length_nil] at hI hB k1 k2 ⊢
               have q0 := HR.out.2.2.1.keep c1 (fun f => f)
               have q1 := HR.out.2.2.2.1.keep c1 (fun f => f)
               have q2 := HR.out.2.2.2.2.1.keep c1 (fun f => f)
               have q3 := HR.out.2.2.2.2.2.keep c1 (fun f => f)
               have x0 : w1.cell? ⟨w.heap.size, 0, none⟩ = some (.slice A n c) := q0.cell 0
               have x1 := q1.four
               have x2 : w1.cell? ⟨w.heap.size + 1 + 1, 0, none⟩ = some (.slice none 0 0) := q2.cell 0
               have x2f := q2.frozen 0
               have x3 := q3.seven
               clear q0 q1 q2 q3
               have H1 := Lib.hid c1
               have H2 := Lib.hid (And.intro hlx (And.intro hI hB))
               clear c1 hlx hI hB
               skip)
  have s1 := H1.out.size
  refine bodyPost_ret (v := .tuple #[.agg #[.slice A5 n5 k5], .agg #[.int .i64 0, .int .i64 0, .int .i64 0, .slice A6 0 c6, .slice A7 0 c7, .bool false, .int .i64 (setE L da db dc)]]) (by simp [results, Tryz.results60, go_sem, x2, x3]) rfl (Ret.mk (Stepped.end ((show RefM w1 _ (.agg #[.slice A5 n5 k5]) _ from ⟨_, rfl, H2.out.1⟩).more (fun b _ h => h.elim .inl (fun h => .inr (by omega)))) (HR.out.1.trans H1.out) (by repeat (with_reducible first | assumption | exact Chg.refl _ _ | refine Chg.drew ?_ | refine Chg.setCell ?_ (by first | exact Or.inl (RG.a w) | exact Or.inl (RG.b w)) _)) ⟨_, _, rfl, ?_, ?_, k1, k2⟩))
  · exact ((H2.out.2.1.keep (F := RG w) (by repeat (with_reducible first | assumption | exact Chg.refl _ _ | refine Chg.drew ?_ | refine Chg.setCell ?_ (by first | exact Or.inl (RG.a w) | exact Or.inl (RG.b w)) _)) (fun b hb h => by unfold RG at h; rcases hb with hb | hb <;> omega)).more (fun b _ h => h.elim (fun h => .inl h.1) (fun h => .inr (by omega))))
  · exact ((H2.out.2.2.keep (F := RG w) (by repeat (with_reducible first | assumption | exact Chg.refl _ _ | refine Chg.drew ?_ | refine Chg.setCell ?_ (by first | exact Or.inl (RG.a w) | exact Or.inl (RG.b w)) _)) (fun b hb h => by unfold RG at h; rcases hb with hb | hb <;> omega)).more (fun b _ h => h.elim (fun h => .inl h.1) (fun h => .inr (by omega))))

set_option maxRecDepth 100000 in
set_option maxHeartbeats 4000000 in
theorem step10_6 (v : Value) (S : Nat → Prop) (L : List O) (w : World) (hv : RefM w S v L) (hL : L.length < 1073741823) (hok : ∀ i, (ob L i).kind ≠ 0 → (ob L i).ok) (da db dc : Int) (da64 : In64 da) (dc64 : In64 dc) :
    Calls Tryz.prog 60 #[v, .agg #[.int .i64 6, .int .i64 da, .int .i64 db, .int .i64 dc]] w (Ret (Stepped w S (sbyteL L da db dc) ⟨0, O.zero, false, sbyteE L da db dc⟩)) := by
  have HV := Lib.hid hv
  obtain ⟨lv, rfl, hl⟩ := hv
  obtain ⟨A, c, rfl, hm⟩ := hl.form
  have HL := Lib.hid hl
  obtain ⟨W, hW⟩ : ∃ W, (((w.alloc (.cells #[.slice A L.length c] 71)).alloc (.cells #[.int .i64 6, .int .i64 da, .int .i64 db, .int .i64 dc] 108)).alloc (.cells #[.slice none 0 0] 71)).alloc (.cells #[.int .i64 0, .int .i64 0, .int .i64 0, .slice none 0 0, .slice none 0 0, .bool false, .int .i64 0] 104) = W := ⟨_, rfl⟩
  have cW : Chg No w W := by rw [← hW]; exact ((((Chg.refl _ _).alloc _).alloc _).alloc _).alloc _
  have sW : W.heap.size = w.heap.size + 1 + 1 + 1 + 1 := by rw [← hW]; simp
  have r0 : Row W w.heap.size 71 #[.slice A L.length c] := by rw [← hW]; exact (((Row.new w _ _).alloc _).alloc _).alloc _
  have r1 : Row W (w.heap.size + 1) 108 #[.int .i64 6, .int .i64 da, .int .i64 db, .int .i64 dc] := by rw [← hW]; exact Row.alloc (Row.alloc (by simpa using Row.new (w.alloc _) _ _) _) _
  have r2 : Row W (w.heap.size + 1 + 1) 71 #[.slice none 0 0] := by rw [← hW]; exact Row.alloc (by simpa using Row.new ((w.alloc _).alloc _) _ _) _
  have r3 : Row W (w.heap.size + 1 + 1 + 1) 104 #[.int .i64 0, .int .i64 0, .int .i64 0, .slice none 0 0, .slice none 0 0, .bool false, .int .i64 0] := by rw [← hW]; simpa using Row.new (((w.alloc _).alloc _).alloc _) 104 #[.int .i64 0, .int .i64 0, .int .i64 0, .slice none 0 0, .slice none 0 0, .bool false, .int .i64 0]
  have HR := Lib.hid (And.intro cW (And.intro sW (And.intro r0 (And.intro r1 (And.intro r2 r3)))))
  have HW := Lib.hid hW
  clear hl cW sW r0 r1 r2 r3 hW
  generalize hn : L.length = n at *
  have HN := Lib.hid hn
  clear hn
  have sW := HR.out.2.1
  go_enter Tryz.func60, Tryz.ntmps60
  go_wp2_with (go_at_call 75
               rw [HW.out]
               refine (set10_6 _ (fun b => S b ∧ b < w.heap.size) L _ ((HV.out.more (S' := fun b => S b ∧ b < w.heap.size) (fun b h1 h2 => ⟨h2, h1⟩)).keep HR.out.1 (fun _ _ f => f)) (by rw [HN.out]; exact hL) hok da db dc da64 dc64).mono ?_
               rintro e w1 ⟨r1, rfl, m', t', rfl, ⟨lx, rfl, hlx⟩, ⟨wv, bv, rfl, hI, hB, k1, k2⟩, c1⟩
               obtain ⟨A5, k5, rfl, -⟩ := hlx.form
               obtain ⟨A6, c6, rfl, -⟩ := hI.form
               obtain ⟨A7, c7, rfl, -⟩ := hB.form
               generalize (sbyteL L da db dc).length = n5 at *
               simp only [TD.cells, O.zero, List.length_nil] at hI hB k1 k2 ⊢
               have q0 := HR.out.2.2.1.keep c1 (fun f => f)
               have q1 := HR.out.2.2.2.1.keep c1 (fun f => f)
               have q2 := HR.out.2.2.2.2.1.keep c1 (fun f => f)
               have q3 := HR.out.2.2.2.2.2.keep c1 (fun f => f)
               have x0 : w1.cell? ⟨w.heap.size, 0, none⟩ = some (.slice A n c) := q0.cell 0
               have x1 := q1.four
               have x2 : w1.cell? ⟨w.heap.size + 1 + 1, 0, none⟩ = some (.slice none 0 0) := q2.cell 0
               have x2f := q2.frozen 0
               have x3 := q3.seven
               clear q0 q1 q2 q3
               have H1 := Lib.hid c1
               have H2 := Lib.hid (And.intro hlx (And.intro hI hB))
               clear c1 hlx hI hB
               skip)
  have s1 := H1.out.size
  refine bodyPost_ret (v := .tuple #[.agg #[.slice A5 n5 k5], .agg #[.int .i64 0, .int .i64 0, .int .i64 0, .slice A6 0 c6, .slice A7 0 c7, .bool false, .int .i64 (sbyteE L da db dc)]]) (by simp [results, Tryz.results60, go_sem, x2, x3]) rfl (Ret.mk (Stepped.end ((show RefM w1 _ (.agg #[.slice A5 n5 k5]) _ from ⟨_, rfl, H2.out.1⟩).more (fun b _ h => h.elim .inl (fun h => .inr (by omega)))) (HR.out.1.trans H1.out) (by repeat (with_reducible first | assumption | exact Chg.refl _ _ | refine Chg.drew ?_ | refine Chg.setCell ?_ (by first | exact Or.inl (RG.a w) | exact Or.inl (RG.b w)) _)) ⟨_, _, rfl, ?_, ?_, k1, k2⟩))
  · exact ((H2.out.2.1.keep (F := RG w) (by repeat (with_reducible first | assumption | exact Chg.refl _ _ | refine Chg.drew ?_ | refine Chg.setCell ?_ (by first | exact Or.inl (RG.a w) | exact Or.inl (RG.b w)) _)) (fun b hb h => by unfold RG at h; rcases hb with hb | hb <;> omega)).more (fun b _ h => h.elim (fun h => .inl h.1) (fun h => .inr (by omega))))
  · exact ((H2.out.2.2.keep (F := RG w) (by repeat (with_reducible first | assumption | exact Chg.refl _ _ | refine Chg.drew ?_ | refine Chg.setCell ?_ (by first | exact Or.inl (RG.a w) | exact Or.inl (RG.b w)) _)) (fun b hb h => by unfold RG at h; rcases hb with hb | hb <;> omega)).more (fun b _ h => h.elim (fun h => .inl h.1) (fun h => .inr (by omega))))

set_option maxRecDepth 100000 in
set_option maxHeartbeats 4000000 in
theorem step10_8 (v : Value) (S : Nat → Prop) (L : List O) (w : World) (hv : RefM w S v L) (hL : L.length < 1073741823) (da db dc : Int) (da64 : In64 da) :
    Calls Tryz.prog 60 #[v, .agg #[.int .i64 8, .int .i64 da, .int .i64 db, .int .i64 dc]] w (Ret (Stepped w S L ⟨nextN L da, O.zero, nextOK L da, 0⟩)) := by
  have HV := Lib.hid hv
  obtain ⟨lv, rfl, hl⟩ := hv
  obtain ⟨A, c, rfl, hm⟩ := hl.form
  have HL := Lib.hid hl
  obtain ⟨W, hW⟩ : ∃ W, (((w.alloc (.cells #[.slice A L.length c] 71)).alloc (.cells #[.int .i64 8, .int .i64 da, .int .i64 db, .int .i64 dc] 108)).alloc (.cells #[.slice none 0 0] 71)).alloc (.cells #[.int .i64 0, .int .i64 0, .int .i64 0, .slice none 0 0, .slice none 0 0, .bool false, .int .i64 0] 104) = W := ⟨_, rfl⟩
  have cW : Chg No w W := by rw [← hW]; exact ((((Chg.refl _ _).alloc _).alloc _).alloc _).alloc _
  have sW : W.heap.size = w.heap.size + 1 + 1 + 1 + 1 := by rw [← hW]; simp
  have r0 : Row W w.heap.size 71 #[.slice A L.length c] := by rw [← hW]; exact (((Row.new w _ _).alloc _).alloc _).alloc _
  have r1 : Row W (w.heap.size + 1) 108 #[.int .i64 8, .int .i64 da, .int .i64 db, .int .i64 dc] := by rw [← hW]; exact Row.alloc (Row.alloc (by simpa using Row.new (w.alloc _) _ _) _) _
  have r2 : Row W (w.heap.size + 1 + 1) 71 #[.slice none 0 0] := by rw [← hW]; exact Row.alloc (by simpa using Row.new ((w.alloc _).alloc _) _ _) _
  have r3 : Row W (w.heap.size + 1 + 1 + 1) 104 #[.int .i64 0, .int .i64 0, .int .i64 0, .slice none 0 0, .slice none 0 0, .bool false, .int .i64 0] := by rw [← hW]; simpa using Row.new (((w.alloc _).alloc _).alloc _) 104 #[.int .i64 0, .int .i64 0, .int .i64 0, .slice none 0 0, .slice none 0 0, .bool false, .int .i64 0]
  have HR := Lib.hid (And.intro cW (And.intro sW (And.intro r0 (And.intro r1 (And.intro r2 r3)))))
  have HW := Lib.hid hW
  clear hl cW sW r0 r1 r2 r3 hW
  generalize hn : L.length = n at *
  have HN := Lib.hid hn
  clear hn
  have sW := HR.out.2.1
  go_enter Tryz.func60, Tryz.ntmps60
  go_wp2_with fail
  rw [HW.out]
  have w1e : Chg No W W := Chg.refl _ _
  have H0 := Lib.hid w1e
  clear w1e
  have zb : ∀ v, Chg (RG w) W v → v.cell? ⟨w.heap.size, 0, none⟩ = some (.slice A n c) := fun v hv => (HR.out.2.2.1.keep hv (by unfold RG; omega)).cell 0
  have zd : ∀ v, Chg (RG w) W v → v.cell? ⟨w.heap.size + 1, 1, none⟩ = some (.int .i64 da) := fun v hv => (HR.out.2.2.2.1.keep hv (by unfold RG; omega)).cell 1
  have x2 : W.cell? ⟨w.heap.size + 1 + 1, 0, none⟩ = some (.slice none 0 0) := HR.out.2.2.2.2.1.cell 0
  have x2f := HR.out.2.2.2.2.1.frozen 0
  have x3 := HR.out.2.2.2.2.2.seven
  have hm64 : RefM W (fun b => S b ∧ b < w.heap.size) (.agg #[.slice A n c]) L := (HV.out.more (S' := fun b => S b ∧ b < w.heap.size) (fun b h1 h2 => ⟨h2, h1⟩)).keep HR.out.1 (fun _ _ f => f)
  have HM := Lib.hid hm64
  clear hm64
  go_region_held3 (fun w' => Chg (RG w) W w') (repeat (with_reducible first | assumption | exact Chg.refl _ _ | refine Chg.drew ?_ | refine Chg.setCell ?_ (by first | exact Or.inl (RG.a w) | exact Or.inl (RG.b w)) _))
    (first
     | (go_at_call 77
        refine (Calls.held (F := RG w) (W := W) (by assumption) (next10_any _ (fun b => S b ∧ b < w.heap.size) L _ (HM.out.keep (F := RG w) (by assumption) (fun b hb h => by unfold RG at h; omega)) (by rw [HN.out]; exact hL) da da64)).mono ?_
        rintro e w2 ⟨⟨r, rfl, ⟨wv, bv, rfl, hI, hB, -, -⟩, c2⟩, hh⟩
        have hs := hh.size
        obtain ⟨A6, c6, rfl, -⟩ := hI.form
        obtain ⟨A7, c7, rfl, -⟩ := hB.form
        simp only [TD.cells, O.zero, List.length_nil] at hI hB ⊢
        have hC2 : Chg (RG w) W w2 := hh.trans c2.no
        have y2 := c2.cell (p := ⟨w.heap.size + 1 + 1, 0, none⟩) (by dsimp only; omega) (fun f => f)
        have y2f := c2.frozen (p := ⟨w.heap.size + 1 + 1, 0, none⟩) (by dsimp only; omega) (fun f => f)
        have y3 := fun i => c2.cell (p := ⟨w.heap.size + 1 + 1 + 1, i, none⟩) (by dsimp only; omega) (fun f => f)
        have y3f := fun i => c2.frozen (p := ⟨w.heap.size + 1 + 1 + 1, i, none⟩) (by dsimp only; omega) (fun f => f)
        have H2 := Lib.hid (And.intro hI (And.intro hB (And.intro hC2 hs)))
        clear hI hB hs c2))
  all_goals
    go_wp2_with fail
    refine bodyPost_ret (v := .tuple #[.agg #[.slice A n c], .agg #[.int .i64 (nextN L da), .int .i64 0, .int .i64 0, .slice A6 0 c6, .slice A7 0 c7, .bool (nextOK L da), .int .i64 0]]) (by simp [results, Tryz.results60, go_sem, x2, x3, y2, y3]) rfl (Ret.mk (Stepped.end (HV.out.old HR.out.1) HR.out.1 (by repeat (with_reducible first | assumption | exact Chg.refl _ _ | refine Chg.drew ?_ | refine Chg.setCell ?_ (by first | exact Or.inl (RG.a w) | exact Or.inl (RG.b w)) _)) ⟨_, _, rfl, H2.out.1.empty, H2.out.2.1.empty, (show In64 0 by unfold In64; omega), (show In64 0 by unfold In64; omega)⟩))

set_option maxRecDepth 100000 in
set_option maxHeartbeats 4000000 in
theorem step10_7 (v : Value) (S : Nat → Prop) (L : List O) (w : World) (hv : RefM w S v L) (hL : L.length < 1073741823) (da db dc : Int) (da64 : In64 da) (db64 : In64 db) :
    Calls Tryz.prog 60 #[v, .agg #[.int .i64 7, .int .i64 da, .int .i64 db, .int .i64 dc]] w (Ret (Stepped w S (becomeL L da db) ⟨0, O.zero, false, becomeE L da db⟩)) := by
  obtain ⟨ga, hga⟩ : ∃ ga, findN L da = ga := ⟨_, rfl⟩
  obtain ⟨gb, hgb⟩ : ∃ gb, findN L db = gb := ⟨_, rfl⟩
  have HPA := Lib.hid hga
  have HPB := Lib.hid hgb
  by_cases hall : (∃ i, fnd L da = some i) ∧ ∃ j, fnd L db = some j
  · obtain ⟨⟨ja, hfa⟩, jb, hfb⟩ := hall
    have e1 : becomeL L da db = (L.set ja (ob L jb)).set jb (ob L ja) := by simp only [becomeL, hfa, hfb, becL]
    have e2 : becomeE L da db = 0 := by simp only [becomeE, hfa, hfb]
    obtain rfl : (ja : Int) + 1 = ga := by rw [← hga]; simp [findN, hfa]
    obtain rfl : (jb : Int) + 1 = gb := by rw [← hgb]; simp [findN, hfb]
    have hja := (fnd_some hfa).2.2.1
    have hjb := (fnd_some hfb).2.2.1
    rw [e1, e2]
    clear e1 e2 hfa hfb hga hgb
    have HV := Lib.hid hv
    obtain ⟨lv, rfl, hl⟩ := hv
    obtain ⟨A, c, rfl, hm⟩ := hl.form
    have HL := Lib.hid hl
    obtain ⟨W, hW⟩ : ∃ W, (((w.alloc (.cells #[.slice A L.length c] 71)).alloc (.cells #[.int .i64 7, .int .i64 da, .int .i64 db, .int .i64 dc] 108)).alloc (.cells #[.slice none 0 0] 71)).alloc (.cells #[.int .i64 0, .int .i64 0, .int .i64 0, .slice none 0 0, .slice none 0 0, .bool false, .int .i64 0] 104) = W := ⟨_, rfl⟩
    have cW : Chg No w W := by rw [← hW]; exact ((((Chg.refl _ _).alloc _).alloc _).alloc _).alloc _
    have sW : W.heap.size = w.heap.size + 1 + 1 + 1 + 1 := by rw [← hW]; simp
    have r0 : Row W w.heap.size 71 #[.slice A L.length c] := by rw [← hW]; exact (((Row.new w _ _).alloc _).alloc _).alloc _
    have r1 : Row W (w.heap.size + 1) 108 #[.int .i64 7, .int .i64 da, .int .i64 db, .int .i64 dc] := by rw [← hW]; exact Row.alloc (Row.alloc (by simpa using Row.new (w.alloc _) _ _) _) _
    have r2 : Row W (w.heap.size + 1 + 1) 71 #[.slice none 0 0] := by rw [← hW]; exact Row.alloc (by simpa using Row.new ((w.alloc _).alloc _) _ _) _
    have r3 : Row W (w.heap.size + 1 + 1 + 1) 104 #[.int .i64 0, .int .i64 0, .int .i64 0, .slice none 0 0, .slice none 0 0, .bool false, .int .i64 0] := by rw [← hW]; simpa using Row.new (((w.alloc _).alloc _).alloc _) 104 #[.int .i64 0, .int .i64 0, .int .i64 0, .slice none 0 0, .slice none 0 0, .bool false, .int .i64 0]
    have HR := Lib.hid (And.intro cW (And.intro sW (And.intro r0 (And.intro r1 (And.intro r2 r3)))))
    have HW := Lib.hid hW
    clear hl cW sW r0 r1 r2 r3 hW
    generalize hn : L.length = n at *
    have HN := Lib.hid hn
    clear hn
    obtain ⟨b, off, c', wva, bva, e, hSb, hca, hoa⟩ := HL.out.cells (by rw [HN.out]; exact hja)
    rw [HN.out] at e
    obtain ⟨rfl, -, rfl⟩ := Value.slice.inj e
    obtain ⟨b', off', c', wvb, bvb, e', -, hcb, hob⟩ := HL.out.cells (by rw [HN.out]; exact hjb)
    rw [HN.out] at e'
    obtain ⟨rfl, rfl⟩ : b' = b ∧ off' = off := by
      have := (Value.slice.inj e').1
      simp at this
      exact ⟨this.1.symm, this.2.symm⟩
    obtain ⟨A1, c1, A2, c2, e1⟩ := hoa.shape
    obtain ⟨rfl, rfl⟩ : wva = .slice A1 (ob L ja).W.length c1 ∧ bva = .slice A2 (ob L ja).B.length c2 := by simpa [cells2] using e1
    obtain ⟨A3, c3, A4, c4, e2⟩ := hob.shape
    obtain ⟨rfl, rfl⟩ : wvb = .slice A3 (ob L jb).W.length c3 ∧ bvb = .slice A4 (ob L jb).B.length c4 := by simpa [cells2] using e2
    have hbl : b' < w.heap.size := World.block_lt_of_cell? w _ (hca w (Chg.refl _ _)).1
    have v1 : IntKind.i64.wrap ((ja : Int) + 1 - 1) = (ja : Int) := (IntWalk.i64_in _ (by unfold maxLen at hm; omega)).trans (by omega)
    have v2 : IntKind.i64.wrap (ja : Int) = (ja : Int) := IntWalk.i64_in _ (by unfold maxLen at hm; omega)
    have v3 : IntKind.i64.wrap ((jb : Int) + 1 - 1) = (jb : Int) := (IntWalk.i64_in _ (by unfold maxLen at hm; omega)).trans (by omega)
    have v4 : IntKind.i64.wrap (jb : Int) = (jb : Int) := IntWalk.i64_in _ (by unfold maxLen at hm; omega)
    have hjan : (ja : Int) < (n : Int) := by omega
    have hjbn : (jb : Int) < (n : Int) := by omega
    have t0 : ((ja : Int) + 1 == 0) = false := beq_eq_false_iff_ne.2 (by omega)
    have t1 : ((jb : Int) + 1 == 0) = false := beq_eq_false_iff_ne.2 (by omega)
    have HJ := Lib.hid (And.intro hja hjb)
    generalize ob L ja = oa at *
    generalize ob L jb = ojb at *
    have HCA := Lib.hid hca
    have HCB := Lib.hid hcb
    have HO := Lib.hid (And.intro hoa hob)
    clear e e' e1 e2 hca hcb hoa hob hja hjb
    go_enter Tryz.func60, Tryz.ntmps60
    go_wp2_with (first
      | (go_at_call 73
         have HZ := HW.out
         clear HW
         rw [HZ]
         refine (find10_any _ S L _ (HV.out.keep HR.out.1 (fun _ _ f => f)) da da64).mono ?_
         rw [HPA.out]
         rintro e w1 ⟨rfl, c1⟩
         have q0 := HR.out.2.2.1.keep c1 (fun f => f)
         have q1 := HR.out.2.2.2.1.keep c1 (fun f => f)
         have q2 := HR.out.2.2.2.2.1.keep c1 (fun f => f)
         have q3 := HR.out.2.2.2.2.2.keep c1 (fun f => f)
         have x0 : w1.cell? ⟨w.heap.size, 0, none⟩ = some (.slice (some ⟨b', off', none⟩) n c) := q0.cell 0
         have x1 := q1.four
         have x2 : w1.cell? ⟨w.heap.size + 1 + 1, 0, none⟩ = some (.slice none 0 0) := q2.cell 0
         have x2f := q2.frozen 0
         have x3 := q3.seven
         clear q0 q1 q2 q3
         have H1 := Lib.hid c1
         clear c1 HZ)
      | (go_at_call 73
         refine (find10_any _ S L _ (HV.out.keep (HR.out.1.trans H1.out) (fun _ _ f => f)) db db64).mono ?_
         rw [HPB.out]
         rintro e w2 ⟨rfl, c2⟩
         clear x0 x1 x2 x2f x3
         have c12 := H1.out.trans c2
         have q0 := HR.out.2.2.1.keep c12 (fun f => f)
         have q1 := HR.out.2.2.2.1.keep c12 (fun f => f)
         have q2 := HR.out.2.2.2.2.1.keep c12 (fun f => f)
         have q3 := HR.out.2.2.2.2.2.keep c12 (fun f => f)
         have x0 : w2.cell? ⟨w.heap.size, 0, none⟩ = some (.slice (some ⟨b', off', none⟩) n c) := q0.cell 0
         have x1 := q1.four
         have x2 : w2.cell? ⟨w.heap.size + 1 + 1, 0, none⟩ = some (.slice none 0 0) := q2.cell 0
         have x2f := q2.frozen 0
         have x3 := q3.seven
         clear q0 q1 q2 q3
         have H2 := Lib.hid c12
         clear c2 c12))
    have sR : w.heap.size + 4 ≤ w2.heap.size := by have := HR.out.2.1; have := H2.out.size; omega
    have zb : ∀ v, Chg (RG w) w2 v → v.cell? ⟨w.heap.size, 0, none⟩ = some (.slice (some ⟨b', off', none⟩) n c) := fun v hv => (hv.cell (p := ⟨w.heap.size, 0, none⟩) (by dsimp only; omega) (by unfold RG; dsimp only; omega)).trans x0
    have hb2 : b' < w2.heap.size ∧ ¬ RG w b' := ⟨by omega, by unfold RG; omega⟩
    have za : ∀ v, Chg (RG w) w2 v → v.cell? ⟨b', off' + ja * 4, none⟩ = some (.int .i64 oa.cls) ∧ v.cell? ⟨b', off' + ja * 4 + 1, none⟩ = some (.int .i64 oa.kind) ∧ v.cell? ⟨b', off' + ja * 4 + 2, none⟩ = some (.slice A1 oa.W.length c1) ∧ v.cell? ⟨b', off' + ja * 4 + 3, none⟩ = some (.slice A2 oa.B.length c2) := fun v hv => by
      have h := HCA.out w2 (HR.out.1.trans H2.out)
      exact ⟨(hv.cell hb2.1 hb2.2).trans h.1, (hv.cell hb2.1 hb2.2).trans h.2.1, (hv.cell hb2.1 hb2.2).trans h.2.2.1, (hv.cell hb2.1 hb2.2).trans h.2.2.2⟩
    have zc : ∀ v, Chg (RG w) w2 v → v.cell? ⟨b', off' + jb * 4, none⟩ = some (.int .i64 ojb.cls) ∧ v.cell? ⟨b', off' + jb * 4 + 1, none⟩ = some (.int .i64 ojb.kind) ∧ v.cell? ⟨b', off' + jb * 4 + 2, none⟩ = some (.slice A3 ojb.W.length c3) ∧ v.cell? ⟨b', off' + jb * 4 + 3, none⟩ = some (.slice A4 ojb.B.length c4) := fun v hv => by
      have h := HCB.out w2 (HR.out.1.trans H2.out)
      exact ⟨(hv.cell hb2.1 hb2.2).trans h.1, (hv.cell hb2.1 hb2.2).trans h.2.1, (hv.cell hb2.1 hb2.2).trans h.2.2.1, (hv.cell hb2.1 hb2.2).trans h.2.2.2⟩
    have HM := Lib.hid ((HV.out.more (S' := fun b => S b ∧ b < w.heap.size) (fun b h1 h2 => ⟨h2, h1⟩)).keep (HR.out.1.trans H2.out) (fun _ _ f => f))
    have HOA := Lib.hid ((HO.out.1.more (S' := fun b => S b ∧ b < w.heap.size) (fun b h1 h2 => ⟨h2, h1⟩)).keep (HR.out.1.trans H2.out) (fun _ _ f => f))
    have HOB := Lib.hid ((HO.out.2.more (S' := fun b => S b ∧ b < w.heap.size) (fun b h1 h2 => ⟨h2, h1⟩)).keep (HR.out.1.trans H2.out) (fun _ _ f => f))
    have HFST := HM
    clear x1
    go_region_held3 (fun w' => Chg (RG w) w2 w') (repeat (with_reducible first | assumption | exact Chg.refl _ _ | refine Chg.drew ?_ | refine Chg.setCell ?_ (by first | exact Or.inl (RG.a w) | exact Or.inl (RG.b w)) _))
      (first
       | (go_at_call 76
          have hfst := HFST
          clear HFST
          refine (Calls.held (F := RG w) (W := w2) (by assumption) (with10_any _ _ (fun b => S b ∧ b < w.heap.size) L ojb _ (HM.out.keep (F := RG w) (by assumption) (fun b hb h => by unfold RG at h; omega)) (HOB.out.keep (F := RG w) (by assumption) (fun b hb h => by unfold RG at h; omega)) ja (by rw [HN.out]; exact HJ.out.1) (by rw [HN.out]; exact hL))).mono ?_
          rintro e w3 ⟨⟨r3, rfl, ⟨lv3, rfl, hl3⟩, c3⟩, hh⟩
          obtain ⟨A5, k5, e5, -⟩ := hl3.form
          rw [List.length_set, HN.out] at e5
          subst e5
          have hs := hh.size
          have hC3 : Chg (RG w) w2 w3 := hh.trans c3.no
          have q2 : Row w3 _ _ _ := Row.keep (HR.out.2.2.2.2.1.keep H2.out (fun f => f)).drew c3 (fun f => f)
          have q3 : Row w3 _ _ _ := Row.keep (HR.out.2.2.2.2.2.keep H2.out (fun f => f)).drew c3 (fun f => f)
          have H3 := Lib.hid (And.intro hl3 (And.intro hC3 (And.intro hs (And.intro q2 q3))))
          clear hfst hl3 c3 hs q2 q3 x2 x2f x3)
       | (go_at_call 76
          refine (with10_any _ _ (fun b => S b ∧ b < w.heap.size ∨ w2.heap.size ≤ b) (L.set ja ojb) oa _ ⟨_, rfl, H3.out.1.more (fun b _ h => h.elim .inl (fun h => .inr (by have := H3.out.2.2.1; omega)))⟩ (((HOA.out.keep (F := RG w) H3.out.2.1 (fun b hb h => by unfold RG at h; omega))).more (fun b _ h => .inl h)) jb (by rw [List.length_set, HN.out]; exact HJ.out.2) (by rw [List.length_set, HN.out]; exact hL)).mono ?_
          rintro e w4 ⟨r4, rfl, ⟨lv4, rfl, hl4⟩, c4⟩
          obtain ⟨A6, k6, e6, -⟩ := hl4.form
          rw [List.length_set, List.length_set, HN.out] at e6
          subst e6
          have hC4 : Chg (RG w) w2 w4 := H3.out.2.1.trans c4.no
          have q2 := H3.out.2.2.2.1.keep c4 (fun f => f)
          have q3 := H3.out.2.2.2.2.keep c4 (fun f => f)
          have x2 : w4.cell? ⟨w.heap.size + 1 + 1, 0, none⟩ = some (.slice none 0 0) := q2.cell 0
          have x2f := q2.frozen 0
          have x3 := q3.seven
          have s43 := c4.size
          have s32 := H3.out.2.1.size
          have H4 := Lib.hid hl4
          clear hl4 c4 q2 q3))
    all_goals
      go_wp2_with fail
      have c4F : Chg No w w4 := (HR.out.1.trans H2.out).then hC4 (fun i hi h => by unfold RG at h; omega)
      refine bodyPost_ret (v := .tuple #[.agg #[.slice A6 n k6], .agg #[.int .i64 0, .int .i64 0, .int .i64 0, .slice none 0 0, .slice none 0 0, .bool false, .int .i64 0]]) (by simp [results, Tryz.results60, go_sem, x2, x3]) rfl (Ret.mk (Stepped.end ((show RefM w4 _ (.agg #[.slice A6 n k6]) _ from ⟨_, rfl, H4.out⟩).more (fun b _ h => h.elim (fun h => h.elim .inl (fun h => .inr (by omega))) (fun h => .inr (by omega)))) c4F ?_ (ToldR.flat _ _ _ _ _)))
      repeat (with_reducible first | exact Chg.refl _ _ | refine Chg.drew ?_ | refine Chg.setCell ?_ (by first | exact Or.inl (RG.a w) | exact Or.inl (RG.b w)) _)
  · have e1 : becomeL L da db = L := by
      unfold becomeL
      split
      · rename_i h1 h2; exact absurd ⟨⟨_, h1⟩, _, h2⟩ hall
      · rfl
    have e2 : becomeE L da db = 4 := by
      unfold becomeE
      split
      · rename_i h1 h2; exact absurd ⟨⟨_, h1⟩, _, h2⟩ hall
      · rfl
    rw [e1, e2]
    have hgn : ga = 0 ∨ (ga ≠ 0 ∧ gb = 0) := by
      rw [← hga, ← hgb]
      unfold findN
      cases h1 : fnd L da with
      | none => exact .inl rfl
      | some i =>
        cases h2 : fnd L db with
        | none => exact .inr ⟨by simp; omega, rfl⟩
        | some j => exact absurd ⟨⟨_, h1⟩, _, h2⟩ hall
    clear e1 e2 hall hga hgb
    have HV := Lib.hid hv
    obtain ⟨lv, rfl, hl⟩ := hv
    obtain ⟨A, c, rfl, hm⟩ := hl.form
    have HL := Lib.hid hl
    obtain ⟨W, hW⟩ : ∃ W, (((w.alloc (.cells #[.slice A L.length c] 71)).alloc (.cells #[.int .i64 7, .int .i64 da, .int .i64 db, .int .i64 dc] 108)).alloc (.cells #[.slice none 0 0] 71)).alloc (.cells #[.int .i64 0, .int .i64 0, .int .i64 0, .slice none 0 0, .slice none 0 0, .bool false, .int .i64 0] 104) = W := ⟨_, rfl⟩
    have cW : Chg No w W := by rw [← hW]; exact ((((Chg.refl _ _).alloc _).alloc _).alloc _).alloc _
    have sW : W.heap.size = w.heap.size + 1 + 1 + 1 + 1 := by rw [← hW]; simp
    have r0 : Row W w.heap.size 71 #[.slice A L.length c] := by rw [← hW]; exact (((Row.new w _ _).alloc _).alloc _).alloc _
    have r1 : Row W (w.heap.size + 1) 108 #[.int .i64 7, .int .i64 da, .int .i64 db, .int .i64 dc] := by rw [← hW]; exact Row.alloc (Row.alloc (by simpa using Row.new (w.alloc _) _ _) _) _
    have r2 : Row W (w.heap.size + 1 + 1) 71 #[.slice none 0 0] := by rw [← hW]; exact Row.alloc (by simpa using Row.new ((w.alloc _).alloc _) _ _) _
    have r3 : Row W (w.heap.size + 1 + 1 + 1) 104 #[.int .i64 0, .int .i64 0, .int .i64 0, .slice none 0 0, .slice none 0 0, .bool false, .int .i64 0] := by rw [← hW]; simpa using Row.new (((w.alloc _).alloc _).alloc _) 104 #[.int .i64 0, .int .i64 0, .int .i64 0, .slice none 0 0, .slice none 0 0, .bool false, .int .i64 0]
    have HR := Lib.hid (And.intro cW (And.intro sW (And.intro r0 (And.intro r1 (And.intro r2 r3)))))
    have HW := Lib.hid hW
    clear hl cW sW r0 r1 r2 r3 hW
    generalize hn : L.length = n at *
    have HN := Lib.hid hn
    clear hn
    rcases hgn with rfl | ⟨hg1, rfl⟩
    · go_enter Tryz.func60, Tryz.ntmps60
      go_wp2_with (first
        | (go_at_call 73
           have HZ := HW.out
           clear HW
           rw [HZ]
           refine (find10_any _ S L _ (HV.out.keep HR.out.1 (fun _ _ f => f)) da da64).mono ?_
           rw [HPA.out]
           rintro e w1 ⟨rfl, c1⟩
           have q0 := HR.out.2.2.1.keep c1 (fun f => f)
           have q1 := HR.out.2.2.2.1.keep c1 (fun f => f)
           have q2 := HR.out.2.2.2.2.1.keep c1 (fun f => f)
           have q3 := HR.out.2.2.2.2.2.keep c1 (fun f => f)
           have x0 : w1.cell? ⟨w.heap.size, 0, none⟩ = some (.slice A n c) := q0.cell 0
           have x1 := q1.four
           have x2 : w1.cell? ⟨w.heap.size + 1 + 1, 0, none⟩ = some (.slice none 0 0) := q2.cell 0
           have x2f := q2.frozen 0
           have x3 := q3.seven
           clear q0 q1 q2 q3
           have H1 := Lib.hid c1
           clear c1 HZ)
        | (go_at_call 73
           refine (find10_any _ S L _ (HV.out.keep (HR.out.1.trans H1.out) (fun _ _ f => f)) db db64).mono ?_
           rw [HPB.out]
           rintro e w2 ⟨rfl, c2⟩
           clear x0 x1 x2 x2f x3
           have c12 := H1.out.trans c2
           have q0 := HR.out.2.2.1.keep c12 (fun f => f)
           have q1 := HR.out.2.2.2.1.keep c12 (fun f => f)
           have q2 := HR.out.2.2.2.2.1.keep c12 (fun f => f)
           have q3 := HR.out.2.2.2.2.2.keep c12 (fun f => f)
           have x0 : w2.cell? ⟨w.heap.size, 0, none⟩ = some (.slice A n c) := q0.cell 0
           have x1 := q1.four
           have x2 : w2.cell? ⟨w.heap.size + 1 + 1, 0, none⟩ = some (.slice none 0 0) := q2.cell 0
           have x2f := q2.frozen 0
           have x3 := q3.seven
           clear q0 q1 q2 q3
           have H2 := Lib.hid c12
           clear c2 c12))
      refine bodyPost_ret (v := .tuple #[.agg #[.slice A n c], .agg #[.int .i64 0, .int .i64 0, .int .i64 0, .slice none 0 0, .slice none 0 0, .bool false, .int .i64 4]]) (by simp [results, Tryz.results60, go_sem, x2, x3]) rfl (Ret.mk (Stepped.end (HV.out.old (HR.out.1.trans H2.out)) (HR.out.1.trans H2.out) ?_ (ToldR.flat _ _ _ _ _)))
      repeat (with_reducible first | exact Chg.refl _ _ | refine Chg.drew ?_ | refine Chg.setCell ?_ (by first | exact Or.inl (RG.a w) | exact Or.inl (RG.b w)) _)
    · have t0 : (ga == 0) = false := beq_eq_false_iff_ne.2 hg1
      go_enter Tryz.func60, Tryz.ntmps60
      go_wp2_with (first
        | (go_at_call 73
           have HZ := HW.out
           clear HW
           rw [HZ]
           refine (find10_any _ S L _ (HV.out.keep HR.out.1 (fun _ _ f => f)) da da64).mono ?_
           rw [HPA.out]
           rintro e w1 ⟨rfl, c1⟩
           have q0 := HR.out.2.2.1.keep c1 (fun f => f)
           have q1 := HR.out.2.2.2.1.keep c1 (fun f => f)
           have q2 := HR.out.2.2.2.2.1.keep c1 (fun f => f)
           have q3 := HR.out.2.2.2.2.2.keep c1 (fun f => f)
           have x0 : w1.cell? ⟨w.heap.size, 0, none⟩ = some (.slice A n c) := q0.cell 0
           have x1 := q1.four
           have x2 : w1.cell? ⟨w.heap.size + 1 + 1, 0, none⟩ = some (.slice none 0 0) := q2.cell 0
           have x2f := q2.frozen 0
           have x3 := q3.seven
           clear q0 q1 q2 q3
           have H1 := Lib.hid c1
           clear c1 HZ)
        | (go_at_call 73
           refine (find10_any _ S L _ (HV.out.keep (HR.out.1.trans H1.out) (fun _ _ f => f)) db db64).mono ?_
           rw [HPB.out]
           rintro e w2 ⟨rfl, c2⟩
           clear x0 x1 x2 x2f x3
           have c12 := H1.out.trans c2
           have q0 := HR.out.2.2.1.keep c12 (fun f => f)
           have q1 := HR.out.2.2.2.1.keep c12 (fun f => f)
           have q2 := HR.out.2.2.2.2.1.keep c12 (fun f => f)
           have q3 := HR.out.2.2.2.2.2.keep c12 (fun f => f)
           have x0 : w2.cell? ⟨w.heap.size, 0, none⟩ = some (.slice A n c) := q0.cell 0
           have x1 := q1.four
           have x2 : w2.cell? ⟨w.heap.size + 1 + 1, 0, none⟩ = some (.slice none 0 0) := q2.cell 0
           have x2f := q2.frozen 0
           have x3 := q3.seven
           clear q0 q1 q2 q3
           have H2 := Lib.hid c12
           clear c2 c12))
      refine bodyPost_ret (v := .tuple #[.agg #[.slice A n c], .agg #[.int .i64 0, .int .i64 0, .int .i64 0, .slice none 0 0, .slice none 0 0, .bool false, .int .i64 4]]) (by simp [results, Tryz.results60, go_sem, x2, x3]) rfl (Ret.mk (Stepped.end (HV.out.old (HR.out.1.trans H2.out)) (HR.out.1.trans H2.out) ?_ (ToldR.flat _ _ _ _ _)))
      repeat (with_reducible first | exact Chg.refl _ _ | refine Chg.drew ?_ | refine Chg.setCell ?_ (by first | exact Or.inl (RG.a w) | exact Or.inl (RG.b w)) _)

end Go.Proofs.YtifcigjminbllaaGreatDoor
