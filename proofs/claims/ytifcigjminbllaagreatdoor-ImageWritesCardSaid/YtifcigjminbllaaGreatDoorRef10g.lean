/- The document's memory (websterref10): Step, all but the collection. -/
import Derived.Test.YtifcigjminbllaaGreatDoorRef10e
import Derived.Deep.RegionHeld3
namespace Go.Proofs.YtifcigjminbllaaGreatDoor
set_option linter.unusedVariables false
set_option linter.unusedSimpArgs false
open Go.RowKit

def RG (w : World) : Nat → Prop := fun b => b = w.heap.size + 1 + 1 ∨ b = w.heap.size + 1 + 1 + 1
theorem RG.a (w : World) : RG w (w.heap.size + 1 + 1) := Or.inl rfl
theorem RG.b (w : World) : RG w (w.heap.size + 1 + 1 + 1) := Or.inr rfl
theorem Stepped.end {w w5 V : World} {S : Nat → Prop} {r t' : Value} {L' : List O} {t : TD} (hr : RefM w5 (fun b => S b ∧ b < w.heap.size ∨ w.heap.size + 4 ≤ b) r L') (c5 : Chg No w w5) (cV : Chg (RG w) w5 V) (ht : ToldR V (fun b => S b ∨ w.heap.size ≤ b) t' t) : Stepped w S L' t (.tuple #[r, t']) V := by
  refine ⟨r, t', rfl, (hr.keep cV (fun b hb h => ?_)).more (fun b _ h => ?_), ht, c5.then cV (fun i hi h => ?_)⟩
  · unfold RG at h; omega
  · rcases h with h | h
    · exact .inl h.1
    · exact .inr (by omega)
  · unfold RG at h; omega
theorem RefM.old {w w5 : World} {S : Nat → Prop} {v : Value} {L : List O} (h : RefM w S v L) (c : Chg No w w5) : RefM w5 (fun b => S b ∧ b < w.heap.size ∨ w.heap.size + 4 ≤ b) v L :=
  ((h.more (S' := fun b => S b ∧ b < w.heap.size) (fun b h1 h2 => ⟨h2, h1⟩)).keep c (fun _ _ f => f)).more (fun b _ h => .inl h)
theorem IntS.held {w w5 V : World} {S : Nat → Prop} {v : Value} {l : List Int} (h : IntS w S v l) (c5 : Chg No w w5) (cV : Chg (RG w) w5 V) : IntS V (fun b => S b ∨ w.heap.size ≤ b) v l :=
  (((h.more (S' := fun b => S b ∧ b < w.heap.size) (fun b h1 h2 => ⟨h2, h1⟩)).keep c5 (fun _ _ f => f)).keep cV (fun b hb h => by unfold RG at h; omega)).more (fun b _ h => .inl h.1)
theorem ByteS.held {w w5 V : World} {S : Nat → Prop} {v : Value} {l : List Int} (h : ByteS w S v l) (c5 : Chg No w w5) (cV : Chg (RG w) w5 V) : ByteS V (fun b => S b ∨ w.heap.size ≤ b) v l :=
  (((h.more (S' := fun b => S b ∧ b < w.heap.size) (fun b h1 h2 => ⟨h2, h1⟩)).keep c5 (fun _ _ f => f)).keep cV (fun b hb h => by unfold RG at h; omega)).more (fun b _ h => .inl h.1)

set_option maxRecDepth 100000 in
set_option maxHeartbeats 4000000 in
theorem step10_1 (v : Value) (S : Nat → Prop) (L : List O) (w : World) (hv : RefM w S v L) (hL : L.length + 1 < 1073741823) (da db dc : Int) (da64 : In64 da) (db64 : In64 db) (dc64 : In64 dc) :
    Calls Tryz.prog 60 #[v, .agg #[.int .i64 1, .int .i64 da, .int .i64 db, .int .i64 dc]] w (Ret (Stepped w S (newL L da db dc) ⟨newN L da db dc, O.zero, false, newE da db dc⟩)) := by
  have HV := Lib.hid hv
  obtain ⟨lv, rfl, hl⟩ := hv
  obtain ⟨A, c, rfl, hm⟩ := hl.form
  have HL := Lib.hid hl
  obtain ⟨W, hW⟩ : ∃ W, (((w.alloc (.cells #[.slice A L.length c] 71)).alloc (.cells #[.int .i64 1, .int .i64 da, .int .i64 db, .int .i64 dc] 108)).alloc (.cells #[.slice none 0 0] 71)).alloc (.cells #[.int .i64 0, .int .i64 0, .int .i64 0, .slice none 0 0, .slice none 0 0, .bool false, .int .i64 0] 104) = W := ⟨_, rfl⟩
  have cW : Chg No w W := by rw [← hW]; exact ((((Chg.refl _ _).alloc _).alloc _).alloc _).alloc _
  have sW : W.heap.size = w.heap.size + 1 + 1 + 1 + 1 := by rw [← hW]; simp
  have r0 : Row W w.heap.size 71 #[.slice A L.length c] := by rw [← hW]; exact (((Row.new w _ _).alloc _).alloc _).alloc _
  have r1 : Row W (w.heap.size + 1) 108 #[.int .i64 1, .int .i64 da, .int .i64 db, .int .i64 dc] := by rw [← hW]; exact Row.alloc (Row.alloc (by simpa using Row.new (w.alloc _) _ _) _) _
  have r2 : Row W (w.heap.size + 1 + 1) 71 #[.slice none 0 0] := by rw [← hW]; exact Row.alloc (by simpa using Row.new ((w.alloc _).alloc _) _ _) _
  have r3 : Row W (w.heap.size + 1 + 1 + 1) 104 #[.int .i64 0, .int .i64 0, .int .i64 0, .slice none 0 0, .slice none 0 0, .bool false, .int .i64 0] := by rw [← hW]; simpa using Row.new (((w.alloc _).alloc _).alloc _) 104 #[.int .i64 0, .int .i64 0, .int .i64 0, .slice none 0 0, .slice none 0 0, .bool false, .int .i64 0]
  have HR := Lib.hid (And.intro cW (And.intro sW (And.intro r0 (And.intro r1 (And.intro r2 r3)))))
  have HW := Lib.hid hW
  clear hl cW sW r0 r1 r2 r3 hW
  generalize hn : L.length = n at *
  have HN := Lib.hid hn
  clear hn
  go_enter Tryz.func60, Tryz.ntmps60
  go_wp2_with (first
    | (go_at_call 72
       rw [HW.out]
       refine (Ref10New_any _ (fun b => S b ∧ b < w.heap.size) L _ ((HV.out.more (S' := fun b => S b ∧ b < w.heap.size) (fun b h1 h2 => ⟨h2, h1⟩)).keep HR.out.1 (fun _ _ f => f)) (by rw [HN.out]; omega) da db dc da64 db64 dc64).mono ?_
       rintro e w1 ⟨r1, rfl, x, rfl, c1, ⟨lx, rfl, hlx⟩⟩
       obtain ⟨A5, k5, rfl, -⟩ := hlx.form
       generalize (newL L da db dc).length = n5 at *
       obtain ⟨W6, h6⟩ : ∃ W6, w1.alloc (.cells #[.slice A5 n5 k5] 71) = W6 := ⟨_, rfl⟩
       have c6 : Chg No W W6 := by rw [← h6]; exact c1.alloc _
       have hl6 := hlx.keep (F := No) (w' := W6) (by rw [← h6]; exact (Chg.refl _ _).alloc _) (fun _ _ f => f)
       have y6 : W6.cell? ⟨w1.heap.size, 0, none⟩ = some (.slice A5 n5 k5) := by rw [← h6]; exact (Row.new w1 _ _).cell 0
       have q0 := HR.out.2.2.1.keep c6 (fun f => f)
       have q1 := HR.out.2.2.2.1.keep c6 (fun f => f)
       have q2 := HR.out.2.2.2.2.1.keep c6 (fun f => f)
       have q3 := HR.out.2.2.2.2.2.keep c6 (fun f => f)
       have x0 : W6.cell? ⟨w.heap.size, 0, none⟩ = some (.slice A n c) := q0.cell 0
       have x1 := q1.four
       have x2 : W6.cell? ⟨w.heap.size + 1 + 1, 0, none⟩ = some (.slice none 0 0) := q2.cell 0
       have x2f := q2.frozen 0
       have x3 := q3.seven
       clear q0 q1 q2 q3
       have H1 := Lib.hid (And.intro c6 hl6)
       have H6 := Lib.hid h6
       clear c1 hlx c6 hl6 h6)
    | (rw [H6.out]))
  have sW := HR.out.2.1
  refine bodyPost_ret (v := .tuple #[.agg #[.slice A5 n5 k5], .agg #[.int .i64 (newN L da db dc), .int .i64 0, .int .i64 0, .slice none 0 0, .slice none 0 0, .bool false, .int .i64 (newE da db dc)]]) (by simp [results, Tryz.results60, go_sem, x2, x3]) rfl (Ret.mk (Stepped.end ((show RefM W6 _ (.agg #[.slice A5 n5 k5]) _ from ⟨_, rfl, H1.out.2⟩).more (fun b _ h => h.elim .inl (fun h => .inr (by omega)))) (HR.out.1.trans H1.out.1) ?_ (ToldR.flat _ _ _ _ _)))
  repeat (with_reducible first | exact Chg.refl _ _ | refine Chg.drew ?_ | refine Chg.setCell ?_ (by first | exact Or.inl (RG.a w) | exact Or.inl (RG.b w)) _)

set_option maxRecDepth 100000 in
set_option maxHeartbeats 4000000 in
theorem step10_2 (v : Value) (S : Nat → Prop) (L : List O) (w : World) (hv : RefM w S v L) (da db dc : Int) (da64 : In64 da) :
    Calls Tryz.prog 60 #[v, .agg #[.int .i64 2, .int .i64 da, .int .i64 db, .int .i64 dc]] w (Ret (Stepped w S L ⟨0, objV L da, false, objE L da⟩)) := by
  cases hf : fnd L da with
  | none =>
    have HP := Lib.hid (show findN L da = 0 by simp [findN, hf])
    have e1 : objV L da = O.zero := by simp [objV, hf]
    have e2 : objE L da = 4 := by simp [objE, hf]
    rw [e1, e2]
    clear hf e1 e2
    have HV := Lib.hid hv
    obtain ⟨lv, rfl, hl⟩ := hv
    obtain ⟨A, c, rfl, hm⟩ := hl.form
    have HL := Lib.hid hl
    obtain ⟨W, hW⟩ : ∃ W, (((w.alloc (.cells #[.slice A L.length c] 71)).alloc (.cells #[.int .i64 2, .int .i64 da, .int .i64 db, .int .i64 dc] 108)).alloc (.cells #[.slice none 0 0] 71)).alloc (.cells #[.int .i64 0, .int .i64 0, .int .i64 0, .slice none 0 0, .slice none 0 0, .bool false, .int .i64 0] 104) = W := ⟨_, rfl⟩
    have cW : Chg No w W := by rw [← hW]; exact ((((Chg.refl _ _).alloc _).alloc _).alloc _).alloc _
    have sW : W.heap.size = w.heap.size + 1 + 1 + 1 + 1 := by rw [← hW]; simp
    have r0 : Row W w.heap.size 71 #[.slice A L.length c] := by rw [← hW]; exact (((Row.new w _ _).alloc _).alloc _).alloc _
    have r1 : Row W (w.heap.size + 1) 108 #[.int .i64 2, .int .i64 da, .int .i64 db, .int .i64 dc] := by rw [← hW]; exact Row.alloc (Row.alloc (by simpa using Row.new (w.alloc _) _ _) _) _
    have r2 : Row W (w.heap.size + 1 + 1) 71 #[.slice none 0 0] := by rw [← hW]; exact Row.alloc (by simpa using Row.new ((w.alloc _).alloc _) _ _) _
    have r3 : Row W (w.heap.size + 1 + 1 + 1) 104 #[.int .i64 0, .int .i64 0, .int .i64 0, .slice none 0 0, .slice none 0 0, .bool false, .int .i64 0] := by rw [← hW]; simpa using Row.new (((w.alloc _).alloc _).alloc _) 104 #[.int .i64 0, .int .i64 0, .int .i64 0, .slice none 0 0, .slice none 0 0, .bool false, .int .i64 0]
    have HR := Lib.hid (And.intro cW (And.intro sW (And.intro r0 (And.intro r1 (And.intro r2 r3)))))
    have HW := Lib.hid hW
    clear hl cW sW r0 r1 r2 r3 hW
    generalize hn : L.length = n at *
    have HN := Lib.hid hn
    clear hn
    go_enter Tryz.func60, Tryz.ntmps60
    go_wp2_with (go_at_call 73
                 rw [HW.out]
                 refine (find10_any _ S L _ (HV.out.keep HR.out.1 (fun _ _ f => f)) da da64).mono ?_
                 rw [HP.out]
                 rintro e w1 ⟨rfl, c1⟩
                 have q0 := HR.out.2.2.1.keep c1 (fun f => f)
                 have q1 := HR.out.2.2.2.1.keep c1 (fun f => f)
                 have q2 := HR.out.2.2.2.2.1.keep c1 (fun f => f)
                 have q3 := HR.out.2.2.2.2.2.keep c1 (fun f => f)
                 have x0 : w1.cell? ⟨w.heap.size, 0, none⟩ = some (.slice A n c) := q0.cell 0
                 have x1 := q1.four
                 have x2 : w1.cell? ⟨w.heap.size + 1 + 1, 0, none⟩ = some (.slice none 0 0) := q2.cell 0
                 have x2f := q2.frozen 0
                 have x3 := q3.seven
                 clear q0 q1 q2 q3
                 skip
                 have H1 := Lib.hid c1
                 clear c1
                 skip)
    refine bodyPost_ret (v := .tuple #[.agg #[.slice A n c], .agg #[.int .i64 0, .int .i64 0, .int .i64 0, .slice none 0 0, .slice none 0 0, .bool false, .int .i64 4]]) (by simp [results, Tryz.results60, go_sem, x2, x3]) rfl (Ret.mk (Stepped.end (HV.out.old (HR.out.1.trans H1.out)) (HR.out.1.trans H1.out) ?_ (ToldR.flat _ _ _ _ _)))
    repeat (with_reducible first | exact Chg.refl _ _ | refine Chg.drew ?_ | refine Chg.setCell ?_ (by first | exact Or.inl (RG.a w) | exact Or.inl (RG.b w)) _)
  | some j =>
    have HP := Lib.hid (show findN L da = (j : Int) + 1 by simp [findN, hf])
    have e1 : objV L da = ob L j := by simp [objV, hf]
    have e2 : objE L da = 0 := by simp [objE, hf]
    have hj := (fnd_some hf).2.2.1
    rw [e1, e2]
    clear hf e1 e2
    have HV := Lib.hid hv
    obtain ⟨lv, rfl, hl⟩ := hv
    obtain ⟨A, c, rfl, hm⟩ := hl.form
    have HL := Lib.hid hl
    obtain ⟨W, hW⟩ : ∃ W, (((w.alloc (.cells #[.slice A L.length c] 71)).alloc (.cells #[.int .i64 2, .int .i64 da, .int .i64 db, .int .i64 dc] 108)).alloc (.cells #[.slice none 0 0] 71)).alloc (.cells #[.int .i64 0, .int .i64 0, .int .i64 0, .slice none 0 0, .slice none 0 0, .bool false, .int .i64 0] 104) = W := ⟨_, rfl⟩
    have cW : Chg No w W := by rw [← hW]; exact ((((Chg.refl _ _).alloc _).alloc _).alloc _).alloc _
    have sW : W.heap.size = w.heap.size + 1 + 1 + 1 + 1 := by rw [← hW]; simp
    have r0 : Row W w.heap.size 71 #[.slice A L.length c] := by rw [← hW]; exact (((Row.new w _ _).alloc _).alloc _).alloc _
    have r1 : Row W (w.heap.size + 1) 108 #[.int .i64 2, .int .i64 da, .int .i64 db, .int .i64 dc] := by rw [← hW]; exact Row.alloc (Row.alloc (by simpa using Row.new (w.alloc _) _ _) _) _
    have r2 : Row W (w.heap.size + 1 + 1) 71 #[.slice none 0 0] := by rw [← hW]; exact Row.alloc (by simpa using Row.new ((w.alloc _).alloc _) _ _) _
    have r3 : Row W (w.heap.size + 1 + 1 + 1) 104 #[.int .i64 0, .int .i64 0, .int .i64 0, .slice none 0 0, .slice none 0 0, .bool false, .int .i64 0] := by rw [← hW]; simpa using Row.new (((w.alloc _).alloc _).alloc _) 104 #[.int .i64 0, .int .i64 0, .int .i64 0, .slice none 0 0, .slice none 0 0, .bool false, .int .i64 0]
    have HR := Lib.hid (And.intro cW (And.intro sW (And.intro r0 (And.intro r1 (And.intro r2 r3)))))
    have HW := Lib.hid hW
    clear hl cW sW r0 r1 r2 r3 hW
    generalize hn : L.length = n at *
    have HN := Lib.hid hn
    clear hn
    obtain ⟨b, off, c', wv, bv, e, -, hc, ho⟩ := HL.out.cells (by rw [HN.out]; exact hj)
    rw [HN.out] at e
    obtain ⟨rfl, -, rfl⟩ := Value.slice.inj e
    obtain ⟨wv', bv', ea, hI, hB, k1, k2⟩ := ho
    obtain ⟨rfl, rfl⟩ : wv = wv' ∧ bv = bv' := by simpa [cells2] using ea
    obtain ⟨Aw, cw, rfl, -⟩ := hI.form
    obtain ⟨Ab, cb, rfl, -⟩ := hB.form
    have w1' : IntKind.i64.wrap ((j : Int) + 1 - 1) = (j : Int) := (IntWalk.i64_in _ (by unfold maxLen at hm; omega)).trans (by omega)
    have w2' : IntKind.i64.wrap (j : Int) = (j : Int) := IntWalk.i64_in _ (by unfold maxLen at hm; omega)
    have hjn : (j : Int) < (n : Int) := by omega
    have t0 : ((j : Int) + 1 == 0) = false := beq_eq_false_iff_ne.2 (by omega)
    generalize ob L j = o at *
    have HO := Lib.hid (And.intro hI hB)
    have HC := Lib.hid hc
    clear hI hB hc e ea
    go_enter Tryz.func60, Tryz.ntmps60
    go_wp2_with (go_at_call 73
                 rw [HW.out]
                 refine (find10_any _ S L _ (HV.out.keep HR.out.1 (fun _ _ f => f)) da da64).mono ?_
                 rw [HP.out]
                 rintro e w1 ⟨rfl, c1⟩
                 have q0 := HR.out.2.2.1.keep c1 (fun f => f)
                 have q1 := HR.out.2.2.2.1.keep c1 (fun f => f)
                 have q2 := HR.out.2.2.2.2.1.keep c1 (fun f => f)
                 have q3 := HR.out.2.2.2.2.2.keep c1 (fun f => f)
                 have x0 : w1.cell? ⟨w.heap.size, 0, none⟩ = some (.slice (some ⟨b, off, none⟩) n c) := q0.cell 0
                 have x1 := q1.four
                 have x2 : w1.cell? ⟨w.heap.size + 1 + 1, 0, none⟩ = some (.slice none 0 0) := q2.cell 0
                 have x2f := q2.frozen 0
                 have x3 := q3.seven
                 clear q0 q1 q2 q3
                 skip
                 have H1 := Lib.hid c1
                 clear c1
                 skip)
    have hbl : b < w.heap.size := World.block_lt_of_cell? w _ (HC.out w (Chg.refl _ _)).1
    have sR : w.heap.size + 4 ≤ w1.heap.size := by have := HR.out.2.1; have := H1.out.size; omega
    have zb : ∀ v, Chg (RG w) w1 v → v.cell? ⟨w.heap.size, 0, none⟩ = some (.slice (some ⟨b, off, none⟩) n c) := fun v hv => (hv.cell (p := ⟨w.heap.size, 0, none⟩) (by dsimp only; omega) (by unfold RG; dsimp only; omega)).trans x0
    have zd : ∀ v, Chg (RG w) w1 v → v.cell? ⟨w.heap.size + 1, 0, none⟩ = w1.cell? ⟨w.heap.size + 1, 0, none⟩ ∧ v.cell? ⟨w.heap.size + 1, 1, none⟩ = w1.cell? ⟨w.heap.size + 1, 1, none⟩ ∧ v.cell? ⟨w.heap.size + 1, 2, none⟩ = w1.cell? ⟨w.heap.size + 1, 2, none⟩ := fun v hv => ⟨hv.cell (p := ⟨w.heap.size + 1, 0, none⟩) (by dsimp only; omega) (by unfold RG; dsimp only; omega), hv.cell (p := ⟨w.heap.size + 1, 1, none⟩) (by dsimp only; omega) (by unfold RG; dsimp only; omega), hv.cell (p := ⟨w.heap.size + 1, 2, none⟩) (by dsimp only; omega) (by unfold RG; dsimp only; omega)⟩
    have zo : ∀ v, Chg (RG w) w1 v → v.cell? ⟨b, off + j * 4, none⟩ = some (.int .i64 o.cls) ∧ v.cell? ⟨b, off + j * 4 + 1, none⟩ = some (.int .i64 o.kind) ∧ v.cell? ⟨b, off + j * 4 + 2, none⟩ = some (.slice Aw o.W.length cw) ∧ v.cell? ⟨b, off + j * 4 + 3, none⟩ = some (.slice Ab o.B.length cb) := fun v hv => by
      have h := HC.out w1 (HR.out.1.trans H1.out)
      have hb1 : b < w1.heap.size := by omega
      have hb2 : ¬ RG w b := by unfold RG; omega
      exact ⟨(hv.cell hb1 hb2).trans h.1, (hv.cell hb1 hb2).trans h.2.1, (hv.cell hb1 hb2).trans h.2.2.1, (hv.cell hb1 hb2).trans h.2.2.2⟩
    go_region_held3 (fun w' => Chg (RG w) w1 w') (repeat (with_reducible first | assumption | exact Chg.refl _ _ | refine Chg.drew ?_ | refine Chg.setCell ?_ (by first | exact Or.inl (RG.a w) | exact Or.inl (RG.b w)) _)) (fail)
    all_goals
      go_wp2_with fail
      refine bodyPost_ret (v := .tuple #[.agg #[.slice (some ⟨b, off, none⟩) n c], .agg #[.int .i64 0, .int .i64 o.cls, .int .i64 o.kind, .slice Aw o.W.length cw, .slice Ab o.B.length cb, .bool false, .int .i64 0]]) (by simp [results, Tryz.results60, go_sem, x2, x3]) rfl (Ret.mk (Stepped.end (HV.out.old (HR.out.1.trans H1.out)) (HR.out.1.trans H1.out) ?_ ⟨_, _, rfl, ?_, ?_, k1, k2⟩))
      · (repeat (with_reducible first | assumption | exact Chg.refl _ _ | refine Chg.drew ?_ | refine Chg.setCell ?_ (by first | exact Or.inl (RG.a w) | exact Or.inl (RG.b w)) _))
      · exact HO.out.1.held (HR.out.1.trans H1.out) (by repeat (with_reducible first | assumption | exact Chg.refl _ _ | refine Chg.drew ?_ | refine Chg.setCell ?_ (by first | exact Or.inl (RG.a w) | exact Or.inl (RG.b w)) _))
      · exact HO.out.2.held (HR.out.1.trans H1.out) (by repeat (with_reducible first | assumption | exact Chg.refl _ _ | refine Chg.drew ?_ | refine Chg.setCell ?_ (by first | exact Or.inl (RG.a w) | exact Or.inl (RG.b w)) _))

set_option maxRecDepth 100000 in
set_option maxHeartbeats 4000000 in
theorem step10_3 (v : Value) (S : Nat → Prop) (L : List O) (w : World) (hv : RefM w S v L) (hok : ∀ i, (ob L i).kind ≠ 0 → (ob L i).ok) (da db dc : Int) (da64 : In64 da) :
    Calls Tryz.prog 60 #[v, .agg #[.int .i64 3, .int .i64 da, .int .i64 db, .int .i64 dc]] w (Ret (Stepped w S L ⟨fetchV L da db, O.zero, false, placeE L da 1 db⟩)) := by
  by_cases hp0 : placeE L da 1 db = 0
  · obtain ⟨j, h1, h2, h3⟩ : ∃ j, fnd L da = some j ∧ (ob L j).kind = 1 ∧ (0 ≤ db ∧ db < szO (ob L j)) := by
      rcases placeE_cases (L := L) da 1 db with ⟨h1, h2⟩ | ⟨j, h1, h2, h3⟩ | ⟨j, h1, h2, h3, h4⟩ | ⟨j, h1, h2, h3, h4⟩
      · omega
      · omega
      · omega
      · exact ⟨j, h1, h2, h3⟩
    obtain ⟨kb, rfl⟩ := Int.eq_ofNat_of_zero_le h3.1
    have hkb : kb < (ob L j).W.length := by
      have := h3.2
      simp [szO, h2] at this
      omega
    have e1 : fetchV L da (kb : Int) = (ob L j).W[kb]?.getD 0 := by
      simp only [fetchV, h1, h2, Int.toNat_natCast]
      rw [if_pos ⟨trivial, by omega, by omega⟩]
    have HP := Lib.hid (show (if placeE L da 1 (kb : Int) = 0 then findN L da else 0) = (j : Int) + 1 by rw [if_pos hp0]; simp [findN, h1])
    have HPE := Lib.hid hp0
    have hj := (fnd_some h1).2.2.1
    rw [e1, hp0]
    clear hp0 e1 h1 h2 h3
    have HV := Lib.hid hv
    obtain ⟨lv, rfl, hl⟩ := hv
    obtain ⟨A, c, rfl, hm⟩ := hl.form
    have HL := Lib.hid hl
    obtain ⟨W, hW⟩ : ∃ W, (((w.alloc (.cells #[.slice A L.length c] 71)).alloc (.cells #[.int .i64 3, .int .i64 da, .int .i64 (kb : Int), .int .i64 dc] 108)).alloc (.cells #[.slice none 0 0] 71)).alloc (.cells #[.int .i64 0, .int .i64 0, .int .i64 0, .slice none 0 0, .slice none 0 0, .bool false, .int .i64 0] 104) = W := ⟨_, rfl⟩
    have cW : Chg No w W := by rw [← hW]; exact ((((Chg.refl _ _).alloc _).alloc _).alloc _).alloc _
    have sW : W.heap.size = w.heap.size + 1 + 1 + 1 + 1 := by rw [← hW]; simp
    have r0 : Row W w.heap.size 71 #[.slice A L.length c] := by rw [← hW]; exact (((Row.new w _ _).alloc _).alloc _).alloc _
    have r1 : Row W (w.heap.size + 1) 108 #[.int .i64 3, .int .i64 da, .int .i64 (kb : Int), .int .i64 dc] := by rw [← hW]; exact Row.alloc (Row.alloc (by simpa using Row.new (w.alloc _) _ _) _) _
    have r2 : Row W (w.heap.size + 1 + 1) 71 #[.slice none 0 0] := by rw [← hW]; exact Row.alloc (by simpa using Row.new ((w.alloc _).alloc _) _ _) _
    have r3 : Row W (w.heap.size + 1 + 1 + 1) 104 #[.int .i64 0, .int .i64 0, .int .i64 0, .slice none 0 0, .slice none 0 0, .bool false, .int .i64 0] := by rw [← hW]; simpa using Row.new (((w.alloc _).alloc _).alloc _) 104 #[.int .i64 0, .int .i64 0, .int .i64 0, .slice none 0 0, .slice none 0 0, .bool false, .int .i64 0]
    have HR := Lib.hid (And.intro cW (And.intro sW (And.intro r0 (And.intro r1 (And.intro r2 r3)))))
    have HW := Lib.hid hW
    clear hl cW sW r0 r1 r2 r3 hW
    generalize hn : L.length = n at *
    have HN := Lib.hid hn
    clear hn
    obtain ⟨b, off, c', wv, bv, e, hSb, hc, ho⟩ := HL.out.cells (by rw [HN.out]; exact hj)
    rw [HN.out] at e
    obtain ⟨rfl, -, rfl⟩ := Value.slice.inj e
    obtain ⟨wv', bv', ea, hI, hB, k1, k2⟩ := ho
    obtain ⟨rfl, rfl⟩ : wv = wv' ∧ bv = bv' := by simpa [cells2] using ea
    obtain ⟨Aw, cw, rfl, -, -, -, hIc⟩ := hI.form
    obtain ⟨Ab, cb, rfl, -, -, -, hBc⟩ := hB.form
    have w1' : IntKind.i64.wrap ((j : Int) + 1 - 1) = (j : Int) := (IntWalk.i64_in _ (by unfold maxLen at hm; omega)).trans (by omega)
    have w2' : IntKind.i64.wrap (j : Int) = (j : Int) := IntWalk.i64_in _ (by unfold maxLen at hm; omega)
    have hjn : (j : Int) < (n : Int) := by omega
    generalize ob L j = o at *
    have hkz : (kb : Int) < ((o.W.length : Nat) : Int) := by omega
    obtain ⟨bx, ox, rfl, -, hbx, hcx, -⟩ := hIc kb hkb
    generalize hxv : o.W[kb]?.getD 0 = xv at *
    clear hxv
    skip
    have HC := Lib.hid hc
    clear hI hB hc e ea hIc hBc
    go_enter Tryz.func60, Tryz.ntmps60
    go_wp2_with (go_at_call 74
                 rw [HW.out]
                 refine (place10_any _ S L _ (HV.out.keep HR.out.1 (fun _ _ f => f)) hok da 1 (kb : Int) da64).mono ?_
                 rw [HP.out, HPE.out]
                 rintro e w1 ⟨rfl, c1⟩
                 have q0 := HR.out.2.2.1.keep c1 (fun f => f)
                 have q1 := HR.out.2.2.2.1.keep c1 (fun f => f)
                 have q2 := HR.out.2.2.2.2.1.keep c1 (fun f => f)
                 have q3 := HR.out.2.2.2.2.2.keep c1 (fun f => f)
                 have x0 : w1.cell? ⟨w.heap.size, 0, none⟩ = some (.slice (some ⟨b, off, none⟩) n c) := q0.cell 0
                 have x1 := q1.four
                 have x2 : w1.cell? ⟨w.heap.size + 1 + 1, 0, none⟩ = some (.slice none 0 0) := q2.cell 0
                 have x2f := q2.frozen 0
                 have x3 := q3.seven
                 clear q0 q1 q2 q3
                 skip
                 have H1 := Lib.hid c1
                 clear c1
                 skip)
    have hbl : b < w.heap.size := World.block_lt_of_cell? w _ (HC.out w (Chg.refl _ _)).1
    have sR : w.heap.size + 4 ≤ w1.heap.size := by have := HR.out.2.1; have := H1.out.size; omega
    have zb : ∀ v, Chg (RG w) w1 v → v.cell? ⟨w.heap.size, 0, none⟩ = some (.slice (some ⟨b, off, none⟩) n c) := fun v hv => (hv.cell (p := ⟨w.heap.size, 0, none⟩) (by dsimp only; omega) (by unfold RG; dsimp only; omega)).trans x0
    have zd : ∀ v, Chg (RG w) w1 v → v.cell? ⟨w.heap.size + 1, 0, none⟩ = w1.cell? ⟨w.heap.size + 1, 0, none⟩ ∧ v.cell? ⟨w.heap.size + 1, 1, none⟩ = w1.cell? ⟨w.heap.size + 1, 1, none⟩ ∧ v.cell? ⟨w.heap.size + 1, 2, none⟩ = w1.cell? ⟨w.heap.size + 1, 2, none⟩ := fun v hv => ⟨hv.cell (p := ⟨w.heap.size + 1, 0, none⟩) (by dsimp only; omega) (by unfold RG; dsimp only; omega), hv.cell (p := ⟨w.heap.size + 1, 1, none⟩) (by dsimp only; omega) (by unfold RG; dsimp only; omega), hv.cell (p := ⟨w.heap.size + 1, 2, none⟩) (by dsimp only; omega) (by unfold RG; dsimp only; omega)⟩
    have zo : ∀ v, Chg (RG w) w1 v → v.cell? ⟨b, off + j * 4, none⟩ = some (.int .i64 o.cls) ∧ v.cell? ⟨b, off + j * 4 + 1, none⟩ = some (.int .i64 o.kind) ∧ v.cell? ⟨b, off + j * 4 + 2, none⟩ = some (.slice (some ⟨bx, ox, none⟩) o.W.length cw) ∧ v.cell? ⟨b, off + j * 4 + 3, none⟩ = some (.slice Ab o.B.length cb) := fun v hv => by
      have h := HC.out w1 (HR.out.1.trans H1.out)
      have hb1 : b < w1.heap.size := by omega
      have hb2 : ¬ RG w b := by unfold RG; omega
      exact ⟨(hv.cell hb1 hb2).trans h.1, (hv.cell hb1 hb2).trans h.2.1, (hv.cell hb1 hb2).trans h.2.2.1, (hv.cell hb1 hb2).trans h.2.2.2⟩
    have zx : ∀ v, Chg (RG w) w1 v → v.cell? ⟨bx, ox + kb, none⟩ = some (.int .i64 xv) := fun v hv => (hv.cell (p := ⟨bx, ox + kb, none⟩) (by dsimp only; omega) (by unfold RG; dsimp only; omega)).trans (((HR.out.1.trans H1.out).cell hbx (fun f => f)).trans hcx)
    go_region_held3 (fun w' => Chg (RG w) w1 w') (repeat (with_reducible first | assumption | exact Chg.refl _ _ | refine Chg.drew ?_ | refine Chg.setCell ?_ (by first | exact Or.inl (RG.a w) | exact Or.inl (RG.b w)) _)) (fail)
    all_goals
      go_wp2_with fail
      refine bodyPost_ret (v := .tuple #[.agg #[.slice (some ⟨b, off, none⟩) n c], .agg #[.int .i64 xv, .int .i64 0, .int .i64 0, .slice none 0 0, .slice none 0 0, .bool false, .int .i64 0]]) (by simp [results, Tryz.results60, go_sem, x2, x3]) rfl (Ret.mk (Stepped.end (HV.out.old (HR.out.1.trans H1.out)) (HR.out.1.trans H1.out) ?_ (ToldR.flat _ _ _ _ _)))
      repeat (with_reducible first | exact Chg.refl _ _ | refine Chg.drew ?_ | refine Chg.setCell ?_ (by first | exact Or.inl (RG.a w) | exact Or.inl (RG.b w)) _)
  · obtain ⟨pe, hpe⟩ : ∃ pe, placeE L da 1 db = pe := ⟨_, rfl⟩
    have t1 : (pe != 0) = true := by rw [← hpe]; simpa using hp0
    have e1 : fetchV L da db = 0 := by
      unfold fetchV
      rcases placeE_cases (L := L) da 1 db with ⟨h1, h2⟩ | ⟨j, h1, h2, h3⟩ | ⟨j, h1, h2, h3, h4⟩ | ⟨j, h1, h2, h3, h4⟩
      · simp [h2]
      · simp [h1, h2]
      · rw [h1]
        simp only [szO, h2] at h3
        exact if_neg (fun h => h3 ⟨h.2.1, by simpa using h.2.2⟩)
      · omega
    have HP := Lib.hid (show (if placeE L da 1 db = 0 then findN L da else 0) = 0 by rw [if_neg hp0])
    have HPE := Lib.hid hpe
    rw [e1, hpe]
    clear hp0 hpe e1
    have HV := Lib.hid hv
    obtain ⟨lv, rfl, hl⟩ := hv
    obtain ⟨A, c, rfl, hm⟩ := hl.form
    have HL := Lib.hid hl
    obtain ⟨W, hW⟩ : ∃ W, (((w.alloc (.cells #[.slice A L.length c] 71)).alloc (.cells #[.int .i64 3, .int .i64 da, .int .i64 db, .int .i64 dc] 108)).alloc (.cells #[.slice none 0 0] 71)).alloc (.cells #[.int .i64 0, .int .i64 0, .int .i64 0, .slice none 0 0, .slice none 0 0, .bool false, .int .i64 0] 104) = W := ⟨_, rfl⟩
    have cW : Chg No w W := by rw [← hW]; exact ((((Chg.refl _ _).alloc _).alloc _).alloc _).alloc _
    have sW : W.heap.size = w.heap.size + 1 + 1 + 1 + 1 := by rw [← hW]; simp
    have r0 : Row W w.heap.size 71 #[.slice A L.length c] := by rw [← hW]; exact (((Row.new w _ _).alloc _).alloc _).alloc _
    have r1 : Row W (w.heap.size + 1) 108 #[.int .i64 3, .int .i64 da, .int .i64 db, .int .i64 dc] := by rw [← hW]; exact Row.alloc (Row.alloc (by simpa using Row.new (w.alloc _) _ _) _) _
    have r2 : Row W (w.heap.size + 1 + 1) 71 #[.slice none 0 0] := by rw [← hW]; exact Row.alloc (by simpa using Row.new ((w.alloc _).alloc _) _ _) _
    have r3 : Row W (w.heap.size + 1 + 1 + 1) 104 #[.int .i64 0, .int .i64 0, .int .i64 0, .slice none 0 0, .slice none 0 0, .bool false, .int .i64 0] := by rw [← hW]; simpa using Row.new (((w.alloc _).alloc _).alloc _) 104 #[.int .i64 0, .int .i64 0, .int .i64 0, .slice none 0 0, .slice none 0 0, .bool false, .int .i64 0]
    have HR := Lib.hid (And.intro cW (And.intro sW (And.intro r0 (And.intro r1 (And.intro r2 r3)))))
    have HW := Lib.hid hW
    clear hl cW sW r0 r1 r2 r3 hW
    generalize hn : L.length = n at *
    have HN := Lib.hid hn
    clear hn
    go_enter Tryz.func60, Tryz.ntmps60
    go_wp2_with (go_at_call 74
                 rw [HW.out]
                 refine (place10_any _ S L _ (HV.out.keep HR.out.1 (fun _ _ f => f)) hok da 1 db da64).mono ?_
                 rw [HP.out, HPE.out]
                 rintro e w1 ⟨rfl, c1⟩
                 have q0 := HR.out.2.2.1.keep c1 (fun f => f)
                 have q1 := HR.out.2.2.2.1.keep c1 (fun f => f)
                 have q2 := HR.out.2.2.2.2.1.keep c1 (fun f => f)
                 have q3 := HR.out.2.2.2.2.2.keep c1 (fun f => f)
                 have x0 : w1.cell? ⟨w.heap.size, 0, none⟩ = some (.slice A n c) := q0.cell 0
                 have x1 := q1.four
                 have x2 : w1.cell? ⟨w.heap.size + 1 + 1, 0, none⟩ = some (.slice none 0 0) := q2.cell 0
                 have x2f := q2.frozen 0
                 have x3 := q3.seven
                 clear q0 q1 q2 q3
                 skip
                 have H1 := Lib.hid c1
                 clear c1
                 skip)
    refine bodyPost_ret (v := .tuple #[.agg #[.slice A n c], .agg #[.int .i64 0, .int .i64 0, .int .i64 0, .slice none 0 0, .slice none 0 0, .bool false, .int .i64 pe]]) (by simp [results, Tryz.results60, go_sem, x2, x3]) rfl (Ret.mk (Stepped.end (HV.out.old (HR.out.1.trans H1.out)) (HR.out.1.trans H1.out) ?_ (ToldR.flat _ _ _ _ _)))
    repeat (with_reducible first | exact Chg.refl _ _ | refine Chg.drew ?_ | refine Chg.setCell ?_ (by first | exact Or.inl (RG.a w) | exact Or.inl (RG.b w)) _)

set_option maxRecDepth 100000 in
set_option maxHeartbeats 4000000 in
theorem step10_5 (v : Value) (S : Nat → Prop) (L : List O) (w : World) (hv : RefM w S v L) (hok : ∀ i, (ob L i).kind ≠ 0 → (ob L i).ok) (da db dc : Int) (da64 : In64 da) :
    Calls Tryz.prog 60 #[v, .agg #[.int .i64 5, .int .i64 da, .int .i64 db, .int .i64 dc]] w (Ret (Stepped w S L ⟨byteV L da db, O.zero, false, placeE L da 2 db⟩)) := by
  by_cases hp0 : placeE L da 2 db = 0
  · obtain ⟨j, h1, h2, h3⟩ : ∃ j, fnd L da = some j ∧ (ob L j).kind = 2 ∧ (0 ≤ db ∧ db < szO (ob L j)) := by
      rcases placeE_cases (L := L) da 2 db with ⟨h1, h2⟩ | ⟨j, h1, h2, h3⟩ | ⟨j, h1, h2, h3, h4⟩ | ⟨j, h1, h2, h3, h4⟩
      · omega
      · omega
      · omega
      · exact ⟨j, h1, h2, h3⟩
    obtain ⟨kb, rfl⟩ := Int.eq_ofNat_of_zero_le h3.1
    have hkb : kb < (ob L j).B.length := by
      have := h3.2
      simp [szO, h2] at this
      omega
    have e1 : byteV L da (kb : Int) = (ob L j).B[kb]?.getD 0 := by
      simp only [byteV, h1, h2, Int.toNat_natCast]
      rw [if_pos ⟨trivial, by omega, by omega⟩]
    have HP := Lib.hid (show (if placeE L da 2 (kb : Int) = 0 then findN L da else 0) = (j : Int) + 1 by rw [if_pos hp0]; simp [findN, h1])
    have HPE := Lib.hid hp0
    have hj := (fnd_some h1).2.2.1
    rw [e1, hp0]
    clear hp0 e1 h1 h2 h3
    have HV := Lib.hid hv
    obtain ⟨lv, rfl, hl⟩ := hv
    obtain ⟨A, c, rfl, hm⟩ := hl.form
    have HL := Lib.hid hl
    obtain ⟨W, hW⟩ : ∃ W, (((w.alloc (.cells #[.slice A L.length c] 71)).alloc (.cells #[.int .i64 5, .int .i64 da, .int .i64 (kb : Int), .int .i64 dc] 108)).alloc (.cells #[.slice none 0 0] 71)).alloc (.cells #[.int .i64 0, .int .i64 0, .int .i64 0, .slice none 0 0, .slice none 0 0, .bool false, .int .i64 0] 104) = W := ⟨_, rfl⟩
    have cW : Chg No w W := by rw [← hW]; exact ((((Chg.refl _ _).alloc _).alloc _).alloc _).alloc _
    have sW : W.heap.size = w.heap.size + 1 + 1 + 1 + 1 := by rw [← hW]; simp
    have r0 : Row W w.heap.size 71 #[.slice A L.length c] := by rw [← hW]; exact (((Row.new w _ _).alloc _).alloc _).alloc _
    have r1 : Row W (w.heap.size + 1) 108 #[.int .i64 5, .int .i64 da, .int .i64 (kb : Int), .int .i64 dc] := by rw [← hW]; exact Row.alloc (Row.alloc (by simpa using Row.new (w.alloc _) _ _) _) _
    have r2 : Row W (w.heap.size + 1 + 1) 71 #[.slice none 0 0] := by rw [← hW]; exact Row.alloc (by simpa using Row.new ((w.alloc _).alloc _) _ _) _
    have r3 : Row W (w.heap.size + 1 + 1 + 1) 104 #[.int .i64 0, .int .i64 0, .int .i64 0, .slice none 0 0, .slice none 0 0, .bool false, .int .i64 0] := by rw [← hW]; simpa using Row.new (((w.alloc _).alloc _).alloc _) 104 #[.int .i64 0, .int .i64 0, .int .i64 0, .slice none 0 0, .slice none 0 0, .bool false, .int .i64 0]
    have HR := Lib.hid (And.intro cW (And.intro sW (And.intro r0 (And.intro r1 (And.intro r2 r3)))))
    have HW := Lib.hid hW
    clear hl cW sW r0 r1 r2 r3 hW
    generalize hn : L.length = n at *
    have HN := Lib.hid hn
    clear hn
    obtain ⟨b, off, c', wv, bv, e, hSb, hc, ho⟩ := HL.out.cells (by rw [HN.out]; exact hj)
    rw [HN.out] at e
    obtain ⟨rfl, -, rfl⟩ := Value.slice.inj e
    obtain ⟨wv', bv', ea, hI, hB, k1, k2⟩ := ho
    obtain ⟨rfl, rfl⟩ : wv = wv' ∧ bv = bv' := by simpa [cells2] using ea
    obtain ⟨Aw, cw, rfl, -, -, -, hIc⟩ := hI.form
    obtain ⟨Ab, cb, rfl, -, -, -, hBc⟩ := hB.form
    have w1' : IntKind.i64.wrap ((j : Int) + 1 - 1) = (j : Int) := (IntWalk.i64_in _ (by unfold maxLen at hm; omega)).trans (by omega)
    have w2' : IntKind.i64.wrap (j : Int) = (j : Int) := IntWalk.i64_in _ (by unfold maxLen at hm; omega)
    have hjn : (j : Int) < (n : Int) := by omega
    generalize ob L j = o at *
    have hkz : (kb : Int) < ((o.B.length : Nat) : Int) := by omega
    obtain ⟨bx, ox, rfl, -, hbx, hcx, hx0, hx1⟩ := hBc kb hkb
    generalize hxv : o.B[kb]?.getD 0 = xv at *
    clear hxv
    have hxw : IntKind.i64.wrap xv = xv := IntWalk.i64_in _ (by omega)
    have HC := Lib.hid hc
    clear hI hB hc e ea hIc hBc
    go_enter Tryz.func60, Tryz.ntmps60
    go_wp2_with (go_at_call 74
                 rw [HW.out]
                 refine (place10_any _ S L _ (HV.out.keep HR.out.1 (fun _ _ f => f)) hok da 2 (kb : Int) da64).mono ?_
                 rw [HP.out, HPE.out]
                 rintro e w1 ⟨rfl, c1⟩
                 have q0 := HR.out.2.2.1.keep c1 (fun f => f)
                 have q1 := HR.out.2.2.2.1.keep c1 (fun f => f)
                 have q2 := HR.out.2.2.2.2.1.keep c1 (fun f => f)
                 have q3 := HR.out.2.2.2.2.2.keep c1 (fun f => f)
                 have x0 : w1.cell? ⟨w.heap.size, 0, none⟩ = some (.slice (some ⟨b, off, none⟩) n c) := q0.cell 0
                 have x1 := q1.four
                 have x2 : w1.cell? ⟨w.heap.size + 1 + 1, 0, none⟩ = some (.slice none 0 0) := q2.cell 0
                 have x2f := q2.frozen 0
                 have x3 := q3.seven
                 clear q0 q1 q2 q3
                 skip
                 have H1 := Lib.hid c1
                 clear c1
                 skip)
    have hbl : b < w.heap.size := World.block_lt_of_cell? w _ (HC.out w (Chg.refl _ _)).1
    have sR : w.heap.size + 4 ≤ w1.heap.size := by have := HR.out.2.1; have := H1.out.size; omega
    have zb : ∀ v, Chg (RG w) w1 v → v.cell? ⟨w.heap.size, 0, none⟩ = some (.slice (some ⟨b, off, none⟩) n c) := fun v hv => (hv.cell (p := ⟨w.heap.size, 0, none⟩) (by dsimp only; omega) (by unfold RG; dsimp only; omega)).trans x0
    have zd : ∀ v, Chg (RG w) w1 v → v.cell? ⟨w.heap.size + 1, 0, none⟩ = w1.cell? ⟨w.heap.size + 1, 0, none⟩ ∧ v.cell? ⟨w.heap.size + 1, 1, none⟩ = w1.cell? ⟨w.heap.size + 1, 1, none⟩ ∧ v.cell? ⟨w.heap.size + 1, 2, none⟩ = w1.cell? ⟨w.heap.size + 1, 2, none⟩ := fun v hv => ⟨hv.cell (p := ⟨w.heap.size + 1, 0, none⟩) (by dsimp only; omega) (by unfold RG; dsimp only; omega), hv.cell (p := ⟨w.heap.size + 1, 1, none⟩) (by dsimp only; omega) (by unfold RG; dsimp only; omega), hv.cell (p := ⟨w.heap.size + 1, 2, none⟩) (by dsimp only; omega) (by unfold RG; dsimp only; omega)⟩
    have zo : ∀ v, Chg (RG w) w1 v → v.cell? ⟨b, off + j * 4, none⟩ = some (.int .i64 o.cls) ∧ v.cell? ⟨b, off + j * 4 + 1, none⟩ = some (.int .i64 o.kind) ∧ v.cell? ⟨b, off + j * 4 + 2, none⟩ = some (.slice Aw o.W.length cw) ∧ v.cell? ⟨b, off + j * 4 + 3, none⟩ = some (.slice (some ⟨bx, ox, none⟩) o.B.length cb) := fun v hv => by
      have h := HC.out w1 (HR.out.1.trans H1.out)
      have hb1 : b < w1.heap.size := by omega
      have hb2 : ¬ RG w b := by unfold RG; omega
      exact ⟨(hv.cell hb1 hb2).trans h.1, (hv.cell hb1 hb2).trans h.2.1, (hv.cell hb1 hb2).trans h.2.2.1, (hv.cell hb1 hb2).trans h.2.2.2⟩
    have zx : ∀ v, Chg (RG w) w1 v → v.cell? ⟨bx, ox + kb, none⟩ = some (.int .u8 xv) := fun v hv => (hv.cell (p := ⟨bx, ox + kb, none⟩) (by dsimp only; omega) (by unfold RG; dsimp only; omega)).trans (((HR.out.1.trans H1.out).cell hbx (fun f => f)).trans hcx)
    go_region_held3 (fun w' => Chg (RG w) w1 w') (repeat (with_reducible first | assumption | exact Chg.refl _ _ | refine Chg.drew ?_ | refine Chg.setCell ?_ (by first | exact Or.inl (RG.a w) | exact Or.inl (RG.b w)) _)) (fail)
    all_goals
      go_wp2_with fail
      refine bodyPost_ret (v := .tuple #[.agg #[.slice (some ⟨b, off, none⟩) n c], .agg #[.int .i64 xv, .int .i64 0, .int .i64 0, .slice none 0 0, .slice none 0 0, .bool false, .int .i64 0]]) (by simp [results, Tryz.results60, go_sem, x2, x3]) rfl (Ret.mk (Stepped.end (HV.out.old (HR.out.1.trans H1.out)) (HR.out.1.trans H1.out) ?_ (ToldR.flat _ _ _ _ _)))
      repeat (with_reducible first | exact Chg.refl _ _ | refine Chg.drew ?_ | refine Chg.setCell ?_ (by first | exact Or.inl (RG.a w) | exact Or.inl (RG.b w)) _)
  · obtain ⟨pe, hpe⟩ : ∃ pe, placeE L da 2 db = pe := ⟨_, rfl⟩
    have t1 : (pe != 0) = true := by rw [← hpe]; simpa using hp0
    have e1 : byteV L da db = 0 := by
      unfold byteV
      rcases placeE_cases (L := L) da 2 db with ⟨h1, h2⟩ | ⟨j, h1, h2, h3⟩ | ⟨j, h1, h2, h3, h4⟩ | ⟨j, h1, h2, h3, h4⟩
      · simp [h2]
      · simp [h1, h2]
      · rw [h1]
        simp only [szO, h2] at h3
        exact if_neg (fun h => h3 ⟨h.2.1, by simpa using h.2.2⟩)
      · omega
    have HP := Lib.hid (show (if placeE L da 2 db = 0 then findN L da else 0) = 0 by rw [if_neg hp0])
    have HPE := Lib.hid hpe
    rw [e1, hpe]
    clear hp0 hpe e1
    have HV := Lib.hid hv
    obtain ⟨lv, rfl, hl⟩ := hv
    obtain ⟨A, c, rfl, hm⟩ := hl.form
    have HL := Lib.hid hl
    obtain ⟨W, hW⟩ : ∃ W, (((w.alloc (.cells #[.slice A L.length c] 71)).alloc (.cells #[.int .i64 5, .int .i64 da, .int .i64 db, .int .i64 dc] 108)).alloc (.cells #[.slice none 0 0] 71)).alloc (.cells #[.int .i64 0, .int .i64 0, .int .i64 0, .slice none 0 0, .slice none 0 0, .bool false, .int .i64 0] 104) = W := ⟨_, rfl⟩
    have cW : Chg No w W := by rw [← hW]; exact ((((Chg.refl _ _).alloc _).alloc _).alloc _).alloc _
    have sW : W.heap.size = w.heap.size + 1 + 1 + 1 + 1 := by rw [← hW]; simp
    have r0 : Row W w.heap.size 71 #[.slice A L.length c] := by rw [← hW]; exact (((Row.new w _ _).alloc _).alloc _).alloc _
    have r1 : Row W (w.heap.size + 1) 108 #[.int .i64 5, .int .i64 da, .int .i64 db, .int .i64 dc] := by rw [← hW]; exact Row.alloc (Row.alloc (by simpa using Row.new (w.alloc _) _ _) _) _
    have r2 : Row W (w.heap.size + 1 + 1) 71 #[.slice none 0 0] := by rw [← hW]; exact Row.alloc (by simpa using Row.new ((w.alloc _).alloc _) _ _) _
    have r3 : Row W (w.heap.size + 1 + 1 + 1) 104 #[.int .i64 0, .int .i64 0, .int .i64 0, .slice none 0 0, .slice none 0 0, .bool false, .int .i64 0] := by rw [← hW]; simpa using Row.new (((w.alloc _).alloc _).alloc _) 104 #[.int .i64 0, .int .i64 0, .int .i64 0, .slice none 0 0, .slice none 0 0, .bool false, .int .i64 0]
    have HR := Lib.hid (And.intro cW (And.intro sW (And.intro r0 (And.intro r1 (And.intro r2 r3)))))
    have HW := Lib.hid hW
    clear hl cW sW r0 r1 r2 r3 hW
    generalize hn : L.length = n at *
    have HN := Lib.hid hn
    clear hn
    go_enter Tryz.func60, Tryz.ntmps60
    go_wp2_with (go_at_call 74
                 rw [HW.out]
                 refine (place10_any _ S L _ (HV.out.keep HR.out.1 (fun _ _ f => f)) hok da 2 db da64).mono ?_
                 rw [HP.out, HPE.out]
                 rintro e w1 ⟨rfl, c1⟩
                 have q0 := HR.out.2.2.1.keep c1 (fun f => f)
                 have q1 := HR.out.2.2.2.1.keep c1 (fun f => f)
                 have q2 := HR.out.2.2.2.2.1.keep c1 (fun f => f)
                 have q3 := HR.out.2.2.2.2.2.keep c1 (fun f => f)
                 have x0 : w1.cell? ⟨w.heap.size, 0, none⟩ = some (.slice A n c) := q0.cell 0
                 have x1 := q1.four
                 have x2 : w1.cell? ⟨w.heap.size + 1 + 1, 0, none⟩ = some (.slice none 0 0) := q2.cell 0
                 have x2f := q2.frozen 0
                 have x3 := q3.seven
                 clear q0 q1 q2 q3
                 skip
                 have H1 := Lib.hid c1
                 clear c1
                 skip)
    refine bodyPost_ret (v := .tuple #[.agg #[.slice A n c], .agg #[.int .i64 0, .int .i64 0, .int .i64 0, .slice none 0 0, .slice none 0 0, .bool false, .int .i64 pe]]) (by simp [results, Tryz.results60, go_sem, x2, x3]) rfl (Ret.mk (Stepped.end (HV.out.old (HR.out.1.trans H1.out)) (HR.out.1.trans H1.out) ?_ (ToldR.flat _ _ _ _ _)))
    repeat (with_reducible first | exact Chg.refl _ _ | refine Chg.drew ?_ | refine Chg.setCell ?_ (by first | exact Or.inl (RG.a w) | exact Or.inl (RG.b w)) _)

end Go.Proofs.YtifcigjminbllaaGreatDoor
