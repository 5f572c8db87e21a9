/- All that is done to a flat memory, one contract: the rest, and all together. -/
import Derived.Test.YtmpfpfemjpmbaaaDone
namespace Go.Proofs.Ytmpfpfemjpmbaaa
set_option linter.unusedVariables false
set_option linter.unusedSimpArgs false
open Go.RowKit

section
variable {w0 w w' : World} {m : Nat} {L L' : List O} {K : (Nat → Prop) → World → Prop} {F F' : Nat → Prop}
set_option maxRecDepth 100000 in
set_option maxHeartbeats 4000000 in
theorem done_2 (h : MemK w0 w m L K) (da db dc : Int) (da64 : In64 da) : Calls Try.prog 29 #[.iface 37 (.pointer (some ⟨m, 0, none⟩)), .agg #[.int .i64 2, .int .i64 da, .int .i64 db, .int .i64 dc]] w (Ret (Done w0 w m L K ⟨0, objV L da, false, objE L da⟩)) := by
  obtain ⟨F, hf, hc, hF, hK⟩ := h
  have HM := Lib.hid (And.intro hf (And.intro hc (And.intro hF hK)))
  have hz0 : In64 0 := by unfold In64; omega
  obtain ⟨w3, hw3⟩ : ∃ w3, ((w.alloc (.cells #[.int .i64 2, .int .i64 da, .int .i64 db, .int .i64 dc] 58)).alloc (.cells #[.int .i64 0, .int .i64 0, .int .i64 0, .slice none 0 0, .slice none 0 0, .bool false, .int .i64 0] 55)).alloc (.cells #[.int .i64 0, .int .i64 0, .int .i64 0, .slice none 0 0, .slice none 0 0, .bool false, .int .i64 0] 55) = w3 := ⟨_, rfl⟩
  have c3 : Chg No w w3 := by rw [← hw3]; exact (((Chg.refl _ _).alloc _).alloc _).alloc _
  have s3 : w3.heap.size = w.heap.size + 3 := by rw [← hw3]; simp
  have r1 : Row w3 (w.heap.size + 1) 55 #[.int .i64 0, .int .i64 0, .int .i64 0, .slice none 0 0, .slice none 0 0, .bool false, .int .i64 0] := by
    rw [← hw3]
    exact Row.alloc (by simpa using Row.new (w.alloc (.cells #[.int .i64 2, .int .i64 da, .int .i64 db, .int .i64 dc] 58)) 55 #[.int .i64 0, .int .i64 0, .int .i64 0, .slice none 0 0, .slice none 0 0, .bool false, .int .i64 0]) _
  have r2 : Row w3 (w.heap.size + 1 + 1) 55 #[.int .i64 0, .int .i64 0, .int .i64 0, .slice none 0 0, .slice none 0 0, .bool false, .int .i64 0] := by
    rw [← hw3]
    simpa using Row.new ((w.alloc (.cells #[.int .i64 2, .int .i64 da, .int .i64 db, .int .i64 dc] 58)).alloc (.cells #[.int .i64 0, .int .i64 0, .int .i64 0, .slice none 0 0, .slice none 0 0, .bool false, .int .i64 0] 55)) 55 #[.int .i64 0, .int .i64 0, .int .i64 0, .slice none 0 0, .slice none 0 0, .bool false, .int .i64 0]
  have g3 := (hf.keep c3 (fun _ _ f => f)).toK
  have HR := Lib.hid (And.intro c3 (And.intro s3 (And.intro r1 (And.intro r2 g3))))
  have H3 := Lib.hid hw3
  clear hf hc hF hK c3 r1 r2 g3 s3 hw3
  go_enter Try.func29, Try.ntmps29
  go_wp2_with fail
  rw [H3.out]
  refine (k_ObjC HR.out.2.2.2.2 da da64).mono ?_
  rintro e w4 ⟨r, rfl, g4, hr, -⟩
  obtain ⟨wv, bv, rfl, hI, hB, k1, k2⟩ := hr
  obtain ⟨A5, c5, rfl, -⟩ := hI.form
  obtain ⟨A6, c6, rfl, -⟩ := hB.form
  have HI := Lib.hid (And.intro hI hB)
  clear hI hB
  simp only [cells2]
  obtain ⟨F', hf4, -, ht⟩ := g4.opened
  have nF : ∀ b, w.heap.size ≤ b → b < w3.heap.size → ¬ F b := fun b hb _ hg => by have := HM.out.1.lt hg; omega
  have q1 := HR.out.2.2.1.keep ht.2.2 (nF _ (by omega) (by have := HR.out.2.1; omega))
  have q2 := HR.out.2.2.2.1.keep ht.2.2 (nF _ (by omega) (by have := HR.out.2.1; omega))
  have f1 := q1.seven
  have f2 := q2.seven
  have HZ := Lib.hid (And.intro hf4 ht)
  clear g4 hf4 ht nF q1 q2
  generalize objV L da = o at *
  go_wp2_with fail
  have cW : ∀ W, Chg (fun b => b = w.heap.size + 1 ∨ b = w.heap.size + 1 + 1) w4 W → IntS W (fun b => w.heap.size ≤ b) (.slice A5 o.W.length c5) o.W ∧ ByteS W (fun b => w.heap.size ≤ b) (.slice A6 o.B.length c6) o.B := fun W hW => by
    have h1 := HR.out.2.1
    exact ⟨(HI.out.1.keep hW (fun b hb hg => by omega)).more (fun b _ hb => by omega), (HI.out.2.keep hW (fun b hb hg => by omega)).more (fun b _ hb => by omega)⟩
  refine bodyPost_ret (v := .agg (TD.cells ⟨0, o, false, objE L da⟩ (.slice A5 o.W.length c5) (.slice A6 o.B.length c6))) (by simp [results, Try.results29, go_sem, TD.cells, O.zero, f1, f2]) rfl (Ret.mk ⟨_, _, rfl, (cW _ ?_).1, (cW _ ?_).2, k1, k2, ?_⟩)
  · repeat (with_reducible first | exact Chg.refl _ _ | refine Chg.setCell ?_ (.inl (by simp)) _)
  · repeat (with_reducible first | exact Chg.refl _ _ | refine Chg.setCell ?_ (.inl (by simp)) _)
  obtain ⟨hf, hc, hF, hK⟩ := HM.out
  refine done_end hf hc hF hK HR.out.1 HZ.out.1 HZ.out.2 (G := fun b => b = w.heap.size + 1 ∨ b = w.heap.size + 1 + 1) (fun b hb => by have := HR.out.2.1; omega) ?_
  repeat (with_reducible first | exact Chg.refl _ _ | refine Chg.setCell ?_ (.inl (by simp)) _)

set_option maxRecDepth 100000 in
set_option maxHeartbeats 4000000 in
theorem done_9 (h : MemK w0 w m L K) (k da db dc : Int) (da64 : In64 da) (db64 : In64 db) (dc64 : In64 dc) (hk : k < 1 ∨ 8 < k) : Calls Try.prog 29 #[.iface 37 (.pointer (some ⟨m, 0, none⟩)), .agg #[.int .i64 k, .int .i64 da, .int .i64 db, .int .i64 dc]] w (Ret (Done w0 w m (colL L (numsOf [da, db, dc])) K ⟨(liveN L : Int) - liveN (colL L (numsOf [da, db, dc])), O.zero, false, 0⟩)) := by
  have n1 : (k == 1) = false := beq_eq_false_iff_ne.2 (by omega)
  have n2 : (k == 2) = false := beq_eq_false_iff_ne.2 (by omega)
  have n3 : (k == 3) = false := beq_eq_false_iff_ne.2 (by omega)
  have n4 : (k == 4) = false := beq_eq_false_iff_ne.2 (by omega)
  have n5 : (k == 5) = false := beq_eq_false_iff_ne.2 (by omega)
  have n6 : (k == 6) = false := beq_eq_false_iff_ne.2 (by omega)
  have n7 : (k == 7) = false := beq_eq_false_iff_ne.2 (by omega)
  have n8 : (k == 8) = false := beq_eq_false_iff_ne.2 (by omega)
  clear hk
  generalize hN : (liveN L : Int) - liveN (colL L (numsOf [da, db, dc])) = N
  have HN := Lib.hid hN
  clear hN
  obtain ⟨F, hf, hc, hF, hK⟩ := h
  have HM := Lib.hid (And.intro hf (And.intro hc (And.intro hF hK)))
  have hz0 : In64 0 := by unfold In64; omega
  obtain ⟨w3, hw3⟩ : ∃ w3, ((w.alloc (.cells #[.int .i64 k, .int .i64 da, .int .i64 db, .int .i64 dc] 58)).alloc (.cells #[.int .i64 0, .int .i64 0, .int .i64 0, .slice none 0 0, .slice none 0 0, .bool false, .int .i64 0] 55)).alloc (.cells #[.int .i64 0, .int .i64 0, .int .i64 0, .slice none 0 0, .slice none 0 0, .bool false, .int .i64 0] 55) = w3 := ⟨_, rfl⟩
  have c3 : Chg No w w3 := by rw [← hw3]; exact (((Chg.refl _ _).alloc _).alloc _).alloc _
  have s3 : w3.heap.size = w.heap.size + 3 := by rw [← hw3]; simp
  have r1 : Row w3 (w.heap.size + 1) 55 #[.int .i64 0, .int .i64 0, .int .i64 0, .slice none 0 0, .slice none 0 0, .bool false, .int .i64 0] := by
    rw [← hw3]
    exact Row.alloc (by simpa using Row.new (w.alloc (.cells #[.int .i64 k, .int .i64 da, .int .i64 db, .int .i64 dc] 58)) 55 #[.int .i64 0, .int .i64 0, .int .i64 0, .slice none 0 0, .slice none 0 0, .bool false, .int .i64 0]) _
  have r2 : Row w3 (w.heap.size + 1 + 1) 55 #[.int .i64 0, .int .i64 0, .int .i64 0, .slice none 0 0, .slice none 0 0, .bool false, .int .i64 0] := by
    rw [← hw3]
    simpa using Row.new ((w.alloc (.cells #[.int .i64 k, .int .i64 da, .int .i64 db, .int .i64 dc] 58)).alloc (.cells #[.int .i64 0, .int .i64 0, .int .i64 0, .slice none 0 0, .slice none 0 0, .bool false, .int .i64 0] 55)) 55 #[.int .i64 0, .int .i64 0, .int .i64 0, .slice none 0 0, .slice none 0 0, .bool false, .int .i64 0]
  have g3 := (hf.keep c3 (fun _ _ f => f)).toK
  have HR := Lib.hid (And.intro c3 (And.intro s3 (And.intro r1 (And.intro r2 g3))))
  have H3 := Lib.hid hw3
  clear hf hc hF hK c3 r1 r2 g3 s3 hw3
  go_enter Try.func29, Try.ntmps29
  go_wp2_with fail
  rw [H3.out]
  have hS : IntS (w3.alloc (.cells #[.int .i64 da, .int .i64 db, .int .i64 dc] 3)) (fun _ => True) (.slice (some ⟨w3.heap.size, 0, none⟩) 3 3) [da, db, dc] :=
    ⟨by simpa using Slc.row (S := fun _ => True) (Row.new w3 3 #[.int .i64 da, .int .i64 db, .int .i64 dc]) 3 1 rfl (by unfold maxLen; omega) trivial, by intro x hx; simp at hx; rcases hx with rfl | rfl | rfl <;> assumption⟩
  have hs3 : w3.heap.size = w.heap.size + 1 + 1 + 1 := HR.out.2.1
  rw [← hs3]
  refine (k_Collect (HR.out.2.2.2.2.world ((Chg.refl _ _).alloc _)) _ [da, db, dc] _ hS (by simp)).mono ?_
  rw [HN.out]
  rintro e w4 ⟨rfl, g4⟩
  clear hS
  obtain ⟨F', hf4, -, ht⟩ := g4.opened
  have nF : ∀ b, w.heap.size ≤ b → b < w3.heap.size → ¬ F b := fun b hb _ hg => by have := HM.out.1.lt hg; omega
  have q1 := HR.out.2.2.1.keep ht.2.2 (nF _ (by omega) (by have := HR.out.2.1; omega))
  have q2 := HR.out.2.2.2.1.keep ht.2.2 (nF _ (by omega) (by have := HR.out.2.1; omega))
  have f1 := q1.seven
  have f2 := q2.seven
  have HZ := Lib.hid (And.intro hf4 ht)
  clear g4 hf4 ht nF q1 q2
  go_wp2_with fail
  refine bodyPost_ret (v := .agg (TD.cells ⟨N, O.zero, false, 0⟩ (.slice none 0 0) (.slice none 0 0))) (by simp [results, Try.results29, go_sem, TD.cells, O.zero, f1, f2]) rfl (Ret.mk ⟨_, _, rfl, IntS.nil _ _, ByteS.nil _ _, hz0, hz0, ?_⟩)
  obtain ⟨hf, hc, hF, hK⟩ := HM.out
  refine done_end hf hc hF hK HR.out.1 HZ.out.1 HZ.out.2 (G := fun b => b = w.heap.size + 1 ∨ b = w.heap.size + 1 + 1) (fun b hb => by have := HR.out.2.1; omega) ?_
  repeat (with_reducible first | exact Chg.refl _ _ | refine Chg.setCell ?_ (.inl (by simp)) _)

theorem k_done (h : MemK w0 w m L K) (d : D4) (hd : d.in64) (hn : L.length + 1 < 1073741823) : Calls Try.prog 29 #[.iface 37 (.pointer (some ⟨m, 0, none⟩)), .agg d.cells] w (Ret (Done w0 w m (doneL L d) K (doneT L d))) := by
  obtain ⟨k, da, db, dc⟩ := d
  obtain ⟨-, da64, db64, dc64⟩ := hd
  simp only [D4.cells, doneL, doneT] at *
  by_cases h1 : k = 1
  · subst h1; exact done_1 h da db dc da64 db64 dc64 hn
  by_cases h2 : k = 2
  · subst h2; exact done_2 h da db dc da64
  by_cases h3 : k = 3
  · subst h3; exact done_3 h da db dc da64 db64 dc64 hn
  by_cases h4 : k = 4
  · subst h4; exact done_4 h da db dc da64 db64 dc64 hn
  by_cases h5 : k = 5
  · subst h5; exact done_5 h da db dc da64 db64 dc64 hn
  by_cases h6 : k = 6
  · subst h6; exact done_6 h da db dc da64 db64 dc64 hn
  by_cases h7 : k = 7
  · subst h7; exact done_7 h da db dc da64 db64 dc64 hn
  by_cases h8 : k = 8
  · subst h8; exact done_8 h da db dc da64 db64 dc64 hn
  · simp only [h1, h2, h3, h4, h5, h6, h7, h8, if_false, or_self]
    exact done_9 h k da db dc da64 db64 dc64 (by omega)
end

end Go.Proofs.Ytmpfpfemjpmbaaa
