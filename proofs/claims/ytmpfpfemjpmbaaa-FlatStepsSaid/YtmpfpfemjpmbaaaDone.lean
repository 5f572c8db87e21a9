/- All that is done to a flat memory, one contract: websterlaw10.done. -/
import Derived.Test.YtmpfpfemjpmbaaaFlatM
namespace Go.Proofs.Ytmpfpfemjpmbaaa
set_option linter.unusedVariables false
set_option linter.unusedSimpArgs false
open Go.RowKit

section
variable {w0 w w' : World} {m : Nat} {L L' : List O} {K : (Nat → Prop) → World → Prop} {F F' : Nat → Prop}
theorem k_Collect (h : MemK w0 w m L K) (v : Value) (R0 : List Int) (S : Nat → Prop) (hR : IntS w S v R0) (hRl : R0.length ≤ 1073741823) :
    Calls Try.prog 32 #[.pointer (some ⟨m, 0, none⟩), v] w fun e w' => e = .returned (.tuple #[.int .i64 ((liveN L : Int) - liveN (colL L (numsOf R0))), .int .i64 0]) ∧ MemK w0 w' m (colL L (numsOf R0)) K := by
  obtain ⟨F, ⟨q, es, ad, wv, bv, hi⟩, hc0, hF, hK⟩ := h
  refine (Collect_any hi v R0 S hR hRl).mono ?_
  rintro e w' ⟨h1, h2, h3⟩
  exact ⟨h1, MemK.go ⟨q, es, ad, wv, bv, hi⟩ hc0 hF hK h2 h3 (fun b hb => .inl hb) (fun _ h => h)⟩

/-- what one thing that is done turns -/
def Turned (w : World) (F : Nat → Prop) (F' : Nat → Prop) (w' : World) : Prop := (∀ b, F b → F' b) ∧ (∀ b, F' b → F b ∨ w.heap.size ≤ b) ∧ Chg F w w'
theorem Flat.toK (hf : Flat w m F L) : MemK { w with heap := #[] } w m L (Turned w F) :=
  ⟨F, hf, ⟨rfl, rfl, rfl, by simp, by simp⟩, by simp, fun F' w' h1 h2 c => ⟨h1, h2, c⟩⟩
end

/-- what is told -/
structure TD where
  n : Int
  o : O
  ok : Bool
  e : Int
def TD.cells (t : TD) (wv bv : Value) : Array Value := #[.int .i64 t.n, .int .i64 t.o.cls, .int .i64 t.o.kind, wv, bv, .bool t.ok, .int .i64 t.e]
noncomputable def doneT (L : List O) (d : D4) : TD :=
  if d.k = 1 then ⟨newN L d.a d.b d.c, O.zero, false, newE d.a d.b d.c⟩
  else if d.k = 2 then ⟨0, objV L d.a, false, objE L d.a⟩
  else if d.k = 3 then ⟨fetchV L d.a d.b, O.zero, false, placeE L d.a 1 d.b⟩
  else if d.k = 4 then ⟨0, O.zero, false, setE L d.a d.b d.c⟩
  else if d.k = 5 then ⟨byteV L d.a d.b, O.zero, false, placeE L d.a 2 d.b⟩
  else if d.k = 6 then ⟨0, O.zero, false, sbyteE L d.a d.b d.c⟩
  else if d.k = 7 then ⟨0, O.zero, false, becomeE L d.a d.b⟩
  else if d.k = 8 then ⟨nextN L d.a, O.zero, nextOK L d.a, 0⟩
  else ⟨(liveN L : Int) - liveN (colL L (numsOf [d.a, d.b, d.c])), O.zero, false, 0⟩
noncomputable def doneL (L : List O) (d : D4) : List O :=
  if d.k = 1 then newL L d.a d.b d.c
  else if d.k = 4 then setL L d.a d.b d.c
  else if d.k = 6 then sbyteL L d.a d.b d.c
  else if d.k = 7 then becomeL L d.a d.b
  else if d.k = 2 ∨ d.k = 3 ∨ d.k = 5 ∨ d.k = 8 then L
  else colL L (numsOf [d.a, d.b, d.c])

/-- told, and the memory is what it then is -/
def Done (w0 w : World) (m : Nat) (L' : List O) (K : (Nat → Prop) → World → Prop) (t : TD) (v : Value) (w' : World) : Prop :=
  ∃ wv bv, v = .agg (t.cells wv bv) ∧ IntS w' (fun b => w.heap.size ≤ b) wv t.o.W ∧ ByteS w' (fun b => w.heap.size ≤ b) bv t.o.B ∧ In64 t.o.cls ∧ In64 t.o.kind ∧ MemK w0 w' m L' K

theorem Row.seven {w : World} {b : Nat} {t : TypeId} {x0 x1 x2 x3 x4 x5 x6 : Value} (h : Row w b t #[x0, x1, x2, x3, x4, x5, x6]) :
    w.cell? ⟨b, 0, none⟩ = some x0 ∧ w.cell? ⟨b, 1, none⟩ = some x1 ∧ w.cell? ⟨b, 2, none⟩ = some x2 ∧ w.cell? ⟨b, 3, none⟩ = some x3 ∧ w.cell? ⟨b, 4, none⟩ = some x4 ∧ w.cell? ⟨b, 5, none⟩ = some x5 ∧ w.cell? ⟨b, 6, none⟩ = some x6 ∧ ∀ i, w.frozen? ⟨b, i, none⟩ = false :=
  ⟨h.cell 0, h.cell 1, h.cell 2, h.cell 3, h.cell 4, h.cell 5, h.cell 6, h.frozen⟩

section
variable {w0 w w' : World} {m : Nat} {L L' : List O} {K : (Nat → Prop) → World → Prop} {F F' : Nat → Prop}
/-- the end of each way: cells of new blocks have been written behind the call -/
theorem done_end (hf : Flat w m F L) (hc : Chg No w0 w) (hF : ∀ b, F b → w0.heap.size ≤ b) (hK : ∀ F' w', (∀ b, F b → F' b) → (∀ b, F' b → F b ∨ w.heap.size ≤ b) → Chg F w w' → K F' w')
    {w3 w4 W : World} (h3 : Chg No w w3) (hf4 : Flat w4 m F' L') (ht : Turned w3 F F' w4) {G : Nat → Prop} (hG : ∀ b, G b → w.heap.size ≤ b ∧ b < w3.heap.size) (hW : Chg G w4 W) : MemK w0 W m L' K := by
  have h3s := h3.size
  have cw4 : Chg F w w4 := h3.no.trans ht.2.2
  refine MemK.go hf hc hF hK (hf4.keep hW fun b hb hg => ?_) (cw4.then hW fun i hi hg => ?_) (fun b hb => ?_) ht.1
  · have h1 := hG b hg
    rcases ht.2.1 b hb with h | h
    · have := hf.lt h; omega
    · omega
  · have := hG i hg; omega
  · rcases ht.2.1 b hb with h | h
    · exact .inl h
    · exact .inr (by omega)

set_option maxRecDepth 100000 in
set_option maxHeartbeats 4000000 in
theorem done_1 (h : MemK w0 w m L K) (da db dc : Int) (da64 : In64 da) (db64 : In64 db) (dc64 : In64 dc) (hn : L.length + 1 < 1073741823) : Calls Try.prog 29 #[.iface 37 (.pointer (some ⟨m, 0, none⟩)), .agg #[.int .i64 1, .int .i64 da, .int .i64 db, .int .i64 dc]] w (Ret (Done w0 w m (newL L da db dc) K ⟨newN L da db dc, O.zero, false, newE da db dc⟩)) := by
  obtain ⟨F, hf, hc, hF, hK⟩ := h
  have HM := Lib.hid (And.intro hf (And.intro hc (And.intro hF hK)))
  have hz0 : In64 0 := by unfold In64; omega
  obtain ⟨w3, hw3⟩ : ∃ w3, ((w.alloc (.cells #[.int .i64 1, .int .i64 da, .int .i64 db, .int .i64 dc] 58)).alloc (.cells #[.int .i64 0, .int .i64 0, .int .i64 0, .slice none 0 0, .slice none 0 0, .bool false, .int .i64 0] 55)).alloc (.cells #[.int .i64 0, .int .i64 0, .int .i64 0, .slice none 0 0, .slice none 0 0, .bool false, .int .i64 0] 55) = w3 := ⟨_, rfl⟩
  have c3 : Chg No w w3 := by rw [← hw3]; exact (((Chg.refl _ _).alloc _).alloc _).alloc _
  have s3 : w3.heap.size = w.heap.size + 3 := by rw [← hw3]; simp
  have r1 : Row w3 (w.heap.size + 1) 55 #[.int .i64 0, .int .i64 0, .int .i64 0, .slice none 0 0, .slice none 0 0, .bool false, .int .i64 0] := by
    rw [← hw3]
    exact Row.alloc (by simpa using Row.new (w.alloc (.cells #[.int .i64 1, .int .i64 da, .int .i64 db, .int .i64 dc] 58)) 55 #[.int .i64 0, .int .i64 0, .int .i64 0, .slice none 0 0, .slice none 0 0, .bool false, .int .i64 0]) _
  have r2 : Row w3 (w.heap.size + 1 + 1) 55 #[.int .i64 0, .int .i64 0, .int .i64 0, .slice none 0 0, .slice none 0 0, .bool false, .int .i64 0] := by
    rw [← hw3]
    simpa using Row.new ((w.alloc (.cells #[.int .i64 1, .int .i64 da, .int .i64 db, .int .i64 dc] 58)).alloc (.cells #[.int .i64 0, .int .i64 0, .int .i64 0, .slice none 0 0, .slice none 0 0, .bool false, .int .i64 0] 55)) 55 #[.int .i64 0, .int .i64 0, .int .i64 0, .slice none 0 0, .slice none 0 0, .bool false, .int .i64 0]
  have g3 := (hf.keep c3 (fun _ _ f => f)).toK
  have HR := Lib.hid (And.intro c3 (And.intro s3 (And.intro r1 (And.intro r2 g3))))
  have H3 := Lib.hid hw3
  clear hf hc hF hK c3 r1 r2 g3 s3 hw3
  go_enter Try.func29, Try.ntmps29
  go_wp2_with fail
  rw [H3.out]
  refine (k_New HR.out.2.2.2.2 da db dc da64 db64 dc64 hn).mono ?_
  rintro e w4 ⟨rfl, g4⟩
  obtain ⟨F', hf4, -, ht⟩ := g4.opened
  have nF : ∀ b, w.heap.size ≤ b → b < w3.heap.size → ¬ F b := fun b hb _ hg => by have := HM.out.1.lt hg; omega
  have q1 := HR.out.2.2.1.keep ht.2.2 (nF _ (by omega) (by have := HR.out.2.1; omega))
  have q2 := HR.out.2.2.2.1.keep ht.2.2 (nF _ (by omega) (by have := HR.out.2.1; omega))
  have f1 := q1.seven
  have f2 := q2.seven
  have HZ := Lib.hid (And.intro hf4 ht)
  clear g4 hf4 ht nF q1 q2
  go_wp2_with fail
  refine bodyPost_ret (v := .agg (TD.cells ⟨newN L da db dc, O.zero, false, newE da db dc⟩ (.slice none 0 0) (.slice none 0 0))) (by simp [results, Try.results29, go_sem, TD.cells, O.zero, f1, f2]) rfl (Ret.mk ⟨_, _, rfl, IntS.nil _ _, ByteS.nil _ _, hz0, hz0, ?_⟩)
  obtain ⟨hf, hc, hF, hK⟩ := HM.out
  refine done_end hf hc hF hK HR.out.1 HZ.out.1 HZ.out.2 (G := fun b => b = w.heap.size + 1 ∨ b = w.heap.size + 1 + 1) (fun b hb => by have := HR.out.2.1; omega) ?_
  repeat (with_reducible first | exact Chg.refl _ _ | refine Chg.setCell ?_ (.inl (by simp)) _)

set_option maxRecDepth 100000 in
set_option maxHeartbeats 4000000 in
theorem done_3 (h : MemK w0 w m L K) (da db dc : Int) (da64 : In64 da) (db64 : In64 db) (dc64 : In64 dc) (hn : L.length + 1 < 1073741823) : Calls Try.prog 29 #[.iface 37 (.pointer (some ⟨m, 0, none⟩)), .agg #[.int .i64 3, .int .i64 da, .int .i64 db, .int .i64 dc]] w (Ret (Done w0 w m (L) K ⟨fetchV L da db, O.zero, false, placeE L da 1 db⟩)) := by
  obtain ⟨F, hf, hc, hF, hK⟩ := h
  have HM := Lib.hid (And.intro hf (And.intro hc (And.intro hF hK)))
  have hz0 : In64 0 := by unfold In64; omega
  obtain ⟨w3, hw3⟩ : ∃ w3, ((w.alloc (.cells #[.int .i64 3, .int .i64 da, .int .i64 db, .int .i64 dc] 58)).alloc (.cells #[.int .i64 0, .int .i64 0, .int .i64 0, .slice none 0 0, .slice none 0 0, .bool false, .int .i64 0] 55)).alloc (.cells #[.int .i64 0, .int .i64 0, .int .i64 0, .slice none 0 0, .slice none 0 0, .bool false, .int .i64 0] 55) = w3 := ⟨_, rfl⟩
  have c3 : Chg No w w3 := by rw [← hw3]; exact (((Chg.refl _ _).alloc _).alloc _).alloc _
  have s3 : w3.heap.size = w.heap.size + 3 := by rw [← hw3]; simp
  have r1 : Row w3 (w.heap.size + 1) 55 #[.int .i64 0, .int .i64 0, .int .i64 0, .slice none 0 0, .slice none 0 0, .bool false, .int .i64 0] := by
    rw [← hw3]
    exact Row.alloc (by simpa using Row.new (w.alloc (.cells #[.int .i64 3, .int .i64 da, .int .i64 db, .int .i64 dc] 58)) 55 #[.int .i64 0, .int .i64 0, .int .i64 0, .slice none 0 0, .slice none 0 0, .bool false, .int .i64 0]) _
  have r2 : Row w3 (w.heap.size + 1 + 1) 55 #[.int .i64 0, .int .i64 0, .int .i64 0, .slice none 0 0, .slice none 0 0, .bool false, .int .i64 0] := by
    rw [← hw3]
    simpa using Row.new ((w.alloc (.cells #[.int .i64 3, .int .i64 da, .int .i64 db, .int .i64 dc] 58)).alloc (.cells #[.int .i64 0, .int .i64 0, .int .i64 0, .slice none 0 0, .slice none 0 0, .bool false, .int .i64 0] 55)) 55 #[.int .i64 0, .int .i64 0, .int .i64 0, .slice none 0 0, .slice none 0 0, .bool false, .int .i64 0]
  have g3 := (hf.keep c3 (fun _ _ f => f)).toK
  have HR := Lib.hid (And.intro c3 (And.intro s3 (And.intro r1 (And.intro r2 g3))))
  have H3 := Lib.hid hw3
  clear hf hc hF hK c3 r1 r2 g3 s3 hw3
  go_enter Try.func29, Try.ntmps29
  go_wp2_with fail
  rw [H3.out]
  refine (k_Fetch HR.out.2.2.2.2 da db da64).mono ?_
  rintro e w4 ⟨rfl, g4⟩
  obtain ⟨F', hf4, -, ht⟩ := g4.opened
  have nF : ∀ b, w.heap.size ≤ b → b < w3.heap.size → ¬ F b := fun b hb _ hg => by have := HM.out.1.lt hg; omega
  have q1 := HR.out.2.2.1.keep ht.2.2 (nF _ (by omega) (by have := HR.out.2.1; omega))
  have q2 := HR.out.2.2.2.1.keep ht.2.2 (nF _ (by omega) (by have := HR.out.2.1; omega))
  have f1 := q1.seven
  have f2 := q2.seven
  have HZ := Lib.hid (And.intro hf4 ht)
  clear g4 hf4 ht nF q1 q2
  go_wp2_with fail
  refine bodyPost_ret (v := .agg (TD.cells ⟨fetchV L da db, O.zero, false, placeE L da 1 db⟩ (.slice none 0 0) (.slice none 0 0))) (by simp [results, Try.results29, go_sem, TD.cells, O.zero, f1, f2]) rfl (Ret.mk ⟨_, _, rfl, IntS.nil _ _, ByteS.nil _ _, hz0, hz0, ?_⟩)
  obtain ⟨hf, hc, hF, hK⟩ := HM.out
  refine done_end hf hc hF hK HR.out.1 HZ.out.1 HZ.out.2 (G := fun b => b = w.heap.size + 1 ∨ b = w.heap.size + 1 + 1) (fun b hb => by have := HR.out.2.1; omega) ?_
  repeat (with_reducible first | exact Chg.refl _ _ | refine Chg.setCell ?_ (.inl (by simp)) _)

set_option maxRecDepth 100000 in
set_option maxHeartbeats 4000000 in
theorem done_4 (h : MemK w0 w m L K) (da db dc : Int) (da64 : In64 da) (db64 : In64 db) (dc64 : In64 dc) (hn : L.length + 1 < 1073741823) : Calls Try.prog 29 #[.iface 37 (.pointer (some ⟨m, 0, none⟩)), .agg #[.int .i64 4, .int .i64 da, .int .i64 db, .int .i64 dc]] w (Ret (Done w0 w m (setL L da db dc) K ⟨(0 : Int), O.zero, false, setE L da db dc⟩)) := by
  obtain ⟨F, hf, hc, hF, hK⟩ := h
  have HM := Lib.hid (And.intro hf (And.intro hc (And.intro hF hK)))
  have hz0 : In64 0 := by unfold In64; omega
  obtain ⟨w3, hw3⟩ : ∃ w3, ((w.alloc (.cells #[.int .i64 4, .int .i64 da, .int .i64 db, .int .i64 dc] 58)).alloc (.cells #[.int .i64 0, .int .i64 0, .int .i64 0, .slice none 0 0, .slice none 0 0, .bool false, .int .i64 0] 55)).alloc (.cells #[.int .i64 0, .int .i64 0, .int .i64 0, .slice none 0 0, .slice none 0 0, .bool false, .int .i64 0] 55) = w3 := ⟨_, rfl⟩
  have c3 : Chg No w w3 := by rw [← hw3]; exact (((Chg.refl _ _).alloc _).alloc _).alloc _
  have s3 : w3.heap.size = w.heap.size + 3 := by rw [← hw3]; simp
  have r1 : Row w3 (w.heap.size + 1) 55 #[.int .i64 0, .int .i64 0, .int .i64 0, .slice none 0 0, .slice none 0 0, .bool false, .int .i64 0] := by
    rw [← hw3]
    exact Row.alloc (by simpa using Row.new (w.alloc (.cells #[.int .i64 4, .int .i64 da, .int .i64 db, .int .i64 dc] 58)) 55 #[.int .i64 0, .int .i64 0, .int .i64 0, .slice none 0 0, .slice none 0 0, .bool false, .int .i64 0]) _
  have r2 : Row w3 (w.heap.size + 1 + 1) 55 #[.int .i64 0, .int .i64 0, .int .i64 0, .slice none 0 0, .slice none 0 0, .bool false, .int .i64 0] := by
    rw [← hw3]
    simpa using Row.new ((w.alloc (.cells #[.int .i64 4, .int .i64 da, .int .i64 db, .int .i64 dc] 58)).alloc (.cells #[.int .i64 0, .int .i64 0, .int .i64 0, .slice none 0 0, .slice none 0 0, .bool false, .int .i64 0] 55)) 55 #[.int .i64 0, .int .i64 0, .int .i64 0, .slice none 0 0, .slice none 0 0, .bool false, .int .i64 0]
  have g3 := (hf.keep c3 (fun _ _ f => f)).toK
  have HR := Lib.hid (And.intro c3 (And.intro s3 (And.intro r1 (And.intro r2 g3))))
  have H3 := Lib.hid hw3
  clear hf hc hF hK c3 r1 r2 g3 s3 hw3
  go_enter Try.func29, Try.ntmps29
  go_wp2_with fail
  rw [H3.out]
  refine (k_Set HR.out.2.2.2.2 da db dc da64 dc64).mono ?_
  rintro e w4 ⟨rfl, g4⟩
  obtain ⟨F', hf4, -, ht⟩ := g4.opened
  have nF : ∀ b, w.heap.size ≤ b → b < w3.heap.size → ¬ F b := fun b hb _ hg => by have := HM.out.1.lt hg; omega
  have q1 := HR.out.2.2.1.keep ht.2.2 (nF _ (by omega) (by have := HR.out.2.1; omega))
  have q2 := HR.out.2.2.2.1.keep ht.2.2 (nF _ (by omega) (by have := HR.out.2.1; omega))
  have f1 := q1.seven
  have f2 := q2.seven
  have HZ := Lib.hid (And.intro hf4 ht)
  clear g4 hf4 ht nF q1 q2
  go_wp2_with fail
  refine bodyPost_ret (v := .agg (TD.cells ⟨(0 : Int), O.zero, false, setE L da db dc⟩ (.slice none 0 0) (.slice none 0 0))) (by simp [results, Try.results29, go_sem, TD.cells, O.zero, f1, f2]) rfl (Ret.mk ⟨_, _, rfl, IntS.nil _ _, ByteS.nil _ _, hz0, hz0, ?_⟩)
  obtain ⟨hf, hc, hF, hK⟩ := HM.out
  refine done_end hf hc hF hK HR.out.1 HZ.out.1 HZ.out.2 (G := fun b => b = w.heap.size + 1 ∨ b = w.heap.size + 1 + 1) (fun b hb => by have := HR.out.2.1; omega) ?_
  repeat (with_reducible first | exact Chg.refl _ _ | refine Chg.setCell ?_ (.inl (by simp)) _)

set_option maxRecDepth 100000 in
set_option maxHeartbeats 4000000 in
theorem done_5 (h : MemK w0 w m L K) (da db dc : Int) (da64 : In64 da) (db64 : In64 db) (dc64 : In64 dc) (hn : L.length + 1 < 1073741823) : Calls Try.prog 29 #[.iface 37 (.pointer (some ⟨m, 0, none⟩)), .agg #[.int .i64 5, .int .i64 da, .int .i64 db, .int .i64 dc]] w (Ret (Done w0 w m (L) K ⟨byteV L da db, O.zero, false, placeE L da 2 db⟩)) := by
  obtain ⟨F, hf, hc, hF, hK⟩ := h
  have HM := Lib.hid (And.intro hf (And.intro hc (And.intro hF hK)))
  have hz0 : In64 0 := by unfold In64; omega
  obtain ⟨w3, hw3⟩ : ∃ w3, ((w.alloc (.cells #[.int .i64 5, .int .i64 da, .int .i64 db, .int .i64 dc] 58)).alloc (.cells #[.int .i64 0, .int .i64 0, .int .i64 0, .slice none 0 0, .slice none 0 0, .bool false, .int .i64 0] 55)).alloc (.cells #[.int .i64 0, .int .i64 0, .int .i64 0, .slice none 0 0, .slice none 0 0, .bool false, .int .i64 0] 55) = w3 := ⟨_, rfl⟩
  have c3 : Chg No w w3 := by rw [← hw3]; exact (((Chg.refl _ _).alloc _).alloc _).alloc _
  have s3 : w3.heap.size = w.heap.size + 3 := by rw [← hw3]; simp
  have r1 : Row w3 (w.heap.size + 1) 55 #[.int .i64 0, .int .i64 0, .int .i64 0, .slice none 0 0, .slice none 0 0, .bool false, .int .i64 0] := by
    rw [← hw3]
    exact Row.alloc (by simpa using Row.new (w.alloc (.cells #[.int .i64 5, .int .i64 da, .int .i64 db, .int .i64 dc] 58)) 55 #[.int .i64 0, .int .i64 0, .int .i64 0, .slice none 0 0, .slice none 0 0, .bool false, .int .i64 0]) _
  have r2 : Row w3 (w.heap.size + 1 + 1) 55 #[.int .i64 0, .int .i64 0, .int .i64 0, .slice none 0 0, .slice none 0 0, .bool false, .int .i64 0] := by
    rw [← hw3]
    simpa using Row.new ((w.alloc (.cells #[.int .i64 5, .int .i64 da, .int .i64 db, .int .i64 dc] 58)).alloc (.cells #[.int .i64 0, .int .i64 0, .int .i64 0, .slice none 0 0, .slice none 0 0, .bool false, .int .i64 0] 55)) 55 #[.int .i64 0, .int .i64 0, .int .i64 0, .slice none 0 0, .slice none 0 0, .bool false, .int .i64 0]
  have g3 := (hf.keep c3 (fun _ _ f => f)).toK
  have HR := Lib.hid (And.intro c3 (And.intro s3 (And.intro r1 (And.intro r2 g3))))
  have H3 := Lib.hid hw3
  clear hf hc hF hK c3 r1 r2 g3 s3 hw3
  go_enter Try.func29, Try.ntmps29
  go_wp2_with fail
  rw [H3.out]
  refine (k_Byte HR.out.2.2.2.2 da db da64).mono ?_
  rintro e w4 ⟨rfl, g4⟩
  obtain ⟨F', hf4, -, ht⟩ := g4.opened
  have nF : ∀ b, w.heap.size ≤ b → b < w3.heap.size → ¬ F b := fun b hb _ hg => by have := HM.out.1.lt hg; omega
  have q1 := HR.out.2.2.1.keep ht.2.2 (nF _ (by omega) (by have := HR.out.2.1; omega))
  have q2 := HR.out.2.2.2.1.keep ht.2.2 (nF _ (by omega) (by have := HR.out.2.1; omega))
  have f1 := q1.seven
  have f2 := q2.seven
  have HZ := Lib.hid (And.intro hf4 ht)
  clear g4 hf4 ht nF q1 q2
  go_wp2_with fail
  refine bodyPost_ret (v := .agg (TD.cells ⟨byteV L da db, O.zero, false, placeE L da 2 db⟩ (.slice none 0 0) (.slice none 0 0))) (by simp [results, Try.results29, go_sem, TD.cells, O.zero, f1, f2]) rfl (Ret.mk ⟨_, _, rfl, IntS.nil _ _, ByteS.nil _ _, hz0, hz0, ?_⟩)
  obtain ⟨hf, hc, hF, hK⟩ := HM.out
  refine done_end hf hc hF hK HR.out.1 HZ.out.1 HZ.out.2 (G := fun b => b = w.heap.size + 1 ∨ b = w.heap.size + 1 + 1) (fun b hb => by have := HR.out.2.1; omega) ?_
  repeat (with_reducible first | exact Chg.refl _ _ | refine Chg.setCell ?_ (.inl (by simp)) _)

set_option maxRecDepth 100000 in
set_option maxHeartbeats 4000000 in
theorem done_6 (h : MemK w0 w m L K) (da db dc : Int) (da64 : In64 da) (db64 : In64 db) (dc64 : In64 dc) (hn : L.length + 1 < 1073741823) : Calls Try.prog 29 #[.iface 37 (.pointer (some ⟨m, 0, none⟩)), .agg #[.int .i64 6, .int .i64 da, .int .i64 db, .int .i64 dc]] w (Ret (Done w0 w m (sbyteL L da db dc) K ⟨(0 : Int), O.zero, false, sbyteE L da db dc⟩)) := by
  obtain ⟨F, hf, hc, hF, hK⟩ := h
  have HM := Lib.hid (And.intro hf (And.intro hc (And.intro hF hK)))
  have hz0 : In64 0 := by unfold In64; omega
  obtain ⟨w3, hw3⟩ : ∃ w3, ((w.alloc (.cells #[.int .i64 6, .int .i64 da, .int .i64 db, .int .i64 dc] 58)).alloc (.cells #[.int .i64 0, .int .i64 0, .int .i64 0, .slice none 0 0, .slice none 0 0, .bool false, .int .i64 0] 55)).alloc (.cells #[.int .i64 0, .int .i64 0, .int .i64 0, .slice none 0 0, .slice none 0 0, .bool false, .int .i64 0] 55) = w3 := ⟨_, rfl⟩
  have c3 : Chg No w w3 := by rw [← hw3]; exact (((Chg.refl _ _).alloc _).alloc _).alloc _
  have s3 : w3.heap.size = w.heap.size + 3 := by rw [← hw3]; simp
  have r1 : Row w3 (w.heap.size + 1) 55 #[.int .i64 0, .int .i64 0, .int .i64 0, .slice none 0 0, .slice none 0 0, .bool false, .int .i64 0] := by
    rw [← hw3]
    exact Row.alloc (by simpa using Row.new (w.alloc (.cells #[.int .i64 6, .int .i64 da, .int .i64 db, .int .i64 dc] 58)) 55 #[.int .i64 0, .int .i64 0, .int .i64 0, .slice none 0 0, .slice none 0 0, .bool false, .int .i64 0]) _
  have r2 : Row w3 (w.heap.size + 1 + 1) 55 #[.int .i64 0, .int .i64 0, .int .i64 0, .slice none 0 0, .slice none 0 0, .bool false, .int .i64 0] := by
    rw [← hw3]
    simpa using Row.new ((w.alloc (.cells #[.int .i64 6, .int .i64 da, .int .i64 db, .int .i64 dc] 58)).alloc (.cells #[.int .i64 0, .int .i64 0, .int .i64 0, .slice none 0 0, .slice none 0 0, .bool false, .int .i64 0] 55)) 55 #[.int .i64 0, .int .i64 0, .int .i64 0, .slice none 0 0, .slice none 0 0, .bool false, .int .i64 0]
  have g3 := (hf.keep c3 (fun _ _ f => f)).toK
  have HR := Lib.hid (And.intro c3 (And.intro s3 (And.intro r1 (And.intro r2 g3))))
  have H3 := Lib.hid hw3
  clear hf hc hF hK c3 r1 r2 g3 s3 hw3
  go_enter Try.func29, Try.ntmps29
  go_wp2_with fail
  rw [H3.out]
  refine (k_SetByte HR.out.2.2.2.2 da db dc da64).mono ?_
  rintro e w4 ⟨rfl, g4⟩
  obtain ⟨F', hf4, -, ht⟩ := g4.opened
  have nF : ∀ b, w.heap.size ≤ b → b < w3.heap.size → ¬ F b := fun b hb _ hg => by have := HM.out.1.lt hg; omega
  have q1 := HR.out.2.2.1.keep ht.2.2 (nF _ (by omega) (by have := HR.out.2.1; omega))
  have q2 := HR.out.2.2.2.1.keep ht.2.2 (nF _ (by omega) (by have := HR.out.2.1; omega))
  have f1 := q1.seven
  have f2 := q2.seven
  have HZ := Lib.hid (And.intro hf4 ht)
  clear g4 hf4 ht nF q1 q2
  go_wp2_with fail
  refine bodyPost_ret (v := .agg (TD.cells ⟨(0 : Int), O.zero, false, sbyteE L da db dc⟩ (.slice none 0 0) (.slice none 0 0))) (by simp [results, Try.results29, go_sem, TD.cells, O.zero, f1, f2]) rfl (Ret.mk ⟨_, _, rfl, IntS.nil _ _, ByteS.nil _ _, hz0, hz0, ?_⟩)
  obtain ⟨hf, hc, hF, hK⟩ := HM.out
  refine done_end hf hc hF hK HR.out.1 HZ.out.1 HZ.out.2 (G := fun b => b = w.heap.size + 1 ∨ b = w.heap.size + 1 + 1) (fun b hb => by have := HR.out.2.1; omega) ?_
  repeat (with_reducible first | exact Chg.refl _ _ | refine Chg.setCell ?_ (.inl (by simp)) _)

set_option maxRecDepth 100000 in
set_option maxHeartbeats 4000000 in
theorem done_7 (h : MemK w0 w m L K) (da db dc : Int) (da64 : In64 da) (db64 : In64 db) (dc64 : In64 dc) (hn : L.length + 1 < 1073741823) : Calls Try.prog 29 #[.iface 37 (.pointer (some ⟨m, 0, none⟩)), .agg #[.int .i64 7, .int .i64 da, .int .i64 db, .int .i64 dc]] w (Ret (Done w0 w m (becomeL L da db) K ⟨(0 : Int), O.zero, false, becomeE L da db⟩)) := by
  obtain ⟨F, hf, hc, hF, hK⟩ := h
  have HM := Lib.hid (And.intro hf (And.intro hc (And.intro hF hK)))
  have hz0 : In64 0 := by unfold In64; omega
  obtain ⟨w3, hw3⟩ : ∃ w3, ((w.alloc (.cells #[.int .i64 7, .int .i64 da, .int .i64 db, .int .i64 dc] 58)).alloc (.cells #[.int .i64 0, .int .i64 0, .int .i64 0, .slice none 0 0, .slice none 0 0, .bool false, .int .i64 0] 55)).alloc (.cells #[.int .i64 0, .int .i64 0, .int .i64 0, .slice none 0 0, .slice none 0 0, .bool false, .int .i64 0] 55) = w3 := ⟨_, rfl⟩
  have c3 : Chg No w w3 := by rw [← hw3]; exact (((Chg.refl _ _).alloc _).alloc _).alloc _
  have s3 : w3.heap.size = w.heap.size + 3 := by rw [← hw3]; simp
  have r1 : Row w3 (w.heap.size + 1) 55 #[.int .i64 0, .int .i64 0, .int .i64 0, .slice none 0 0, .slice none 0 0, .bool false, .int .i64 0] := by
    rw [← hw3]
    exact Row.alloc (by simpa using Row.new (w.alloc (.cells #[.int .i64 7, .int .i64 da, .int .i64 db, .int .i64 dc] 58)) 55 #[.int .i64 0, .int .i64 0, .int .i64 0, .slice none 0 0, .slice none 0 0, .bool false, .int .i64 0]) _
  have r2 : Row w3 (w.heap.size + 1 + 1) 55 #[.int .i64 0, .int .i64 0, .int .i64 0, .slice none 0 0, .slice none 0 0, .bool false, .int .i64 0] := by
    rw [← hw3]
    simpa using Row.new ((w.alloc (.cells #[.int .i64 7, .int .i64 da, .int .i64 db, .int .i64 dc] 58)).alloc (.cells #[.int .i64 0, .int .i64 0, .int .i64 0, .slice none 0 0, .slice none 0 0, .bool false, .int .i64 0] 55)) 55 #[.int .i64 0, .int .i64 0, .int .i64 0, .slice none 0 0, .slice none 0 0, .bool false, .int .i64 0]
  have g3 := (hf.keep c3 (fun _ _ f => f)).toK
  have HR := Lib.hid (And.intro c3 (And.intro s3 (And.intro r1 (And.intro r2 g3))))
  have H3 := Lib.hid hw3
  clear hf hc hF hK c3 r1 r2 g3 s3 hw3
  go_enter Try.func29, Try.ntmps29
  go_wp2_with fail
  rw [H3.out]
  refine (k_Become HR.out.2.2.2.2 da db da64 db64).mono ?_
  rintro e w4 ⟨rfl, g4⟩
  obtain ⟨F', hf4, -, ht⟩ := g4.opened
  have nF : ∀ b, w.heap.size ≤ b → b < w3.heap.size → ¬ F b := fun b hb _ hg => by have := HM.out.1.lt hg; omega
  have q1 := HR.out.2.2.1.keep ht.2.2 (nF _ (by omega) (by have := HR.out.2.1; omega))
  have q2 := HR.out.2.2.2.1.keep ht.2.2 (nF _ (by omega) (by have := HR.out.2.1; omega))
  have f1 := q1.seven
  have f2 := q2.seven
  have HZ := Lib.hid (And.intro hf4 ht)
  clear g4 hf4 ht nF q1 q2
  go_wp2_with fail
  refine bodyPost_ret (v := .agg (TD.cells ⟨(0 : Int), O.zero, false, becomeE L da db⟩ (.slice none 0 0) (.slice none 0 0))) (by simp [results, Try.results29, go_sem, TD.cells, O.zero, f1, f2]) rfl (Ret.mk ⟨_, _, rfl, IntS.nil _ _, ByteS.nil _ _, hz0, hz0, ?_⟩)
  obtain ⟨hf, hc, hF, hK⟩ := HM.out
  refine done_end hf hc hF hK HR.out.1 HZ.out.1 HZ.out.2 (G := fun b => b = w.heap.size + 1 ∨ b = w.heap.size + 1 + 1) (fun b hb => by have := HR.out.2.1; omega) ?_
  repeat (with_reducible first | exact Chg.refl _ _ | refine Chg.setCell ?_ (.inl (by simp)) _)

set_option maxRecDepth 100000 in
set_option maxHeartbeats 4000000 in
theorem done_8 (h : MemK w0 w m L K) (da db dc : Int) (da64 : In64 da) (db64 : In64 db) (dc64 : In64 dc) (hn : L.length + 1 < 1073741823) : Calls Try.prog 29 #[.iface 37 (.pointer (some ⟨m, 0, none⟩)), .agg #[.int .i64 8, .int .i64 da, .int .i64 db, .int .i64 dc]] w (Ret (Done w0 w m (L) K ⟨nextN L da, O.zero, nextOK L da, (0 : Int)⟩)) := by
  obtain ⟨F, hf, hc, hF, hK⟩ := h
  have HM := Lib.hid (And.intro hf (And.intro hc (And.intro hF hK)))
  have hz0 : In64 0 := by unfold In64; omega
  obtain ⟨w3, hw3⟩ : ∃ w3, ((w.alloc (.cells #[.int .i64 8, .int .i64 da, .int .i64 db, .int .i64 dc] 58)).alloc (.cells #[.int .i64 0, .int .i64 0, .int .i64 0, .slice none 0 0, .slice none 0 0, .bool false, .int .i64 0] 55)).alloc (.cells #[.int .i64 0, .int .i64 0, .int .i64 0, .slice none 0 0, .slice none 0 0, .bool false, .int .i64 0] 55) = w3 := ⟨_, rfl⟩
  have c3 : Chg No w w3 := by rw [← hw3]; exact (((Chg.refl _ _).alloc _).alloc _).alloc _
  have s3 : w3.heap.size = w.heap.size + 3 := by rw [← hw3]; simp
  have r1 : Row w3 (w.heap.size + 1) 55 #[.int .i64 0, .int .i64 0, .int .i64 0, .slice none 0 0, .slice none 0 0, .bool false, .int .i64 0] := by
    rw [← hw3]
    exact Row.alloc (by simpa using Row.new (w.alloc (.cells #[.int .i64 8, .int .i64 da, .int .i64 db, .int .i64 dc] 58)) 55 #[.int .i64 0, .int .i64 0, .int .i64 0, .slice none 0 0, .slice none 0 0, .bool false, .int .i64 0]) _
  have r2 : Row w3 (w.heap.size + 1 + 1) 55 #[.int .i64 0, .int .i64 0, .int .i64 0, .slice none 0 0, .slice none 0 0, .bool false, .int .i64 0] := by
    rw [← hw3]
    simpa using Row.new ((w.alloc (.cells #[.int .i64 8, .int .i64 da, .int .i64 db, .int .i64 dc] 58)).alloc (.cells #[.int .i64 0, .int .i64 0, .int .i64 0, .slice none 0 0, .slice none 0 0, .bool false, .int .i64 0] 55)) 55 #[.int .i64 0, .int .i64 0, .int .i64 0, .slice none 0 0, .slice none 0 0, .bool false, .int .i64 0]
  have g3 := (hf.keep c3 (fun _ _ f => f)).toK
  have HR := Lib.hid (And.intro c3 (And.intro s3 (And.intro r1 (And.intro r2 g3))))
  have H3 := Lib.hid hw3
  clear hf hc hF hK c3 r1 r2 g3 s3 hw3
  go_enter Try.func29, Try.ntmps29
  go_wp2_with fail
  rw [H3.out]
  refine (k_Next HR.out.2.2.2.2 da da64).mono ?_
  rintro e w4 ⟨rfl, g4, -⟩
  obtain ⟨F', hf4, -, ht⟩ := g4.opened
  have nF : ∀ b, w.heap.size ≤ b → b < w3.heap.size → ¬ F b := fun b hb _ hg => by have := HM.out.1.lt hg; omega
  have q1 := HR.out.2.2.1.keep ht.2.2 (nF _ (by omega) (by have := HR.out.2.1; omega))
  have q2 := HR.out.2.2.2.1.keep ht.2.2 (nF _ (by omega) (by have := HR.out.2.1; omega))
  have f1 := q1.seven
  have f2 := q2.seven
  have HZ := Lib.hid (And.intro hf4 ht)
  clear g4 hf4 ht nF q1 q2
  go_wp2_with fail
  refine bodyPost_ret (v := .agg (TD.cells ⟨nextN L da, O.zero, nextOK L da, (0 : Int)⟩ (.slice none 0 0) (.slice none 0 0))) (by simp [results, Try.results29, go_sem, TD.cells, O.zero, f1, f2]) rfl (Ret.mk ⟨_, _, rfl, IntS.nil _ _, ByteS.nil _ _, hz0, hz0, ?_⟩)
  obtain ⟨hf, hc, hF, hK⟩ := HM.out
  refine done_end hf hc hF hK HR.out.1 HZ.out.1 HZ.out.2 (G := fun b => b = w.heap.size + 1 ∨ b = w.heap.size + 1 + 1) (fun b hb => by have := HR.out.2.1; omega) ?_
  repeat (with_reducible first | exact Chg.refl _ _ | refine Chg.setCell ?_ (.inl (by simp)) _)
end

end Go.Proofs.Ytmpfpfemjpmbaaa
