/- The walk of FlatBlanks. -/
import Derived.Test.YtmpfpfemjpmbaaaRef10
import Derived.OpenShut
namespace Go.Proofs.Ytmpfpfemjpmbaaa
open Go.RowKit

theorem zero4 : (Value.agg #[.int .i64 0, .int .i64 0, .slice none 0 0, .slice none 0 0] : Value) = .agg #[.int .i64 0, .int .i64 0, .slice none 0 0, .slice none 0 0] := rfl

set_option maxRecDepth 100000 in
set_option maxHeartbeats 2000000 in
theorem FlatBlanks_bad (c k s v : Int) (hc : In64 c) (hk : In64 k) (hs : In64 s) (hv : In64 v) (hb : blankOk c k s = false) (w : World) :
    Calls Try.prog 3 #[.int .i64 c, .int .i64 k, .int .i64 s, .int .i64 v] w fun e w' => e = .returned (.bool true) ∧ Below w.heap.size w w' := by
  have hE : newE c k s = 2 := by simp [newE, hb]
  have HB := Lib.hid hb
  clear hb
  go_enter Try.func3, Try.ntmps3
  go_wp2_with (first
    | (go_at_call 12
       refine (Blank_bad c k s hc hk hs HB.out _).mono ?_
       rintro e w1 ⟨r, rfl, rfl, c1⟩)
    | (go_at_call 13
       refine (Ref10New_any _ (fun _ => True) [] _ (RefM.nil _ _) (by decide) c k s hc hk hs).mono ?_
       rintro e w2 ⟨r, rfl, x, rfl, c2, ⟨lv, rfl, T, -, ⟨A, cap, rfl, -⟩, -⟩⟩
       rw [hE]
       have hs2 := c2.size
       have q := (Row.new w1 25 #[.int .i64 0, .int .i64 0, .slice none 0 0, .slice none 0 0]).keep c2 (fun f => f)
       have r4 := q.four
       have hlt := q.lt
       have C2 := Lib.hid (And.intro c1 c2)
       clear q c1 c2)
    | (go_at_call 14; refine (Ref_any v hv _).mono ?_; rintro e w' ⟨rfl, rfl⟩)
    | (go_at_call 15; refine (Ref05_any v hv _).mono ?_; rintro e w' ⟨rfl, rfl⟩)
    | (go_at_call 16; refine (known_any _).mono ?_; rintro e w' ⟨rfl, g6⟩))
  go_ret
  exact ⟨rfl, (((C2.out.1.trans ((Chg.refl _ _).alloc _)).trans C2.out.2).trans (((Chg.refl _ _).alloc _).trans g6)).below⟩

set_option maxRecDepth 100000 in
set_option maxHeartbeats 2000000 in
theorem FlatBlanks_ok (c k s v : Int) (hc : In64 c) (hk : In64 k) (hs : In64 s) (hv : In64 v) (hb : blankOk c k s = true) (w : World) :
    Calls Try.prog 3 #[.int .i64 c, .int .i64 k, .int .i64 s, .int .i64 v] w fun e w' => e = .returned (.bool true) ∧ Below w.heap.size w w' := by
  have hE : newE c k s = 0 := by simp [newE, hb]
  have hLN : newL [] c k s = [newO c k s] := by simp [newL, hb]
  have hok := newO_ok hb
  have HB := Lib.hid hb
  clear hb
  generalize ho : newO c k s = o at *
  go_enter Try.func3, Try.ntmps3
  go_wp2_with (first
    | (go_at_call 12
       refine (Blank_any c k s HB.out _).mono ?_
       rw [ho]
       rintro e w1 ⟨r, rfl, x, y, rfl, c1, hx, hy⟩
       have hox : ObjR w1 (fun _ => True) (.agg (cells2 o x y)) o := ⟨x, y, rfl, (IntS.of_own hx (fun z hz => ref64 (hok.2.2.2.2.1 z hz))).more (fun _ _ _ => trivial), (ByteS.of_own hy (fun z hz => hok.2.2.2.2.2 z hz)).more (fun _ _ _ => trivial), named64 hok.1, hok.kind64⟩
       obtain ⟨A, ca, rfl⟩ := own_form hx
       obtain ⟨B, cb, rfl⟩ := own_form hy
       simp only [cells2] at hox ⊢
       clear hx hy)
    | (go_at_call 13
       refine (Ref10New_any _ (fun _ => True) [] _ (RefM.nil _ _) (by decide) c k s hc hk hs).mono ?_
       rintro e w2 ⟨r, rfl, X, rfl, c2, hX⟩
       rw [hE]
       rw [hLN] at hX
       obtain ⟨lv, rfl, hX⟩ := hX
       obtain ⟨b, off, cp, wv, bv, rfl, -, hbl, hor, z0, z1, z2, z3⟩ := hX.at (i := 0) (by simp)
       have hor2 := hor
       obtain ⟨wv', bv', e1, f1, f2, -⟩ := hor
       simp [cells2] at e1
       obtain ⟨rfl, rfl⟩ := e1
       obtain ⟨A3, c3, rfl, -⟩ := f1.form
       obtain ⟨A4, c4, rfl, -⟩ := f2.form
       have hs2 := c2.size
       have q := (Row.new w1 25 _).keep c2 (fun f => f)
       have r4 := q.four
       have hlt := q.lt
       simp only [show ob [o] 0 = o from rfl, Nat.mul_zero, Nat.add_zero, Nat.zero_add] at z0 z1 z2 z3 f1 f2 hor2 ⊢
       have C2 := Lib.hid (And.intro c1 (And.intro c2 (And.intro hox hor2)))
       clear q c1 c2 hor2 hox)
    | (go_at_call 14; refine (Ref_any v hv _).mono ?_; rintro e w' ⟨rfl, rfl⟩)
    | (go_at_call 15; refine (Ref05_any v hv _).mono ?_; rintro e w' ⟨rfl, rfl⟩))
  generalize hW : World.alloc w2 _ = W
  have cW : Chg No w2 W := by
    rw [← hW]
    exact (Chg.refl _ _).alloc _
  have p0 : W.cell? ⟨w2.heap.size, 0, none⟩ = some (.slice (some ⟨b, off, none⟩) 1 cp) := by
    rw [← hW]
    exact (Row.new w2 _ _).cell 0
  obtain ⟨c1, c2, hox, hor⟩ := C2.out
  have t0 := (cW.cell (p := ⟨w1.heap.size, 0, none⟩) hlt (fun f => f)).trans r4.1
  have t1 := (cW.cell (p := ⟨w1.heap.size, 1, none⟩) hlt (fun f => f)).trans r4.2.1
  have t2 := (cW.cell (p := ⟨w1.heap.size, 2, none⟩) hlt (fun f => f)).trans r4.2.2.1
  have t3 := (cW.cell (p := ⟨w1.heap.size, 3, none⟩) hlt (fun f => f)).trans r4.2.2.2.1
  have y0 := (cW.cell (p := ⟨b, off, none⟩) hbl (fun f => f)).trans z0
  have y1 := (cW.cell (p := ⟨b, off + 1, none⟩) hbl (fun f => f)).trans z1
  have y2 := (cW.cell (p := ⟨b, off + 2, none⟩) hbl (fun f => f)).trans z2
  have y3 := (cW.cell (p := ⟨b, off + 3, none⟩) hbl (fun f => f)).trans z3
  have hox' := (((hox.keep (F := No) ((Chg.refl _ _).alloc _) (fun _ _ f => f)).keep c2 (fun _ _ f => f)).keep cW (fun _ _ f => f))
  have hor' := (hor.more (S' := fun _ => True) (fun _ _ _ => trivial)).keep cW (fun _ _ f => f)
  have call : Chg No w W := (c1.trans ((Chg.refl _ _).alloc _)).trans (c2.trans cW)
  have HW := Lib.hid (And.intro hox' (And.intro hor' call))
  clear hW c1 c2 hox hor r4 z0 z1 z2 z3 hox' hor' call cW C2 f1 f2 hX
  simp only [cells2] at HW
  go_region_with (first
    | (go_at_call 17
       refine (Same05_eq _ _ o (fun _ => True) _ (HW.out.1.keep (F := No) (by repeat (with_reducible first | exact Chg.refl _ _ | refine Chg.drew ?_ | refine Chg.drewN ?_ _)) (fun _ _ f => f)) (HW.out.2.1.keep (F := No) (by repeat (with_reducible first | exact Chg.refl _ _ | refine Chg.drew ?_ | refine Chg.drewN ?_ _)) (fun _ _ f => f))).mono ?_
       rintro e w5 ⟨rfl, g5⟩)
    | (go_at_call 16; refine (known_any _).mono ?_; rintro e w6 ⟨rfl, g6⟩))
  all_goals
    go_wp2_with fail
    go_ret
    refine ⟨rfl, ((Chg.trans ?_ g5).trans g6).below⟩
    repeat (with_reducible first | exact HW.out.2.2 | refine Chg.drew ?_ | refine Chg.drewN ?_ _)

theorem FlatBlanks_any (c k s v : Int) (hc : In64 c) (hk : In64 k) (hs : In64 s) (hv : In64 v) (w : World) :
    Calls Try.prog 3 #[.int .i64 c, .int .i64 k, .int .i64 s, .int .i64 v] w fun e w' => e = .returned (.bool true) ∧ Below w.heap.size w w' := by
  cases hb : blankOk c k s
  · exact FlatBlanks_bad c k s v hc hk hs hv hb w
  · exact FlatBlanks_ok c k s v hc hk hs hv hb w

end Go.Proofs.Ytmpfpfemjpmbaaa
