/- The document's answers compared (websterref10.Same); flat.Class, flat.Size. -/
import Derived.Test.YtmpfpfemjpmbaaaRef10j
namespace Go.Proofs.Ytmpfpfemjpmbaaa
set_option linter.unusedVariables false
set_option linter.unusedSimpArgs false
open Go.RowKit

set_option maxRecDepth 100000 in
set_option maxHeartbeats 2000000 in
theorem Same10_eq (a b : Value) (t : TD) (S : Nat → Prop) (w : World) (ha : ToldR w S a t) (hb : ToldR w S b t) :
    Calls Try.prog 37 #[a, b] w fun e w' => e = .returned (.bool true) ∧ Chg No w w' := by
  obtain ⟨n, o, ok, e⟩ := t
  obtain ⟨aw, ab, rfl, h1, h2, k1, k2⟩ := ha
  obtain ⟨bw, bb, rfl, h3, h4, -, -⟩ := hb
  have HA := Lib.hid (show ObjR w S (.agg (cells2 o aw ab)) o from ⟨_, _, rfl, h1, h2, k1, k2⟩)
  have HB := Lib.hid (show ObjR w S (.agg (cells2 o bw bb)) o from ⟨_, _, rfl, h3, h4, k1, k2⟩)
  obtain ⟨A1, c1, rfl, -⟩ := h1.form
  obtain ⟨A2, c2, rfl, -⟩ := h2.form
  obtain ⟨A3, c3, rfl, -⟩ := h3.form
  obtain ⟨A4, c4, rfl, -⟩ := h4.form
  simp only [TD.cells, cells2] at *
  clear h1 h2 h3 h4
  obtain ⟨W, hW⟩ : ∃ W, (w.alloc (.cells #[.int .i64 n, .int .i64 o.cls, .int .i64 o.kind, .slice A1 o.W.length c1, .slice A2 o.B.length c2, .bool ok, .int .i64 e] 55)).alloc (.cells #[.int .i64 n, .int .i64 o.cls, .int .i64 o.kind, .slice A3 o.W.length c3, .slice A4 o.B.length c4, .bool ok, .int .i64 e] 55) = W := ⟨_, rfl⟩
  have cW : Chg No w W := by rw [← hW]; exact ((Chg.refl _ _).alloc _).alloc _
  have r0 : Row W w.heap.size 55 #[.int .i64 n, .int .i64 o.cls, .int .i64 o.kind, .slice A1 o.W.length c1, .slice A2 o.B.length c2, .bool ok, .int .i64 e] := by rw [← hW]; exact (Row.new w _ _).alloc _
  have r1 : Row W (w.heap.size + 1) 55 #[.int .i64 n, .int .i64 o.cls, .int .i64 o.kind, .slice A3 o.W.length c3, .slice A4 o.B.length c4, .bool ok, .int .i64 e] := by rw [← hW]; simpa using Row.new (w.alloc _) 55 #[.int .i64 n, .int .i64 o.cls, .int .i64 o.kind, .slice A3 o.W.length c3, .slice A4 o.B.length c4, .bool ok, .int .i64 e]
  have HR := Lib.hid (And.intro cW (And.intro r0 r1))
  have HW := Lib.hid hW
  clear cW r0 r1 hW
  go_enter Try.func37, Try.ntmps37
  go_wp2_with (go_at_call 17
               rw [HW.out]
               refine (Same05_eq _ _ o S _ (HA.out.keep HR.out.1 (fun _ _ f => f)) (HB.out.keep HR.out.1 (fun _ _ f => f))).mono ?_
               rintro e' w1 ⟨rfl, c1⟩
               have x0 := (HR.out.2.1.keep c1 (fun f => f)).seven
               have x1 := (HR.out.2.2.keep c1 (fun f => f)).seven
               have H1 := Lib.hid c1
               clear c1)
  go_ret
  exact ⟨rfl, HR.out.1.trans H1.out⟩

section
variable {w0 w w' : World} {m : Nat} {L L' : List O} {K : (Nat → Prop) → World → Prop} {F F' : Nat → Prop}
set_option maxRecDepth 100000 in
set_option maxHeartbeats 1000000 in
theorem k_Class (h : MemK w0 w m L K) (o : Int) (ho : In64 o) :
    Calls Try.prog 39 #[.iface 37 (.pointer (some ⟨m, 0, none⟩)), .int .i64 o] w fun e w' => e = .returned (.tuple #[.int .i64 (objV L o).cls, .int .i64 (objE L o)]) ∧ MemK w0 w' m L K ∧ Chg No w w' := by
  have H := Lib.hid h
  clear h
  generalize hx : objV L o = x at *
  have HX := Lib.hid hx
  clear hx
  go_enter Try.func39, Try.ntmps39
  go_wp2_with (go_at_call 23; refine (k_ObjC H.out o ho).mono ?_; rw [HX.out]; rintro e w21 ⟨r, rfl, g3, hr, c3⟩; obtain ⟨A1, c1, B1, d1, rfl⟩ := hr.shape; have HG := Lib.hid (And.intro g3 c3); clear g3 c3 hr)
  go_ret2
  exact ⟨rfl, HG.out.1.world ((Chg.refl _ _).alloc _), HG.out.2.alloc _⟩
set_option maxRecDepth 100000 in
set_option maxHeartbeats 1000000 in
theorem k_SizeF (h : MemK w0 w m L K) (o : Int) (ho : In64 o) :
    Calls Try.prog 40 #[.iface 37 (.pointer (some ⟨m, 0, none⟩)), .int .i64 o] w fun e w' => e = .returned (.tuple #[.int .i64 (szO (objV L o)), .int .i64 (objE L o)]) ∧ MemK w0 w' m L K ∧ Chg No w w' := by
  have H := Lib.hid h
  clear h
  generalize hx : objV L o = x at *
  have HX := Lib.hid hx
  obtain ⟨z, hz⟩ : ∃ z, szO x = z := ⟨_, rfl⟩
  rw [hz]
  have HZ := Lib.hid hz
  clear hx hz
  go_enter Try.func40, Try.ntmps40
  go_wp2_with (first
    | (go_at_call 23; refine (k_ObjC H.out o ho).mono ?_; rw [HX.out]; rintro e w21 ⟨r, rfl, g3, hr, c3⟩; obtain ⟨A1, c1, B1, d1, rfl⟩ := hr.shape; have HG := Lib.hid (And.intro g3 c3); clear g3 c3 hr)
    | (go_at_call 53; refine (Size_any _ _ _ _ _ _ _ _ _ _ rfl rfl _).mono ?_; rw [show (if x.kind = 1 then (x.W.length : Int) else if x.kind = 2 then (x.B.length : Int) else 0) = z from HZ.out]; rintro e w' ⟨rfl, hb⟩))
  go_ret2
  have cF : Chg No w21 _ := ((Chg.refl _ _).alloc _).trans (Chg.of_below hb)
  exact ⟨rfl, HG.out.1.world cF, HG.out.2.trans cF⟩
end

end Go.Proofs.Ytmpfpfemjpmbaaa
