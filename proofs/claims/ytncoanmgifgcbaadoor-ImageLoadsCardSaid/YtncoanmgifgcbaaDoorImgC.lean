/- An object's bytes: wide.Size, wide.Encode. -/
import Derived.Test.YtncoanmgifgcbaaDoorImgB
import Derived.Test.YtncoanmgifgcbaaDoorChk2
import Derived.Test.YtncoanmgifgcbaaDoorLoadA
import Derived.Deep.RegionHeld3
namespace Go.Proofs.YtncoanmgifgcbaaDoor
set_option linter.unusedVariables false
set_option linter.unusedSimpArgs false
open Go.RowKit

/-- an object's bytes -/
def encB (o : O) : List Int := allB [o.cls, o.kind, szO o] ++ allB o.W ++ o.B
theorem encB_len (o : O) : (encB o).length = 12 + 4 * o.W.length + o.B.length := by
  unfold encB
  rw [List.length_append, List.length_append, allB_len, allB_len]
  rfl
theorem encB_bd {o : O} (h : ∀ x ∈ o.B, 0 ≤ x ∧ x ≤ 255) : ∀ x ∈ encB o, 0 ≤ x ∧ x ≤ 255 := by
  intro x hx
  unfold encB at hx
  rw [List.mem_append, List.mem_append] at hx
  rcases hx with (hx | hx) | hx
  · exact allB_bd _ x hx
  · exact allB_bd _ x hx
  · exact h x hx
theorem Calls.heldC {P : Program} {f : Nat} {args : Array Value} {w0 W : World} {F : Nat → Prop} {Q : Ending → World → Prop} (hh : Chg F W w0) (h : Calls P f args w0 Q) : Calls P f args w0 (fun e w' => Q e w' ∧ Chg F W w0) := h.mono fun _ _ h => ⟨h, hh⟩
theorem IntS.ofRow {w : World} {r : Nat} {t : TypeId} {l : List Int} (h : Row w r t (l.map (.int .i64)).toArray) (hl : l.length ≤ 1000) (hw : ∀ x ∈ l, In64 x) : IntS w (fun b => b = r) (.slice (some ⟨r, 0, none⟩) l.length l.length) l := by
  have ho : w.ownsRow r t 1 (.slice (some ⟨r, 0, none⟩) l.length l.length) l.length (l.map (.int .i64)) := own_of_row h (by simp) (Nat.le_refl _) (by unfold maxLen; simp; omega)
  exact ⟨(Slc.of_own ho).more fun b _ hb => (Option.some.inj (show some r = some b from hb)).symm, hw⟩
theorem Int3.ofRow {w : World} {r : Nat} {t : TypeId} {a b c : Int} (h : Row w r t #[.int .i64 a, .int .i64 b, .int .i64 c]) (ha : In64 a) (hb : In64 b) (hc : In64 c) : IntS w (fun b => b = r) (.slice (some ⟨r, 0, none⟩) 3 3) [a, b, c] :=
  IntS.ofRow (l := [a, b, c]) h (by simp) (by intro x hx; simp at hx; rcases hx with rfl | rfl | rfl <;> assumption)

set_option maxRecDepth 100000 in
set_option maxHeartbeats 1000000 in
theorem SizeW_any (cls : Int) (o : O) (A B : Option Addr) (ca cb : Nat) (w : World) :
    Calls Tryd.prog 43 #[.agg #[.int .i64 cls, .int .i64 o.kind, .slice A o.W.length ca, .slice B o.B.length cb]] w fun e w' => e = .returned (.int .i64 (szO o)) ∧ Chg No w w' := by
  by_cases h1 : o.kind = 1
  · have e : szO o = o.W.length := by simp [szO, h1]
    rw [e, h1]
    go_enter Tryd.func43, Tryd.ntmps43
    go_wp2_with fail
    go_ret
    exact ⟨rfl, by repeat (with_reducible first | exact Chg.refl _ _ | refine Chg.drew ?_ | refine Chg.alloc ?_ _)⟩
  · by_cases h2 : o.kind = 2
    · have e : szO o = o.B.length := by simp [szO, h2]
      rw [e, h2]
      go_enter Tryd.func43, Tryd.ntmps43
      go_wp2_with fail
      go_ret
      exact ⟨rfl, by repeat (with_reducible first | exact Chg.refl _ _ | refine Chg.drew ?_ | refine Chg.alloc ?_ _)⟩
    · have e : szO o = 0 := by simp [szO, h1, h2]
      have t1 : (o.kind == 1) = false := by simpa using h1
      have t2 : (o.kind == 2) = false := by simpa using h2
      rw [e]
      clear h1 h2
      generalize o.kind = k at *
      go_enter Tryd.func43, Tryd.ntmps43
      go_wp2_with fail
      go_ret
      exact ⟨rfl, by repeat (with_reducible first | exact Chg.refl _ _ | refine Chg.drew ?_ | refine Chg.alloc ?_ _)⟩

theorem Row.drew2 {w : World} {b : Nat} {t : TypeId} {cs : Array Value} (h : Row w b t cs) : Row w.drew b t cs := h.drewN 1
/-- what Encode gives -/
def Encd (w : World) (l : List Int) (v : Value) (w' : World) : Prop := ∃ u, v = .tuple #[u, .int .i64 0] ∧ OwnB w' w.heap.size u l ∧ Chg No w w'
set_option maxRecDepth 100000 in
set_option maxHeartbeats 4000000 in
theorem Encode_ok (v : Value) (o : O) (S : Nat → Prop) (w : World) (h : ObjR w S v o) (hk : okB o = true) : Calls Tryd.prog 51 #[v] w (Ret (Encd w (encB o))) := by
  have hc : chk o = 0 := by simp [chk, hk]
  obtain ⟨-, hw1, hb1, -, -⟩ := okB_cases hk
  have HSZ := Lib.hid (fun A B ca cb w => SizeW_any o.cls o A B ca cb w)
  have s64 : In64 (szO o) := by
    unfold szO In64
    split
    · omega
    · split <;> omega
  obtain ⟨sz, hsz⟩ : ∃ sz, szO o = sz := ⟨_, rfl⟩
  have HE := Lib.hid (show encB o = allB [o.cls, o.kind, sz] ++ allB o.W ++ o.B by rw [← hsz]; rfl)
  rw [hsz] at HSZ s64
  have HCK := Lib.hid hc
  clear hc hk hsz
  obtain ⟨lo, hlo⟩ : ∃ lo, encB o = lo := ⟨_, rfl⟩
  rw [hlo] at HE ⊢
  clear hlo
  obtain ⟨cl, kd, lw, lb⟩ := o
  obtain ⟨wv, bv, rfl, h1, h2, c64, k64⟩ := h
  dsimp only at h1 h2 c64 k64 HE HSZ hw1 hb1
  obtain ⟨A, ca, rfl, -⟩ := h1.form
  obtain ⟨B, cb, rfl, -⟩ := h2.form
  have HO := Lib.hid (show ObjR w S (.agg #[.int .i64 cl, .int .i64 kd, .slice A lw.length ca, .slice B lb.length cb]) ⟨cl, kd, lw, lb⟩ from ⟨_, _, rfl, h1, h2, c64, k64⟩)
  have H12 := Lib.hid (And.intro h1 h2)
  have HWL := Lib.hid (And.intro hw1 hb1)
  clear h1 h2 hw1 hb1
  simp only [cells2]
  replace HSZ := Lib.hid (HSZ.out A B ca cb)
  generalize hnw : lw.length = nw at *
  generalize hnb : lb.length = nb at *
  have HL := Lib.hid (And.intro hnw hnb)
  clear hnw hnb
  have row := Row.new w 41 #[.int .i64 cl, .int .i64 kd, .slice A nw ca, .slice B nb cb]
  have cA : Chg No w (w.alloc (.cells #[.int .i64 cl, .int .i64 kd, .slice A nw ca, .slice B nb cb] 41)) := (Chg.refl _ _).alloc _
  have HRW := Lib.hid (And.intro row cA)
  clear row cA
  go_enter Tryd.func51, Tryd.ntmps51
  go_wp2_with (first
    | (go_at_call 42
       refine (Check_any _ _ S _ (HO.out.keep HRW.out.2 (fun _ _ f => f))).mono ?_
       rw [HCK.out]
       rintro e w1 ⟨rfl, c1⟩
       have r1 := HRW.out.1.keep c1 (fun f => f)
       have z0 : ∀ v, Chg No w1 v → v.cell? ⟨w.heap.size, 0, none⟩ = some (.int .i64 cl) := fun v hv => (r1.keep hv (fun f => f)).cell 0
       have z1 : ∀ v, Chg No w1 v → v.cell? ⟨w.heap.size, 1, none⟩ = some (.int .i64 kd) := fun v hv => (r1.keep hv (fun f => f)).cell 1
       have z2 : ∀ v, Chg No w1 v → v.cell? ⟨w.heap.size, 2, none⟩ = some (.slice A nw ca) := fun v hv => (r1.keep hv (fun f => f)).cell 2
       have z3 : ∀ v, Chg No w1 v → v.cell? ⟨w.heap.size, 3, none⟩ = some (.slice B nb cb) := fun v hv => (r1.keep hv (fun f => f)).cell 3
       have H1 := Lib.hid (HRW.out.2.trans c1)
       clear r1 c1)
    | fail)
  have tok : True := trivial
  go_region_held3 (fun w' => Chg No w1 w') (repeat (with_reducible first | assumption | exact Chg.refl _ _ | refine Chg.drew ?_ | refine Chg.alloc ?_ _))
    (first
    | (go_at_call 43
       refine (Calls.heldC (F := No) (W := w1) (by assumption) (HSZ.out _)).mono ?_
       rintro e w2 ⟨⟨rfl, c2⟩, hh2⟩
       have hC2 : Chg No w1 w2 := hh2.trans c2
       clear c2 hh2)
    | (go_at_call 50
       have _t := tok
       clear tok
       refine (Calls.heldC (F := No) (W := w1) (by assumption) (All_any0 _ [cl, kd, sz] _ _ (Int3.ofRow (Row.new _ _ _) c64 k64 s64) (by simp))).mono ?_
       rintro e w3 ⟨⟨v3, rfl, ho3, c3⟩, hh3⟩
       obtain ⟨A3, d3, rfl⟩ : ∃ A c, v3 = .slice A 12 c := ho3.form
       have hC3 : Chg No w1 w3 := hh3.trans c3
       have H3 := Lib.hid (And.intro (ho3.bytes (allB_bd _)) hC3)
       clear ho3 c3 hh3)
    | (go_at_call 50
       refine (Calls.heldC (F := No) (W := w3) (by (repeat (with_reducible first | assumption | exact Chg.refl _ _ | refine Chg.drew ?_ | refine Chg.alloc ?_ _))) (All_any0 _ lw S _ (H12.out.1.keep (H1.out.trans (by assumption)) (fun _ _ f => f)) (by rw [HL.out.1]; have := HWL.out; omega))).mono ?_
       rintro e w4 ⟨⟨v4, rfl, ho4, c4⟩, hh4⟩
       obtain ⟨A4, d4, rfl⟩ : ∃ A c, v4 = .slice A (4 * nw) c := by have := ho4.form; rwa [allB_len, HL.out.1] at this
       have hC34 : Chg No w3 w4 := hh4.trans c4
       have hC4 : Chg No w1 w4 := H3.out.2.trans hC34
       have H4 := Lib.hid (And.intro (H3.out.1.keep hC34 (fun _ _ f => f)) (And.intro (ho4.bytes (allB_bd _)) hC4))
       clear ho4 c4 hh4 hC34)
    | (go_at_call 87
       refine (Calls.heldC (F := No) (W := w4) (by (repeat (with_reducible first | assumption | exact Chg.refl _ _ | refine Chg.drew ?_ | refine Chg.alloc ?_ _))) (Concat_any _ _ _ _ _ (allB [cl, kd, sz]) (allB lw) lb _ _ S _ (Row.new _ _ _) (H4.out.1.keep (by (repeat (with_reducible first | assumption | exact Chg.refl _ _ | refine Chg.drew ?_ | refine Chg.alloc ?_ _))) (fun _ _ f => f)) (H4.out.2.1.keep (by (repeat (with_reducible first | assumption | exact Chg.refl _ _ | refine Chg.drew ?_ | refine Chg.alloc ?_ _))) (fun _ _ f => f)) (H12.out.2.keep (H1.out.trans (by assumption)) (fun _ _ f => f)) (by rw [allB_len, allB_len, HL.out.1, HL.out.2]; have := HWL.out; simp; omega))).mono ?_
       rw [← HE.out]
       rintro e w5 ⟨⟨v5, rfl, ho5, c5⟩, hh5⟩
       obtain ⟨A5, d5, rfl⟩ := ho5.form
       have hC5 : Chg No w1 w5 := (H4.out.2.2.trans hh5).trans c5
       have H5 := Lib.hid (And.intro (ho5.base (Nat.le_trans (H1.out.trans H4.out.2.2).size hh5.size)) (H1.out.trans hC5))
       clear ho5 c5 hh5)
    | fail)
  go_wp2_with fail
  go_ret2
  exact Ret.mk ⟨_, rfl, H5.out.1, H5.out.2⟩
set_option maxRecDepth 100000 in
set_option maxHeartbeats 1000000 in
theorem Encode_bad (v : Value) (o : O) (S : Nat → Prop) (w : World) (h : ObjR w S v o) (hk : okB o = false) : Calls Tryd.prog 51 #[v] w fun e w' => e = .returned (.tuple #[.slice none 0 0, .int .i64 2]) ∧ Chg No w w' := by
  have hc : chk o = 2 := by simp [chk, hk]
  have HO := Lib.hid h
  obtain ⟨wv, bv, rfl, h1, h2, c64, k64⟩ := h
  simp only [cells2] at HO ⊢
  obtain ⟨A, ca, rfl, -⟩ := h1.form
  obtain ⟨B, cb, rfl, -⟩ := h2.form
  have HCK := Lib.hid hc
  clear h1 h2 hc hk c64 k64
  have cA : Chg No w (w.alloc (.cells #[.int .i64 o.cls, .int .i64 o.kind, .slice A o.W.length ca, .slice B o.B.length cb] 41)) := (Chg.refl _ _).alloc _
  have HA := Lib.hid cA
  clear cA
  go_enter Tryd.func51, Tryd.ntmps51
  go_wp2_with (first
    | (go_at_call 42
       refine (Check_any _ _ S _ (HO.out.keep HA.out (fun _ _ f => f))).mono ?_
       rw [HCK.out]
       rintro e w1 ⟨rfl, c1⟩)
    | fail)
  go_ret2
  exact ⟨rfl, HA.out.trans c1⟩
end Go.Proofs.YtncoanmgifgcbaaDoor
