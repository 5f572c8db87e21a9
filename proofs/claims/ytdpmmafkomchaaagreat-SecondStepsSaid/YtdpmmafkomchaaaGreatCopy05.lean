/- The document's Copy of an object (websterref05), and of bytes (websterref00). -/
import Derived.Test.YtdpmmafkomchaaaGreatRef10
import Derived.Test.YtdpmmafkomchaaaGreatFlatI
import Derived.Test.YtdpmmafkomchaaaGreatLoadA
import Derived.Test.YtdpmmafkomchaaaGreatFlatRep
namespace Go.Proofs.YtdpmmafkomchaaaGreat
set_option linter.unusedVariables false
set_option linter.unusedSimpArgs false
open Go.RowKit

theorem Chg.one (w : World) (b off : Nat) (u : Value) : Chg (fun k => k = b) w (w.setCell ⟨b, off, none⟩ u) := Chg.setCell (F := fun k => k = b) (p := ⟨b, off, none⟩) (Chg.refl _ _) (.inl rfl) u

theorem cellsT_set : ∀ (T : List T3) (i : Nat) (t : T3), i < T.length → cellsT (T.set i t) = ((((cellsT T).set (i * 4) (.int .i64 t.1.cls)).set (i * 4 + 1) (.int .i64 t.1.kind)).set (i * 4 + 2) t.2.1).set (i * 4 + 3) t.2.2
  | [], _, _, h => by simp at h
  | x :: T, 0, t, _ => by simp [cellsT, cells2]
  | x :: T, i + 1, t, h => by
    have ih := cellsT_set T i t (by simpa using h)
    rw [List.set_cons_succ, show cellsT (x :: T.set i t) = (cells2 x.1 x.2.1 x.2.2).toList ++ cellsT (T.set i t) from by simp [cellsT], show cellsT (x :: T) = (cells2 x.1 x.2.1 x.2.2).toList ++ cellsT T from by simp [cellsT], ih]
    have e0 : (i + 1) * 4 = (i * 4) + 4 := by omega
    have e1 : (i + 1) * 4 + 1 = (i * 4 + 1) + 4 := by omega
    have e2 : (i + 1) * 4 + 2 = (i * 4 + 2) + 4 := by omega
    have e3 : (i + 1) * 4 + 3 = (i * 4 + 3) + 4 := by omega
    rw [e1, e2, e3, e0]
    simp [cells2]

theorem Copy00_any (bv : Value) (l : List Int) (S : Nat → Prop) (w : World) (h : ByteS w S bv l) (hl : l.length ≤ 1000000000) :
    Calls Tryz.prog 64 #[bv] w (Ret fun v w' => w'.ownsRow w.heap.size 5 1 v l.length (l.map (.int .u8)) ∧ Chg No w w') := by
  obtain ⟨u, w1, hr, ho, hg⟩ := run_app elem_u8 (by decide) (World.ownsRow_nil w w.heap.size 5 1) h.1 (by simp [Value.oneCell']) (by unfold maxLen; omega) (by omega) (Nat.le_refl _) 33
  obtain ⟨A, c, rfl, -⟩ := h.form
  rw [Nat.zero_add, List.nil_append] at ho
  obtain ⟨A', c', rfl⟩ := own_form ho
  have HR := Lib.hid hr
  have HO := Lib.hid (And.intro ho ((Chg.refl No w).grown hg (by simp [Value.ownBlock])))
  clear hr ho hg h
  go_enter Tryz.func64, Tryz.ntmps64
  go_wp2_with (at_builtin; refine wpList_append_run rfl _ _ _ rfl rfl rfl HR.out ?_)
  go_ret
  exact Ret.mk HO.out

set_option maxRecDepth 100000 in
set_option maxHeartbeats 1000000 in
theorem Copy05_any (v : Value) (o : O) (S : Nat → Prop) (w : World) (h : ObjR w S v o) (hw : o.W.length ≤ 1000000000) (hb : o.B.length ≤ 1000000000) :
    Calls Tryz.prog 31 #[v] w (Ret (Copied w o)) := by
  obtain ⟨wv, bv, rfl, hI, hB, -⟩ := h
  obtain ⟨W, hW⟩ : ∃ W, (w.alloc (.cells (cells2 o wv bv) 35)).alloc (.cells #[.int .i64 0, .int .i64 0, .slice none 0 0, .slice none 0 0] 35) = W := ⟨_, rfl⟩
  have cW : Chg No w W := by rw [← hW]; exact ((Chg.refl _ _).alloc _).alloc _
  have sW : W.heap.size = w.heap.size + 1 + 1 := by rw [← hW]; simp
  have r0 : Row W w.heap.size 35 (cells2 o wv bv) := by rw [← hW]; exact (Row.new w _ _).alloc _
  have r1 : Row W (w.heap.size + 1) 35 #[.int .i64 0, .int .i64 0, .slice none 0 0, .slice none 0 0] := by rw [← hW]; simpa using Row.new (w.alloc _) 35 #[.int .i64 0, .int .i64 0, .slice none 0 0, .slice none 0 0]
  obtain ⟨u, w1, hr, ho, hg⟩ := run_app elem_int (by decide) (World.ownsRow_nil W (w.heap.size + 1 + 1) 3 1) (hI.keep cW (fun _ _ f => f)).1 (by simp [Value.oneCell']) (by unfold maxLen; omega) (by omega) (by omega) 23
  rw [Nat.zero_add, List.nil_append] at ho
  have c1 : Chg No W w1 := (Chg.refl _ _).grown hg (by simp [Value.ownBlock])
  have q0 := r0.keep c1 (fun f => f)
  have q1 := r1.keep c1 (fun f => f)
  obtain ⟨A1, k1, rfl⟩ := own_form ho
  obtain ⟨Aw, cw, rfl, -⟩ := hI.form
  obtain ⟨Ab, cb, rfl, -⟩ := hB.form
  have s1 := c1.size
  unfold cells2 at *
  obtain ⟨a0, a1, a2, a3, af⟩ := q0.four
  have c01 := cW.trans c1
  have q0' := q0.set 2 (.slice A1 o.W.length k1)
  have hB1 : ByteS (w1.setCell ⟨w.heap.size, 2, none⟩ (.slice A1 o.W.length k1)) (fun b => S b ∧ b < w.heap.size) (.slice Ab o.B.length cb) o.B := ((hB.more (S' := fun b => S b ∧ b < w.heap.size) (fun b h1 h2 => ⟨h2, h1⟩)).keep c01 (fun _ _ f => f)).keep (F := fun b => b = w.heap.size) (Chg.one _ _ _ _) (fun b hb h => by omega)
  have HR := Lib.hid hr
  have HW := Lib.hid hW
  have HQ := Lib.hid (And.intro q0' (And.intro q1 (And.intro hB1 (And.intro ho (And.intro c01 (And.intro sW s1))))))
  clear hr hW hI hB q0' q1 hB1 ho c01 sW s1 c1 cW r0 r1 hg q0
  go_enter Tryz.func31, Tryz.ntmps31
  go_wp2_with (first
    | (at_builtin; rw [HW.out]; refine wpList_append_run rfl _ _ _ rfl rfl rfl HR.out ?_)
    | (go_at_call 64; refine (Copy00_any _ o.B _ _ HQ.out.2.2.1 hb).mono ?_; rintro e w2 ⟨v2, rfl, ho2, c2⟩; obtain ⟨A2, k2, rfl⟩ := own_form ho2; have p0 : Row w2 _ _ _ := Row.keep (by exact HQ.out.1) c2 (fun f => f); have p1 : Row w2 _ _ _ := Row.keep (HQ.out.2.1.other (p := ⟨w.heap.size, 2, none⟩) (by simp) _) c2 (fun f => f); obtain ⟨b0, b1, b2, b3, bf⟩ := p0.four; obtain ⟨d0, d1, d2, d3, df⟩ := p1.four; have H2 := Lib.hid (And.intro ho2 c2); clear p0 p1 ho2 c2))
  obtain ⟨-, -, -, ho, c01, sW, s1⟩ := HQ.out
  obtain ⟨ho2, c2⟩ := H2.out
  have c2' : Chg (fun b => b = w.heap.size) w1 w2 := (Chg.setCell (F := fun b => b = w.heap.size) (p := ⟨w.heap.size, 2, none⟩) (Chg.refl _ _) (.inl rfl) _).trans c2.no
  have c02 : Chg No w w2 := c01.then c2' (fun i hi h => by omega)
  have hoW := own_keep ho c2' (fun b hb h => by have := own_ge ho hb; omega)
  refine bodyPost_ret (v := .agg (cells2 o (.slice A1 o.W.length k1) (.slice A2 o.B.length k2))) (by simp [results, Tryz.results31, go_sem, cells2, d0, d1, d2, d3]) rfl (Ret.mk ⟨_, _, rfl, ?_, ?_, ?_⟩)
  · repeat (with_reducible first | exact c02 | refine Chg.setCell ?_ (.inr (by simp)) _)
  · refine own_base (base := w.heap.size + 1 + 1) ?_ (by omega)
    repeat (with_reducible first | exact hoW | refine ownsRow_setCell_below ?_ (by dsimp only; omega) _)
  · have hsz : w.heap.size + 1 + 1 ≤ (w1.setCell ⟨w.heap.size, 2, none⟩ (.slice A1 o.W.length k1)).heap.size := by simp; omega
    have ho3 := own_base ho2 hsz
    refine own_base (base := w.heap.size + 1 + 1) ?_ (by omega)
    repeat (with_reducible first | exact ho3 | refine ownsRow_setCell_below ?_ (by dsimp only; omega) _)

end Go.Proofs.YtdpmmafkomchaaaGreat
