/- Words as bytes: word.Put, word.All, word.Get; slices.Equal, Grow, Concat over bytes. -/
import Derived.Test.YtncoanmgifgcbaaDoorLibA
import Derived.Test.YtncoanmgifgcbaaDoorFlatE
import Derived.Lib.AppendZeros
namespace Go.Proofs.YtncoanmgifgcbaaDoor
set_option linter.unusedVariables false
set_option linter.unusedSimpArgs false
open Go.RowKit

/-- a word's four bytes -/
def putB (o : Int) : List Int := [o / 16777216 % 256, o / 65536 % 256, o / 256 % 256, o % 256]
def allB (l : List Int) : List Int := l.flatMap putB
theorem allB_len (l : List Int) : (allB l).length = 4 * l.length := by
  induction l with
  | nil => rfl
  | cons x r ih => simp [allB, putB] at ih ⊢; omega
theorem putB_bd (o : Int) : ∀ x ∈ putB o, 0 ≤ x ∧ x ≤ 255 := by
  intro x hx
  simp [putB] at hx
  rcases hx with rfl | rfl | rfl | rfl <;> omega
theorem allB_bd (l : List Int) : ∀ x ∈ allB l, 0 ≤ x ∧ x ≤ 255 := by
  intro x hx
  simp only [allB, List.mem_flatMap] at hx
  obtain ⟨o, -, h⟩ := hx
  exact putB_bd o x h
theorem allB_snoc {l : List Int} {i : Nat} (hi : i < l.length) : allB (l.take (i + 1)) = allB (l.take i) ++ putB (l[i]?.getD 0) := by
  unfold allB
  rw [List.take_succ_eq_append_getElem hi, List.getElem?_eq_getElem hi, List.flatMap_append, List.flatMap_singleton]
  rfl
/-- a slice of bytes, the call's own -/
def OwnB (w : World) (base : Nat) (v : Value) (l : List Int) : Prop := w.ownsRow base 5 1 v l.length (l.map (.int .u8))
theorem OwnB.form {w : World} {base : Nat} {v : Value} {l : List Int} (h : OwnB w base v l) : ∃ A c, v = .slice A l.length c := own_form h
theorem OwnB.keep {w w' : World} {base : Nat} {v : Value} {l : List Int} {F : Nat → Prop} (h : OwnB w base v l) (c : Chg F w w') (hF : ∀ b, base ≤ b → ¬ F b) : OwnB w' base v l := own_keep h c fun b hb => hF b (own_ge h hb)
theorem OwnB.bytes {w : World} {base : Nat} {v : Value} {l : List Int} (h : OwnB w base v l) (hl : ∀ x ∈ l, 0 ≤ x ∧ x ≤ 255) : ByteS w (fun b => base ≤ b) v l := ByteS.of_own h hl
theorem OwnB.nil (w : World) (base : Nat) : OwnB w base (.slice none 0 0) [] := World.ownsRow_nil _ _ _ _
theorem OwnB.base {w : World} {base base' : Nat} {v : Value} {l : List Int} (h : OwnB w base v l) (hb : base' ≤ base) : OwnB w base' v l := own_base h hb
/-- append bytes -/
theorem app_bytes {w : World} {base : Nat} {S : Nat → Prop} {v sv : Value} {l m : List Int} (h : OwnB w base v l) (hs : ByteS w S sv m) (hl : l.length + m.length ≤ 1000000000) (hB : base ≤ w.heap.size) (ty : TypeId) :
    ∃ A c w', (Builtin.append_ #[39, 39] ty #[v, sv]).run Tryd.prog w = .ok (.slice A (l ++ m).length c) w' ∧ OwnB w' base (.slice A (l ++ m).length c) (l ++ m) ∧ Chg (fun k => base ≤ k) w w' := by
  obtain ⟨v', w4, hr, ho, hg⟩ := run_app elem_u8 (by decide) h hs.1 (one_ints _ m) (by unfold maxLen; omega) (by omega) hB ty
  have e : OwnB w4 base v' (l ++ m) := by
    unfold OwnB
    rw [List.length_append, List.map_append]
    exact ho
  obtain ⟨A, c, rfl⟩ := e.form
  exact ⟨A, c, w4, hr, e, (Chg.refl _ _).grown hg (fun k hk => .inl (own_ge h hk))⟩
theorem wrap_u8 (x : Int) : IntKind.u8.wrap x = x % 256 := rfl

/-- what Put gives -/
def Puts (w : World) (o : Int) (v : Value) (w' : World) : Prop := v = .slice (some ⟨w.heap.size, 0, none⟩) 4 4 ∧ OwnB w' w.heap.size v (putB o) ∧ Chg No w w'

set_option maxRecDepth 100000 in
set_option maxHeartbeats 1000000 in
theorem Put_any (o : Int) (w : World) : Calls Tryd.prog 52 #[.int .i64 o] w (Ret (Puts w o)) := by
  obtain ⟨i0, hi, hz0, hz1, hz2⟩ := info_parts info_u8
  have Hz := Lib.hid (And.intro hz0 (And.intro hz1 hz2))
  clear hz0 hz1 hz2
  go_enter Tryd.func52, Tryd.ntmps52
  go_wp2_with (at_make; refine wpList_make_full _ rfl _ _ _ rfl w.heap.size 5 i0 (.int .u8 0) 1 Tryd.underlying39 hi Hz.out.1 Hz.out.2.1 _ _ _ _ 4 rfl rfl (by omega) (by omega) (by rw [Hz.out.2.2]; omega) (by unfold maxLen; omega) (Nat.le_refl _) ?_; intro w1 hown hgrow)
  have r1 : Row w1 w.heap.size 5 #[.int .u8 0, .int .u8 0, .int .u8 0, .int .u8 0] := by
    have r0 := own_row hown
    rw [show (madeCells (Value.int .u8 0).cells (4 * 1)).toList = [.int .u8 0, .int .u8 0, .int .u8 0, .int .u8 0] by kernel_rfl] at r0
    exact r0
  have c1 : Chg No w w1 := (Chg.refl _ _).grown hgrow (by simp)
  have x0 := r1.cell 0
  have x1 := r1.cell 1
  have x2 := r1.cell 2
  have x3 := r1.cell 3
  have f0 := r1.frozen
  simp at x0 x1 x2 x3
  have HR := Lib.hid (And.intro r1 c1)
  clear hown hgrow r1 c1
  refine wp_loop_rounds 5 ?_
  iterate 5
    rw [rounds_succ]
    go_wp2_with fail
  go_ret
  have r := (((HR.out.1.set 0 (.int .u8 (o / 16777216 % 256))).set 1 (.int .u8 (o / 65536 % 256))).set 2 (.int .u8 (o / 256 % 256))).set 3 (.int .u8 (o % 256))
  refine Ret.mk ⟨rfl, own_of_row (cs := (putB o).map (.int .u8)) r rfl (Nat.le_refl _) (by unfold maxLen; simp [putB]), ?_⟩
  repeat (with_reducible first | exact HR.out.2 | refine Chg.setCell ?_ (.inr (by simp)) _)

/-- what All gives -/
def Alls (w : World) (l : List Int) (v : Value) (w' : World) : Prop := OwnB w' w.heap.size v (allB l) ∧ Chg No w w'
set_option maxRecDepth 100000 in
set_option maxHeartbeats 1000000 in
theorem All_any0 (lv : Value) (l : List Int) (S : Nat → Prop) (w : World) (h : IntS w S lv l) (hm : l.length ≤ 100000000) : Calls Tryd.prog 50 #[lv] w (Ret (Alls w l)) := by
  obtain ⟨A, c, rfl, -⟩ := h.form
  have HX := Lib.hid h
  clear h
  generalize hn : l.length = n at *
  have HN := Lib.hid hn
  clear hn
  go_enter Tryd.func50, Tryd.ntmps50
  go_wp2_with fail
  go_loopg [3, 8] n (fun j v3 v8 wr => ∃ i : Nat, v8 = .int .i64 (i : Int) ∧ i ≤ n ∧ n - i ≤ j ∧ OwnB wr w.heap.size v3 (allB (l.take i)) ∧ Chg No w wr)
  case atStart => exact ⟨0, rfl, by omega, by omega, OwnB.nil _ _, Chg.refl _ _⟩
  case round =>
    obtain ⟨i, rfl, i1, i2, own, cw⟩ := hrel
    obtain ⟨A3, c3, rfl⟩ := own.form
    by_cases hi : i < n
    · have t1 : decide ((i : Int) < (n : Int)) = true := decide_eq_true (by omega)
      have l1 : (i : Int) < (n : Int) := by omega
      obtain ⟨b, off, rfl⟩ : ∃ b off, A = some ⟨b, off, none⟩ := by
        obtain ⟨A', c', eA, -, -, -, hat⟩ := HX.out.form
        obtain ⟨b', off', e, -⟩ := hat i (by rw [HN.out]; exact hi)
        obtain ⟨rfl, -, -⟩ := Value.slice.inj eA
        exact ⟨b', off', e⟩
      have y0 : wr.cell? ⟨b, off + i, none⟩ = some (.int .i64 (l[i]?.getD 0)) := by
        obtain ⟨A', c', eA, -, -, -, hat⟩ := (HX.out.keep cw (fun _ _ f => f)).form
        obtain ⟨b', off', e, -, -, y, -⟩ := hat i (by rw [HN.out]; exact hi)
        obtain ⟨rfl, -, -⟩ := Value.slice.inj eA
        obtain ⟨rfl, rfl⟩ : b = b' ∧ off = off' := by simpa using Option.some.inj e
        exact y
      have hsn := allB_snoc (l := l) (i := i) (by rw [HN.out]; exact hi)
      generalize l[i]?.getD 0 = x at *
      have HS := Lib.hid hsn
      have HO := Lib.hid (And.intro own cw)
      have hk : (allB (l.take i)).length ≤ 4 * i := by rw [allB_len]; simp; omega
      generalize hkk : (allB (l.take i)).length = k at *
      have HK := Lib.hid hkk
      clear hsn own cw hkk
      go_wp2_with (first
        | (go_at_call 52
           refine (Put_any x wr).mono ?_
           rintro e w4 ⟨v4, rfl, rfl, ho4, c4⟩
           obtain ⟨A5, c5, w5, hr5, ho5, cg5⟩ := app_bytes (HO.out.1.keep c4 (fun _ _ f => f)) (ho4.bytes (putB_bd x)) (by rw [HK.out]; simp [putB]; omega) (Nat.le_trans HO.out.2.size c4.size) 39
           rw [← HS.out] at hr5 ho5
           have H5 := Lib.hid (And.intro ho5 (Chg.then (HO.out.2.trans c4) cg5 (fun k hk h => by omega)))
           have HR := Lib.hid hr5
           clear ho4 c4 ho5 cg5 hr5)
        | (at_builtin; refine wpList_append_run rfl _ _ _ rfl rfl rfl HR.out ?_))
      go_roundg (n - (i + 1))
      case measure => omega
      case rel => exact ⟨i + 1, by go_num, by omega, by omega, H5.out.1, H5.out.2⟩
    · have t1 : decide ((i : Int) < (n : Int)) = false := decide_eq_false (by omega)
      rw [List.take_of_length_le (by rw [HN.out]; omega)] at own
      have HO := Lib.hid (And.intro own cw)
      clear own cw
      go_wp2_with fail
      go_ret
      exact Ret.mk ⟨by rw [List.take_of_length_le (by rw [HN.out]; omega)]; exact HO.out.1, HO.out.2⟩

end Go.Proofs.YtncoanmgifgcbaaDoor
