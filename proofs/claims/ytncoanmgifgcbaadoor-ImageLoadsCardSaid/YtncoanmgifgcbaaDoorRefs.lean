/- What an object names: wide.Refs. -/
import Derived.Test.YtncoanmgifgcbaaDoorFlatI
import Derived.Test.YtncoanmgifgcbaaDoorRef10
import Derived.Test.YtncoanmgifgcbaaDoorRegion
namespace Go.Proofs.YtncoanmgifgcbaaDoor
set_option linter.unusedVariables false
set_option linter.unusedSimpArgs false
open Go.RowKit

/-- the number that a word names, if it does -/
def idOf (x : Int) : Option Int := if namedOk x = true then some (x / 2) else none
def refsO (o : O) : List Int := (o.cls :: o.W).filterMap idOf
theorem idOf_yes {x : Int} (h : namedOk x = true) : idOf x = some (namedV x) := by
  rw [idOf, if_pos h, (namedV_of h).1]
theorem idOf_no {x : Int} (h : namedOk x = false) : idOf x = none := by
  rw [idOf, if_neg (by rw [h]; decide)]
theorem fm_snoc {l : List Int} {i : Nat} (hi : i < l.length) : (l.take (i + 1)).filterMap idOf = (l.take i).filterMap idOf ++ (match idOf (l[i]?.getD 0) with | some y => [y] | none => []) := by
  rw [List.take_succ_eq_append_getElem hi, List.filterMap_append, List.getElem?_eq_getElem hi]
  simp only [Option.getD_some]
  cases h : idOf l[i] <;> simp [h]
theorem fm_len (l : List Int) : (l.filterMap idOf).length ≤ l.length := List.length_filterMap_le _ _

/-- a slice of the call's own that reads as l -/
def OwnInts (w : World) (base : Nat) (v : Value) (l : List Int) : Prop := w.ownsRow base 3 1 v l.length (l.map (.int .i64))
theorem OwnInts.form {w : World} {base : Nat} {v : Value} {l : List Int} (h : OwnInts w base v l) : ∃ A c, v = .slice A l.length c := own_form h
theorem OwnInts.keep {w w' : World} {base : Nat} {v : Value} {l : List Int} {F : Nat → Prop} (h : OwnInts w base v l) (c : Chg F w w') (hF : ∀ b, base ≤ b → ¬ F b) : OwnInts w' base v l := own_keep h c fun b hb => hF b (own_ge h hb)
theorem OwnInts.at {w : World} {base : Nat} {A : Option Addr} {n c : Nat} {l : List Int} (h : OwnInts w base (.slice A n c) l) {i : Nat} (hi : i < l.length) : ∃ b, A = some ⟨b, 0, none⟩ ∧ base ≤ b ∧ b < w.heap.size ∧ n = l.length ∧ w.cell? ⟨b, 0 + i, none⟩ = some (.int .i64 (l[i]?.getD 0)) := by
  obtain ⟨g, cap, e, hg, hc, _⟩ := own_at h (by omega)
  obtain ⟨rfl, rfl, rfl⟩ := Value.slice.inj e
  refine ⟨g, rfl, own_ge h rfl, hg, rfl, ?_⟩
  rw [Nat.zero_add, hc i hi, List.getElem?_map, List.getElem?_eq_getElem hi]
  rfl
/-- append one number -/
theorem app_one {w : World} {base : Nat} {v : Value} {l : List Int} (h : OwnInts w base v l) (hl : l.length < 2000000000) (hB : base ≤ w.heap.size) (x : Int) (ty : TypeId) :
    ∃ A c w', (Builtin.append_ #[36, 36] ty #[v, .slice (some ⟨w.heap.size, 0, none⟩) 1 1]).run Tryd.prog (w.alloc (.cells #[.int .i64 x] 3)) = .ok (.slice A (l.length + 1) c) w' ∧ OwnInts w' base (.slice A (l.length + 1) c) (l ++ [x]) ∧ Chg (fun k => base ≤ k) w w' := by
  obtain ⟨v', w4, hr, ho, hg⟩ := run_app elem_int (by decide) (own_keep (F := No) h ((Chg.refl _ _).alloc (.cells #[.int .i64 x] 3)) (fun _ _ f => f)) (Slc.row (S := fun _ => True) (Row.new w 3 #[.int .i64 x]) 1 1 rfl (by unfold maxLen; omega) trivial) (by simp [Value.oneCell']) (by unfold maxLen; omega) (by omega) (by simp; omega) ty
  obtain ⟨A, c, rfl⟩ := own_form ho
  refine ⟨A, c, w4, hr, by simpa [OwnInts] using ho, ?_⟩
  exact ((Chg.refl _ _).alloc _).grown hg (fun k hk => .inl (own_ge h hk))

/-- what Refs gives -/
def Refd (w : World) (l : List Int) (v : Value) (w' : World) : Prop := OwnInts w' w.heap.size v l ∧ Chg No w w'

set_option maxRecDepth 100000 in
set_option maxHeartbeats 2000000 in
theorem Refs_any (v : Value) (o : O) (S : Nat → Prop) (w : World) (h : ObjR w S v o) (hW : o.W.length ≤ 1000000) : Calls Tryd.prog 57 #[v] w (Ret (Refd w (refsO o))) := by
  obtain ⟨wv, bv, rfl, h1, h2, c64, -⟩ := h
  have hwl : ∀ x ∈ o.cls :: o.W, In64 x := fun x hx => by
    rcases List.mem_cons.1 hx with rfl | hx
    · exact c64
    · exact h1.2 x hx
  obtain ⟨A, ca, rfl, -⟩ := h1.form
  obtain ⟨B, cb, rfl, -⟩ := h2.form
  simp only [cells2]
  have cA : Chg No w ((w.alloc (.cells #[.int .i64 o.cls, .int .i64 o.kind, .slice A o.W.length ca, .slice B o.B.length cb] 41)).alloc (.cells #[.int .i64 o.cls] 3)) := ((Chg.refl _ _).alloc _).alloc _
  have r1 : Row ((w.alloc (.cells #[.int .i64 o.cls, .int .i64 o.kind, .slice A o.W.length ca, .slice B o.B.length cb] 41)).alloc (.cells #[.int .i64 o.cls] 3)) (w.heap.size + 1) 3 #[.int .i64 o.cls] := by simpa using Row.new (w.alloc (.cells #[.int .i64 o.cls, .int .i64 o.kind, .slice A o.W.length ca, .slice B o.B.length cb] 41)) 3 #[.int .i64 o.cls]
  obtain ⟨v', w4, hr, ho, hg⟩ := run_app elem_int (by decide) (own_of_row (base := w.heap.size + 1) (n := 1) (cs := [Value.int .i64 o.cls]) r1 rfl (Nat.le_refl _) (by unfold maxLen; omega)) (h1.keep cA (fun _ _ f => f)).1
    (by intro u hu; simp at hu; obtain ⟨x, _, rfl⟩ := hu; rfl) (by unfold maxLen; omega) (by omega) (by simp) 36
  have hw : OwnInts w4 (w.heap.size + 1) v' (o.cls :: o.W) := by
    unfold OwnInts
    simpa [Nat.add_comm] using ho
  obtain ⟨A4, c4, rfl⟩ := hw.form
  have cg : Chg No w w4 := (cA.grown hg (fun k hk => .inr (by cases hk; simp)))
  have HR := Lib.hid hr
  have HO := Lib.hid (And.intro hw (And.intro cg hwl))
  have hls : (o.cls :: o.W).length ≤ 1000001 := by simp; omega
  unfold refsO
  clear hr ho hw hg r1 cA cg h1 h2 hwl
  generalize o.cls :: o.W = l at *
  go_enter Tryd.func57, Tryd.ntmps57
  go_wp2_with (at_builtin; refine wpList_append_run rfl _ _ _ rfl rfl rfl HR.out ?_)
  clear HR
  generalize hn : l.length = n at *
  have HN := Lib.hid hn
  clear hn
  go_loopg [3, 15] n (fun j v3 v15 wr => ∃ i : Nat, v15 = .int .i64 i ∧ i ≤ n ∧ n - i ≤ j ∧ OwnInts wr w4.heap.size v3 ((l.take i).filterMap idOf) ∧ Chg (fun k => w4.heap.size ≤ k) w4 wr)
  case atStart => exact ⟨0, rfl, by omega, by omega, World.ownsRow_nil _ _ _ _, Chg.refl _ _⟩
  case round =>
    obtain ⟨i, rfl, i1, i2, own, cw⟩ := hrel
    have hw4 : w4.heap.size ≤ wr.heap.size := cw.size
    have hfl : ((l.take i).filterMap idOf).length ≤ i := Nat.le_trans (fm_len _) (by simp; omega)
    obtain ⟨A3, c3, rfl⟩ := own.form
    by_cases hi : i < n
    · obtain ⟨g, rfl, -, hg, -, hc⟩ := HO.out.1.at (i := i) (by rw [HN.out]; exact hi)
      have hc' := (cw.cell (p := ⟨g, 0 + i, none⟩) hg (by simp; omega)).trans hc
      have x64 : In64 (l[i]?.getD 0) := by
        rw [List.getElem?_eq_getElem (by rw [HN.out]; exact hi)]
        exact HO.out.2.2 _ (List.getElem_mem _)
      have hsn := fm_snoc (l := l) (i := i) (by rw [HN.out]; exact hi)
      rw [Nat.zero_add] at hc'
      generalize l[i]?.getD 0 = x at *
      cases hx : namedOk x
      · rw [idOf_no hx] at hsn
        have HX := Lib.hid (And.intro hsn (And.intro own cw))
        have HM := fun w => Named_any x x64.1 x64.2 w
        rw [hx] at HM
        clear hsn own cw hc hx
        go_wp2_with (go_at_call 29; refine (HM _).mono ?_; rintro e w' ⟨rfl, rfl⟩)
        go_roundg (n - (i + 1))
        case measure => omega
        case rel =>
          refine ⟨i + 1, by go_num, by omega, by omega, ?_, HX.out.2.2⟩
          rw [HX.out.1, List.append_nil]
          exact HX.out.2.1
      · rw [idOf_yes hx] at hsn
        obtain ⟨A5, c5, w5, hr5, ho5, cg5⟩ := app_one own (by omega) hw4 (namedV x) 36
        have HX := Lib.hid (And.intro hsn (And.intro ho5 (cw.trans cg5)))
        have HR := Lib.hid hr5
        have HM := fun w => Named_any x x64.1 x64.2 w
        rw [hx] at HM
        clear hsn own cw hc hx hr5 ho5 cg5
        generalize ((l.take i).filterMap idOf).length = k at *
        go_wp2_with (first
          | (go_at_call 29; refine (HM _).mono ?_; rintro e w' ⟨rfl, rfl⟩)
          | (at_builtin; refine wpList_append_run rfl _ _ _ rfl rfl rfl HR.out ?_))
        go_roundg (n - (i + 1))
        case measure => omega
        case rel =>
          refine ⟨i + 1, by go_num, by omega, by omega, ?_, HX.out.2.2⟩
          rw [HX.out.1]
          exact HX.out.2.1
    · obtain rfl : i = n := by omega
      rw [List.take_of_length_le (by rw [HN.out]; exact Nat.le_refl _)] at own
      have HX := Lib.hid (And.intro own cw)
      rw [List.take_of_length_le (by rw [HN.out]; exact Nat.le_refl _)]
      clear own cw
      generalize (l.filterMap idOf).length = k at *
      go_wp2_with fail
      go_ret
      refine Ret.mk ⟨?_, ?_⟩
      · exact own_base HX.out.1 HO.out.2.1.size
      · exact HO.out.2.1.then HX.out.2 (fun k hk h => by have := HO.out.2.1.size; omega)

end Go.Proofs.YtncoanmgifgcbaaDoor
