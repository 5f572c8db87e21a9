/- Walks of a flat memory's functions that only read. -/
import Derived.Test.YtjanojignaonfaaFlatRep
namespace Go.Proofs.Ytjanojignaonfaa
set_option linter.unusedVariables false
set_option linter.unusedSimpArgs false
open Go.RowKit

theorem elem_map : Try.prog.underlying 122 = some (.map 3 97) := Try.underlying122
theorem zero_ptr (w : World) : (zeroValue 97).run Try.prog w = .ok (.pointer none) w := by kernel_rfl

/-- what at answers -/
def atV (ad : Nat → Nat) (L : List O) (o : Int) : Value := match fnd L o with | some i => .pointer (some ⟨ad i, 0, none⟩) | none => .pointer none
def atE (L : List O) (o : Int) : Int := match fnd L o with | some _ => 0 | none => 4

set_option maxRecDepth 100000 in
set_option maxHeartbeats 400000 in
theorem at_some {w : World} {m : Nat} {F : Nat → Prop} {L : List O} {q : Nat} {es : List (Int × Value)} {ad : Nat → Nat} {wv bv : Nat → Value} (h : FlatI w m F L q es ad wv bv) (o : Int) (h64 : In64 o) {i : Nat} (hf : fnd L o = some i) :
    Calls Try.prog 64 #[.pointer (some ⟨m, 0, none⟩), .int .i64 o] w fun e w' => e = .returned (.tuple #[.pointer (some ⟨ad i, 0, none⟩), .int .i64 0]) ∧ w = w' := by
  have c0 : w.cell? ⟨m, 0, none⟩ = some (.map (some q)) := h.row.cell 0
  have hlk := h.map.lookup (P := Try.prog) elem_map Try.underlying3 zero_ptr (namedV o)
  rw [h.get_some hf] at hlk
  simp only [Option.getD_some] at hlk
  obtain ⟨b1, b2⟩ := h64
  clear h hf
  go_enter Try.func64, Try.ntmps64
  go_wp2_with (go_at_call 87; refine (Named_any _ (by omega) (by omega) _).mono ?_; rintro e w' ⟨rfl, rfl⟩)
  go_ret2
  exact ⟨rfl, rfl⟩

set_option maxRecDepth 100000 in
set_option maxHeartbeats 400000 in
theorem at_none {w : World} {m : Nat} {F : Nat → Prop} {L : List O} {q : Nat} {es : List (Int × Value)} {ad : Nat → Nat} {wv bv : Nat → Value} (h : FlatI w m F L q es ad wv bv) (o : Int) (h64 : In64 o) (hf : fnd L o = none) :
    Calls Try.prog 64 #[.pointer (some ⟨m, 0, none⟩), .int .i64 o] w fun e w' => e = .returned (.tuple #[.pointer none, .int .i64 4]) ∧ w = w' := by
  have c0 : w.cell? ⟨m, 0, none⟩ = some (.map (some q)) := h.row.cell 0
  have hlk := h.map.lookup (P := Try.prog) elem_map Try.underlying3 zero_ptr (namedV o)
  rw [h.get_none hf] at hlk
  simp only [Option.getD_none] at hlk
  obtain ⟨b1, b2⟩ := h64
  clear h hf
  go_enter Try.func64, Try.ntmps64
  go_wp2_with (go_at_call 87; refine (Named_any _ (by omega) (by omega) _).mono ?_; rintro e w' ⟨rfl, rfl⟩)
  go_ret2
  exact ⟨rfl, rfl⟩

set_option maxHeartbeats 400000 in
theorem at_nil (o : Int) (w : World) :
    Calls Try.prog 64 #[.pointer none, .int .i64 o] w fun e w' => e = .returned (.tuple #[.pointer none, .int .i64 1]) ∧ w = w' := by
  go_enter Try.func64, Try.ntmps64
  go_wp2
  go_ret2
  exact ⟨rfl, rfl⟩

set_option maxHeartbeats 400000 in
theorem Size_any (c : Int) (k : Int) (wv bv : Value) (nw nb : Nat) (A B : Option Addr) (cw cb : Nat) (hw : wv = .slice A nw cw) (hb : bv = .slice B nb cb) (w : World) :
    Calls Try.prog 55 #[.agg #[.int .i64 c, .int .i64 k, wv, bv]] w fun e w' => e = .returned (.int .i64 (if k = 1 then (nw : Int) else if k = 2 then (nb : Int) else 0)) ∧ Below w.heap.size w w' := by
  subst hw hb
  by_cases h1 : k = 1
  · subst h1
    go_enter Try.func55, Try.ntmps55
    go_wp2
    go_ret
    exact ⟨rfl, (Below.refl _ _).alloc (Nat.le_refl _) _⟩
  by_cases h2 : k = 2
  · subst h2
    go_enter Try.func55, Try.ntmps55
    go_wp2
    go_ret
    exact ⟨rfl, (Below.refl _ _).alloc (Nat.le_refl _) _⟩
  rw [if_neg h1, if_neg h2]
  go_enter Try.func55, Try.ntmps55
  go_wp2
  go_ret
  exact ⟨rfl, (Below.refl _ _).alloc (Nat.le_refl _) _⟩

/-- what Copy gives: the object, in memory of its own -/
def Copied (w : World) (o : O) (v : Value) (w' : World) : Prop :=
  ∃ wv bv, v = .agg (cells2 o wv bv) ∧ Chg No w w' ∧ w'.ownsRow w.heap.size 3 1 wv o.W.length (o.W.map (.int .i64)) ∧ w'.ownsRow w.heap.size 5 1 bv o.B.length (o.B.map (.int .u8))

set_option maxRecDepth 100000 in
set_option maxHeartbeats 1000000 in
theorem Copy_any (v : Value) (o : O) (S : Nat → Prop) (w : World) (h : ObjR w S v o) (hw : o.W.length ≤ 1000000000) (hb : o.B.length ≤ 1000000000) :
    Calls Try.prog 65 #[v] w (Ret (Copied w o)) := by
  obtain ⟨wv, bv, rfl, h1, h2, _⟩ := h
  have hI : ∀ W', Chg No w W' → IntS W' S wv o.W := fun W' c => h1.keep c (fun _ _ f => f)
  have hB : ∀ W', Chg No w W' → ByteS W' S bv o.B := fun W' c => h2.keep c (fun _ _ f => f)
  have HI := Lib.hid hI
  have HB := Lib.hid hB
  clear hI hB h1 h2
  unfold cells2
  go_enter Try.func65, Try.ntmps65
  go_wp2_with fail
  have hd0 : Chg No w ((w.alloc (.cells #[.int .i64 o.cls, .int .i64 o.kind, wv, bv] 39)).alloc (.cells #[.int .i64 0, .int .i64 0, .slice none 0 0, .slice none 0 0] 39)) := ((Chg.refl _ _).alloc _).alloc _
  have hr0 : Row ((w.alloc (.cells #[.int .i64 o.cls, .int .i64 o.kind, wv, bv] 39)).alloc (.cells #[.int .i64 0, .int .i64 0, .slice none 0 0, .slice none 0 0] 39)) w.heap.size 39 #[.int .i64 o.cls, .int .i64 o.kind, wv, bv] := (Row.new w _ _).alloc _
  have hr1 : Row ((w.alloc (.cells #[.int .i64 o.cls, .int .i64 o.kind, wv, bv] 39)).alloc (.cells #[.int .i64 0, .int .i64 0, .slice none 0 0, .slice none 0 0] 39)) (w.heap.size + 1) 39 #[.int .i64 0, .int .i64 0, .slice none 0 0, .slice none 0 0] := by
    have := Row.new (w.alloc (.cells #[.int .i64 o.cls, .int .i64 o.kind, wv, bv] 39)) 39 #[.int .i64 0, .int .i64 0, .slice none 0 0, .slice none 0 0]
    simpa using this
  generalize (w.alloc (.cells #[.int .i64 o.cls, .int .i64 o.kind, wv, bv] 39)).alloc (.cells #[.int .i64 0, .int .i64 0, .slice none 0 0, .slice none 0 0] 39) = W0 at *
  obtain ⟨a0, a1, a2, a3, af⟩ := hr0.four
  have HR0 := Lib.hid hr0
  have HR1 := Lib.hid hr1
  have HD0 := Lib.hid hd0
  clear hr0 hr1 hd0
  go_region_with (first
    | (go_at_call 88; refine (CloneI_any _ _ S _ (HI.out _ (by repeat (first | exact HD0.out | refine Chg.drew ?_))) hw).mono ?_; rintro e w1 ⟨v1, rfl, hc1, ho1⟩; obtain ⟨A1, k1, rfl⟩ := own_form ho1; have hr0 : Row w1 _ _ _ := Row.keep (by exact HR0.out) hc1 (fun f => f); obtain ⟨b0, b1, b2, b3, bf⟩ := hr0.four; have hr1 : Row w1 _ _ _ := Row.keep (by exact HR1.out) hc1 (fun f => f); have HW1 := Lib.hid hc1.size; have hd1 : Chg No w w1 := Chg.trans (by repeat (first | exact HD0.out | refine Chg.drew ?_)) hc1; have HD1 := Lib.hid hd1; have HR2 := Lib.hid hr0; have HR3 := Lib.hid hr1; have HO1 := Lib.hid ho1; clear hr0 hr1 hd1 hc1 ho1)
    | (go_at_call 89; refine (CloneB_any _ _ S _ (HB.out _ (by repeat (first | exact HD1.out | refine Chg.drew ?_))) hb).mono ?_; rintro e w2 ⟨v2, rfl, hc2, ho2⟩; obtain ⟨A2, k2, rfl⟩ := own_form ho2; have hr0 : Row w2 _ _ _ := Row.keep (by exact HR2.out) hc2 (fun f => f); obtain ⟨d0, d1, d2, d3, df⟩ := hr0.four; have hr1 : Row w2 _ _ _ := Row.keep (by exact HR3.out) hc2 (fun f => f); obtain ⟨e0, e1, e2, e3, ef⟩ := hr1.four; have hd1 : Chg No w w2 := Chg.trans (by repeat (first | exact HD1.out | refine Chg.drew ?_)) hc2; have HD2 := Lib.hid hd1; have HR4 := Lib.hid hr0; have HR5 := Lib.hid hr1; have HO2 := Lib.hid ho2; have HC2 := Lib.hid hc2; clear hr0 hr1 hd1 hc2 ho2))
  all_goals
    have hlt := HR1.out.lt
    have hd := HD0.out.size
    have hs1 := HD1.out.size
    have hs2 := HC2.out.size
    have hsW : W0.heap.size ≤ w1.heap.size := HW1.out
    have ho1 : World.ownsRow w2 W0.heap.size _ 1 _ _ _ := own_keep HO1.out HC2.out (fun _ _ f => f)
    have ho2 : World.ownsRow w2 w1.heap.size _ 1 _ _ _ := HO2.out
    have Ho1 := Lib.hid ho1
    have Ho2 := Lib.hid ho2
    clear ho1 ho2
    go_wp2_with fail
    refine bodyPost_ret (v := .agg (cells2 o _ _)) (by simp [results, Try.results65, go_sem, e0, e1, e2, e3]; rfl) rfl (Ret.mk ⟨_, _, rfl, ?_, ?_, ?_⟩)
    · repeat (with_reducible first | exact HD2.out | refine Chg.drew ?_ | refine Chg.setCell ?_ (.inr (by simp)) _)
    · refine own_base (base := W0.heap.size) ?_ (by omega)
      repeat (with_reducible first | exact Ho1.out | refine World.ownsRow.drew ?_ | refine ownsRow_setCell_below ?_ (by simp; omega) _)
    · refine own_base (base := w1.heap.size) ?_ (by omega)
      repeat (with_reducible first | exact Ho2.out | refine World.ownsRow.drew ?_ | refine ownsRow_setCell_below ?_ (by simp; omega) _)

end Go.Proofs.Ytjanojignaonfaa
