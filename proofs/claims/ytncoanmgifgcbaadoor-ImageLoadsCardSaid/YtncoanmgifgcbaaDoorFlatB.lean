/- Walks of a flat memory's functions that only read. · Walks of a flat memory's functions that only read: Obj, place, Fetch, Byte, Made, Ref. -/
import Derived.Test.YtncoanmgifgcbaaDoorFlatRep
namespace Go.Proofs.YtncoanmgifgcbaaDoor
set_option linter.unusedVariables false
set_option linter.unusedSimpArgs false
open Go.RowKit

theorem elem_map : Tryd.prog.underlying 62 = some (.map 3 87) := Tryd.underlying62
theorem zero_ptr (w : World) : (zeroValue 87).run Tryd.prog w = .ok (.pointer none) w := by kernel_rfl

/-- what at answers -/
def atV (ad : Nat → Nat) (L : List O) (o : Int) : Value := match fnd L o with | some i => .pointer (some ⟨ad i, 0, none⟩) | none => .pointer none
def atE (L : List O) (o : Int) : Int := match fnd L o with | some _ => 0 | none => 4

set_option maxRecDepth 100000 in
set_option maxHeartbeats 400000 in
theorem at_some {w : World} {m : Nat} {F : Nat → Prop} {L : List O} {q : Nat} {es : List (Int × Value)} {ad : Nat → Nat} {wv bv : Nat → Value} (h : FlatI w m F L q es ad wv bv) (o : Int) (h64 : In64 o) {i : Nat} (hf : fnd L o = some i) :
    Calls Tryd.prog 85 #[.pointer (some ⟨m, 0, none⟩), .int .i64 o] w fun e w' => e = .returned (.tuple #[.pointer (some ⟨ad i, 0, none⟩), .int .i64 0]) ∧ w = w' := by
  have c0 : w.cell? ⟨m, 0, none⟩ = some (.map (some q)) := h.row.cell 0
  have hlk := h.map.lookup (P := Tryd.prog) elem_map Tryd.underlying3 zero_ptr (namedV o)
  rw [h.get_some hf] at hlk
  simp only [Option.getD_some] at hlk
  obtain ⟨b1, b2⟩ := h64
  clear h hf
  go_enter Tryd.func85, Tryd.ntmps85
  go_wp2_with (go_at_call 29; refine (Named_any _ (by omega) (by omega) _).mono ?_; rintro e w' ⟨rfl, rfl⟩)
  go_ret2
  exact ⟨rfl, rfl⟩

set_option maxRecDepth 100000 in
set_option maxHeartbeats 400000 in
theorem at_none {w : World} {m : Nat} {F : Nat → Prop} {L : List O} {q : Nat} {es : List (Int × Value)} {ad : Nat → Nat} {wv bv : Nat → Value} (h : FlatI w m F L q es ad wv bv) (o : Int) (h64 : In64 o) (hf : fnd L o = none) :
    Calls Tryd.prog 85 #[.pointer (some ⟨m, 0, none⟩), .int .i64 o] w fun e w' => e = .returned (.tuple #[.pointer none, .int .i64 4]) ∧ w = w' := by
  have c0 : w.cell? ⟨m, 0, none⟩ = some (.map (some q)) := h.row.cell 0
  have hlk := h.map.lookup (P := Tryd.prog) elem_map Tryd.underlying3 zero_ptr (namedV o)
  rw [h.get_none hf] at hlk
  simp only [Option.getD_none] at hlk
  obtain ⟨b1, b2⟩ := h64
  clear h hf
  go_enter Tryd.func85, Tryd.ntmps85
  go_wp2_with (go_at_call 29; refine (Named_any _ (by omega) (by omega) _).mono ?_; rintro e w' ⟨rfl, rfl⟩)
  go_ret2
  exact ⟨rfl, rfl⟩

set_option maxHeartbeats 400000 in
theorem at_nil (o : Int) (w : World) :
    Calls Tryd.prog 85 #[.pointer none, .int .i64 o] w fun e w' => e = .returned (.tuple #[.pointer none, .int .i64 1]) ∧ w = w' := by
  go_enter Tryd.func85, Tryd.ntmps85
  go_wp2
  go_ret2
  exact ⟨rfl, rfl⟩

set_option maxHeartbeats 400000 in
theorem Size_any (c : Int) (k : Int) (wv bv : Value) (nw nb : Nat) (A B : Option Addr) (cw cb : Nat) (hw : wv = .slice A nw cw) (hb : bv = .slice B nb cb) (w : World) :
    Calls Tryd.prog 43 #[.agg #[.int .i64 c, .int .i64 k, wv, bv]] w fun e w' => e = .returned (.int .i64 (if k = 1 then (nw : Int) else if k = 2 then (nb : Int) else 0)) ∧ Below w.heap.size w w' := by
  subst hw hb
  by_cases h1 : k = 1
  · subst h1
    go_enter Tryd.func43, Tryd.ntmps43
    go_wp2
    go_ret
    exact ⟨rfl, (Below.refl _ _).alloc (Nat.le_refl _) _⟩
  by_cases h2 : k = 2
  · subst h2
    go_enter Tryd.func43, Tryd.ntmps43
    go_wp2
    go_ret
    exact ⟨rfl, (Below.refl _ _).alloc (Nat.le_refl _) _⟩
  rw [if_neg h1, if_neg h2]
  go_enter Tryd.func43, Tryd.ntmps43
  go_wp2
  go_ret
  exact ⟨rfl, (Below.refl _ _).alloc (Nat.le_refl _) _⟩

/-- what Copy gives: the object, in memory of its own -/
def Copied (w : World) (o : O) (v : Value) (w' : World) : Prop :=
  ∃ wv bv, v = .agg (cells2 o wv bv) ∧ Chg No w w' ∧ w'.ownsRow w.heap.size 3 1 wv o.W.length (o.W.map (.int .i64)) ∧ w'.ownsRow w.heap.size 5 1 bv o.B.length (o.B.map (.int .u8))

set_option maxRecDepth 100000 in
set_option maxHeartbeats 1000000 in
theorem Copy_any (v : Value) (o : O) (S : Nat → Prop) (w : World) (h : ObjR w S v o) (hw : o.W.length ≤ 1000000000) (hb : o.B.length ≤ 1000000000) :
    Calls Tryd.prog 160 #[v] w (Ret (Copied w o)) := by
  obtain ⟨wv, bv, rfl, h1, h2, _⟩ := h
  have hI : ∀ W', Chg No w W' → IntS W' S wv o.W := fun W' c => h1.keep c (fun _ _ f => f)
  have hB : ∀ W', Chg No w W' → ByteS W' S bv o.B := fun W' c => h2.keep c (fun _ _ f => f)
  have HI := Lib.hid hI
  have HB := Lib.hid hB
  clear hI hB h1 h2
  unfold cells2
  go_enter Tryd.func160, Tryd.ntmps160
  go_wp2_with fail
  have hd0 : Chg No w ((w.alloc (.cells #[.int .i64 o.cls, .int .i64 o.kind, wv, bv] 41)).alloc (.cells #[.int .i64 0, .int .i64 0, .slice none 0 0, .slice none 0 0] 41)) := ((Chg.refl _ _).alloc _).alloc _
  have hr0 : Row ((w.alloc (.cells #[.int .i64 o.cls, .int .i64 o.kind, wv, bv] 41)).alloc (.cells #[.int .i64 0, .int .i64 0, .slice none 0 0, .slice none 0 0] 41)) w.heap.size 41 #[.int .i64 o.cls, .int .i64 o.kind, wv, bv] := (Row.new w _ _).alloc _
  have hr1 : Row ((w.alloc (.cells #[.int .i64 o.cls, .int .i64 o.kind, wv, bv] 41)).alloc (.cells #[.int .i64 0, .int .i64 0, .slice none 0 0, .slice none 0 0] 41)) (w.heap.size + 1) 41 #[.int .i64 0, .int .i64 0, .slice none 0 0, .slice none 0 0] := by
    have := Row.new (w.alloc (.cells #[.int .i64 o.cls, .int .i64 o.kind, wv, bv] 41)) 41 #[.int .i64 0, .int .i64 0, .slice none 0 0, .slice none 0 0]
    simpa using this
  generalize (w.alloc (.cells #[.int .i64 o.cls, .int .i64 o.kind, wv, bv] 41)).alloc (.cells #[.int .i64 0, .int .i64 0, .slice none 0 0, .slice none 0 0] 41) = W0 at *
  obtain ⟨a0, a1, a2, a3, af⟩ := hr0.four
  have HR0 := Lib.hid hr0
  have HR1 := Lib.hid hr1
  have HD0 := Lib.hid hd0
  clear hr0 hr1 hd0
  go_region_with (first
    | (go_at_call 163; refine (CloneI_any _ _ S _ (HI.out _ (by repeat (first | exact HD0.out | refine Chg.drew ?_))) hw).mono ?_; rintro e w1 ⟨v1, rfl, hc1, ho1⟩; obtain ⟨A1, k1, rfl⟩ := own_form ho1; have hr0 : Row w1 _ _ _ := Row.keep (by exact HR0.out) hc1 (fun f => f); obtain ⟨b0, b1, b2, b3, bf⟩ := hr0.four; have hr1 : Row w1 _ _ _ := Row.keep (by exact HR1.out) hc1 (fun f => f); have HW1 := Lib.hid hc1.size; have hd1 : Chg No w w1 := Chg.trans (by repeat (first | exact HD0.out | refine Chg.drew ?_)) hc1; have HD1 := Lib.hid hd1; have HR2 := Lib.hid hr0; have HR3 := Lib.hid hr1; have HO1 := Lib.hid ho1; clear hr0 hr1 hd1 hc1 ho1)
    | (go_at_call 100; refine (CloneB_any _ _ S _ (HB.out _ (by repeat (first | exact HD1.out | refine Chg.drew ?_))) hb).mono ?_; rintro e w2 ⟨v2, rfl, hc2, ho2⟩; obtain ⟨A2, k2, rfl⟩ := own_form ho2; have hr0 : Row w2 _ _ _ := Row.keep (by exact HR2.out) hc2 (fun f => f); obtain ⟨d0, d1, d2, d3, df⟩ := hr0.four; have hr1 : Row w2 _ _ _ := Row.keep (by exact HR3.out) hc2 (fun f => f); obtain ⟨e0, e1, e2, e3, ef⟩ := hr1.four; have hd1 : Chg No w w2 := Chg.trans (by repeat (first | exact HD1.out | refine Chg.drew ?_)) hc2; have HD2 := Lib.hid hd1; have HR4 := Lib.hid hr0; have HR5 := Lib.hid hr1; have HO2 := Lib.hid ho2; have HC2 := Lib.hid hc2; clear hr0 hr1 hd1 hc2 ho2))
  all_goals
    have hlt := HR1.out.lt
    have hd := HD0.out.size
    have hs1 := HD1.out.size
    have hs2 := HC2.out.size
    have hsW : W0.heap.size ≤ w1.heap.size := HW1.out
    have ho1 : World.ownsRow w2 W0.heap.size _ 1 _ _ _ := own_keep HO1.out HC2.out (fun _ _ f => f)
    have ho2 : World.ownsRow w2 w1.heap.size _ 1 _ _ _ := HO2.out
    have Ho1 := Lib.hid ho1
    have Ho2 := Lib.hid ho2
    clear ho1 ho2
    go_wp2_with fail
    refine bodyPost_ret (v := .agg (cells2 o _ _)) (by simp [results, Tryd.results160, go_sem, e0, e1, e2, e3]; rfl) rfl (Ret.mk ⟨_, _, rfl, ?_, ?_, ?_⟩)
    · repeat (with_reducible first | exact HD2.out | refine Chg.drew ?_ | refine Chg.setCell ?_ (.inr (by simp)) _)
    · refine own_base (base := W0.heap.size) ?_ (by omega)
      repeat (with_reducible first | exact Ho1.out | refine World.ownsRow.drew ?_ | refine ownsRow_setCell_below ?_ (by simp; omega) _)
    · refine own_base (base := w1.heap.size) ?_ (by omega)
      repeat (with_reducible first | exact Ho2.out | refine World.ownsRow.drew ?_ | refine ownsRow_setCell_below ?_ (by simp; omega) _)

theorem O.ok.wIn {o : O} (h : o.ok) : ∀ x ∈ o.W, In64 x := fun x hx => ref64 (h.2.2.2.2.1 x hx)
theorem O.ok.bIn {o : O} (h : o.ok) : ∀ x ∈ o.B, 0 ≤ x ∧ x ≤ 255 := fun x hx => h.2.2.2.2.2 x hx
/-- how much it has -/
def szO (o : O) : Int := if o.kind = 1 then (o.W.length : Int) else if o.kind = 2 then (o.B.length : Int) else 0

/-- an object of the memory's own reads as what it is -/
theorem OwnO.read {w : World} {b : Nat} {o : O} {wv bv : Value} (h : OwnO w b o wv bv) (hok : o.ok) : ObjR w (fun k => wv.ownBlock = some k ∨ bv.ownBlock = some k) (.agg (cells2 o wv bv)) o :=
  ⟨wv, bv, rfl, ⟨(Slc.of_own h.ws).more fun _ _ hb => .inl hb, hok.wIn⟩, ⟨(Slc.of_own h.bs).more fun _ _ hb => .inr hb, hok.bIn⟩, named64 hok.1, hok.kind64⟩

section
variable {w : World} {m : Nat} {F : Nat → Prop} {L : List O} {q : Nat} {es : List (Int × Value)} {ad : Nat → Nat} {wv bv : Nat → Value}

/-- what Obj gives of an object -/
def Given (w : World) (o : O) (v : Value) (w' : World) : Prop := ∃ r, v = .tuple #[r, .int .i64 0] ∧ Chg No w w' ∧ ObjR w' (fun b => w.heap.size ≤ b) r o

set_option maxRecDepth 100000 in
set_option maxHeartbeats 1000000 in
theorem Obj_some (h : FlatI w m F L q es ad wv bv) (o : Int) (h64 : In64 o) {i : Nat} (hf : fnd L o = some i) :
    Calls Tryd.prog 156 #[.pointer (some ⟨m, 0, none⟩), .int .i64 o] w (Ret (Given w (ob L i))) := by
  have hi := (fnd_some hf).2.1
  have hok := h.ok i hi
  have hown := h.own i hi
  have hc : ∀ x, FlatI (w.alloc x) m F L q es ad wv bv := fun x => h.keep (G := No) ((Chg.refl _ _).alloc x) (fun _ _ f => f)
  have hlt : ad i < w.heap.size := hown.row.lt
  obtain ⟨c0, c1, c2, c3, cf⟩ := hown.row.four
  have Hr := Lib.hid (hown.read hok)
  have Hc := Lib.hid hc
  have Hok := Lib.hid hok
  have Hb := Lib.hid (And.intro hok.2.2.1 hok.2.2.2.1)
  clear hc h hown hok hi cf
  go_enter Tryd.func156, Tryd.ntmps156
  go_wp2_with (go_at_call 85; refine (at_some (Hc.out _) o h64 hf).mono ?_; rintro e w' ⟨rfl, rfl⟩)
  refine (Copy_any _ (ob L i) _ _ (Hr.out.keep (F := No) ((Chg.refl _ _).alloc _) (fun _ _ f => f)) (by have := Hb.out.1; omega) (by have := Hb.out.2; omega)).mono ?_
  rintro e w1 ⟨v, rfl, wv', bv', rfl, hc1, ho1, ho2⟩
  obtain ⟨A1, k1, rfl⟩ := own_form ho1
  obtain ⟨A2, k2, rfl⟩ := own_form ho2
  have hd1 : Chg No w w1 := Chg.trans ((Chg.refl _ _).alloc _) hc1
  have hr : Row w1 w.heap.size _ _ := Row.keep (Row.new w _ _) hc1 (fun f => f)
  obtain ⟨r0, r1, r2, r3, rf⟩ := hr.four
  have hI := IntS.of_own ho1 Hok.out.wIn
  have hB := ByteS.of_own ho2 Hok.out.bIn
  have HI := Lib.hid hI
  have HB := Lib.hid hB
  have HD := Lib.hid hd1
  have HC := Lib.hid hc1.size
  clear hI hB hd1 ho1 ho2 hr hc1
  unfold cells2
  go_wp2_with fail
  refine bodyPost_ret (v := .tuple #[.agg (cells2 (ob L i) _ _), .int .i64 0]) (by simp [results, Tryd.results156, go_sem, r0, r1, r2, r3]; rfl) rfl (Ret.mk ⟨_, rfl, ?_, _, _, rfl, ?_, ?_, named64 Hok.out.1, Hok.out.kind64⟩)
  · repeat (with_reducible first | exact HD.out | refine Chg.drew ?_ | refine Chg.setCell ?_ (.inr (by simp)) _)
  · refine IntS.more (IntS.keep (F := fun b => b = w.heap.size) HI.out ?_ (fun b hb e => by simp at hb; omega)) (fun b _ hb => by simp at hb; omega)
    repeat (with_reducible first | exact Chg.refl _ _ | refine Chg.drew ?_ | refine Chg.setCell ?_ (.inl (by simp)) _)
  · refine ByteS.more (ByteS.keep (F := fun b => b = w.heap.size) HB.out ?_ (fun b hb e => by simp at hb; omega)) (fun b _ hb => by simp at hb; omega)
    repeat (with_reducible first | exact Chg.refl _ _ | refine Chg.drew ?_ | refine Chg.setCell ?_ (.inl (by simp)) _)

/-- what Obj gives where there is none -/
def Missed (w : World) (n : Int) (v : Value) (w' : World) : Prop := v = .tuple #[.agg #[.int .i64 0, .int .i64 0, .slice none 0 0, .slice none 0 0], .int .i64 n] ∧ Chg No w w'

set_option maxRecDepth 100000 in
set_option maxHeartbeats 400000 in
theorem Obj_none (h : FlatI w m F L q es ad wv bv) (o : Int) (h64 : In64 o) (hf : fnd L o = none) :
    Calls Tryd.prog 156 #[.pointer (some ⟨m, 0, none⟩), .int .i64 o] w (Ret (Missed w 4)) := by
  have hc : ∀ x, FlatI (w.alloc x) m F L q es ad wv bv := fun x => h.keep (G := No) ((Chg.refl _ _).alloc x) (fun _ _ f => f)
  have Hc := Lib.hid hc
  clear hc h
  go_enter Tryd.func156, Tryd.ntmps156
  go_wp2_with (go_at_call 85; refine (at_none (Hc.out _) o h64 hf).mono ?_; rintro e w' ⟨rfl, rfl⟩)
  refine bodyPost_ret (v := .tuple #[.agg #[.int .i64 0, .int .i64 0, .slice none 0 0, .slice none 0 0], .int .i64 4]) (by simp [results, Tryd.results156, go_sem]) rfl (Ret.mk ⟨rfl, ?_⟩)
  repeat (with_reducible first | exact Chg.refl _ _ | refine Chg.drew ?_ | refine Chg.setCell ?_ (.inr (by simp)) _ | refine Chg.alloc ?_ _)

set_option maxRecDepth 100000 in
set_option maxHeartbeats 400000 in
theorem Obj_nil (o : Int) (w : World) : Calls Tryd.prog 156 #[.pointer none, .int .i64 o] w (Ret (Missed w 1)) := by
  go_enter Tryd.func156, Tryd.ntmps156
  go_wp2_with (go_at_call 85; refine (at_nil o _).mono ?_; rintro e w' ⟨rfl, rfl⟩)
  refine bodyPost_ret (v := .tuple #[.agg #[.int .i64 0, .int .i64 0, .slice none 0 0, .slice none 0 0], .int .i64 1]) (by simp [results, Tryd.results156, go_sem]) rfl (Ret.mk ⟨rfl, ?_⟩)
  repeat (with_reducible first | exact Chg.refl _ _ | refine Chg.drew ?_ | refine Chg.setCell ?_ (.inr (by simp)) _ | refine Chg.alloc ?_ _)

/-- what place answers -/
def placeE (L : List O) (o kind i : Int) : Int := match fnd L o with | none => 4 | some j => if (ob L j).kind = kind then (if 0 ≤ i ∧ i < szO (ob L j) then 0 else 21) else 20

set_option maxRecDepth 100000 in
set_option maxHeartbeats 400000 in
theorem place_none (h : FlatI w m F L q es ad wv bv) (o kind i : Int) (h64 : In64 o) (hf : fnd L o = none) :
    Calls Tryd.prog 48 #[.pointer (some ⟨m, 0, none⟩), .int .i64 o, .int .i64 kind, .int .i64 i] w fun e w' => e = .returned (.tuple #[.pointer none, .int .i64 4]) ∧ Below w.heap.size w w' := by
  go_enter Tryd.func48, Tryd.ntmps48
  go_wp2_with (go_at_call 85; refine (at_none h o h64 hf).mono ?_; rintro e w' ⟨rfl, rfl⟩)
  go_ret2
  exact ⟨rfl, Below.refl _ _⟩

set_option maxRecDepth 100000 in
set_option maxHeartbeats 400000 in
theorem place_nil (o kind i : Int) (w : World) :
    Calls Tryd.prog 48 #[.pointer none, .int .i64 o, .int .i64 kind, .int .i64 i] w fun e w' => e = .returned (.tuple #[.pointer none, .int .i64 1]) ∧ Below w.heap.size w w' := by
  go_enter Tryd.func48, Tryd.ntmps48
  go_wp2_with (go_at_call 85; refine (at_nil o _).mono ?_; rintro e w' ⟨rfl, rfl⟩)
  go_ret2
  exact ⟨rfl, Below.refl _ _⟩

set_option maxRecDepth 100000 in
set_option maxHeartbeats 400000 in
theorem place_kind (h : FlatI w m F L q es ad wv bv) (o kind i : Int) (h64 : In64 o) {j : Nat} (hf : fnd L o = some j) (hk : ¬ (ob L j).kind = kind) :
    Calls Tryd.prog 48 #[.pointer (some ⟨m, 0, none⟩), .int .i64 o, .int .i64 kind, .int .i64 i] w fun e w' => e = .returned (.tuple #[.pointer none, .int .i64 20]) ∧ Below w.heap.size w w' := by
  obtain ⟨c0, c1, c2, c3, cf⟩ := (h.own j (fnd_some hf).2.1).row.four
  have hk1 : ((ob L j).kind != kind) = true := by simp [hk]
  clear hk cf c0 c2 c3
  have H := Lib.hid h
  clear h
  go_enter Tryd.func48, Tryd.ntmps48
  go_wp2_with (go_at_call 85; refine (at_some H.out o h64 hf).mono ?_; rintro e w' ⟨rfl, rfl⟩)
  go_ret2
  exact ⟨rfl, Below.refl _ _⟩

set_option maxRecDepth 100000 in
set_option maxHeartbeats 400000 in
theorem place_index (h : FlatI w m F L q es ad wv bv) (o kind i : Int) (h64 : In64 o) {j : Nat} (hf : fnd L o = some j) (hk : (ob L j).kind = kind) (hi : ¬ (0 ≤ i ∧ i < szO (ob L j))) :
    Calls Tryd.prog 48 #[.pointer (some ⟨m, 0, none⟩), .int .i64 o, .int .i64 kind, .int .i64 i] w fun e w' => e = .returned (.tuple #[.pointer none, .int .i64 21]) ∧ Below w.heap.size w w' := by
  subst hk
  have hown := h.own j (fnd_some hf).2.1
  obtain ⟨c0, c1, c2, c3, cf⟩ := hown.row.four
  obtain ⟨A1, k1, e1⟩ := own_form hown.ws
  obtain ⟨A2, k2, e2⟩ := own_form hown.bs
  have E1 := Lib.hid e1
  have E2 := Lib.hid e2
  clear e1 e2
  have H := Lib.hid h
  have hsz : szO (ob L j) = if (ob L j).kind = 1 then ((ob L j).W.length : Int) else if (ob L j).kind = 2 then ((ob L j).B.length : Int) else 0 := rfl
  rw [hsz] at hi
  have hk1 : ((ob L j).kind != (ob L j).kind) = false := by simp
  clear cf hown h hsz
  by_cases h0 : i < 0
  · go_enter Tryd.func48, Tryd.ntmps48
    go_wp2_with (go_at_call 85; refine (at_some H.out o h64 hf).mono ?_; rintro e w' ⟨rfl, rfl⟩)
    go_ret2
    exact ⟨rfl, Below.refl _ _⟩
  · have h1 : 0 ≤ i := by omega
    have hge : (if (ob L j).kind = 1 then ((ob L j).W.length : Int) else if (ob L j).kind = 2 then ((ob L j).B.length : Int) else 0) ≤ i := by omega
    clear hi h0
    generalize hz : (if (ob L j).kind = 1 then ((ob L j).W.length : Int) else if (ob L j).kind = 2 then ((ob L j).B.length : Int) else 0) = z at *
    have HZ := Lib.hid hz
    clear hz
    go_enter Tryd.func48, Tryd.ntmps48
    go_wp2_with (first
      | (go_at_call 85; refine (at_some H.out o h64 hf).mono ?_; rintro e w' ⟨rfl, rfl⟩)
      | (go_at_call 43; refine (Size_any _ _ _ _ _ _ _ _ _ _ E1.out E2.out _).mono ?_; rw [HZ.out]; rintro e w' ⟨rfl, hb⟩))
    go_ret2
    exact ⟨rfl, hb⟩

set_option maxRecDepth 100000 in
set_option maxHeartbeats 400000 in
theorem place_ok (h : FlatI w m F L q es ad wv bv) (o kind i : Int) (h64 : In64 o) {j : Nat} (hf : fnd L o = some j) (hk : (ob L j).kind = kind) (hi : 0 ≤ i ∧ i < szO (ob L j)) :
    Calls Tryd.prog 48 #[.pointer (some ⟨m, 0, none⟩), .int .i64 o, .int .i64 kind, .int .i64 i] w fun e w' => e = .returned (.tuple #[.pointer (some ⟨ad j, 0, none⟩), .int .i64 0]) ∧ Below w.heap.size w w' := by
  subst hk
  have hown := h.own j (fnd_some hf).2.1
  obtain ⟨c0, c1, c2, c3, cf⟩ := hown.row.four
  obtain ⟨A1, k1, e1⟩ := own_form hown.ws
  obtain ⟨A2, k2, e2⟩ := own_form hown.bs
  have E1 := Lib.hid e1
  have E2 := Lib.hid e2
  clear e1 e2
  have H := Lib.hid h
  have hsz : szO (ob L j) = if (ob L j).kind = 1 then ((ob L j).W.length : Int) else if (ob L j).kind = 2 then ((ob L j).B.length : Int) else 0 := rfl
  rw [hsz] at hi
  have hk1 : ((ob L j).kind != (ob L j).kind) = false := by simp
  clear cf hown h hsz
  generalize hz : (if (ob L j).kind = 1 then ((ob L j).W.length : Int) else if (ob L j).kind = 2 then ((ob L j).B.length : Int) else 0) = z at *
  have HZ := Lib.hid hz
  clear hz
  obtain ⟨i1, i2⟩ := hi
  go_enter Tryd.func48, Tryd.ntmps48
  go_wp2_with (first
    | (go_at_call 85; refine (at_some H.out o h64 hf).mono ?_; rintro e w' ⟨rfl, rfl⟩)
    | (go_at_call 43; refine (Size_any _ _ _ _ _ _ _ _ _ _ E1.out E2.out _).mono ?_; rw [HZ.out]; rintro e w' ⟨rfl, hb⟩))
  go_ret2
  exact ⟨rfl, hb⟩
end

end Go.Proofs.YtncoanmgifgcbaaDoor
