/- Objects on a disk: what the chapter's example fixes: websterlaw06.known. -/
import Derived.Test.YtdpmmafkomchaaaGreatSecU
import Derived.Test.YtdpmmafkomchaaaGreatSameB
namespace Go.Proofs.YtdpmmafkomchaaaGreat
set_option linter.unusedVariables false
set_option linter.unusedSimpArgs false
open Go.RowKit
open Go.ChangeMaps (setBlock)

/-- the example's object -/
def o2 : O := ⟨2, 2, [], []⟩
theorem o2_ok : okB o2 = true := by decide
theorem o2_len : (encB o2).length = 12 := by rw [encB_len]; rfl
theorem o2_R (w : World) (S : Nat → Prop) : ObjR w S (.agg #[.int .i64 2, .int .i64 2, .slice none 0 0, .slice none 0 0]) o2 :=
  ⟨_, _, rfl, IntS.nil w S, ByteS.nil w S, (show In64 2 by unfold In64; omega), (show In64 2 by unfold In64; omega)⟩
theorem place_o2 (X : List Xt) (f : Nat) (h : (List.range 10).find? (fun g => decide (g + 1 ≤ 9) && freeB (tX X) g 1) = some f) : placeX X 9 (secN (encB o2).length) = some f := by
  rw [o2_len]
  exact h
theorem tX_o2 (fs : List Nat) (i : Nat) : tX (fs.map fun f => ⟨f, encB o2⟩) i = fs.any fun f => decide (f ≤ i) && decide (i < f + 1) := by
  unfold tX
  rw [List.any_map]
  congr 1
  funext f
  simp only [Function.comp]
  have : Xt.n ⟨f, encB o2⟩ = 1 := by unfold Xt.n; rw [o2_len]; rfl
  rw [this]
theorem place_list (fs : List Nat) (f : Nat) (h : (List.range 10).find? (fun g => decide (g + 1 ≤ 9) && freeB (fun i => fs.any fun f => decide (f ≤ i) && decide (i < f + 1)) g 1) = some f) : placeX (fs.map fun f => ⟨f, encB o2⟩) 9 (secN (encB o2).length) = some f := by
  refine place_o2 _ f ?_
  rw [show tX (fs.map fun f => ⟨f, encB o2⟩) = fun i => fs.any fun f => decide (f ≤ i) && decide (i < f + 1) from funext (tX_o2 fs)]
  exact h

set_option maxRecDepth 100000 in
set_option maxHeartbeats 400000 in
theorem secMake_nil (v : Value) (o : O) (S : Nat → Prop) (w : World) (ho : ObjR w S v o) : Calls Tryz.prog 7 #[.pointer none, v] w fun e w' => e = .returned (.tuple #[.int .i64 0, .int .i64 1]) ∧ Chg No w w' := by
  obtain ⟨wv, bv, rfl, h1, h2, -⟩ := ho
  obtain ⟨A, ca, rfl, -⟩ := h1.form
  obtain ⟨Bb, cb, rfl, -⟩ := h2.form
  simp only [cells2]
  clear h1 h2
  go_enter Tryz.func7, Tryz.ntmps7
  go_wp2_with fail
  go_ret2
  exact ⟨rfl, (Chg.refl _ _).alloc _⟩

/-- the space changes in blocks that are new -/
theorem Chg.fresh {w w1 w' : World} {F : Nat → Prop} (h : Chg No w w1) (c : Chg F w1 w') (hF : ∀ k, F k → w.heap.size ≤ k) : Chg No w w' :=
  h.then c (fun k hk hf => by have := hF k hf; omega)

set_option maxRecDepth 100000 in
set_option maxHeartbeats 1000000 in
theorem known06_any (w : World) : Calls Tryz.prog 5 #[] w fun e w' => e = .returned (.bool true) ∧ Chg No w w' := by
  have HN := Lib.hid (secNew_ok 9 (by omega) w)
  go_enter Tryz.func5, Tryz.ntmps5
  go_wp2_with (first
    | (go_at_call 6
       refine HN.out.mono ?_
       rintro e w1 ⟨v1, rfl, Q, rfl, hs, hge, c1⟩
       obtain ⟨W2, hW2⟩ : ∃ W, w1.alloc (.cells #[.int .i64 2, .int .i64 2, .slice none 0 0, .slice none 0 0] 35) = W := ⟨_, rfl⟩
       have c2 : Chg No w1 W2 := by rw [← hW2]; exact (Chg.refl _ _).alloc _
       have rb : Row W2 w1.heap.size 35 #[.int .i64 2, .int .i64 2, .slice none 0 0, .slice none 0 0] := by rw [← hW2]; exact Row.new _ _ _
       have hb : ¬ Q.has w1.heap.size := fun h => by have := hs.lt h; omega
       have y := rb.four
       have HM1 := Lib.hid (secMake_ok (hs.keep c2 (fun _ _ f => f)) _ o2 (fun _ => True) (o2_R W2 _) o2_ok (by omega) (f := 0) (place_list [] 0 (by decide)))
       have HK := Lib.hid (And.intro hge (And.intro hb (hs.lt (k := Q.s) (.inl rfl))))
       have C2 := Lib.hid (And.intro (c1.trans c2) rb)
       have HW2 := Lib.hid hW2
       clear hs hge c1 c2 rb hb hW2)
    | (rw [HW2.out])
    | (go_at_call 7
       (with_reducible refine HM1.out.mono ?_)
       rintro e w3 ⟨v3, rfl, rfl, hs3, c3⟩
       have rb := C2.out.2.keep c3 HK.out.2.1
       have y := rb.four
       have HM2 := Lib.hid (secMake_ok hs3 _ o2 (fun _ => True) (o2_R w3 _) o2_ok (by omega) (f := 1) (place_list [0] 1 (by decide)))
       have C3 := Lib.hid (And.intro (Chg.fresh C2.out.1 c3 HK.out.1) rb)
       clear HM1 hs3 c3 rb)
    | (go_at_call 7
       (with_reducible refine HM2.out.mono ?_)
       rintro e w4 ⟨v4, rfl, rfl, hs4, c4⟩
       have rb := C3.out.2.keep c4 HK.out.2.1
       have y := rb.four
       have H4 := Lib.hid hs4
       have C4 := Lib.hid (And.intro (Chg.fresh C3.out.1 c4 HK.out.1) rb)
       clear HM2 hs4 c4 rb)
    | (go_at_call 14
       refine (secDrop_any (H4.out.keep (F := No) ((Chg.refl _ _).alloc _) (fun _ _ f => f)) _ [2] (fun k => k = w4.heap.size) (IntS.ofRow (l := [2]) (Row.new w4 _ _) (by decide) (by intro x hx; simp at hx; rw [hx]; unfold In64; omega)) (fun k hk hq => by have := H4.out.lt hq; omega) (by decide)).mono ?_
       rintro e w5 ⟨rfl, hs5, c5⟩
       have hs5 : SecS w5 Q 9 [⟨((0 + 1 : Nat) : Int), o2, 0⟩] (0 + 1 + 1) := hs5
       have rb := (C4.out.2.alloc _).keep c5 HK.out.2.1
       have y := rb.four
       have HM3 := Lib.hid (secMake_ok hs5 _ o2 (fun _ => True) (o2_R w5 _) o2_ok (by omega) (f := 1) (place_list [0] 1 (by decide)))
       have C5 := Lib.hid (And.intro (Chg.fresh (C4.out.1.alloc _) c5 HK.out.1) rb)
       rw [show (if dropB ([] ++ [⟨((0 + 1 : Nat) : Int), o2, 0⟩] ++ [⟨((0 + 1 + 1 : Nat) : Int), o2, 1⟩]) [2] = true then (0 : Int) else 4) = 0 from rfl]
       clear H4 hs5 c5 rb)
    | (go_at_call 7
       (with_reducible refine HM3.out.mono ?_)
       rintro e w6 ⟨v6, rfl, rfl, hs6, c6⟩
       have rb := C5.out.2.keep c6 HK.out.2.1
       have y := rb.four
       have HMN := Lib.hid (secMake_nil _ o2 (fun _ => True) w6 (o2_R w6 _))
       have C6 := Lib.hid (And.intro (Chg.fresh C5.out.1 c6 HK.out.1) hs6)
       clear HM3 hs6 c6 rb)
    | (go_at_call 7
       (with_reducible refine HMN.out.mono ?_)
       rintro e w7 ⟨rfl, c7⟩
       have C7 := Lib.hid (And.intro (C6.out.1.trans c7) (C6.out.2.keep c7 (fun _ _ f => f)))
       clear HMN c7)
    | (go_at_call 21
       refine (secIds_any C7.out.2).mono ?_
       rintro e w8 ⟨v8, rfl, ho8, c8⟩
       have ho8 : OwnInts w8 w7.heap.size v8 [1, 3] := ho8
       obtain ⟨A8, d8, rfl⟩ := ho8.form
       have C8 := Lib.hid (And.intro (C7.out.1.trans c8) (And.intro (C7.out.2.keep c8 (fun _ _ f => f)) (IntS.of_own ho8 (by intro x hx; simp at hx; rcases hx with rfl | rfl <;> (unfold In64; omega)))))
       clear ho8 c8)
    | (go_at_call 20
       refine (SameInts_any _ _ [1, 3] [1, 3] _ (fun k => k = w8.heap.size) _ (C8.out.2.2.keep (F := No) ((Chg.refl _ _).alloc _) (fun _ _ f => f)) (IntS.ofRow (l := [1, 3]) (Row.new w8 _ _) (by decide) (by intro x hx; simp at hx; rcases hx with rfl | rfl <;> (unfold In64; omega)))).mono ?_
       rw [decide_eq_true (rfl : ([1, 3] : List Int) = [1, 3])]
       rintro e w9 ⟨rfl, c9⟩
       have C9 := Lib.hid (And.intro ((C8.out.1.alloc _).trans c9) (C8.out.2.1.keep (F := No) (((Chg.refl _ _).alloc _).trans c9) (fun _ _ f => f)))
       clear c9)
    | (go_at_call 19
       refine (secMade_any C9.out.2).mono ?_
       rintro e w10 ⟨rfl, rfl⟩)
    | fail)
  go_ret
  exact ⟨rfl, C9.out.1⟩

end Go.Proofs.YtdpmmafkomchaaaGreat
