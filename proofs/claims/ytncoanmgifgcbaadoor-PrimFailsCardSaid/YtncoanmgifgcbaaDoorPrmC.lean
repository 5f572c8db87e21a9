/- Places of objects, plainly: what prim's behind, at, get, put tell; and of a list of five. No walk here. · Places of objects over a flat memory: prim.behind, at, get, put, small. · Places of objects over a flat memory: prim.at, get, put, small. -/
import Derived.Test.YtncoanmgifgcbaaDoorKitE
import Derived.Test.YtncoanmgifgcbaaDoorRegion
namespace Go.Proofs.YtncoanmgifgcbaaDoor
set_option linter.unusedVariables false
set_option linter.unusedSimpArgs false
open Go.RowKit

def behE (L : List O) (o : Int) : Int := if objE L o ≠ 0 then objE L o else if (shapeOf L (objV L o).cls).e ≠ 0 then (shapeOf L (objV L o).cls).e else if szO (objV L o) < (shapeOf L (objV L o).cls).n then 2 else 0
def behF (L : List O) (o : Int) : Int := if objE L o ≠ 0 then 0 else (shapeOf L (objV L o).cls).n
def behN (L : List O) (o : Int) : Int := if objE L o ≠ 0 then 0 else szO (objV L o) - (shapeOf L (objV L o).cls).n
def behK (L : List O) (o : Int) : Int := if objE L o ≠ 0 then 0 else (objV L o).kind
def plV (L : List O) (o i : Int) : Int := behF L o + numV i - 1
def plE (L : List O) (o i : Int) : Int := if behE L o ≠ 0 then behE L o else if numOk i = false ∨ numV i < 1 ∨ behN L o < numV i then 21 else 0
def getV' (L : List O) (o i : Int) : Int := if plE L o i ≠ 0 then 0 else if behK L o = 1 then fetchV L o (plV L o i) else if placeE L o 2 (plV L o i) ≠ 0 then 0 else smallV (byteV L o (plV L o i))
def getE' (L : List O) (o i : Int) : Int := if plE L o i ≠ 0 then plE L o i else if behK L o = 1 then placeE L o 1 (plV L o i) else if placeE L o 2 (plV L o i) ≠ 0 then placeE L o 2 (plV L o i) else smallE (byteV L o (plV L o i))
def putV' (L : List O) (o i v : Int) : Int := if plE L o i ≠ 0 then 0 else if behK L o = 1 then v else if numOk v = false then 0 else v
def putE' (L : List O) (o i v : Int) : Int := if plE L o i ≠ 0 then plE L o i else if behK L o = 1 then setE L o (plV L o i) v else if numOk v = false then 2 else sbyteE L o (plV L o i) (numV v)
def putL' (L : List O) (o i v : Int) : List O := if plE L o i ≠ 0 then L else if behK L o = 1 then setL L o (plV L o i) v else if numOk v = false then L else sbyteL L o (plV L o i) (numV v)

/-! the list of PrimPlaces -/
def Lp : List O := [⟨2, 1, [], []⟩, ⟨2, 1, [], []⟩, ⟨2, 1, [], []⟩, ⟨2, 1, [], []⟩, ⟨2, 1, [2, 2, 2075], []⟩]
def Lq (W : List Int) : List O := Lp ++ [⟨10, 1, W, []⟩]
theorem num_odd {i : Int} (h1 : 0 ≤ i) (h2 : i ≤ 1000) : numOk (2 * i + 1) = true ∧ numV (2 * i + 1) = i := by
  unfold numOk numV
  refine ⟨decide_eq_true (by omega), ?_⟩
  rw [if_pos (by omega)]
  omega
theorem shape_2075 {L : List O} (e1 : placeE L 10 1 2 = 0) (e2 : fetchV L 10 2 = 2075) : shapeOf L 10 = ⟨1, 3, true, 0⟩ := by
  have hb : shapeBad 2075 = false := by decide
  have hv : numV 2075 = 1037 := by decide
  unfold shapeOf
  rw [e1, e2, hb, hv, if_neg (by simp), if_neg (by simp)]
  rfl
theorem Lp_shape : shapeOf Lp 10 = ⟨1, 3, true, 0⟩ := shape_2075 (by decide) (by decide)
theorem Lq_fnd10 (W : List Int) : fnd (Lq W) 10 = some 4 := by
  unfold fnd
  rw [if_pos ⟨by decide, by simp [ob, Lq, Lp]⟩]
  rfl
theorem Lq_fnd12 (W : List Int) : fnd (Lq W) 12 = some 5 := by
  unfold fnd
  rw [if_pos ⟨by decide, by simp [ob, Lq, Lp]⟩]
  rfl
theorem Lq_ob4 (W : List Int) : ob (Lq W) 4 = ⟨2, 1, [2, 2, 2075], []⟩ := by simp [ob, Lq, Lp]
theorem Lq_ob5 (W : List Int) : ob (Lq W) 5 = ⟨10, 1, W, []⟩ := by simp [ob, Lq, Lp]
theorem Lq_shape (W : List Int) : shapeOf (Lq W) 10 = ⟨1, 3, true, 0⟩ := by
  have e1 : placeE (Lq W) 10 1 2 = 0 := by unfold placeE; rw [Lq_fnd10]; simp only [Lq_ob4]; simp [szO]
  have e2 : fetchV (Lq W) 10 2 = 2075 := by unfold fetchV; rw [Lq_fnd10]; simp only [Lq_ob4]; simp
  exact shape_2075 e1 e2
theorem ins_places {n : Int} (h1 : 0 ≤ n) (h2 : n ≤ 255) : insN Lp 10 [n] = 12 ∧ insE Lp 10 [n] = 0 ∧ insL Lp 10 [n] = Lq (List.replicate (3 + n).toNat 2) := by
  have hb : insBad Lp 10 [n] = false := by
    unfold insBad
    rw [Lp_shape]
    simp [badB]
    omega
  have ho : insOk Lp 10 [n] = true := by unfold insOk; rw [Lp_shape, hb]; rfl
  have hbl : blankOk 10 1 (3 + n) = true := by unfold blankOk; simp [namedOk]; omega
  refine ⟨?_, ?_, ?_⟩
  · unfold insN
    rw [if_pos ho, Lp_shape]
    simp only [List.sum_cons, List.sum_nil, Int.add_zero]
    unfold newN
    rw [if_pos hbl]
    rfl
  · unfold insE
    rw [Lp_shape, hb]
    simp only [List.sum_cons, List.sum_nil, Int.add_zero]
    unfold newE
    simp [hbl]
  · unfold insL
    rw [if_pos ho, Lp_shape]
    simp only [List.sum_cons, List.sum_nil, Int.add_zero]
    unfold newL
    rw [if_pos hbl]
    rfl
section
variable {W : List Int} {n i v : Int}
theorem beh_places (hW : (W.length : Int) = 3 + n) (h0 : 0 ≤ n) : behE (Lq W) 12 = 0 ∧ behF (Lq W) 12 = 3 ∧ behN (Lq W) 12 = n ∧ behK (Lq W) 12 = 1 := by
  have e1 : objE (Lq W) 12 = 0 := by unfold objE; rw [Lq_fnd12]
  have e2 : objV (Lq W) 12 = ⟨10, 1, W, []⟩ := by unfold objV; rw [Lq_fnd12]; exact Lq_ob5 W
  have e3 : szO ⟨10, 1, W, []⟩ = 3 + n := by simp [szO, hW]
  unfold behE behF behN behK
  rw [e1, e2, e3]
  simp only [Lq_shape]
  refine ⟨?_, ?_, ?_, ?_⟩ <;> simp <;> omega
theorem at_places (hW : (W.length : Int) = 3 + n) (h0 : 0 ≤ n) (hi : 0 ≤ i) (hi2 : i ≤ 255) : plE (Lq W) 12 (2 * i + 1) = (if 1 ≤ i ∧ i ≤ n then 0 else 21) ∧ plV (Lq W) 12 (2 * i + 1) = 2 + i := by
  obtain ⟨b1, b2, b3, -⟩ := beh_places hW h0
  obtain ⟨n1, n2⟩ := num_odd hi (by omega)
  unfold plE plV
  rw [b1, b2, b3, n1, n2]
  refine ⟨?_, by omega⟩
  by_cases h : 1 ≤ i ∧ i ≤ n
  · rw [if_pos h, if_neg (by simp), if_neg (by simp; omega)]
  · rw [if_neg h, if_neg (by simp), if_pos (by simp; omega)]
theorem set_places (hW : (W.length : Int) = 3 + n) (h1 : 1 ≤ i) (h2 : i ≤ n) (hv : refOk v = true) : setE (Lq W) 12 (2 + i) v = 0 ∧ setL (Lq W) 12 (2 + i) v = Lq (W.set (2 + i).toNat v) ∧ fetchV (Lq (W.set (2 + i).toNat v)) 12 (2 + i) = v ∧ placeE (Lq (W.set (2 + i).toNat v)) 12 1 (2 + i) = 0 := by
  have hp : ∀ X : List Int, (X.length : Int) = 3 + n → placeE (Lq X) 12 1 (2 + i) = 0 := fun X hX => by
    unfold placeE
    rw [Lq_fnd12]
    simp only [Lq_ob5]
    rw [if_pos trivial, if_pos ⟨by omega, by simp [szO, hX]; omega⟩]
  have he : setE (Lq W) 12 (2 + i) v = 0 := by unfold setE; rw [if_pos (hp W hW), if_pos hv]
  have hlen : ((W.set (2 + i).toNat v).length : Int) = 3 + n := by rw [List.length_set]; exact hW
  refine ⟨he, ?_, ?_, hp _ hlen⟩
  · unfold setL
    rw [Lq_fnd12]
    simp only []
    rw [if_pos he, Lq_ob5]
    rfl
  · unfold fetchV
    rw [Lq_fnd12]
    simp only [Lq_ob5]
    rw [if_pos ⟨trivial, by omega, by omega⟩, List.getElem?_set_self (by omega)]
    rfl
end

theorem szO_bd {w0 w : World} {m : Nat} {L : List O} {K : (Nat → Prop) → World → Prop} (h : MemK w0 w m L K) (o : Int) : 0 ≤ szO (objV L o) ∧ szO (objV L o) ≤ 1000 := by
  unfold objV
  cases hf : fnd L o with
  | none => simp [szO, O.zero]
  | some i =>
    have hk := h.okAt (fnd_some hf).2.1
    obtain ⟨-, -, h1, h2, -⟩ := hk
    simp only []
    unfold szO
    split
    · omega
    · split <;> omega
theorem byte64 {w0 w : World} {m : Nat} {L : List O} {K : (Nat → Prop) → World → Prop} (h : MemK w0 w m L K) (o i : Int) : 0 ≤ byteV L o i ∧ byteV L o i ≤ 255 := by
  unfold byteV
  cases hf : fnd L o with
  | none => simp
  | some j =>
    have hk := h.okAt (fnd_some hf).2.1
    obtain ⟨-, -, -, -, -, h2⟩ := hk
    simp only []
    split
    · rename_i hc
      have hlt : i.toNat < (ob L j).B.length := by omega
      rw [List.getElem?_eq_getElem hlt]
      exact h2 _ (List.getElem_mem hlt)
    · omega

section
variable {w0 w w' : World} {m : Nat} {L L' : List O} {K : (Nat → Prop) → World → Prop} {F F' : Nat → Prop}
set_option maxRecDepth 100000 in
set_option maxHeartbeats 1000000 in
theorem k_behind (h : MemK w0 w m L K) (o : Int) (ho : In64 o) :
    Calls Tryd.prog 80 #[.iface 27 (.pointer (some ⟨m, 0, none⟩)), .int .i64 o] w fun e w' => e = .returned (.tuple #[.int .i64 (behF L o), .int .i64 (behN L o), .int .i64 (behK L o), .int .i64 (behE L o)]) ∧ MemK w0 w' m L K ∧ Chg No w w' := by
  have hzb := szO_bd h o
  have H := Lib.hid h
  clear h
  unfold behF behN behK behE
  obtain ⟨e0, he0⟩ : ∃ e, objE L o = e := ⟨_, rfl⟩
  obtain ⟨x, hx⟩ : ∃ x, objV L o = x := ⟨_, rfl⟩
  obtain ⟨⟨sk, sn, sm, se⟩, hs⟩ : ∃ s, shapeOf L x.cls = s := ⟨_, rfl⟩
  have hbd := shape_bd L x.cls
  rw [he0, hx, hs]
  rw [hx] at hzb
  rw [hs] at hbd
  dsimp only at hbd ⊢
  obtain ⟨z, hz⟩ : ∃ z, szO x = z := ⟨_, rfl⟩
  rw [hz] at hzb ⊢
  have HX := Lib.hid (And.intro he0 hx)
  have HS := Lib.hid hs
  have HZ := Lib.hid hz
  clear he0 hx hs hz
  by_cases h0 : e0 = 0
  · subst h0
    rw [if_neg (by simp), if_neg (by simp), if_neg (by simp), if_neg (by simp)]
    have hw1 : IntKind.i64.wrap (z - sn) = z - sn := IntWalk.i64_in _ (by omega)
    by_cases h1 : se = 0
    · subst h1
      rw [if_neg (by simp)]
      by_cases h2 : z < sn
      · have t1 : decide (z < sn) = true := decide_eq_true h2
        rw [if_pos h2]
        go_enter Tryd.func80, Tryd.ntmps80
        go_wp2_with (first
          | (go_at_call 156
             refine (k_ObjC H.out o ho).mono ?_
             rw [HX.out.1, HX.out.2]
             rintro e w1 ⟨r, rfl, g1, hr, c1⟩
             obtain ⟨wv1, bv1, rfl, hI1, hB1, i64, j64⟩ := hr
             obtain ⟨A1, d1, rfl, -⟩ := hI1.form
             obtain ⟨A2, d2, rfl, -⟩ := hB1.form
             simp only [cells2]
             obtain ⟨W2, hW2⟩ : ∃ W, w1.alloc (.cells #[.int .i64 x.cls, .int .i64 x.kind, .slice A1 x.W.length d1, .slice A2 x.B.length d2] 41) = W := ⟨_, rfl⟩
             have c2 : Chg No w1 W2 := by rw [← hW2]; exact (Chg.refl _ _).alloc _
             have r2 : Row W2 w1.heap.size 41 #[.int .i64 x.cls, .int .i64 x.kind, .slice A1 x.W.length d1, .slice A2 x.B.length d2] := by rw [← hW2]; exact Row.new _ _ _
             have H2 := Lib.hid (And.intro (g1.world c2) (And.intro (c1.trans c2) (And.intro r2 i64)))
             have HW2 := Lib.hid hW2
             obtain ⟨y0, y1, y2, y3, -⟩ := r2.four
             clear hI1 hB1 i64 j64 g1 c1 c2 r2 hW2)
          | (rw [HW2.out])
          | (go_at_call 108
             refine (k_Shape H2.out.1 x.cls H2.out.2.2.2).mono ?_
             rw [HS.out]
             rintro e w3 ⟨rfl, g3, c3⟩
             have r3 := H2.out.2.2.1.keep c3 (fun f => f)
             have H3 := Lib.hid (And.intro g3 (And.intro (H2.out.2.1.trans c3) r3))
             obtain ⟨z0, z1, z2, z3, -⟩ := r3.four
             clear g3 c3 r3)
          | (go_at_call 43
             refine (Size_any _ _ _ _ _ _ _ _ _ _ rfl rfl _).mono ?_
             rw [show (if x.kind = 1 then (x.W.length : Int) else if x.kind = 2 then (x.B.length : Int) else 0) = z from HZ.out]
             rintro e w' ⟨rfl, hb⟩
             have c4 := Chg.of_below (F := No) hb
             have r4 := H3.out.2.2.keep c4 (fun f => f)
             have H4 := Lib.hid (And.intro (H3.out.1.world c4) (And.intro (H3.out.2.1.trans c4) r4))
             clear c4 r4 hb)
          | fail)
        have v0 : ∀ v, Chg No w' v → v.cell? ⟨w1.heap.size, 0, none⟩ = some (.int .i64 x.cls) ∧ v.cell? ⟨w1.heap.size, 1, none⟩ = some (.int .i64 x.kind) ∧ v.cell? ⟨w1.heap.size, 2, none⟩ = some (.slice A1 x.W.length d1) ∧ v.cell? ⟨w1.heap.size, 3, none⟩ = some (.slice A2 x.B.length d2) := fun v hv => by
          obtain ⟨u0, u1, u2, u3, -⟩ := (H4.out.2.2.keep hv (fun f => f)).four
          exact ⟨u0, u1, u2, u3⟩
        refine q_region (C := (Chg No w')) (by kernel_rfl) (by kernel_rfl) ?_ ?_
        · exact (Chg.refl _ _).drew
        repeat
          refine q_step (fun K hK => ?_)
          go_simp
          first
            | ((with_reducible refine hK _ ?_); clear hK K)
            | (refine (if_neg (by simp [undef])).mpr ?_; (with_reducible refine hK _ ?_); clear hK K)
            | (apply Exists.intro
               with_reducible refine ⟨fun v hv => ?_, hK _ ?_⟩
               · first
                   | with_reducible exact rfl
                   | with_reducible exact ⟨rfl, rfl⟩
                   | (go_simp
                      first
                        | done
                        | with_reducible exact rfl
                        | with_reducible exact ⟨rfl, rfl⟩
                        | (go_at_call 43; refine (Size_any _ _ _ _ _ _ _ _ _ _ rfl rfl _).mono ?_; rw [show (if x.kind = 1 then (x.W.length : Int) else if x.kind = 2 then (x.B.length : Int) else 0) = z from HZ.out]; rintro e w5 ⟨rfl, hb⟩; exact ⟨rfl, hv.trans (Chg.of_below hb)⟩))
               clear hK K)
        refine q_nil ?_
        intro V hV
        go_wp2_with fail
        exact bodyPost_ret (v := .tuple #[.int .i64 sn, .int .i64 (z - sn), .int .i64 x.kind, .int .i64 2]) (by simp [results, Tryd.results80, go_sem]) rfl ⟨rfl, H4.out.1.world hV, H4.out.2.1.trans hV⟩
      · have t1 : decide (z < sn) = false := decide_eq_false h2
        rw [if_neg h2]
        go_enter Tryd.func80, Tryd.ntmps80
        go_wp2_with (first
          | (go_at_call 156
             refine (k_ObjC H.out o ho).mono ?_
             rw [HX.out.1, HX.out.2]
             rintro e w1 ⟨r, rfl, g1, hr, c1⟩
             obtain ⟨wv1, bv1, rfl, hI1, hB1, i64, j64⟩ := hr
             obtain ⟨A1, d1, rfl, -⟩ := hI1.form
             obtain ⟨A2, d2, rfl, -⟩ := hB1.form
             simp only [cells2]
             obtain ⟨W2, hW2⟩ : ∃ W, w1.alloc (.cells #[.int .i64 x.cls, .int .i64 x.kind, .slice A1 x.W.length d1, .slice A2 x.B.length d2] 41) = W := ⟨_, rfl⟩
             have c2 : Chg No w1 W2 := by rw [← hW2]; exact (Chg.refl _ _).alloc _
             have r2 : Row W2 w1.heap.size 41 #[.int .i64 x.cls, .int .i64 x.kind, .slice A1 x.W.length d1, .slice A2 x.B.length d2] := by rw [← hW2]; exact Row.new _ _ _
             have H2 := Lib.hid (And.intro (g1.world c2) (And.intro (c1.trans c2) (And.intro r2 i64)))
             have HW2 := Lib.hid hW2
             obtain ⟨y0, y1, y2, y3, -⟩ := r2.four
             clear hI1 hB1 i64 j64 g1 c1 c2 r2 hW2)
          | (rw [HW2.out])
          | (go_at_call 108
             refine (k_Shape H2.out.1 x.cls H2.out.2.2.2).mono ?_
             rw [HS.out]
             rintro e w3 ⟨rfl, g3, c3⟩
             have r3 := H2.out.2.2.1.keep c3 (fun f => f)
             have H3 := Lib.hid (And.intro g3 (And.intro (H2.out.2.1.trans c3) r3))
             obtain ⟨z0, z1, z2, z3, -⟩ := r3.four
             clear g3 c3 r3)
          | (go_at_call 43
             refine (Size_any _ _ _ _ _ _ _ _ _ _ rfl rfl _).mono ?_
             rw [show (if x.kind = 1 then (x.W.length : Int) else if x.kind = 2 then (x.B.length : Int) else 0) = z from HZ.out]
             rintro e w' ⟨rfl, hb⟩
             have c4 := Chg.of_below (F := No) hb
             have r4 := H3.out.2.2.keep c4 (fun f => f)
             have H4 := Lib.hid (And.intro (H3.out.1.world c4) (And.intro (H3.out.2.1.trans c4) r4))
             clear c4 r4 hb)
          | fail)
        have v0 : ∀ v, Chg No w' v → v.cell? ⟨w1.heap.size, 0, none⟩ = some (.int .i64 x.cls) ∧ v.cell? ⟨w1.heap.size, 1, none⟩ = some (.int .i64 x.kind) ∧ v.cell? ⟨w1.heap.size, 2, none⟩ = some (.slice A1 x.W.length d1) ∧ v.cell? ⟨w1.heap.size, 3, none⟩ = some (.slice A2 x.B.length d2) := fun v hv => by
          obtain ⟨u0, u1, u2, u3, -⟩ := (H4.out.2.2.keep hv (fun f => f)).four
          exact ⟨u0, u1, u2, u3⟩
        refine q_region (C := (Chg No w')) (by kernel_rfl) (by kernel_rfl) ?_ ?_
        · exact (Chg.refl _ _).drew
        repeat
          refine q_step (fun K hK => ?_)
          go_simp
          first
            | ((with_reducible refine hK _ ?_); clear hK K)
            | (refine (if_neg (by simp [undef])).mpr ?_; (with_reducible refine hK _ ?_); clear hK K)
            | (apply Exists.intro
               with_reducible refine ⟨fun v hv => ?_, hK _ ?_⟩
               · first
                   | with_reducible exact rfl
                   | with_reducible exact ⟨rfl, rfl⟩
                   | (go_simp
                      first
                        | done
                        | with_reducible exact rfl
                        | with_reducible exact ⟨rfl, rfl⟩
                        | (go_at_call 43; refine (Size_any _ _ _ _ _ _ _ _ _ _ rfl rfl _).mono ?_; rw [show (if x.kind = 1 then (x.W.length : Int) else if x.kind = 2 then (x.B.length : Int) else 0) = z from HZ.out]; rintro e w5 ⟨rfl, hb⟩; exact ⟨rfl, hv.trans (Chg.of_below hb)⟩))
               clear hK K)
        refine q_nil ?_
        intro V hV
        go_wp2_with fail
        exact bodyPost_ret (v := .tuple #[.int .i64 sn, .int .i64 (z - sn), .int .i64 x.kind, .int .i64 0]) (by simp [results, Tryd.results80, go_sem]) rfl ⟨rfl, H4.out.1.world hV, H4.out.2.1.trans hV⟩
    · have t1 : (se == 0) = false := beq_eq_false_iff_ne.2 h1
      rw [if_pos h1]
      go_enter Tryd.func80, Tryd.ntmps80
      go_wp2_with (first
        | (go_at_call 156
           refine (k_ObjC H.out o ho).mono ?_
           rw [HX.out.1, HX.out.2]
           rintro e w1 ⟨r, rfl, g1, hr, c1⟩
           obtain ⟨wv1, bv1, rfl, hI1, hB1, i64, j64⟩ := hr
           obtain ⟨A1, d1, rfl, -⟩ := hI1.form
           obtain ⟨A2, d2, rfl, -⟩ := hB1.form
           simp only [cells2]
           obtain ⟨W2, hW2⟩ : ∃ W, w1.alloc (.cells #[.int .i64 x.cls, .int .i64 x.kind, .slice A1 x.W.length d1, .slice A2 x.B.length d2] 41) = W := ⟨_, rfl⟩
           have c2 : Chg No w1 W2 := by rw [← hW2]; exact (Chg.refl _ _).alloc _
           have r2 : Row W2 w1.heap.size 41 #[.int .i64 x.cls, .int .i64 x.kind, .slice A1 x.W.length d1, .slice A2 x.B.length d2] := by rw [← hW2]; exact Row.new _ _ _
           have H2 := Lib.hid (And.intro (g1.world c2) (And.intro (c1.trans c2) (And.intro r2 i64)))
           have HW2 := Lib.hid hW2
           obtain ⟨y0, y1, y2, y3, -⟩ := r2.four
           clear hI1 hB1 i64 j64 g1 c1 c2 r2 hW2)
        | (rw [HW2.out])
        | (go_at_call 108
           refine (k_Shape H2.out.1 x.cls H2.out.2.2.2).mono ?_
           rw [HS.out]
           rintro e w3 ⟨rfl, g3, c3⟩
           have r3 := H2.out.2.2.1.keep c3 (fun f => f)
           have H3 := Lib.hid (And.intro g3 (And.intro (H2.out.2.1.trans c3) r3))
           obtain ⟨z0, z1, z2, z3, -⟩ := r3.four
           clear g3 c3 r3)
        | fail)
      have v0 : ∀ v, Chg No w3 v → v.cell? ⟨w1.heap.size, 0, none⟩ = some (.int .i64 x.cls) ∧ v.cell? ⟨w1.heap.size, 1, none⟩ = some (.int .i64 x.kind) ∧ v.cell? ⟨w1.heap.size, 2, none⟩ = some (.slice A1 x.W.length d1) ∧ v.cell? ⟨w1.heap.size, 3, none⟩ = some (.slice A2 x.B.length d2) := fun v hv => by
        obtain ⟨u0, u1, u2, u3, -⟩ := (H3.out.2.2.keep hv (fun f => f)).four
        exact ⟨u0, u1, u2, u3⟩
      refine q_region (C := (Chg No w3)) (by kernel_rfl) (by kernel_rfl) ?_ ?_
      · exact (Chg.refl _ _).drew
      repeat
        refine q_step (fun K hK => ?_)
        go_simp
        first
          | ((with_reducible refine hK _ ?_); clear hK K)
          | (refine (if_neg (by simp [undef])).mpr ?_; (with_reducible refine hK _ ?_); clear hK K)
          | (apply Exists.intro
             with_reducible refine ⟨fun v hv => ?_, hK _ ?_⟩
             · first
                 | with_reducible exact rfl
                 | with_reducible exact ⟨rfl, rfl⟩
                 | (go_simp
                    first
                      | done
                      | with_reducible exact rfl
                      | with_reducible exact ⟨rfl, rfl⟩
                      | (go_at_call 43; refine (Size_any _ _ _ _ _ _ _ _ _ _ rfl rfl _).mono ?_; rw [show (if x.kind = 1 then (x.W.length : Int) else if x.kind = 2 then (x.B.length : Int) else 0) = z from HZ.out]; rintro e w5 ⟨rfl, hb⟩; exact ⟨rfl, hv.trans (Chg.of_below hb)⟩))
             clear hK K)
      refine q_nil ?_
      intro V hV
      go_wp2_with fail
      exact bodyPost_ret (v := .tuple #[.int .i64 sn, .int .i64 (z - sn), .int .i64 x.kind, .int .i64 se]) (by simp [results, Tryd.results80, go_sem]) rfl ⟨rfl, H3.out.1.world hV, H3.out.2.1.trans hV⟩
  · have t1 : (e0 != 0) = true := by simpa using h0
    rw [if_pos h0, if_pos h0, if_pos h0, if_pos h0]
    go_enter Tryd.func80, Tryd.ntmps80
    go_wp2_with (first
      | (go_at_call 156
         refine (k_ObjC H.out o ho).mono ?_
         rw [HX.out.1, HX.out.2]
         rintro e w1 ⟨r, rfl, g1, hr, c1⟩
         obtain ⟨wv1, bv1, rfl, hI1, hB1, i64, j64⟩ := hr
         obtain ⟨A1, d1, rfl, -⟩ := hI1.form
         obtain ⟨A2, d2, rfl, -⟩ := hB1.form
         simp only [cells2]
         obtain ⟨W2, hW2⟩ : ∃ W, w1.alloc (.cells #[.int .i64 x.cls, .int .i64 x.kind, .slice A1 x.W.length d1, .slice A2 x.B.length d2] 41) = W := ⟨_, rfl⟩
         have c2 : Chg No w1 W2 := by rw [← hW2]; exact (Chg.refl _ _).alloc _
         have r2 : Row W2 w1.heap.size 41 #[.int .i64 x.cls, .int .i64 x.kind, .slice A1 x.W.length d1, .slice A2 x.B.length d2] := by rw [← hW2]; exact Row.new _ _ _
         have H2 := Lib.hid (And.intro (g1.world c2) (And.intro (c1.trans c2) (And.intro r2 i64)))
         have HW2 := Lib.hid hW2
         obtain ⟨y0, y1, y2, y3, -⟩ := r2.four
         clear hI1 hB1 i64 j64 g1 c1 c2 r2 hW2)
      | (rw [HW2.out])
      | fail)
    exact bodyPost_ret (v := .tuple #[.int .i64 0, .int .i64 0, .int .i64 0, .int .i64 e0]) (by simp [results, Tryd.results80, go_sem]) rfl ⟨rfl, H2.out.1, H2.out.2.1⟩

end

section
variable {w0 w w' : World} {m : Nat} {L L' : List O} {K : (Nat → Prop) → World → Prop} {F F' : Nat → Prop}
theorem behF_bd (L : List O) (o : Int) : 0 ≤ behF L o ∧ behF L o ≤ 255 := by
  unfold behF
  split
  · omega
  · have := shape_bd L (objV L o).cls
    exact ⟨this.1, this.2.1⟩
set_option maxRecDepth 100000 in
set_option maxHeartbeats 1000000 in
theorem k_at (h : MemK w0 w m L K) (o i : Int) (ho : In64 o) (hi : In64 i) :
    Calls Tryd.prog 107 #[.iface 27 (.pointer (some ⟨m, 0, none⟩)), .int .i64 o, .int .i64 i] w fun e w' => e = .returned (.tuple #[.int .i64 (plV L o i), .int .i64 (behK L o), .int .i64 (plE L o i)]) ∧ MemK w0 w' m L K ∧ Chg No w w' := by
  have H := Lib.hid h
  clear h
  have hf := behF_bd L o
  have hk := numV_bd i
  unfold plV plE
  obtain ⟨f, hf'⟩ : ∃ x, behF L o = x := ⟨_, rfl⟩
  obtain ⟨n, hn'⟩ : ∃ x, behN L o = x := ⟨_, rfl⟩
  obtain ⟨kd, hk'⟩ : ∃ x, behK L o = x := ⟨_, rfl⟩
  obtain ⟨e, he'⟩ : ∃ x, behE L o = x := ⟨_, rfl⟩
  obtain ⟨kv, hkv⟩ : ∃ x, numV i = x := ⟨_, rfl⟩
  obtain ⟨kb, hkb⟩ : ∃ x, numOk i = x := ⟨_, rfl⟩
  rw [hf', hn', hk', he', hkv, hkb]
  rw [hf'] at hf
  rw [hkv] at hk
  have HB := Lib.hid (And.intro hf' (And.intro hn' (And.intro hk' he')))
  have HN := Lib.hid (And.intro hkv hkb)
  clear hf' hn' hk' he' hkv hkb
  have hw1 : IntKind.i64.wrap (f + kv) = f + kv := IntWalk.i64_in _ (by omega)
  have hw2 : IntKind.i64.wrap (f + kv - 1) = f + kv - 1 := IntWalk.i64_in _ (by omega)
  by_cases h0 : e = 0
  · subst h0
    rw [if_neg (by simp)]
    cases kb with
    | false =>
      rw [if_pos (.inl rfl)]
      go_enter Tryd.func107, Tryd.ntmps107
      go_wp2_with (first
                    | (go_at_call 80
                       refine (k_behind H.out o ho).mono ?_
                       rw [HB.out.1, HB.out.2.1, HB.out.2.2.1, HB.out.2.2.2]
                       rintro e' w1 ⟨rfl, g1, c1⟩
                       have H1 := Lib.hid (And.intro g1 c1)
                       clear g1 c1)
                    | (go_at_call 35
                       refine (Number_any i hi.1 hi.2 _).mono ?_
                       rw [HN.out.1, HN.out.2]
                       rintro e' w2 ⟨rfl, rfl⟩)
                    | fail)
      exact bodyPost_ret (v := .tuple #[.int .i64 (f + kv - 1), .int .i64 kd, .int .i64 21]) (by simp [results, Tryd.results107, go_sem]) rfl ⟨rfl, H1.out⟩
    | true =>
      by_cases h1 : kv < 1
      · rw [if_pos (.inr (.inl h1))]
        have t1 : decide (kv < 1) = true := decide_eq_true h1
        go_enter Tryd.func107, Tryd.ntmps107
        go_wp2_with (first
                      | (go_at_call 80
                         refine (k_behind H.out o ho).mono ?_
                         rw [HB.out.1, HB.out.2.1, HB.out.2.2.1, HB.out.2.2.2]
                         rintro e' w1 ⟨rfl, g1, c1⟩
                         have H1 := Lib.hid (And.intro g1 c1)
                         clear g1 c1)
                      | (go_at_call 35
                         refine (Number_any i hi.1 hi.2 _).mono ?_
                         rw [HN.out.1, HN.out.2]
                         rintro e' w2 ⟨rfl, rfl⟩)
                      | fail)
        exact bodyPost_ret (v := .tuple #[.int .i64 (f + kv - 1), .int .i64 kd, .int .i64 21]) (by simp [results, Tryd.results107, go_sem]) rfl ⟨rfl, H1.out⟩
      · have t1 : decide (kv < 1) = false := decide_eq_false h1
        by_cases h2 : n < kv
        · rw [if_pos (.inr (.inr h2))]
          have t2 : decide (n < kv) = true := decide_eq_true h2
          go_enter Tryd.func107, Tryd.ntmps107
          go_wp2_with (first
                        | (go_at_call 80
                           refine (k_behind H.out o ho).mono ?_
                           rw [HB.out.1, HB.out.2.1, HB.out.2.2.1, HB.out.2.2.2]
                           rintro e' w1 ⟨rfl, g1, c1⟩
                           have H1 := Lib.hid (And.intro g1 c1)
                           clear g1 c1)
                        | (go_at_call 35
                           refine (Number_any i hi.1 hi.2 _).mono ?_
                           rw [HN.out.1, HN.out.2]
                           rintro e' w2 ⟨rfl, rfl⟩)
                        | fail)
          exact bodyPost_ret (v := .tuple #[.int .i64 (f + kv - 1), .int .i64 kd, .int .i64 21]) (by simp [results, Tryd.results107, go_sem]) rfl ⟨rfl, H1.out⟩
        · rw [if_neg (by simp; omega)]
          have t2 : decide (n < kv) = false := decide_eq_false h2
          go_enter Tryd.func107, Tryd.ntmps107
          go_wp2_with (first
                        | (go_at_call 80
                           refine (k_behind H.out o ho).mono ?_
                           rw [HB.out.1, HB.out.2.1, HB.out.2.2.1, HB.out.2.2.2]
                           rintro e' w1 ⟨rfl, g1, c1⟩
                           have H1 := Lib.hid (And.intro g1 c1)
                           clear g1 c1)
                        | (go_at_call 35
                           refine (Number_any i hi.1 hi.2 _).mono ?_
                           rw [HN.out.1, HN.out.2]
                           rintro e' w2 ⟨rfl, rfl⟩)
                        | fail)
          exact bodyPost_ret (v := .tuple #[.int .i64 (f + kv - 1), .int .i64 kd, .int .i64 0]) (by simp [results, Tryd.results107, go_sem]) rfl ⟨rfl, H1.out⟩
  · rw [if_pos h0]
    have t0 : (e == 0) = false := beq_eq_false_iff_ne.2 h0
    go_enter Tryd.func107, Tryd.ntmps107
    go_wp2_with (first
                  | (go_at_call 80
                     refine (k_behind H.out o ho).mono ?_
                     rw [HB.out.1, HB.out.2.1, HB.out.2.2.1, HB.out.2.2.2]
                     rintro e' w1 ⟨rfl, g1, c1⟩
                     have H1 := Lib.hid (And.intro g1 c1)
                     clear g1 c1)
                  | (go_at_call 35
                     refine (Number_any i hi.1 hi.2 _).mono ?_
                     rw [HN.out.1, HN.out.2]
                     rintro e' w2 ⟨rfl, rfl⟩)
                  | fail)
    exact bodyPost_ret (v := .tuple #[.int .i64 (f + kv - 1), .int .i64 kd, .int .i64 e]) (by simp [results, Tryd.results107, go_sem]) rfl ⟨rfl, H1.out⟩

set_option maxRecDepth 100000 in
set_option maxHeartbeats 1000000 in
theorem k_get (h : MemK w0 w m L K) (o i : Int) (ho : In64 o) (hi : In64 i) :
    Calls Tryd.prog 78 #[.iface 27 (.pointer (some ⟨m, 0, none⟩)), .int .i64 o, .int .i64 i] w fun e w' => e = .returned (.tuple #[.int .i64 (getV' L o i), .int .i64 (getE' L o i)]) ∧ MemK w0 w' m L K := by
  have hby := byte64 h o (plV L o i)
  have H := Lib.hid h
  clear h
  unfold getV' getE'
  obtain ⟨v, hv'⟩ : ∃ x, plV L o i = x := ⟨_, rfl⟩
  obtain ⟨kd, hk'⟩ : ∃ x, behK L o = x := ⟨_, rfl⟩
  obtain ⟨e, he'⟩ : ∃ x, plE L o i = x := ⟨_, rfl⟩
  obtain ⟨p2, hp2⟩ : ∃ x, placeE L o 2 v = x := ⟨_, rfl⟩
  obtain ⟨bv, hbv⟩ : ∃ x, byteV L o v = x := ⟨_, rfl⟩
  rw [hv'] at hby ⊢
  rw [hk', he', hp2, hbv]
  rw [hbv] at hby
  have HB := Lib.hid (And.intro hv' (And.intro hk' he'))
  have HP := Lib.hid (And.intro hp2 hbv)
  clear hv' hk' he' hp2 hbv
  by_cases h0 : e = 0
  · subst h0
    simp only [ne_eq, not_true_eq_false, if_false]
    by_cases h1 : kd = 1
    · subst h1
      simp only [eq_self, if_true]
      go_enter Tryd.func78, Tryd.ntmps78
      go_wp2_with (first
        | (go_at_call 107
           refine (k_at H.out o i ho hi).mono ?_
           rw [HB.out.1, HB.out.2.1, HB.out.2.2]
           rintro e' w1 ⟨rfl, g1, c1⟩
           have H1 := Lib.hid (And.intro g1 c1)
           clear g1 c1)
        | (go_at_call 21
           refine (k_FetchC H1.out.1 o v ho).mono ?_
           rintro e' w2 ⟨rfl, g2, c2⟩)
        | fail)
      go_ret2
      exact ⟨rfl, g2⟩
    · simp only [h1, if_false]
      have t1 : (kd == 1) = false := beq_eq_false_iff_ne.2 h1
      by_cases h2 : p2 = 0
      · subst h2
        simp only [ne_eq, not_true_eq_false, if_false]
        go_enter Tryd.func78, Tryd.ntmps78
        go_wp2_with (first
          | (go_at_call 107
             refine (k_at H.out o i ho hi).mono ?_
             rw [HB.out.1, HB.out.2.1, HB.out.2.2]
             rintro e' w1 ⟨rfl, g1, c1⟩
             have H1 := Lib.hid (And.intro g1 c1)
             clear g1 c1)
          | (go_at_call 153
             refine (k_Byte H1.out.1 o v ho).mono ?_
             rw [HP.out.1, HP.out.2]
             rintro e' w2 ⟨rfl, g2⟩)
          | (go_at_call 69
             refine (Small_any bv (by omega) (by omega) _).mono ?_
             rintro e' w3 ⟨rfl, rfl⟩)
          | fail)
        go_ret2
        exact ⟨rfl, g2⟩
      · simp only [ne_eq, h2, not_false_eq_true, if_true]
        have t2 : (p2 != 0) = true := by simpa using h2
        go_enter Tryd.func78, Tryd.ntmps78
        go_wp2_with (first
          | (go_at_call 107
             refine (k_at H.out o i ho hi).mono ?_
             rw [HB.out.1, HB.out.2.1, HB.out.2.2]
             rintro e' w1 ⟨rfl, g1, c1⟩
             have H1 := Lib.hid (And.intro g1 c1)
             clear g1 c1)
          | (go_at_call 153
             refine (k_Byte H1.out.1 o v ho).mono ?_
             rw [HP.out.1, HP.out.2]
             rintro e' w2 ⟨rfl, g2⟩)
          | fail)
        go_ret2
        exact ⟨rfl, g2⟩
  · simp only [ne_eq, h0, not_false_eq_true, if_true]
    have t0 : (e != 0) = true := by simpa using h0
    go_enter Tryd.func78, Tryd.ntmps78
    go_wp2_with (first
      | (go_at_call 107
         refine (k_at H.out o i ho hi).mono ?_
         rw [HB.out.1, HB.out.2.1, HB.out.2.2]
         rintro e' w1 ⟨rfl, g1, c1⟩
         have H1 := Lib.hid (And.intro g1 c1)
         clear g1 c1)
      | fail)
    go_ret2
    exact ⟨rfl, H1.out.1⟩

set_option maxRecDepth 100000 in
set_option maxHeartbeats 1000000 in
theorem k_put (h : MemK w0 w m L K) (o i x : Int) (ho : In64 o) (hi : In64 i) (hx : In64 x) :
    Calls Tryd.prog 79 #[.iface 27 (.pointer (some ⟨m, 0, none⟩)), .int .i64 o, .int .i64 i, .int .i64 x] w fun e w' => e = .returned (.tuple #[.int .i64 (putV' L o i x), .int .i64 (putE' L o i x)]) ∧ MemK w0 w' m (putL' L o i x) K := by
  have H := Lib.hid h
  clear h
  unfold putV' putE' putL'
  obtain ⟨v, hv'⟩ : ∃ x, plV L o i = x := ⟨_, rfl⟩
  obtain ⟨kd, hk'⟩ : ∃ x, behK L o = x := ⟨_, rfl⟩
  obtain ⟨e, he'⟩ : ∃ x, plE L o i = x := ⟨_, rfl⟩
  obtain ⟨nb, hnb⟩ : ∃ y, numOk x = y := ⟨_, rfl⟩
  rw [hv', hk', he', hnb]
  have HB := Lib.hid (And.intro hv' (And.intro hk' he'))
  have HN := Lib.hid hnb
  clear hv' hk' he' hnb
  by_cases h0 : e = 0
  · subst h0
    simp only [ne_eq, not_true_eq_false, if_false]
    by_cases h1 : kd = 1
    · subst h1
      simp only [eq_self, if_true]
      go_enter Tryd.func79, Tryd.ntmps79
      go_wp2_with (first
        | (go_at_call 107
           refine (k_at H.out o i ho hi).mono ?_
           rw [HB.out.1, HB.out.2.1, HB.out.2.2]
           rintro e' w1 ⟨rfl, g1, c1⟩
           have H1 := Lib.hid (And.intro g1 c1)
           clear g1 c1)
        | (go_at_call 157
           refine (k_Set H1.out.1 o v x ho hx).mono ?_
           rintro e' w2 ⟨rfl, g2⟩)
        | fail)
      go_ret2
      exact ⟨rfl, g2⟩
    · simp only [h1, if_false]
      have t1 : (kd == 1) = false := beq_eq_false_iff_ne.2 h1
      cases nb with
      | true =>
        simp only [Bool.true_eq_false, if_false]
        go_enter Tryd.func79, Tryd.ntmps79
        go_wp2_with (first
          | (go_at_call 107
             refine (k_at H.out o i ho hi).mono ?_
             rw [HB.out.1, HB.out.2.1, HB.out.2.2]
             rintro e' w1 ⟨rfl, g1, c1⟩
             have H1 := Lib.hid (And.intro g1 c1)
             clear g1 c1)
          | (go_at_call 35
             refine (Number_any x hx.1 hx.2 _).mono ?_
             rw [HN.out]
             rintro e' w2 ⟨rfl, rfl⟩)
          | (go_at_call 158
             refine (k_SetByte H1.out.1 o v (numV x) ho).mono ?_
             rintro e' w3 ⟨rfl, g3⟩)
          | fail)
        go_ret2
        exact ⟨rfl, g3⟩
      | false =>
        simp only [eq_self, if_true]
        go_enter Tryd.func79, Tryd.ntmps79
        go_wp2_with (first
          | (go_at_call 107
             refine (k_at H.out o i ho hi).mono ?_
             rw [HB.out.1, HB.out.2.1, HB.out.2.2]
             rintro e' w1 ⟨rfl, g1, c1⟩
             have H1 := Lib.hid (And.intro g1 c1)
             clear g1 c1)
          | (go_at_call 35
             refine (Number_any x hx.1 hx.2 _).mono ?_
             rw [HN.out]
             rintro e' w2 ⟨rfl, rfl⟩)
          | fail)
        go_ret2
        exact ⟨rfl, H1.out.1⟩
  · simp only [ne_eq, h0, not_false_eq_true, if_true]
    have t0 : (e != 0) = true := by simpa using h0
    go_enter Tryd.func79, Tryd.ntmps79
    go_wp2_with (first
      | (go_at_call 107
         refine (k_at H.out o i ho hi).mono ?_
         rw [HB.out.1, HB.out.2.1, HB.out.2.2]
         rintro e' w1 ⟨rfl, g1, c1⟩
         have H1 := Lib.hid (And.intro g1 c1)
         clear g1 c1)
      | fail)
    go_ret2
    exact ⟨rfl, H1.out.1⟩
end
theorem small_any (n e : Int) (hn : In64 n) (w : World) : Calls Tryd.prog 81 #[.int .i64 n, .int .i64 e] w fun e' w' => e' = .returned (.tuple #[.int .i64 (if e ≠ 0 then 0 else smallV n), .int .i64 (if e ≠ 0 then e else smallE n)]) ∧ w = w' := by
  by_cases h0 : e = 0
  · subst h0
    rw [if_neg (by simp), if_neg (by simp)]
    go_enter Tryd.func81, Tryd.ntmps81
    go_wp2_with (first
      | (go_at_call 69
         refine (Small_any n hn.1 hn.2 _).mono ?_
         rintro e' w3 ⟨rfl, rfl⟩)
      | fail)
    go_ret2
    exact ⟨rfl, rfl⟩
  · rw [if_pos h0, if_pos h0]
    have t0 : (e != 0) = true := by simpa using h0
    go_enter Tryd.func81, Tryd.ntmps81
    go_wp2_with fail
    go_ret2
    exact ⟨rfl, rfl⟩

end Go.Proofs.YtncoanmgifgcbaaDoor
