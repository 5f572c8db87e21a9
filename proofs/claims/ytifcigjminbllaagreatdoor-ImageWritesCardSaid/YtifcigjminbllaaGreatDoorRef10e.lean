/- The document's memory (websterref10): set. -/
import Derived.Test.YtifcigjminbllaaGreatDoorRef10d
namespace Go.Proofs.YtifcigjminbllaaGreatDoor
set_option linter.unusedVariables false
set_option linter.unusedSimpArgs false
open Go.RowKit

/-- what Step gives: a memory, and what is told -/
def Stepped (w : World) (S : Nat → Prop) (L' : List O) (t : TD) (r : Value) (w' : World) : Prop := ∃ m' t', r = .tuple #[m', t'] ∧ RefM w' (fun b => S b ∨ w.heap.size ≤ b) m' L' ∧ ToldR w' (fun b => S b ∨ w.heap.size ≤ b) t' t ∧ Chg No w w'


set_option maxRecDepth 100000 in
set_option maxHeartbeats 4000000 in
theorem set10_4 (v : Value) (S : Nat → Prop) (L : List O) (w : World) (hv : RefM w S v L) (hL : L.length < 1073741823) (hok : ∀ i, (ob L i).kind ≠ 0 → (ob L i).ok) (da db dc : Int) (da64 : In64 da) (dc64 : In64 dc) :
    Calls Tryz.prog 75 #[v, .agg #[.int .i64 4, .int .i64 da, .int .i64 db, .int .i64 dc]] w (Ret (Stepped w S (setL L da db dc) ⟨0, O.zero, false, setE L da db dc⟩)) := by
  by_cases hp0 : placeE L da 1 db = 0
  · by_cases hc0 : refOk dc = true
    · have e1 : setE L da db dc = 0 := by simp [setE, hp0, hc0]
      obtain ⟨j, h1, h2, h3⟩ : ∃ j, fnd L da = some j ∧ (ob L j).kind = 1 ∧ (0 ≤ db ∧ db < szO (ob L j)) := by
        rcases placeE_cases (L := L) da 1 db with ⟨h1, h2⟩ | ⟨j, h1, h2, h3⟩ | ⟨j, h1, h2, h3, h4⟩ | ⟨j, h1, h2, h3, h4⟩
        · omega
        · omega
        · omega
        · exact ⟨j, h1, h2, h3⟩
      have e2 : setL L da db dc = L.set j { ob L j with W := (ob L j).W.set db.toNat dc } := by simp [setL, h1, e1]
      rw [e1, e2]
      have hfn : findN L da = (j : Int) + 1 := by simp [findN, h1]
      obtain ⟨-, hkd, hj, -⟩ := fnd_some h1
      have hjok := hok j hkd
      obtain ⟨kb, rfl⟩ := Int.eq_ofNat_of_zero_le h3.1
      rw [Int.toNat_natCast]
      have hkb : kb < (ob L j).W.length := by
        have := h3.2
        simp [szO, h2] at this
        omega
      have HP := Lib.hid (And.intro (show (if placeE L da 1 (kb : Int) = 0 then findN L da else 0) = (j : Int) + 1 by rw [if_pos hp0, hfn]) hp0)
      have HV := Lib.hid hv
      obtain ⟨lv, rfl, hl⟩ := hv
      obtain ⟨A, c, rfl, hm⟩ := hl.form
      have HL := Lib.hid hl
      obtain ⟨W, hW⟩ : ∃ W, (((w.alloc (.cells #[.slice A L.length c] 71)).alloc (.cells #[.int .i64 4, .int .i64 da, .int .i64 (kb : Int), .int .i64 dc] 108)).alloc (.cells #[.slice none 0 0] 71)).alloc (.cells #[.int .i64 0, .int .i64 0, .int .i64 0, .slice none 0 0, .slice none 0 0, .bool false, .int .i64 0] 104) = W := ⟨_, rfl⟩
      have cW : Chg No w W := by rw [← hW]; exact ((((Chg.refl _ _).alloc _).alloc _).alloc _).alloc _
      have sW : W.heap.size = w.heap.size + 1 + 1 + 1 + 1 := by rw [← hW]; simp
      have r0 : Row W w.heap.size 71 #[.slice A L.length c] := by rw [← hW]; exact (((Row.new w _ _).alloc _).alloc _).alloc _
      have r1 : Row W (w.heap.size + 1) 108 #[.int .i64 4, .int .i64 da, .int .i64 (kb : Int), .int .i64 dc] := by rw [← hW]; exact Row.alloc (Row.alloc (by simpa using Row.new (w.alloc _) _ _) _) _
      have r2 : Row W (w.heap.size + 1 + 1) 71 #[.slice none 0 0] := by rw [← hW]; exact Row.alloc (by simpa using Row.new ((w.alloc _).alloc _) _ _) _
      have r3 : Row W (w.heap.size + 1 + 1 + 1) 104 #[.int .i64 0, .int .i64 0, .int .i64 0, .slice none 0 0, .slice none 0 0, .bool false, .int .i64 0] := by rw [← hW]; simpa using Row.new (((w.alloc _).alloc _).alloc _) 104 #[.int .i64 0, .int .i64 0, .int .i64 0, .slice none 0 0, .slice none 0 0, .bool false, .int .i64 0]
      have HR := Lib.hid (And.intro cW (And.intro sW (And.intro r0 (And.intro r1 (And.intro r2 r3)))))
      have HW := Lib.hid hW
      clear hl cW sW r0 r1 r2 r3 hW
      generalize hn : L.length = n at *
      have HN := Lib.hid hn
      clear hn
      obtain ⟨b, off, c', wv, bv, e, -, hc, ho⟩ := HL.out.cells (by rw [HN.out]; exact hj)
      rw [HN.out] at e
      obtain ⟨rfl, -, rfl⟩ := Value.slice.inj e
      obtain ⟨wv', bv', ea, hI, hB, ho64⟩ := ho
      obtain ⟨rfl, rfl⟩ : wv = wv' ∧ bv = bv' := by simpa [cells2] using ea
      obtain ⟨Aw, cw, rfl, -⟩ := hI.form
      obtain ⟨Ab, cb, rfl, -⟩ := hB.form
      have w1 : IntKind.i64.wrap ((j : Int) + 1 - 1) = (j : Int) := (IntWalk.i64_in _ (by unfold maxLen at hm; omega)).trans (by omega)
      have w2 : IntKind.i64.wrap (j : Int) = (j : Int) := IntWalk.i64_in _ (by unfold maxLen at hm; omega)
      have hjn : (j : Int) < (n : Int) := by omega
      have hOB := Lib.hid (And.intro hI (And.intro hB (And.intro ho64 (And.intro hjok (And.intro hj h2)))))
      have HC := Lib.hid hc
      have lW : (ob L j).W.length ≤ 1000000000 := by have := hjok.2.2.1; omega
      have lB : (ob L j).B.length ≤ 1000000000 := by have := hjok.2.2.2.1; omega
      have hkz : (kb : Int) < (((ob L j).W.length : Nat) : Int) := by omega
      have hkw : IntKind.i64.wrap (kb : Int) = (kb : Int) := IntWalk.i64_in _ (by omega)
      have hrt := hc0
      clear hp0 h1 h2 h3 e1 e2 hfn hkd hjok e ea hI hB ho64 hc
      generalize hon : ob L j = o at *
      have HON := Lib.hid hon
      clear hon hj
      go_enter Tryz.func75, Tryz.ntmps75
      go_wp2_with (first
        | (go_at_call 74
           rw [HW.out]
           refine (place10_any _ S L _ (HV.out.keep HR.out.1 (fun _ _ f => f)) hok da 1 (kb : Int) da64).mono ?_
           rw [HP.out.1, HP.out.2]
           rintro e w1 ⟨rfl, c1⟩
           obtain ⟨y0, y1, y2, y3⟩ := HC.out w1 (HR.out.1.trans c1)
           have q0 := HR.out.2.2.1.keep c1 (fun f => f)
           have q1 := HR.out.2.2.2.1.keep c1 (fun f => f)
           have q2 := HR.out.2.2.2.2.1.keep c1 (fun f => f)
           have q3 := HR.out.2.2.2.2.2.keep c1 (fun f => f)
           have x0 : w1.cell? ⟨w.heap.size, 0, none⟩ = some (.slice (some ⟨b, off, none⟩) n c) := q0.cell 0
           have x1 := q1.four
           have x2 : w1.cell? ⟨w.heap.size + 1 + 1, 0, none⟩ = some (.slice none 0 0) := q2.cell 0
           have x2f := q2.frozen 0
           have x3 := q3.seven
           clear q0 q1 q2 q3
           skip)
        | (go_at_call 57; refine (Ref05_any dc dc64 _).mono ?_; rintro e w' ⟨rfl, rfl⟩)
        | (go_at_call 82

           refine (Copy05_any _ o _ _ ((show ObjR w S (.agg (cells2 o (.slice Aw o.W.length cw) (.slice Ab o.B.length cb))) o from ⟨_, _, rfl, hOB.out.1, hOB.out.2.1, hOB.out.2.2.1⟩).keep (HR.out.1.trans c1) (fun _ _ f => f)) lW lB).mono ?_
           rintro e w2 ⟨v2, rfl, wv2, bv2, rfl, c2, hoW, hoB⟩
           simp only [cells2]
           clear x0 x1 x2 x2f x3 y0 y1 y2 y3
           have hoX := hoW
           obtain ⟨A2, k2, rfl⟩ := own_form hoW
           obtain ⟨A3, k3, rfl⟩ := own_form hoB
           obtain ⟨gx, kx, ex⟩ : ∃ gx kx, (.slice A2 o.W.length k2 : Value) = .slice (some ⟨gx, 0, none⟩) o.W.length kx := by
             rcases hoX.2 with ⟨h1, h2⟩ | ⟨gx, kx, cur, h1, -⟩
             · omega
             · exact ⟨gx, kx, h1⟩
           obtain ⟨rfl, -, rfl⟩ := Value.slice.inj ex
           have c12 := c1.trans c2
           have cA : Chg No W (w2.alloc (.cells #[.int .i64 o.cls, .int .i64 o.kind, .slice (some ⟨gx, 0, none⟩) o.W.length k2, .slice A3 o.B.length k3] 50)) := c12.alloc _
           have s2 := c12.size
           have s12 := c2.size
           have s1 := c1.size
           have sW := HR.out.2.1
           have rX := Row.new w2 50 #[.int .i64 o.cls, .int .i64 o.kind, .slice (some ⟨gx, 0, none⟩) o.W.length k2, .slice A3 o.B.length k3]
           obtain ⟨z0, z1, z2, z3, -⟩ := rX.four
           have hgx : w1.heap.size ≤ gx := own_ge hoX rfl
           have hgl : gx < w2.heap.size := (hoX.lt _ rfl).2
           have ux : (w2.alloc (.cells #[.int .i64 o.cls, .int .i64 o.kind, .slice (some ⟨gx, 0, none⟩) o.W.length k2, .slice A3 o.B.length k3] 50)).cell? ⟨gx, kb, none⟩ = _ := (((Chg.refl No w2).alloc (.cells #[.int .i64 o.cls, .int .i64 o.kind, .slice (some ⟨gx, 0, none⟩) o.W.length k2, .slice A3 o.B.length k3] 50)).cell (p := ⟨gx, kb, none⟩) hgl (fun f => f)).trans (hoX.cellAt kb (by rw [Nat.mul_one]; exact hkb))
           rw [List.getElem?_map, List.getElem?_eq_getElem hkb, Option.map_some] at ux
           have uf : (w2.alloc (.cells #[.int .i64 o.cls, .int .i64 o.kind, .slice (some ⟨gx, 0, none⟩) o.W.length k2, .slice A3 o.B.length k3] 50)).frozen? ⟨gx, kb, none⟩ = false := (((Chg.refl No w2).alloc (.cells #[.int .i64 o.cls, .int .i64 o.kind, .slice (some ⟨gx, 0, none⟩) o.W.length k2, .slice A3 o.B.length k3] 50)).frozen (p := ⟨gx, kb, none⟩) hgl (fun f => f)).trans (hoX.frozenAt kb)
           have cS := Chg.one w2 gx kb (.int .i64 dc)
           have hoXs := (hoX.stored kb (.int .i64 dc)).1
           obtain ⟨csx, hrx⟩ := own_block hoX rfl
           have hoYs := own_keep hoB cS (fun b hb e => by
             obtain ⟨cs', hr'⟩ := own_block hoB hb
             rw [e] at hr'
             exact absurd (hrx.inj hr').1 (by decide))
           have hoXb := own_keep (F := No) hoXs ((Chg.refl _ _).alloc (.cells #[.int .i64 o.cls, .int .i64 o.kind, .slice (some ⟨gx, 0, none⟩) o.W.length k2, .slice A3 o.B.length k3] 50)) (fun _ _ f => f)
           have hoYb := own_keep (F := No) hoYs ((Chg.refl _ _).alloc (.cells #[.int .i64 o.cls, .int .i64 o.kind, .slice (some ⟨gx, 0, none⟩) o.W.length k2, .slice A3 o.B.length k3] 50)) (fun _ _ f => f)
           have cB : Chg (fun b => b = gx) W _ := (c12.no.trans cS).alloc (.cells #[.int .i64 o.cls, .int .i64 o.kind, .slice (some ⟨gx, 0, none⟩) o.W.length k2, .slice A3 o.B.length k3] 50)
           have pX := Row.new (w2.setCell ⟨gx, kb, none⟩ (.int .i64 dc)) 50 #[.int .i64 o.cls, .int .i64 o.kind, .slice (some ⟨gx, 0, none⟩) o.W.length k2, .slice A3 o.B.length k3]
           rw [show (w2.setCell ⟨gx, kb, none⟩ (.int .i64 dc)).heap.size = w2.heap.size by simp] at pX
           have x1 := (HR.out.2.2.2.1.keep cA (fun f => f)).four
           have p0 := HR.out.2.2.1.keep cB (by omega)
           have p1 := HR.out.2.2.2.1.keep cB (by omega)
           have p2 := HR.out.2.2.2.2.1.keep cB (by omega)
           have p3 := HR.out.2.2.2.2.2.keep cB (by omega)
           have xx0 := p0.cell 0
           have xx1 := p1.four
           obtain ⟨zz0, zz1, zz2, zz3, -⟩ := pX.four
           have HX := Lib.hid (And.intro hoXb (And.intro hoYb (And.intro p2 (And.intro p3 cB))))
           clear p0 p1 p2 p3 pX rX hoXs hoYs hoXb hoYb cB cA c12 cS hrx hoX hoW hoB ex c1 c2
           skip)
        | (go_at_call 76

           refine (with10_any _ _ (fun b => S b ∧ b < w.heap.size ∨ w1.heap.size ≤ b) L { o with W := o.W.set kb dc } _
             (((HV.out.more (S' := fun b => S b ∧ b < w.heap.size) (fun b h1 h2 => ⟨h2, h1⟩)).keep (HR.out.1.no.trans HX.out.2.2.2.2) (fun b hb h => by omega)).more (fun b _ h => .inl h))
             ⟨_, _, rfl, (IntS.of_own (l := o.W.set kb dc) (by simpa [List.map_set] using HX.out.1) (fun x hx => (List.mem_or_eq_of_mem_set hx).elim (fun h => hOB.out.1.2 x h) (fun e => e ▸ dc64))).more (fun b _ h => .inr h), (ByteS.of_own HX.out.2.1 hOB.out.2.1.2).more (fun b _ h => .inr h), hOB.out.2.2.1⟩ j (by rw [HN.out]; exact hOB.out.2.2.2.2.1) (by rw [HN.out]; exact hL)).mono ?_
           rintro e w5 ⟨r5, rfl, ⟨lv5, rfl, hl5⟩, c5⟩
           obtain ⟨A5, k5, e5, -⟩ := hl5.form
           rw [List.length_set, HN.out] at e5
           subst e5
           have p2 := HX.out.2.2.1.keep c5 (fun f => f)
           have p3 := HX.out.2.2.2.1.keep c5 (fun f => f)
           have x2 : w5.cell? ⟨w.heap.size + 1 + 1, 0, none⟩ = some (.slice none 0 0) := p2.cell 0
           have x2f := p2.frozen 0
           have x3 := p3.seven
           have s5 := c5.size
           have H5 := Lib.hid (And.intro hl5 c5)
           clear p2 p3 hl5 c5
           skip))
      refine bodyPost_ret (v := .tuple #[.agg #[.slice A5 n k5], .agg #[.int .i64 0, .int .i64 0, .int .i64 0, .slice none 0 0, .slice none 0 0, .bool false, .int .i64 0]]) (by simp [results, Tryz.results75, go_sem, x2, x3]) rfl (Ret.mk ⟨_, _, rfl, ?_, ToldR.flat _ _ _ _ _, ?_⟩)
      · refine (((show RefM w5 _ (.agg #[.slice A5 n k5]) _ from ⟨_, rfl, H5.out.1⟩).more (S' := fun b => S b ∧ b < w.heap.size ∨ w1.heap.size ≤ b) (fun b _ h => ?_)).keep (F := fun b => b = w.heap.size + 1 + 1 ∨ b = w.heap.size + 1 + 1 + 1) ?_ (fun b hb h => ?_)).more (fun b _ h => ?_)
        · rcases h with h | h
          · exact h
          · simp at h; omega
        · repeat (with_reducible first | exact Chg.refl _ _ | refine Chg.setCell ?_ (.inl (by dsimp only; omega)) _)
        · omega
        · rcases h with h | h
          · exact .inl h.1
          · exact .inr (by omega)
      · have cF : Chg No w w5 := (HR.out.1.then (HX.out.2.2.2.2.trans H5.out.2.no) (fun i hi h => by omega))
        repeat (with_reducible first | exact cF | refine Chg.setCell ?_ (.inr (by dsimp only; omega)) _)
    · have e1 : setE L da db dc = 2 := by simp [setE, hp0, hc0]
      have e2 : setL L da db dc = L := by
        unfold setL
        split
        · rfl
        · rw [if_neg (by rw [e1]; decide)]
      rw [e1, e2]
      obtain ⟨fN, hfN⟩ : ∃ fN, findN L da = fN := ⟨_, rfl⟩
      have HP := Lib.hid (show (if placeE L da 1 db = 0 then findN L da else 0) = fN by rw [if_pos hp0]; exact hfN)
      have HPE := Lib.hid hp0
      have hrt : refOk dc = false := by simpa using hc0
      clear hp0 e1 e2 hfN
      clear hc0
      have HV := Lib.hid hv
      obtain ⟨lv, rfl, hl⟩ := hv
      obtain ⟨A, c, rfl, hm⟩ := hl.form
      have HL := Lib.hid hl
      obtain ⟨W, hW⟩ : ∃ W, (((w.alloc (.cells #[.slice A L.length c] 71)).alloc (.cells #[.int .i64 4, .int .i64 da, .int .i64 db, .int .i64 dc] 108)).alloc (.cells #[.slice none 0 0] 71)).alloc (.cells #[.int .i64 0, .int .i64 0, .int .i64 0, .slice none 0 0, .slice none 0 0, .bool false, .int .i64 0] 104) = W := ⟨_, rfl⟩
      have cW : Chg No w W := by rw [← hW]; exact ((((Chg.refl _ _).alloc _).alloc _).alloc _).alloc _
      have sW : W.heap.size = w.heap.size + 1 + 1 + 1 + 1 := by rw [← hW]; simp
      have r0 : Row W w.heap.size 71 #[.slice A L.length c] := by rw [← hW]; exact (((Row.new w _ _).alloc _).alloc _).alloc _
      have r1 : Row W (w.heap.size + 1) 108 #[.int .i64 4, .int .i64 da, .int .i64 db, .int .i64 dc] := by rw [← hW]; exact Row.alloc (Row.alloc (by simpa using Row.new (w.alloc _) _ _) _) _
      have r2 : Row W (w.heap.size + 1 + 1) 71 #[.slice none 0 0] := by rw [← hW]; exact Row.alloc (by simpa using Row.new ((w.alloc _).alloc _) _ _) _
      have r3 : Row W (w.heap.size + 1 + 1 + 1) 104 #[.int .i64 0, .int .i64 0, .int .i64 0, .slice none 0 0, .slice none 0 0, .bool false, .int .i64 0] := by rw [← hW]; simpa using Row.new (((w.alloc _).alloc _).alloc _) 104 #[.int .i64 0, .int .i64 0, .int .i64 0, .slice none 0 0, .slice none 0 0, .bool false, .int .i64 0]
      have HR := Lib.hid (And.intro cW (And.intro sW (And.intro r0 (And.intro r1 (And.intro r2 r3)))))
      have HW := Lib.hid hW
      clear hl cW sW r0 r1 r2 r3 hW
      generalize hn : L.length = n at *
      have HN := Lib.hid hn
      clear hn
      go_enter Tryz.func75, Tryz.ntmps75
      go_wp2_with (first
        | (go_at_call 74
           rw [HW.out]
           refine (place10_any _ S L _ (HV.out.keep HR.out.1 (fun _ _ f => f)) hok da 1 db da64).mono ?_
           rw [HP.out, HPE.out]
           rintro e w1 ⟨rfl, c1⟩
           have q0 := HR.out.2.2.1.keep c1 (fun f => f)
           have q1 := HR.out.2.2.2.1.keep c1 (fun f => f)
           have q2 := HR.out.2.2.2.2.1.keep c1 (fun f => f)
           have q3 := HR.out.2.2.2.2.2.keep c1 (fun f => f)
           have x0 : w1.cell? ⟨w.heap.size, 0, none⟩ = some (.slice A n c) := q0.cell 0
           have x1 := q1.four
           have x2 : w1.cell? ⟨w.heap.size + 1 + 1, 0, none⟩ = some (.slice none 0 0) := q2.cell 0
           have x2f := q2.frozen 0
           have x3 := q3.seven
           clear q0 q1 q2 q3
           skip)
        | (go_at_call 57; refine (Ref05_any dc dc64 _).mono ?_; rw [hrt]; rintro e w' ⟨rfl, rfl⟩))
      refine bodyPost_ret (v := .tuple #[.agg #[.slice A n c], .agg #[.int .i64 0, .int .i64 0, .int .i64 0, .slice none 0 0, .slice none 0 0, .bool false, .int .i64 2]]) (by simp [results, Tryz.results75, go_sem, x2, x3]) rfl (Ret.mk ⟨_, _, rfl, (HV.out.keep (F := No) ?_ (fun _ _ f => f)).more (fun b _ h => .inl h), ToldR.flat _ _ _ _ _, ?_⟩)
      · repeat (with_reducible first | exact HR.out.1.trans c1 | refine Chg.setCell ?_ (.inr (by dsimp only; omega)) _)
      · repeat (with_reducible first | exact HR.out.1.trans c1 | refine Chg.setCell ?_ (.inr (by dsimp only; omega)) _)
  · have e1 : setE L da db dc = placeE L da 1 db := by simp [setE, hp0]
    have e2 : setL L da db dc = L := by
      unfold setL
      split
      · rfl
      · rw [if_neg (by rw [e1]; exact hp0)]
    rw [e1, e2]
    have HP := Lib.hid (show (if placeE L da 1 db = 0 then findN L da else 0) = 0 by rw [if_neg hp0])
    obtain ⟨pe, hpe⟩ : ∃ pe, placeE L da 1 db = pe := ⟨_, rfl⟩
    have t1 : (pe != 0) = true := by rw [← hpe]; simpa using hp0
    rw [hpe]
    have HPE := Lib.hid hpe
    clear hp0 e1 e2 hpe
    have HV := Lib.hid hv
    obtain ⟨lv, rfl, hl⟩ := hv
    obtain ⟨A, c, rfl, hm⟩ := hl.form
    have HL := Lib.hid hl
    obtain ⟨W, hW⟩ : ∃ W, (((w.alloc (.cells #[.slice A L.length c] 71)).alloc (.cells #[.int .i64 4, .int .i64 da, .int .i64 db, .int .i64 dc] 108)).alloc (.cells #[.slice none 0 0] 71)).alloc (.cells #[.int .i64 0, .int .i64 0, .int .i64 0, .slice none 0 0, .slice none 0 0, .bool false, .int .i64 0] 104) = W := ⟨_, rfl⟩
    have cW : Chg No w W := by rw [← hW]; exact ((((Chg.refl _ _).alloc _).alloc _).alloc _).alloc _
    have sW : W.heap.size = w.heap.size + 1 + 1 + 1 + 1 := by rw [← hW]; simp
    have r0 : Row W w.heap.size 71 #[.slice A L.length c] := by rw [← hW]; exact (((Row.new w _ _).alloc _).alloc _).alloc _
    have r1 : Row W (w.heap.size + 1) 108 #[.int .i64 4, .int .i64 da, .int .i64 db, .int .i64 dc] := by rw [← hW]; exact Row.alloc (Row.alloc (by simpa using Row.new (w.alloc _) _ _) _) _
    have r2 : Row W (w.heap.size + 1 + 1) 71 #[.slice none 0 0] := by rw [← hW]; exact Row.alloc (by simpa using Row.new ((w.alloc _).alloc _) _ _) _
    have r3 : Row W (w.heap.size + 1 + 1 + 1) 104 #[.int .i64 0, .int .i64 0, .int .i64 0, .slice none 0 0, .slice none 0 0, .bool false, .int .i64 0] := by rw [← hW]; simpa using Row.new (((w.alloc _).alloc _).alloc _) 104 #[.int .i64 0, .int .i64 0, .int .i64 0, .slice none 0 0, .slice none 0 0, .bool false, .int .i64 0]
    have HR := Lib.hid (And.intro cW (And.intro sW (And.intro r0 (And.intro r1 (And.intro r2 r3)))))
    have HW := Lib.hid hW
    clear hl cW sW r0 r1 r2 r3 hW
    generalize hn : L.length = n at *
    have HN := Lib.hid hn
    clear hn
    go_enter Tryz.func75, Tryz.ntmps75
    go_wp2_with (go_at_call 74
                 rw [HW.out]
                 refine (place10_any _ S L _ (HV.out.keep HR.out.1 (fun _ _ f => f)) hok da 1 db da64).mono ?_
                 rw [HP.out, HPE.out]
                 rintro e w1 ⟨rfl, c1⟩
                 have q0 := HR.out.2.2.1.keep c1 (fun f => f)
                 have q1 := HR.out.2.2.2.1.keep c1 (fun f => f)
                 have q2 := HR.out.2.2.2.2.1.keep c1 (fun f => f)
                 have q3 := HR.out.2.2.2.2.2.keep c1 (fun f => f)
                 have x0 : w1.cell? ⟨w.heap.size, 0, none⟩ = some (.slice A n c) := q0.cell 0
                 have x1 := q1.four
                 have x2 : w1.cell? ⟨w.heap.size + 1 + 1, 0, none⟩ = some (.slice none 0 0) := q2.cell 0
                 have x2f := q2.frozen 0
                 have x3 := q3.seven
                 clear q0 q1 q2 q3
                 skip)
    refine bodyPost_ret (v := .tuple #[.agg #[.slice A n c], .agg #[.int .i64 0, .int .i64 0, .int .i64 0, .slice none 0 0, .slice none 0 0, .bool false, .int .i64 pe]]) (by simp [results, Tryz.results75, go_sem, x2, x3]) rfl (Ret.mk ⟨_, _, rfl, (HV.out.keep (F := No) ?_ (fun _ _ f => f)).more (fun b _ h => .inl h), ToldR.flat _ _ _ _ _, ?_⟩)
    · repeat (with_reducible first | exact HR.out.1.trans c1 | refine Chg.setCell ?_ (.inr (by dsimp only; omega)) _)
    · repeat (with_reducible first | exact HR.out.1.trans c1 | refine Chg.setCell ?_ (.inr (by dsimp only; omega)) _)

set_option maxRecDepth 100000 in
set_option maxHeartbeats 4000000 in
theorem set10_6 (v : Value) (S : Nat → Prop) (L : List O) (w : World) (hv : RefM w S v L) (hL : L.length < 1073741823) (hok : ∀ i, (ob L i).kind ≠ 0 → (ob L i).ok) (da db dc : Int) (da64 : In64 da) (dc64 : In64 dc) :
    Calls Tryz.prog 75 #[v, .agg #[.int .i64 6, .int .i64 da, .int .i64 db, .int .i64 dc]] w (Ret (Stepped w S (sbyteL L da db dc) ⟨0, O.zero, false, sbyteE L da db dc⟩)) := by
  by_cases hp0 : placeE L da 2 db = 0
  · by_cases hc0 : 0 ≤ dc ∧ dc ≤ 255
    · have e1 : sbyteE L da db dc = 0 := by simp [sbyteE, hp0, hc0]
      obtain ⟨j, h1, h2, h3⟩ : ∃ j, fnd L da = some j ∧ (ob L j).kind = 2 ∧ (0 ≤ db ∧ db < szO (ob L j)) := by
        rcases placeE_cases (L := L) da 2 db with ⟨h1, h2⟩ | ⟨j, h1, h2, h3⟩ | ⟨j, h1, h2, h3, h4⟩ | ⟨j, h1, h2, h3, h4⟩
        · omega
        · omega
        · omega
        · exact ⟨j, h1, h2, h3⟩
      have e2 : sbyteL L da db dc = L.set j { ob L j with B := (ob L j).B.set db.toNat dc } := by simp [sbyteL, h1, e1]
      rw [e1, e2]
      have hfn : findN L da = (j : Int) + 1 := by simp [findN, h1]
      obtain ⟨-, hkd, hj, -⟩ := fnd_some h1
      have hjok := hok j hkd
      obtain ⟨kb, rfl⟩ := Int.eq_ofNat_of_zero_le h3.1
      rw [Int.toNat_natCast]
      have hkb : kb < (ob L j).B.length := by
        have := h3.2
        simp [szO, h2] at this
        omega
      have HP := Lib.hid (And.intro (show (if placeE L da 2 (kb : Int) = 0 then findN L da else 0) = (j : Int) + 1 by rw [if_pos hp0, hfn]) hp0)
      have HV := Lib.hid hv
      obtain ⟨lv, rfl, hl⟩ := hv
      obtain ⟨A, c, rfl, hm⟩ := hl.form
      have HL := Lib.hid hl
      obtain ⟨W, hW⟩ : ∃ W, (((w.alloc (.cells #[.slice A L.length c] 71)).alloc (.cells #[.int .i64 6, .int .i64 da, .int .i64 (kb : Int), .int .i64 dc] 108)).alloc (.cells #[.slice none 0 0] 71)).alloc (.cells #[.int .i64 0, .int .i64 0, .int .i64 0, .slice none 0 0, .slice none 0 0, .bool false, .int .i64 0] 104) = W := ⟨_, rfl⟩
      have cW : Chg No w W := by rw [← hW]; exact ((((Chg.refl _ _).alloc _).alloc _).alloc _).alloc _
      have sW : W.heap.size = w.heap.size + 1 + 1 + 1 + 1 := by rw [← hW]; simp
      have r0 : Row W w.heap.size 71 #[.slice A L.length c] := by rw [← hW]; exact (((Row.new w _ _).alloc _).alloc _).alloc _
      have r1 : Row W (w.heap.size + 1) 108 #[.int .i64 6, .int .i64 da, .int .i64 (kb : Int), .int .i64 dc] := by rw [← hW]; exact Row.alloc (Row.alloc (by simpa using Row.new (w.alloc _) _ _) _) _
      have r2 : Row W (w.heap.size + 1 + 1) 71 #[.slice none 0 0] := by rw [← hW]; exact Row.alloc (by simpa using Row.new ((w.alloc _).alloc _) _ _) _
      have r3 : Row W (w.heap.size + 1 + 1 + 1) 104 #[.int .i64 0, .int .i64 0, .int .i64 0, .slice none 0 0, .slice none 0 0, .bool false, .int .i64 0] := by rw [← hW]; simpa using Row.new (((w.alloc _).alloc _).alloc _) 104 #[.int .i64 0, .int .i64 0, .int .i64 0, .slice none 0 0, .slice none 0 0, .bool false, .int .i64 0]
      have HR := Lib.hid (And.intro cW (And.intro sW (And.intro r0 (And.intro r1 (And.intro r2 r3)))))
      have HW := Lib.hid hW
      clear hl cW sW r0 r1 r2 r3 hW
      generalize hn : L.length = n at *
      have HN := Lib.hid hn
      clear hn
      obtain ⟨b, off, c', wv, bv, e, -, hc, ho⟩ := HL.out.cells (by rw [HN.out]; exact hj)
      rw [HN.out] at e
      obtain ⟨rfl, -, rfl⟩ := Value.slice.inj e
      obtain ⟨wv', bv', ea, hI, hB, ho64⟩ := ho
      obtain ⟨rfl, rfl⟩ : wv = wv' ∧ bv = bv' := by simpa [cells2] using ea
      obtain ⟨Aw, cw, rfl, -⟩ := hI.form
      obtain ⟨Ab, cb, rfl, -⟩ := hB.form
      have w1 : IntKind.i64.wrap ((j : Int) + 1 - 1) = (j : Int) := (IntWalk.i64_in _ (by unfold maxLen at hm; omega)).trans (by omega)
      have w2 : IntKind.i64.wrap (j : Int) = (j : Int) := IntWalk.i64_in _ (by unfold maxLen at hm; omega)
      have hjn : (j : Int) < (n : Int) := by omega
      have hOB := Lib.hid (And.intro hI (And.intro hB (And.intro ho64 (And.intro hjok (And.intro hj h2)))))
      have HC := Lib.hid hc
      have lW : (ob L j).W.length ≤ 1000000000 := by have := hjok.2.2.1; omega
      have lB : (ob L j).B.length ≤ 1000000000 := by have := hjok.2.2.2.1; omega
      have hkz : (kb : Int) < (((ob L j).B.length : Nat) : Int) := by omega
      have hkw : IntKind.i64.wrap (kb : Int) = (kb : Int) := IntWalk.i64_in _ (by omega)
      have u8w : IntKind.u8.wrap dc = dc ∧ decide (dc < 0) = false ∧ decide (255 < dc) = false := ⟨IntWalk.u8_in _ hc0, decide_eq_false (by omega), decide_eq_false (by omega)⟩
      clear hp0 h1 h2 h3 e1 e2 hfn hkd hjok e ea hI hB ho64 hc
      generalize hon : ob L j = o at *
      have HON := Lib.hid hon
      clear hon hj
      go_enter Tryz.func75, Tryz.ntmps75
      go_wp2_with (first
        | (go_at_call 74
           rw [HW.out]
           refine (place10_any _ S L _ (HV.out.keep HR.out.1 (fun _ _ f => f)) hok da 2 (kb : Int) da64).mono ?_
           rw [HP.out.1, HP.out.2]
           rintro e w1 ⟨rfl, c1⟩
           obtain ⟨y0, y1, y2, y3⟩ := HC.out w1 (HR.out.1.trans c1)
           have q0 := HR.out.2.2.1.keep c1 (fun f => f)
           have q1 := HR.out.2.2.2.1.keep c1 (fun f => f)
           have q2 := HR.out.2.2.2.2.1.keep c1 (fun f => f)
           have q3 := HR.out.2.2.2.2.2.keep c1 (fun f => f)
           have x0 : w1.cell? ⟨w.heap.size, 0, none⟩ = some (.slice (some ⟨b, off, none⟩) n c) := q0.cell 0
           have x1 := q1.four
           have x2 : w1.cell? ⟨w.heap.size + 1 + 1, 0, none⟩ = some (.slice none 0 0) := q2.cell 0
           have x2f := q2.frozen 0
           have x3 := q3.seven
           clear q0 q1 q2 q3
           skip)
        | (go_at_call 57; refine (Ref05_any dc dc64 _).mono ?_; rintro e w' ⟨rfl, rfl⟩)
        | (go_at_call 82

           refine (Copy05_any _ o _ _ ((show ObjR w S (.agg (cells2 o (.slice Aw o.W.length cw) (.slice Ab o.B.length cb))) o from ⟨_, _, rfl, hOB.out.1, hOB.out.2.1, hOB.out.2.2.1⟩).keep (HR.out.1.trans c1) (fun _ _ f => f)) lW lB).mono ?_
           rintro e w2 ⟨v2, rfl, wv2, bv2, rfl, c2, hoW, hoB⟩
           simp only [cells2]
           clear x0 x1 x2 x2f x3 y0 y1 y2 y3
           have hoX := hoB
           obtain ⟨A2, k2, rfl⟩ := own_form hoW
           obtain ⟨A3, k3, rfl⟩ := own_form hoB
           obtain ⟨gx, kx, ex⟩ : ∃ gx kx, (.slice A3 o.B.length k3 : Value) = .slice (some ⟨gx, 0, none⟩) o.B.length kx := by
             rcases hoX.2 with ⟨h1, h2⟩ | ⟨gx, kx, cur, h1, -⟩
             · omega
             · exact ⟨gx, kx, h1⟩
           obtain ⟨rfl, -, rfl⟩ := Value.slice.inj ex
           have c12 := c1.trans c2
           have cA : Chg No W (w2.alloc (.cells #[.int .i64 o.cls, .int .i64 o.kind, .slice A2 o.W.length k2, .slice (some ⟨gx, 0, none⟩) o.B.length k3] 50)) := c12.alloc _
           have s2 := c12.size
           have s12 := c2.size
           have s1 := c1.size
           have sW := HR.out.2.1
           have rX := Row.new w2 50 #[.int .i64 o.cls, .int .i64 o.kind, .slice A2 o.W.length k2, .slice (some ⟨gx, 0, none⟩) o.B.length k3]
           obtain ⟨z0, z1, z2, z3, -⟩ := rX.four
           have hgx : w1.heap.size ≤ gx := own_ge hoX rfl
           have hgl : gx < w2.heap.size := (hoX.lt _ rfl).2
           have ux : (w2.alloc (.cells #[.int .i64 o.cls, .int .i64 o.kind, .slice A2 o.W.length k2, .slice (some ⟨gx, 0, none⟩) o.B.length k3] 50)).cell? ⟨gx, kb, none⟩ = _ := (((Chg.refl No w2).alloc (.cells #[.int .i64 o.cls, .int .i64 o.kind, .slice A2 o.W.length k2, .slice (some ⟨gx, 0, none⟩) o.B.length k3] 50)).cell (p := ⟨gx, kb, none⟩) hgl (fun f => f)).trans (hoX.cellAt kb (by rw [Nat.mul_one]; exact hkb))
           rw [List.getElem?_map, List.getElem?_eq_getElem hkb, Option.map_some] at ux
           have uf : (w2.alloc (.cells #[.int .i64 o.cls, .int .i64 o.kind, .slice A2 o.W.length k2, .slice (some ⟨gx, 0, none⟩) o.B.length k3] 50)).frozen? ⟨gx, kb, none⟩ = false := (((Chg.refl No w2).alloc (.cells #[.int .i64 o.cls, .int .i64 o.kind, .slice A2 o.W.length k2, .slice (some ⟨gx, 0, none⟩) o.B.length k3] 50)).frozen (p := ⟨gx, kb, none⟩) hgl (fun f => f)).trans (hoX.frozenAt kb)
           have cS := Chg.one w2 gx kb (.int .u8 dc)
           have hoXs := (hoX.stored kb (.int .u8 dc)).1
           obtain ⟨csx, hrx⟩ := own_block hoX rfl
           have hoYs := own_keep hoW cS (fun b hb e => by
             obtain ⟨cs', hr'⟩ := own_block hoW hb
             rw [e] at hr'
             exact absurd (hrx.inj hr').1 (by decide))
           have hoXb := own_keep (F := No) hoXs ((Chg.refl _ _).alloc (.cells #[.int .i64 o.cls, .int .i64 o.kind, .slice A2 o.W.length k2, .slice (some ⟨gx, 0, none⟩) o.B.length k3] 50)) (fun _ _ f => f)
           have hoYb := own_keep (F := No) hoYs ((Chg.refl _ _).alloc (.cells #[.int .i64 o.cls, .int .i64 o.kind, .slice A2 o.W.length k2, .slice (some ⟨gx, 0, none⟩) o.B.length k3] 50)) (fun _ _ f => f)
           have cB : Chg (fun b => b = gx) W _ := (c12.no.trans cS).alloc (.cells #[.int .i64 o.cls, .int .i64 o.kind, .slice A2 o.W.length k2, .slice (some ⟨gx, 0, none⟩) o.B.length k3] 50)
           have pX := Row.new (w2.setCell ⟨gx, kb, none⟩ (.int .u8 dc)) 50 #[.int .i64 o.cls, .int .i64 o.kind, .slice A2 o.W.length k2, .slice (some ⟨gx, 0, none⟩) o.B.length k3]
           rw [show (w2.setCell ⟨gx, kb, none⟩ (.int .u8 dc)).heap.size = w2.heap.size by simp] at pX
           have x1 := (HR.out.2.2.2.1.keep cA (fun f => f)).four
           have p0 := HR.out.2.2.1.keep cB (by omega)
           have p1 := HR.out.2.2.2.1.keep cB (by omega)
           have p2 := HR.out.2.2.2.2.1.keep cB (by omega)
           have p3 := HR.out.2.2.2.2.2.keep cB (by omega)
           have xx0 := p0.cell 0
           have xx1 := p1.four
           obtain ⟨zz0, zz1, zz2, zz3, -⟩ := pX.four
           have HX := Lib.hid (And.intro hoXb (And.intro hoYb (And.intro p2 (And.intro p3 cB))))
           clear p0 p1 p2 p3 pX rX hoXs hoYs hoXb hoYb cB cA c12 cS hrx hoX hoW hoB ex c1 c2
           skip)
        | (go_at_call 76

           refine (with10_any _ _ (fun b => S b ∧ b < w.heap.size ∨ w1.heap.size ≤ b) L { o with B := o.B.set kb dc } _
             (((HV.out.more (S' := fun b => S b ∧ b < w.heap.size) (fun b h1 h2 => ⟨h2, h1⟩)).keep (HR.out.1.no.trans HX.out.2.2.2.2) (fun b hb h => by omega)).more (fun b _ h => .inl h))
             ⟨_, _, rfl, (IntS.of_own HX.out.2.1 hOB.out.1.2).more (fun b _ h => .inr h), (ByteS.of_own (l := o.B.set kb dc) (by simpa [List.map_set] using HX.out.1) (fun x hx => (List.mem_or_eq_of_mem_set hx).elim (fun h => hOB.out.2.1.2 x h) (fun e => e ▸ hc0))).more (fun b _ h => .inr h), hOB.out.2.2.1⟩ j (by rw [HN.out]; exact hOB.out.2.2.2.2.1) (by rw [HN.out]; exact hL)).mono ?_
           rintro e w5 ⟨r5, rfl, ⟨lv5, rfl, hl5⟩, c5⟩
           obtain ⟨A5, k5, e5, -⟩ := hl5.form
           rw [List.length_set, HN.out] at e5
           subst e5
           have p2 := HX.out.2.2.1.keep c5 (fun f => f)
           have p3 := HX.out.2.2.2.1.keep c5 (fun f => f)
           have x2 : w5.cell? ⟨w.heap.size + 1 + 1, 0, none⟩ = some (.slice none 0 0) := p2.cell 0
           have x2f := p2.frozen 0
           have x3 := p3.seven
           have s5 := c5.size
           have H5 := Lib.hid (And.intro hl5 c5)
           clear p2 p3 hl5 c5
           skip))
      refine bodyPost_ret (v := .tuple #[.agg #[.slice A5 n k5], .agg #[.int .i64 0, .int .i64 0, .int .i64 0, .slice none 0 0, .slice none 0 0, .bool false, .int .i64 0]]) (by simp [results, Tryz.results75, go_sem, x2, x3]) rfl (Ret.mk ⟨_, _, rfl, ?_, ToldR.flat _ _ _ _ _, ?_⟩)
      · refine (((show RefM w5 _ (.agg #[.slice A5 n k5]) _ from ⟨_, rfl, H5.out.1⟩).more (S' := fun b => S b ∧ b < w.heap.size ∨ w1.heap.size ≤ b) (fun b _ h => ?_)).keep (F := fun b => b = w.heap.size + 1 + 1 ∨ b = w.heap.size + 1 + 1 + 1) ?_ (fun b hb h => ?_)).more (fun b _ h => ?_)
        · rcases h with h | h
          · exact h
          · simp at h; omega
        · repeat (with_reducible first | exact Chg.refl _ _ | refine Chg.setCell ?_ (.inl (by dsimp only; omega)) _)
        · omega
        · rcases h with h | h
          · exact .inl h.1
          · exact .inr (by omega)
      · have cF : Chg No w w5 := (HR.out.1.then (HX.out.2.2.2.2.trans H5.out.2.no) (fun i hi h => by omega))
        repeat (with_reducible first | exact cF | refine Chg.setCell ?_ (.inr (by dsimp only; omega)) _)
    · have e1 : sbyteE L da db dc = 2 := by simp [sbyteE, hp0, hc0]
      have e2 : sbyteL L da db dc = L := by
        unfold sbyteL
        split
        · rfl
        · rw [if_neg (by rw [e1]; decide)]
      rw [e1, e2]
      obtain ⟨fN, hfN⟩ : ∃ fN, findN L da = fN := ⟨_, rfl⟩
      have HP := Lib.hid (show (if placeE L da 2 db = 0 then findN L da else 0) = fN by rw [if_pos hp0]; exact hfN)
      have HPE := Lib.hid hp0
      clear hp0 e1 e2 hfN
      rcases (show dc < 0 ∨ (¬ dc < 0 ∧ 255 < dc) by omega) with h9 | ⟨h9, h10⟩
      · have t1 : decide (dc < 0) = true := decide_eq_true h9
        clear hc0
        have HV := Lib.hid hv
        obtain ⟨lv, rfl, hl⟩ := hv
        obtain ⟨A, c, rfl, hm⟩ := hl.form
        have HL := Lib.hid hl
        obtain ⟨W, hW⟩ : ∃ W, (((w.alloc (.cells #[.slice A L.length c] 71)).alloc (.cells #[.int .i64 6, .int .i64 da, .int .i64 db, .int .i64 dc] 108)).alloc (.cells #[.slice none 0 0] 71)).alloc (.cells #[.int .i64 0, .int .i64 0, .int .i64 0, .slice none 0 0, .slice none 0 0, .bool false, .int .i64 0] 104) = W := ⟨_, rfl⟩
        have cW : Chg No w W := by rw [← hW]; exact ((((Chg.refl _ _).alloc _).alloc _).alloc _).alloc _
        have sW : W.heap.size = w.heap.size + 1 + 1 + 1 + 1 := by rw [← hW]; simp
        have r0 : Row W w.heap.size 71 #[.slice A L.length c] := by rw [← hW]; exact (((Row.new w _ _).alloc _).alloc _).alloc _
        have r1 : Row W (w.heap.size + 1) 108 #[.int .i64 6, .int .i64 da, .int .i64 db, .int .i64 dc] := by rw [← hW]; exact Row.alloc (Row.alloc (by simpa using Row.new (w.alloc _) _ _) _) _
        have r2 : Row W (w.heap.size + 1 + 1) 71 #[.slice none 0 0] := by rw [← hW]; exact Row.alloc (by simpa using Row.new ((w.alloc _).alloc _) _ _) _
        have r3 : Row W (w.heap.size + 1 + 1 + 1) 104 #[.int .i64 0, .int .i64 0, .int .i64 0, .slice none 0 0, .slice none 0 0, .bool false, .int .i64 0] := by rw [← hW]; simpa using Row.new (((w.alloc _).alloc _).alloc _) 104 #[.int .i64 0, .int .i64 0, .int .i64 0, .slice none 0 0, .slice none 0 0, .bool false, .int .i64 0]
        have HR := Lib.hid (And.intro cW (And.intro sW (And.intro r0 (And.intro r1 (And.intro r2 r3)))))
        have HW := Lib.hid hW
        clear hl cW sW r0 r1 r2 r3 hW
        generalize hn : L.length = n at *
        have HN := Lib.hid hn
        clear hn
        go_enter Tryz.func75, Tryz.ntmps75
        go_wp2_with (first
          | (go_at_call 74
             rw [HW.out]
             refine (place10_any _ S L _ (HV.out.keep HR.out.1 (fun _ _ f => f)) hok da 2 db da64).mono ?_
             rw [HP.out, HPE.out]
             rintro e w1 ⟨rfl, c1⟩
             have q0 := HR.out.2.2.1.keep c1 (fun f => f)
             have q1 := HR.out.2.2.2.1.keep c1 (fun f => f)
             have q2 := HR.out.2.2.2.2.1.keep c1 (fun f => f)
             have q3 := HR.out.2.2.2.2.2.keep c1 (fun f => f)
             have x0 : w1.cell? ⟨w.heap.size, 0, none⟩ = some (.slice A n c) := q0.cell 0
             have x1 := q1.four
             have x2 : w1.cell? ⟨w.heap.size + 1 + 1, 0, none⟩ = some (.slice none 0 0) := q2.cell 0
             have x2f := q2.frozen 0
             have x3 := q3.seven
             clear q0 q1 q2 q3
             skip)
          | (go_at_call 57; refine (Ref05_any dc dc64 _).mono ?_; rw [hrt]; rintro e w' ⟨rfl, rfl⟩))
        refine bodyPost_ret (v := .tuple #[.agg #[.slice A n c], .agg #[.int .i64 0, .int .i64 0, .int .i64 0, .slice none 0 0, .slice none 0 0, .bool false, .int .i64 2]]) (by simp [results, Tryz.results75, go_sem, x2, x3]) rfl (Ret.mk ⟨_, _, rfl, (HV.out.keep (F := No) ?_ (fun _ _ f => f)).more (fun b _ h => .inl h), ToldR.flat _ _ _ _ _, ?_⟩)
        · repeat (with_reducible first | exact HR.out.1.trans c1 | refine Chg.setCell ?_ (.inr (by dsimp only; omega)) _)
        · repeat (with_reducible first | exact HR.out.1.trans c1 | refine Chg.setCell ?_ (.inr (by dsimp only; omega)) _)
      · have t1 : decide (dc < 0) = false := decide_eq_false h9
        have t2 : decide (255 < dc) = true := decide_eq_true h10
        clear hc0
        have HV := Lib.hid hv
        obtain ⟨lv, rfl, hl⟩ := hv
        obtain ⟨A, c, rfl, hm⟩ := hl.form
        have HL := Lib.hid hl
        obtain ⟨W, hW⟩ : ∃ W, (((w.alloc (.cells #[.slice A L.length c] 71)).alloc (.cells #[.int .i64 6, .int .i64 da, .int .i64 db, .int .i64 dc] 108)).alloc (.cells #[.slice none 0 0] 71)).alloc (.cells #[.int .i64 0, .int .i64 0, .int .i64 0, .slice none 0 0, .slice none 0 0, .bool false, .int .i64 0] 104) = W := ⟨_, rfl⟩
        have cW : Chg No w W := by rw [← hW]; exact ((((Chg.refl _ _).alloc _).alloc _).alloc _).alloc _
        have sW : W.heap.size = w.heap.size + 1 + 1 + 1 + 1 := by rw [← hW]; simp
        have r0 : Row W w.heap.size 71 #[.slice A L.length c] := by rw [← hW]; exact (((Row.new w _ _).alloc _).alloc _).alloc _
        have r1 : Row W (w.heap.size + 1) 108 #[.int .i64 6, .int .i64 da, .int .i64 db, .int .i64 dc] := by rw [← hW]; exact Row.alloc (Row.alloc (by simpa using Row.new (w.alloc _) _ _) _) _
        have r2 : Row W (w.heap.size + 1 + 1) 71 #[.slice none 0 0] := by rw [← hW]; exact Row.alloc (by simpa using Row.new ((w.alloc _).alloc _) _ _) _
        have r3 : Row W (w.heap.size + 1 + 1 + 1) 104 #[.int .i64 0, .int .i64 0, .int .i64 0, .slice none 0 0, .slice none 0 0, .bool false, .int .i64 0] := by rw [← hW]; simpa using Row.new (((w.alloc _).alloc _).alloc _) 104 #[.int .i64 0, .int .i64 0, .int .i64 0, .slice none 0 0, .slice none 0 0, .bool false, .int .i64 0]
        have HR := Lib.hid (And.intro cW (And.intro sW (And.intro r0 (And.intro r1 (And.intro r2 r3)))))
        have HW := Lib.hid hW
        clear hl cW sW r0 r1 r2 r3 hW
        generalize hn : L.length = n at *
        have HN := Lib.hid hn
        clear hn
        go_enter Tryz.func75, Tryz.ntmps75
        go_wp2_with (first
          | (go_at_call 74
             rw [HW.out]
             refine (place10_any _ S L _ (HV.out.keep HR.out.1 (fun _ _ f => f)) hok da 2 db da64).mono ?_
             rw [HP.out, HPE.out]
             rintro e w1 ⟨rfl, c1⟩
             have q0 := HR.out.2.2.1.keep c1 (fun f => f)
             have q1 := HR.out.2.2.2.1.keep c1 (fun f => f)
             have q2 := HR.out.2.2.2.2.1.keep c1 (fun f => f)
             have q3 := HR.out.2.2.2.2.2.keep c1 (fun f => f)
             have x0 : w1.cell? ⟨w.heap.size, 0, none⟩ = some (.slice A n c) := q0.cell 0
             have x1 := q1.four
             have x2 : w1.cell? ⟨w.heap.size + 1 + 1, 0, none⟩ = some (.slice none 0 0) := q2.cell 0
             have x2f := q2.frozen 0
             have x3 := q3.seven
             clear q0 q1 q2 q3
             skip)
          | (go_at_call 57; refine (Ref05_any dc dc64 _).mono ?_; rw [hrt]; rintro e w' ⟨rfl, rfl⟩))
        refine bodyPost_ret (v := .tuple #[.agg #[.slice A n c], .agg #[.int .i64 0, .int .i64 0, .int .i64 0, .slice none 0 0, .slice none 0 0, .bool false, .int .i64 2]]) (by simp [results, Tryz.results75, go_sem, x2, x3]) rfl (Ret.mk ⟨_, _, rfl, (HV.out.keep (F := No) ?_ (fun _ _ f => f)).more (fun b _ h => .inl h), ToldR.flat _ _ _ _ _, ?_⟩)
        · repeat (with_reducible first | exact HR.out.1.trans c1 | refine Chg.setCell ?_ (.inr (by dsimp only; omega)) _)
        · repeat (with_reducible first | exact HR.out.1.trans c1 | refine Chg.setCell ?_ (.inr (by dsimp only; omega)) _)
  · have e1 : sbyteE L da db dc = placeE L da 2 db := by simp [sbyteE, hp0]
    have e2 : sbyteL L da db dc = L := by
      unfold sbyteL
      split
      · rfl
      · rw [if_neg (by rw [e1]; exact hp0)]
    rw [e1, e2]
    have HP := Lib.hid (show (if placeE L da 2 db = 0 then findN L da else 0) = 0 by rw [if_neg hp0])
    obtain ⟨pe, hpe⟩ : ∃ pe, placeE L da 2 db = pe := ⟨_, rfl⟩
    have t1 : (pe != 0) = true := by rw [← hpe]; simpa using hp0
    rw [hpe]
    have HPE := Lib.hid hpe
    clear hp0 e1 e2 hpe
    have HV := Lib.hid hv
    obtain ⟨lv, rfl, hl⟩ := hv
    obtain ⟨A, c, rfl, hm⟩ := hl.form
    have HL := Lib.hid hl
    obtain ⟨W, hW⟩ : ∃ W, (((w.alloc (.cells #[.slice A L.length c] 71)).alloc (.cells #[.int .i64 6, .int .i64 da, .int .i64 db, .int .i64 dc] 108)).alloc (.cells #[.slice none 0 0] 71)).alloc (.cells #[.int .i64 0, .int .i64 0, .int .i64 0, .slice none 0 0, .slice none 0 0, .bool false, .int .i64 0] 104) = W := ⟨_, rfl⟩
    have cW : Chg No w W := by rw [← hW]; exact ((((Chg.refl _ _).alloc _).alloc _).alloc _).alloc _
    have sW : W.heap.size = w.heap.size + 1 + 1 + 1 + 1 := by rw [← hW]; simp
    have r0 : Row W w.heap.size 71 #[.slice A L.length c] := by rw [← hW]; exact (((Row.new w _ _).alloc _).alloc _).alloc _
    have r1 : Row W (w.heap.size + 1) 108 #[.int .i64 6, .int .i64 da, .int .i64 db, .int .i64 dc] := by rw [← hW]; exact Row.alloc (Row.alloc (by simpa using Row.new (w.alloc _) _ _) _) _
    have r2 : Row W (w.heap.size + 1 + 1) 71 #[.slice none 0 0] := by rw [← hW]; exact Row.alloc (by simpa using Row.new ((w.alloc _).alloc _) _ _) _
    have r3 : Row W (w.heap.size + 1 + 1 + 1) 104 #[.int .i64 0, .int .i64 0, .int .i64 0, .slice none 0 0, .slice none 0 0, .bool false, .int .i64 0] := by rw [← hW]; simpa using Row.new (((w.alloc _).alloc _).alloc _) 104 #[.int .i64 0, .int .i64 0, .int .i64 0, .slice none 0 0, .slice none 0 0, .bool false, .int .i64 0]
    have HR := Lib.hid (And.intro cW (And.intro sW (And.intro r0 (And.intro r1 (And.intro r2 r3)))))
    have HW := Lib.hid hW
    clear hl cW sW r0 r1 r2 r3 hW
    generalize hn : L.length = n at *
    have HN := Lib.hid hn
    clear hn
    go_enter Tryz.func75, Tryz.ntmps75
    go_wp2_with (go_at_call 74
                 rw [HW.out]
                 refine (place10_any _ S L _ (HV.out.keep HR.out.1 (fun _ _ f => f)) hok da 2 db da64).mono ?_
                 rw [HP.out, HPE.out]
                 rintro e w1 ⟨rfl, c1⟩
                 have q0 := HR.out.2.2.1.keep c1 (fun f => f)
                 have q1 := HR.out.2.2.2.1.keep c1 (fun f => f)
                 have q2 := HR.out.2.2.2.2.1.keep c1 (fun f => f)
                 have q3 := HR.out.2.2.2.2.2.keep c1 (fun f => f)
                 have x0 : w1.cell? ⟨w.heap.size, 0, none⟩ = some (.slice A n c) := q0.cell 0
                 have x1 := q1.four
                 have x2 : w1.cell? ⟨w.heap.size + 1 + 1, 0, none⟩ = some (.slice none 0 0) := q2.cell 0
                 have x2f := q2.frozen 0
                 have x3 := q3.seven
                 clear q0 q1 q2 q3
                 skip)
    refine bodyPost_ret (v := .tuple #[.agg #[.slice A n c], .agg #[.int .i64 0, .int .i64 0, .int .i64 0, .slice none 0 0, .slice none 0 0, .bool false, .int .i64 pe]]) (by simp [results, Tryz.results75, go_sem, x2, x3]) rfl (Ret.mk ⟨_, _, rfl, (HV.out.keep (F := No) ?_ (fun _ _ f => f)).more (fun b _ h => .inl h), ToldR.flat _ _ _ _ _, ?_⟩)
    · repeat (with_reducible first | exact HR.out.1.trans c1 | refine Chg.setCell ?_ (.inr (by dsimp only; omega)) _)
    · repeat (with_reducible first | exact HR.out.1.trans c1 | refine Chg.setCell ?_ (.inr (by dsimp only; omega)) _)

end Go.Proofs.YtifcigjminbllaaGreatDoor
