/- An object of bytes: wide.Decode. · The reader of an image's bytes: (*image.reader).num, .obj. -/
import Derived.Test.YtncoanmgifgcbaaDoorImgC
import Derived.Test.YtncoanmgifgcbaaDoorRefs
namespace Go.Proofs.YtncoanmgifgcbaaDoor
set_option linter.unusedVariables false
set_option linter.unusedSimpArgs false
open Go.RowKit

theorem get4_in (a b c d : Int) : In64 (get4 a b c d) := by
  unfold get4 In64
  rw [IntKind.wrap_i32]
  omega
theorem getV_in (b : List Int) (i : Int) : In64 (getV b i) := by
  unfold getV
  split
  · exact get4_in _ _ _ _
  · unfold In64; omega
/-- the words from a place on -/
def wordsB (b : List Int) (k : Nat) : List Int := (List.range k).map fun (i : Nat) => getV b (12 + 4 * (i : Int))
theorem wordsB_len (b : List Int) (k : Nat) : (wordsB b k).length = k := by simp [wordsB]
theorem wordsB_succ (b : List Int) (k : Nat) : wordsB b (k + 1) = wordsB b k ++ [getV b (12 + 4 * (k : Int))] := by
  unfold wordsB
  rw [List.range_succ, List.map_append]
  rfl
theorem wordsB_in (b : List Int) (k : Nat) : ∀ x ∈ wordsB b k, In64 x := by
  intro x hx
  simp only [wordsB, List.mem_map] at hx
  obtain ⟨i, -, rfl⟩ := hx
  exact getV_in _ _
/-- the object that bytes may be -/
def bodyO (b : List Int) : O := ⟨getV b 0, getV b 4, if getV b 4 = 1 then wordsB b ((b.length - 12) / 4) else [], if getV b 4 = 2 then b.drop 12 else []⟩
def decOk (b : List Int) : Bool := decide (12 ≤ b.length) && (okB (bodyO b) && decide (encB (bodyO b) = b))
def decO (b : List Int) : O := if decOk b = true then bodyO b else O.zero
def decE (b : List Int) : Int := if decOk b = true then 0 else 5
/-- an object and a number -/
def Objd (w : World) (o : O) (e : Int) (v : Value) (w' : World) : Prop := ∃ u, v = .tuple #[u, .int .i64 e] ∧ ObjR w' (fun b => w.heap.size ≤ b) u o ∧ Chg No w w'

theorem ByteS.drop {w : World} {S : Nat → Prop} {b off n c : Nat} {l : List Int} (h : ByteS w S (.slice (Option.some ⟨b, off, Option.none⟩) n c) l) (k : Nat) (hk : k ≤ l.length) : ByteS w S (.slice (Option.some ⟨b, off + k, Option.none⟩) (n - k) (c - k)) (l.drop k) := by
  obtain ⟨⟨A, c', hv, hl, h1, h2, h0, h3⟩, hx⟩ := h
  obtain ⟨rfl, rfl, rfl⟩ := Value.slice.inj hv
  refine ⟨⟨_, c - k, by rw [List.length_drop], by simp, by rw [List.length_drop]; omega, by omega, (fun e => by cases e), fun hn => ?_⟩, fun x hx' => hx x (List.mem_of_mem_drop hx')⟩
  rw [List.length_drop] at hn
  obtain ⟨b', off', e, hS, hb, hc⟩ := h3 (by omega)
  obtain ⟨rfl, rfl⟩ : b = b' ∧ off = off' := by simpa using Option.some.inj e
  refine ⟨b, off + k, rfl, hS, hb, fun i u hu => ?_⟩
  rw [Nat.add_assoc]
  refine hc (k + i) u ?_
  rw [← hu]
  simp [List.getElem?_drop]
set_option maxRecDepth 100000 in
set_option maxHeartbeats 4000000 in
theorem Decode_any (bv : Value) (l : List Int) (S : Nat → Prop) (w : World) (h : ByteS w S bv l) (hm : l.length ≤ 100000000) : Calls Tryd.prog 89 #[bv] w (Ret (Objd w (decO l) (decE l))) := by
  obtain ⟨A, c, rfl, hlc, hcm, -⟩ := h.form
  have hcm' : c ≤ 9223372036854775807 := by unfold maxLen at hcm; simp at hcm; omega
  have HX := Lib.hid h
  clear h hcm
  obtain ⟨ro, hro⟩ : ∃ r, decO l = r := ⟨_, rfl⟩
  obtain ⟨re, hre⟩ : ∃ r, decE l = r := ⟨_, rfl⟩
  rw [hro, hre]
  have HRR := Lib.hid (And.intro hro hre)
  clear hro hre
  generalize hn : l.length = n at *
  have HN := Lib.hid hn
  have row0 := Row.new w 41 #[.int .i64 0, .int .i64 0, .slice none 0 0, .slice none 0 0]
  have cA : Chg No w (w.alloc (.cells #[.int .i64 0, .int .i64 0, .slice none 0 0, .slice none 0 0] 41)) := (Chg.refl _ _).alloc _
  by_cases h12 : n < 12
  · have t1 : decide ((n : Int) < 12) = true := decide_eq_true (by omega)
    have hd : decOk l = false := by unfold decOk; rw [decide_eq_false (by omega)]; rfl
    obtain ⟨rfl, rfl⟩ : ro = O.zero ∧ re = 5 := by rw [← HRR.out.1, ← HRR.out.2, decO, decE, hd]; exact ⟨rfl, rfl⟩
    have xR := row0.four
    have HC := Lib.hid cA
    clear row0 cA hd hn
    go_enter Tryd.func89, Tryd.ntmps89
    go_wp2_with fail
    refine bodyPost_ret (v := .tuple #[.agg #[.int .i64 0, .int .i64 0, .slice none 0 0, .slice none 0 0], .int .i64 5]) (by simp [results, Tryd.results89, go_sem, xR]) rfl (Ret.mk ⟨_, rfl, ObjR.zero _ _, ?_⟩)
    refine Chg.then (F := No) (G := fun b => b = w.heap.size) HC.out ?_ (fun k hk h => by omega)
    repeat (with_reducible first | exact Chg.refl _ _ | refine Chg.setCell ?_ (.inl (by simp)) _)
  · have t1 : decide ((n : Int) < 12) = false := decide_eq_false (by omega)
    have i0 : In64 0 := by unfold In64; omega
    have i4 : In64 4 := by unfold In64; omega
    have e0 : getE l 0 = 0 := by unfold getE getOk; rw [decide_eq_true (by omega)]; rfl
    have e4 : getE l 4 = 0 := by unfold getE getOk; rw [decide_eq_true (by omega)]; rfl
    obtain ⟨cl, hcl⟩ : ∃ x, getV l 0 = x := ⟨_, rfl⟩
    obtain ⟨kd, hkd⟩ : ∃ x, getV l 4 = x := ⟨_, rfl⟩
    have HG := Lib.hid (And.intro hcl (And.intro e0 (And.intro hkd e4)))
    have HN12 := Lib.hid (show 12 ≤ n by omega)
    clear hcl hkd e0 e4 hn
    have row1 := Row.new (w.alloc (.cells #[.int .i64 0, .int .i64 0, .slice none 0 0, .slice none 0 0] 41)) 41 #[.int .i64 cl, .int .i64 kd, .slice none 0 0, .slice none 0 0]
    rw [show (w.alloc (.cells #[.int .i64 0, .int .i64 0, .slice none 0 0, .slice none 0 0] 41)).heap.size = w.heap.size + 1 by simp] at row1
    have row2 := row0.alloc (.cells #[.int .i64 cl, .int .i64 kd, .slice none 0 0, .slice none 0 0] 41)
    have cB := cA.alloc (.cells #[.int .i64 cl, .int .i64 kd, .slice none 0 0, .slice none 0 0] 41)
    obtain ⟨W, hW⟩ : ∃ W, (w.alloc (.cells #[.int .i64 0, .int .i64 0, .slice none 0 0, .slice none 0 0] 41)).alloc (.cells #[.int .i64 cl, .int .i64 kd, .slice none 0 0, .slice none 0 0] 41) = W := ⟨_, rfl⟩
    rw [hW] at row1 row2 cB
    have HWW := Lib.hid hW
    have HB := Lib.hid (And.intro row2 (And.intro row1 cB))
    have HC0 := Lib.hid cA
    clear row0 cA row1 row2 cB hW
    go_enter Tryd.func89, Tryd.ntmps89
    have tok : True := trivial
    go_wp2_with (first
      | (go_at_call 88
         have _t := tok
         clear tok
         refine (Get_any _ l S _ (HX.out.keep HC0.out (fun _ _ f => f)) 0 i0).mono ?_
         rw [HG.out.1, HG.out.2.1]
         rintro e w' ⟨rfl, rfl⟩)
      | (go_at_call 88
         refine (Get_any _ l S _ (HX.out.keep HC0.out (fun _ _ f => f)) 4 i4).mono ?_
         rw [HG.out.2.2.1, HG.out.2.2.2]
         rintro e w' ⟨rfl, rfl⟩)
      | (rw [HWW.out])
      | fail)
    clear HC0 HWW
    by_cases hk1 : kd = 1
    · subst hk1
      have hbo : bodyO l = ⟨cl, 1, wordsB l ((n - 12) / 4), []⟩ := by unfold bodyO; rw [HG.out.1, HG.out.2.2.1, HN.out]; rfl
      have HBO := Lib.hid hbo
      clear hbo
      obtain ⟨q, hq⟩ : ∃ q, (n - 12) / 4 = q := ⟨_, rfl⟩
      rw [hq] at HBO
      go_loopg [9] (q + 1) (fun j v9 wr => ∃ (i : Nat) (A1 : Option Addr) (c1 : Nat), v9 = .int .i64 (12 + 4 * (i : Int)) ∧ i ≤ q ∧ q - i < j ∧ OwnInts wr (w.heap.size + 2) (.slice A1 i c1) (wordsB l i) ∧ Row wr w.heap.size 41 #[.int .i64 0, .int .i64 0, .slice none 0 0, .slice none 0 0] ∧ Row wr (w.heap.size + 1) 41 #[.int .i64 cl, .int .i64 1, .slice A1 i c1, .slice none 0 0] ∧ Chg No w wr)
      case atStart => exact ⟨0, none, 0, rfl, by omega, by omega, World.ownsRow_nil _ _ _ _, HB.out.1, HB.out.2.1, HB.out.2.2⟩
      case round =>
        clear HB
        obtain ⟨i, A1, c1, rfl, hi, hj, own, rz, ro1, cw⟩ := hrel
        have hs2 : w.heap.size + 2 ≤ wr.heap.size := by have := ro1.lt; omega
        have x2 := ro1.cell 2
        simp at x2
        have xo := ro1.four
        have wn : IntKind.i64.wrap ((n : Int) - 4) = (n : Int) - 4 := IntWalk.i64_in _ (by omega)
        have wi : IntKind.i64.wrap (12 + 4 * (i : Int) + 4) = 12 + 4 * ((i + 1 : Nat) : Int) := (IntWalk.i64_in _ (by omega)).trans (by omega)
        by_cases hlt : i < q
        · have t2 : decide (12 + 4 * (i : Int) ≤ (n : Int) - 4) = true := decide_eq_true (by omega)
          have a64 : In64 (12 + 4 * (i : Int)) := by unfold In64; omega
          have hws := wordsB_succ l i
          obtain ⟨x, hx⟩ : ∃ x, getV l (12 + 4 * (i : Int)) = x := ⟨_, rfl⟩
          rw [hx] at hws
          obtain ⟨A5, c5, w5, hr5, ho5, cg5⟩ := app_one own (by rw [wordsB_len]; omega) hs2 x 36
          rw [wordsB_len] at hr5 ho5
          rw [← hws] at ho5
          have r5 := ro1.keep cg5 (by omega)
          have z5 := rz.keep cg5 (by omega)
          have f5 := r5.frozen 2
          have y5 := r5.cell 2
          simp at y5
          have c05 : Chg No w w5 := cw.then cg5 (fun k hk h => by omega)
          have H5 := Lib.hid (And.intro ho5 (And.intro z5 (And.intro r5 c05)))
          have HR5 := Lib.hid hr5
          have HX1 := Lib.hid (And.intro hx cw)
          clear own rz ro1 cw hr5 ho5 cg5 r5 z5 c05 hx hws
          go_wp2_with (first
            | (go_at_call 88
               refine (Get_any _ l S _ (HX.out.keep HX1.out.2 (fun _ _ f => f)) (12 + 4 * (i : Int)) a64).mono ?_
               rw [HX1.out.1]
               rintro e w' ⟨rfl, rfl⟩)
            | (at_builtin; refine wpList_append_run rfl _ _ _ rfl rfl rfl HR5.out ?_)
            | fail)
          go_roundg (q - i)
          case measure => omega
          case rel =>
            have cs : Chg (fun b => b = w.heap.size + 1) w5 (w5.setCell ⟨w.heap.size + 1, 2, none⟩ (.slice A5 (i + 1) c5)) := Chg.setCell (F := fun b => b = w.heap.size + 1) (p := ⟨w.heap.size + 1, 2, none⟩) (Chg.refl _ _) (.inl rfl) _
            exact ⟨i + 1, A5, c5, by go_num, by omega, by omega, H5.out.1.keep cs (fun b hb h => by omega), H5.out.2.1.keep cs (by omega), H5.out.2.2.1.set 2 _, H5.out.2.2.2.setCell (.inr (by simp)) _⟩
        · have t2 : decide (12 + 4 * (i : Int) ≤ (n : Int) - 4) = false := decide_eq_false (by omega)
          obtain rfl : i = q := by omega
          obtain ⟨V, rfl⟩ : ∃ V, V = wr := ⟨_, rfl⟩
          have HO := Lib.hid (And.intro (show ObjR V (fun b => w.heap.size + 2 ≤ b) (.agg #[.int .i64 cl, .int .i64 1, .slice A1 i c1, .slice none 0 0]) (bodyO l) by
            rw [HBO.out]
            refine ⟨_, _, rfl, ?_, ByteS.nil _ _, by rw [← HG.out.1]; exact getV_in _ _, show In64 1 by unfold In64; decide⟩
            exact IntS.of_own own (wordsB_in _ _)) (And.intro rz (And.intro ro1 cw)))
          clear own rz ro1 cw xo x2
          have xO := HO.out.2.2.1.four
          by_cases hk : okB (bodyO l) = true
          · by_cases he : encB (bodyO l) = l
            · have hd : decOk l = true := by unfold decOk; rw [hk, decide_eq_true he, decide_eq_true (show 12 ≤ l.length by rw [HN.out]; exact HN12.out)]; rfl
              obtain rfl : ro = bodyO l := by rw [← HRR.out.1, decO, if_pos hd]
              obtain rfl : re = 0 := by rw [← HRR.out.2, decE, if_pos hd]
              have HK := Lib.hid (And.intro hk he)
              clear hk he hd
              go_wp2_with (first
                | (go_at_call 51
                   refine (Encode_ok _ _ _ _ HO.out.1 HK.out.1).mono ?_
                   rintro e w5 ⟨v5, rfl, u5, rfl, ho5, c5⟩
                   obtain ⟨A5, d5, rfl⟩ := ho5.form
                   have H5 := Lib.hid (And.intro (ho5.bytes (by rw [HK.out.2]; exact HX.out.2)) c5)
                   clear ho5 c5)
                | (go_at_call 55
                   refine (EqB_any _ _ _ l _ S _ H5.out.1 (HX.out.keep (HO.out.2.2.2.trans H5.out.2) (fun _ _ f => f))).mono ?_
                   rw [decide_eq_true HK.out.2]
                   rintro e w6 ⟨rfl, c6⟩
                   have sZ := (HO.out.2.1.keep (H5.out.2.trans c6) (fun f => f)).four
                   have sO := (HO.out.2.2.1.keep (H5.out.2.trans c6) (fun f => f)).four
                   have H6 := Lib.hid (H5.out.2.trans c6)
                   clear c6)
                | fail)
              have cF : ∀ U, Chg (fun b => b = w.heap.size) w6 U → ObjR U (fun b => w.heap.size ≤ b) (.agg #[.int .i64 cl, .int .i64 1, .slice A1 i c1, .slice none 0 0]) (bodyO l) ∧ Chg No w U := fun U hU =>
                ⟨((HO.out.1.keep H6.out (fun _ _ f => f)).keep hU (fun b hb h => by omega)).more (fun b _ hb => by omega), (HO.out.2.2.2.trans H6.out).then hU (fun k hk h => by omega)⟩
              refine bodyPost_ret (v := .tuple #[.agg #[.int .i64 cl, .int .i64 1, .slice A1 i c1, .slice none 0 0], .int .i64 0]) (by simp [results, Tryd.results89, go_sem, sZ]) rfl (Ret.mk ⟨_, rfl, (cF _ ?_).1, (cF _ ?_).2⟩)
              · repeat (with_reducible first | exact Chg.refl _ _ | refine Chg.setCell ?_ (.inl (by simp)) _)
              · repeat (with_reducible first | exact Chg.refl _ _ | refine Chg.setCell ?_ (.inl (by simp)) _)
            · have hd : decOk l = false := by unfold decOk; rw [hk, decide_eq_false he, Bool.and_false, Bool.and_false]
              obtain rfl : ro = O.zero := by rw [← HRR.out.1, decO, hd]; rfl
              obtain rfl : re = 5 := by rw [← HRR.out.2, decE, hd]; rfl
              have HK := Lib.hid (And.intro hk (decide_eq_false he))
              have HEB := Lib.hid (encB_bd (o := bodyO l) (by
                intro x hx
                unfold bodyO at hx
                dsimp only at hx
                split at hx
                · exact HX.out.2 x (List.mem_of_mem_drop hx)
                · cases hx))
              clear hk he hd
              go_wp2_with (first
                | (go_at_call 51
                   refine (Encode_ok _ _ _ _ HO.out.1 HK.out.1).mono ?_
                   rintro e w5 ⟨v5, rfl, u5, rfl, ho5, c5⟩
                   obtain ⟨A5, d5, rfl⟩ := ho5.form
                   have H5 := Lib.hid (And.intro (ho5.bytes HEB.out) c5)
                   clear ho5 c5)
                | (go_at_call 55
                   refine (EqB_any _ _ _ l _ S _ H5.out.1 (HX.out.keep (HO.out.2.2.2.trans H5.out.2) (fun _ _ f => f))).mono ?_
                   rw [HK.out.2]
                   rintro e w6 ⟨rfl, c6⟩
                   have sZ := (HO.out.2.1.keep (H5.out.2.trans c6) (fun f => f)).four
                   have H6 := Lib.hid (H5.out.2.trans c6)
                   clear c6)
                | fail)
              refine bodyPost_ret (v := .tuple #[.agg #[.int .i64 0, .int .i64 0, .slice none 0 0, .slice none 0 0], .int .i64 5]) (by simp [results, Tryd.results89, go_sem, sZ]) rfl (Ret.mk ⟨_, rfl, ObjR.zero _ _, ?_⟩)
              refine Chg.then (F := No) (G := fun b => b = w.heap.size) (HO.out.2.2.2.trans H6.out) ?_ (fun k hk h => by omega)
              repeat (with_reducible first | exact Chg.refl _ _ | refine Chg.setCell ?_ (.inl (by simp)) _)
          · have hk' : okB (bodyO l) = false := by simpa using hk
            have hd : decOk l = false := by unfold decOk; rw [hk', Bool.false_and, Bool.and_false]
            obtain rfl : ro = O.zero := by rw [← HRR.out.1, decO, hd]; rfl
            obtain rfl : re = 5 := by rw [← HRR.out.2, decE, hd]; rfl
            have HK := Lib.hid hk'
            clear hk hk' hd
            go_wp2_with (first
              | (go_at_call 51
                 refine (Encode_bad _ _ _ _ HO.out.1 HK.out).mono ?_
                 rintro e w5 ⟨rfl, c5⟩
                 have sZ := (HO.out.2.1.keep c5 (fun f => f)).four
                 have H6 := Lib.hid c5
                 clear c5)
              | fail)
            refine bodyPost_ret (v := .tuple #[.agg #[.int .i64 0, .int .i64 0, .slice none 0 0, .slice none 0 0], .int .i64 5]) (by simp [results, Tryd.results89, go_sem, sZ]) rfl (Ret.mk ⟨_, rfl, ObjR.zero _ _, ?_⟩)
            refine Chg.then (F := No) (G := fun b => b = w.heap.size) (HO.out.2.2.2.trans H6.out) ?_ (fun k hk h => by omega)
            repeat (with_reducible first | exact Chg.refl _ _ | refine Chg.setCell ?_ (.inl (by simp)) _)
    · have t2 : (kd == 1) = false := by simpa using hk1
      refine wp_loop_rounds 1 ?_
      rw [rounds_succ]
      by_cases hk2 : kd = 2
      · subst hk2
        have hbo : bodyO l = ⟨cl, 2, [], l.drop 12⟩ := by unfold bodyO; rw [HG.out.1, HG.out.2.2.1]; rfl
        have HBO := Lib.hid hbo
        clear hbo
        obtain ⟨b, off, rfl⟩ := HX.out.some (by rw [HN.out]; omega)
        have xo := HB.out.2.1.four
        by_cases hc12 : c = 12
        · subst hc12
          obtain rfl : n = 12 := by omega
          have hdr : l.drop 12 = [] := List.drop_eq_nil_of_le (by rw [HN.out]; exact Nat.le_refl _)
          have hby : ByteS w S (.slice (some ⟨b, off, none⟩) 0 0) (l.drop 12) := by
            rw [hdr]
            exact ⟨⟨_, _, rfl, rfl, Nat.le_refl _, Nat.zero_le _, (fun e => by cases e), fun h => absurd h (by simp)⟩, by simp⟩
          have HBY := Lib.hid hby
          have n12 : (12 : Nat) - 12 = 0 := rfl
          clear hdr hby
          go_wp2_with (first
            | (go_at_call 100
               refine (CloneB_any _ (l.drop 12) S _ (HBY.out.keep HB.out.2.2 (fun _ _ f => f)) (by rw [List.length_drop, HN.out]; omega)).mono ?_
               rintro e w2 ⟨v2, rfl, c2, ho2⟩
               obtain ⟨A2, c2', rfl⟩ : ∃ A c, v2 = .slice A 0 c := by have := own_form ho2; rwa [List.length_drop, HN.out] at this
               have xo2 := (HB.out.2.1.keep c2 (fun f => f)).four
               have H2 := Lib.hid (And.intro ho2 c2)
               clear ho2 c2)
            | fail)
          generalize hV : World.setCell w2 _ _ = V
          have cV : Chg (fun b => b = w.heap.size + 1) w2 V := by rw [← hV]; exact Chg.setCell (F := fun b => b = w.heap.size + 1) (Chg.refl _ _) (.inl rfl) _
          have rV : Row V (w.heap.size + 1) 41 #[.int .i64 cl, .int .i64 2, .slice none 0 0, .slice A2 0 c2'] := by rw [← hV]; exact (HB.out.2.1.keep H2.out.2 (fun f => f)).set 3 _
          have HO := Lib.hid (And.intro (show ObjR V (fun b => w.heap.size + 2 ≤ b) (.agg #[.int .i64 cl, .int .i64 2, .slice none 0 0, .slice A2 0 c2']) (bodyO l) by
            rw [HBO.out]
            refine ⟨_, _, rfl, IntS.nil _ _, ?_, by rw [← HG.out.1]; exact getV_in _ _, show In64 2 by unfold In64; decide⟩
            have hs := HB.out.2.1.lt
            exact ((ByteS.of_own H2.out.1 (fun x hx => HX.out.2 x (List.mem_of_mem_drop hx))).more (S' := fun b => w.heap.size + 2 ≤ b) (fun b _ hb => by omega)).keep cV (fun b hb h => by omega)) (And.intro ((HB.out.1.keep H2.out.2 (fun f => f)).keep cV (by omega)) (And.intro rV ((HB.out.2.2.trans H2.out.2).then cV (fun k hk h => by omega)))))
          clear xo xo2 hV cV rV
          have xO := HO.out.2.2.1.four
          by_cases hk : okB (bodyO l) = true
          · by_cases he : encB (bodyO l) = l
            · have hd : decOk l = true := by unfold decOk; rw [hk, decide_eq_true he, decide_eq_true (show 12 ≤ l.length by rw [HN.out]; exact HN12.out)]; rfl
              obtain rfl : ro = bodyO l := by rw [← HRR.out.1, decO, if_pos hd]
              obtain rfl : re = 0 := by rw [← HRR.out.2, decE, if_pos hd]
              have HK := Lib.hid (And.intro hk he)
              clear hk he hd
              go_wp2_with (first
                | (go_at_call 51
                   refine (Encode_ok _ _ _ _ HO.out.1 HK.out.1).mono ?_
                   rintro e w5 ⟨v5, rfl, u5, rfl, ho5, c5⟩
                   obtain ⟨A5, d5, rfl⟩ := ho5.form
                   have H5 := Lib.hid (And.intro (ho5.bytes (by rw [HK.out.2]; exact HX.out.2)) c5)
                   clear ho5 c5)
                | (go_at_call 55
                   refine (EqB_any _ _ _ l _ S _ H5.out.1 (HX.out.keep (HO.out.2.2.2.trans H5.out.2) (fun _ _ f => f))).mono ?_
                   rw [decide_eq_true HK.out.2]
                   rintro e w6 ⟨rfl, c6⟩
                   have sZ := (HO.out.2.1.keep (H5.out.2.trans c6) (fun f => f)).four
                   have sO := (HO.out.2.2.1.keep (H5.out.2.trans c6) (fun f => f)).four
                   have H6 := Lib.hid (H5.out.2.trans c6)
                   clear c6)
                | fail)
              have cF : ∀ U, Chg (fun b => b = w.heap.size) w6 U → ObjR U (fun b => w.heap.size ≤ b) (.agg #[.int .i64 cl, .int .i64 2, .slice none 0 0, .slice A2 0 c2']) (bodyO l) ∧ Chg No w U := fun U hU =>
                ⟨((HO.out.1.keep H6.out (fun _ _ f => f)).keep hU (fun b hb h => by omega)).more (fun b _ hb => by omega), (HO.out.2.2.2.trans H6.out).then hU (fun k hk h => by omega)⟩
              refine bodyPost_ret (v := .tuple #[.agg #[.int .i64 cl, .int .i64 2, .slice none 0 0, .slice A2 0 c2'], .int .i64 0]) (by simp [results, Tryd.results89, go_sem, sZ]) rfl (Ret.mk ⟨_, rfl, (cF _ ?_).1, (cF _ ?_).2⟩)
              · repeat (with_reducible first | exact Chg.refl _ _ | refine Chg.setCell ?_ (.inl (by simp)) _)
              · repeat (with_reducible first | exact Chg.refl _ _ | refine Chg.setCell ?_ (.inl (by simp)) _)
            · have hd : decOk l = false := by unfold decOk; rw [hk, decide_eq_false he, Bool.and_false, Bool.and_false]
              obtain rfl : ro = O.zero := by rw [← HRR.out.1, decO, hd]; rfl
              obtain rfl : re = 5 := by rw [← HRR.out.2, decE, hd]; rfl
              have HK := Lib.hid (And.intro hk (decide_eq_false he))
              have HEB := Lib.hid (encB_bd (o := bodyO l) (by
                intro x hx
                unfold bodyO at hx
                dsimp only at hx
                split at hx
                · exact HX.out.2 x (List.mem_of_mem_drop hx)
                · cases hx))
              clear hk he hd
              go_wp2_with (first
                | (go_at_call 51
                   refine (Encode_ok _ _ _ _ HO.out.1 HK.out.1).mono ?_
                   rintro e w5 ⟨v5, rfl, u5, rfl, ho5, c5⟩
                   obtain ⟨A5, d5, rfl⟩ := ho5.form
                   have H5 := Lib.hid (And.intro (ho5.bytes HEB.out) c5)
                   clear ho5 c5)
                | (go_at_call 55
                   refine (EqB_any _ _ _ l _ S _ H5.out.1 (HX.out.keep (HO.out.2.2.2.trans H5.out.2) (fun _ _ f => f))).mono ?_
                   rw [HK.out.2]
                   rintro e w6 ⟨rfl, c6⟩
                   have sZ := (HO.out.2.1.keep (H5.out.2.trans c6) (fun f => f)).four
                   have H6 := Lib.hid (H5.out.2.trans c6)
                   clear c6)
                | fail)
              refine bodyPost_ret (v := .tuple #[.agg #[.int .i64 0, .int .i64 0, .slice none 0 0, .slice none 0 0], .int .i64 5]) (by simp [results, Tryd.results89, go_sem, sZ]) rfl (Ret.mk ⟨_, rfl, ObjR.zero _ _, ?_⟩)
              refine Chg.then (F := No) (G := fun b => b = w.heap.size) (HO.out.2.2.2.trans H6.out) ?_ (fun k hk h => by omega)
              repeat (with_reducible first | exact Chg.refl _ _ | refine Chg.setCell ?_ (.inl (by simp)) _)
          · have hk' : okB (bodyO l) = false := by simpa using hk
            have hd : decOk l = false := by unfold decOk; rw [hk', Bool.false_and, Bool.and_false]
            obtain rfl : ro = O.zero := by rw [← HRR.out.1, decO, hd]; rfl
            obtain rfl : re = 5 := by rw [← HRR.out.2, decE, hd]; rfl
            have HK := Lib.hid hk'
            clear hk hk' hd
            go_wp2_with (first
              | (go_at_call 51
                 refine (Encode_bad _ _ _ _ HO.out.1 HK.out).mono ?_
                 rintro e w5 ⟨rfl, c5⟩
                 have sZ := (HO.out.2.1.keep c5 (fun f => f)).four
                 have H6 := Lib.hid c5
                 clear c5)
              | fail)
            refine bodyPost_ret (v := .tuple #[.agg #[.int .i64 0, .int .i64 0, .slice none 0 0, .slice none 0 0], .int .i64 5]) (by simp [results, Tryd.results89, go_sem, sZ]) rfl (Ret.mk ⟨_, rfl, ObjR.zero _ _, ?_⟩)
            refine Chg.then (F := No) (G := fun b => b = w.heap.size) (HO.out.2.2.2.trans H6.out) ?_ (fun k hk h => by omega)
            repeat (with_reducible first | exact Chg.refl _ _ | refine Chg.setCell ?_ (.inl (by simp)) _)
        · have HBY := Lib.hid (HX.out.drop 12 (by rw [HN.out]; omega))
          go_wp2_with (first
            | (go_at_call 100
               refine (CloneB_any _ (l.drop 12) S _ (HBY.out.keep HB.out.2.2 (fun _ _ f => f)) (by rw [List.length_drop, HN.out]; omega)).mono ?_
               rintro e w2 ⟨v2, rfl, c2, ho2⟩
               obtain ⟨A2, c2', rfl⟩ : ∃ A c, v2 = .slice A (n - 12) c := by have := own_form ho2; rwa [List.length_drop, HN.out] at this
               have xo2 := (HB.out.2.1.keep c2 (fun f => f)).four
               have H2 := Lib.hid (And.intro ho2 c2)
               clear ho2 c2)
            | fail)
          generalize hV : World.setCell w2 _ _ = V
          have cV : Chg (fun b => b = w.heap.size + 1) w2 V := by rw [← hV]; exact Chg.setCell (F := fun b => b = w.heap.size + 1) (Chg.refl _ _) (.inl rfl) _
          have rV : Row V (w.heap.size + 1) 41 #[.int .i64 cl, .int .i64 2, .slice none 0 0, .slice A2 (n - 12) c2'] := by rw [← hV]; exact (HB.out.2.1.keep H2.out.2 (fun f => f)).set 3 _
          have HO := Lib.hid (And.intro (show ObjR V (fun b => w.heap.size + 2 ≤ b) (.agg #[.int .i64 cl, .int .i64 2, .slice none 0 0, .slice A2 (n - 12) c2']) (bodyO l) by
            rw [HBO.out]
            refine ⟨_, _, rfl, IntS.nil _ _, ?_, by rw [← HG.out.1]; exact getV_in _ _, show In64 2 by unfold In64; decide⟩
            have hs := HB.out.2.1.lt
            exact ((ByteS.of_own H2.out.1 (fun x hx => HX.out.2 x (List.mem_of_mem_drop hx))).more (S' := fun b => w.heap.size + 2 ≤ b) (fun b _ hb => by omega)).keep cV (fun b hb h => by omega)) (And.intro ((HB.out.1.keep H2.out.2 (fun f => f)).keep cV (by omega)) (And.intro rV ((HB.out.2.2.trans H2.out.2).then cV (fun k hk h => by omega)))))
          clear xo xo2 hV cV rV
          have xO := HO.out.2.2.1.four
          by_cases hk : okB (bodyO l) = true
          · by_cases he : encB (bodyO l) = l
            · have hd : decOk l = true := by unfold decOk; rw [hk, decide_eq_true he, decide_eq_true (show 12 ≤ l.length by rw [HN.out]; exact HN12.out)]; rfl
              obtain rfl : ro = bodyO l := by rw [← HRR.out.1, decO, if_pos hd]
              obtain rfl : re = 0 := by rw [← HRR.out.2, decE, if_pos hd]
              have HK := Lib.hid (And.intro hk he)
              clear hk he hd
              go_wp2_with (first
                | (go_at_call 51
                   refine (Encode_ok _ _ _ _ HO.out.1 HK.out.1).mono ?_
                   rintro e w5 ⟨v5, rfl, u5, rfl, ho5, c5⟩
                   obtain ⟨A5, d5, rfl⟩ := ho5.form
                   have H5 := Lib.hid (And.intro (ho5.bytes (by rw [HK.out.2]; exact HX.out.2)) c5)
                   clear ho5 c5)
                | (go_at_call 55
                   refine (EqB_any _ _ _ l _ S _ H5.out.1 (HX.out.keep (HO.out.2.2.2.trans H5.out.2) (fun _ _ f => f))).mono ?_
                   rw [decide_eq_true HK.out.2]
                   rintro e w6 ⟨rfl, c6⟩
                   have sZ := (HO.out.2.1.keep (H5.out.2.trans c6) (fun f => f)).four
                   have sO := (HO.out.2.2.1.keep (H5.out.2.trans c6) (fun f => f)).four
                   have H6 := Lib.hid (H5.out.2.trans c6)
                   clear c6)
                | fail)
              have cF : ∀ U, Chg (fun b => b = w.heap.size) w6 U → ObjR U (fun b => w.heap.size ≤ b) (.agg #[.int .i64 cl, .int .i64 2, .slice none 0 0, .slice A2 (n - 12) c2']) (bodyO l) ∧ Chg No w U := fun U hU =>
                ⟨((HO.out.1.keep H6.out (fun _ _ f => f)).keep hU (fun b hb h => by omega)).more (fun b _ hb => by omega), (HO.out.2.2.2.trans H6.out).then hU (fun k hk h => by omega)⟩
              refine bodyPost_ret (v := .tuple #[.agg #[.int .i64 cl, .int .i64 2, .slice none 0 0, .slice A2 (n - 12) c2'], .int .i64 0]) (by simp [results, Tryd.results89, go_sem, sZ]) rfl (Ret.mk ⟨_, rfl, (cF _ ?_).1, (cF _ ?_).2⟩)
              · repeat (with_reducible first | exact Chg.refl _ _ | refine Chg.setCell ?_ (.inl (by simp)) _)
              · repeat (with_reducible first | exact Chg.refl _ _ | refine Chg.setCell ?_ (.inl (by simp)) _)
            · have hd : decOk l = false := by unfold decOk; rw [hk, decide_eq_false he, Bool.and_false, Bool.and_false]
              obtain rfl : ro = O.zero := by rw [← HRR.out.1, decO, hd]; rfl
              obtain rfl : re = 5 := by rw [← HRR.out.2, decE, hd]; rfl
              have HK := Lib.hid (And.intro hk (decide_eq_false he))
              have HEB := Lib.hid (encB_bd (o := bodyO l) (by
                intro x hx
                unfold bodyO at hx
                dsimp only at hx
                split at hx
                · exact HX.out.2 x (List.mem_of_mem_drop hx)
                · cases hx))
              clear hk he hd
              go_wp2_with (first
                | (go_at_call 51
                   refine (Encode_ok _ _ _ _ HO.out.1 HK.out.1).mono ?_
                   rintro e w5 ⟨v5, rfl, u5, rfl, ho5, c5⟩
                   obtain ⟨A5, d5, rfl⟩ := ho5.form
                   have H5 := Lib.hid (And.intro (ho5.bytes HEB.out) c5)
                   clear ho5 c5)
                | (go_at_call 55
                   refine (EqB_any _ _ _ l _ S _ H5.out.1 (HX.out.keep (HO.out.2.2.2.trans H5.out.2) (fun _ _ f => f))).mono ?_
                   rw [HK.out.2]
                   rintro e w6 ⟨rfl, c6⟩
                   have sZ := (HO.out.2.1.keep (H5.out.2.trans c6) (fun f => f)).four
                   have H6 := Lib.hid (H5.out.2.trans c6)
                   clear c6)
                | fail)
              refine bodyPost_ret (v := .tuple #[.agg #[.int .i64 0, .int .i64 0, .slice none 0 0, .slice none 0 0], .int .i64 5]) (by simp [results, Tryd.results89, go_sem, sZ]) rfl (Ret.mk ⟨_, rfl, ObjR.zero _ _, ?_⟩)
              refine Chg.then (F := No) (G := fun b => b = w.heap.size) (HO.out.2.2.2.trans H6.out) ?_ (fun k hk h => by omega)
              repeat (with_reducible first | exact Chg.refl _ _ | refine Chg.setCell ?_ (.inl (by simp)) _)
          · have hk' : okB (bodyO l) = false := by simpa using hk
            have hd : decOk l = false := by unfold decOk; rw [hk', Bool.false_and, Bool.and_false]
            obtain rfl : ro = O.zero := by rw [← HRR.out.1, decO, hd]; rfl
            obtain rfl : re = 5 := by rw [← HRR.out.2, decE, hd]; rfl
            have HK := Lib.hid hk'
            clear hk hk' hd
            go_wp2_with (first
              | (go_at_call 51
                 refine (Encode_bad _ _ _ _ HO.out.1 HK.out).mono ?_
                 rintro e w5 ⟨rfl, c5⟩
                 have sZ := (HO.out.2.1.keep c5 (fun f => f)).four
                 have H6 := Lib.hid c5
                 clear c5)
              | fail)
            refine bodyPost_ret (v := .tuple #[.agg #[.int .i64 0, .int .i64 0, .slice none 0 0, .slice none 0 0], .int .i64 5]) (by simp [results, Tryd.results89, go_sem, sZ]) rfl (Ret.mk ⟨_, rfl, ObjR.zero _ _, ?_⟩)
            refine Chg.then (F := No) (G := fun b => b = w.heap.size) (HO.out.2.2.2.trans H6.out) ?_ (fun k hk h => by omega)
            repeat (with_reducible first | exact Chg.refl _ _ | refine Chg.setCell ?_ (.inl (by simp)) _)
      · have t3 : (kd == 2) = false := by simpa using hk2
        have hbo : bodyO l = ⟨cl, kd, [], []⟩ := by unfold bodyO; rw [HG.out.1, HG.out.2.2.1, if_neg hk1, if_neg hk2]
        have HO := Lib.hid (And.intro (show ObjR W (fun b => w.heap.size + 2 ≤ b) (.agg #[.int .i64 cl, .int .i64 kd, .slice none 0 0, .slice none 0 0]) (bodyO l) by
          rw [hbo]
          exact ⟨_, _, rfl, IntS.nil _ _, ByteS.nil _ _, by rw [← HG.out.1]; exact getV_in _ _, by rw [← HG.out.2.2.1]; exact getV_in _ _⟩) (And.intro HB.out.1 (And.intro HB.out.2.1 HB.out.2.2)))
        clear hbo HB hk1 hk2
        have xO := HO.out.2.2.1.four
        by_cases hk : okB (bodyO l) = true
        · by_cases he : encB (bodyO l) = l
          · have hd : decOk l = true := by unfold decOk; rw [hk, decide_eq_true he, decide_eq_true (show 12 ≤ l.length by rw [HN.out]; exact HN12.out)]; rfl
            obtain rfl : ro = bodyO l := by rw [← HRR.out.1, decO, if_pos hd]
            obtain rfl : re = 0 := by rw [← HRR.out.2, decE, if_pos hd]
            have HK := Lib.hid (And.intro hk he)
            clear hk he hd
            go_wp2_with (first
              | (go_at_call 51
                 refine (Encode_ok _ _ _ _ HO.out.1 HK.out.1).mono ?_
                 rintro e w5 ⟨v5, rfl, u5, rfl, ho5, c5⟩
                 obtain ⟨A5, d5, rfl⟩ := ho5.form
                 have H5 := Lib.hid (And.intro (ho5.bytes (by rw [HK.out.2]; exact HX.out.2)) c5)
                 clear ho5 c5)
              | (go_at_call 55
                 refine (EqB_any _ _ _ l _ S _ H5.out.1 (HX.out.keep (HO.out.2.2.2.trans H5.out.2) (fun _ _ f => f))).mono ?_
                 rw [decide_eq_true HK.out.2]
                 rintro e w6 ⟨rfl, c6⟩
                 have sZ := (HO.out.2.1.keep (H5.out.2.trans c6) (fun f => f)).four
                 have sO := (HO.out.2.2.1.keep (H5.out.2.trans c6) (fun f => f)).four
                 have H6 := Lib.hid (H5.out.2.trans c6)
                 clear c6)
              | fail)
            have cF : ∀ U, Chg (fun b => b = w.heap.size) w6 U → ObjR U (fun b => w.heap.size ≤ b) (.agg #[.int .i64 cl, .int .i64 kd, .slice none 0 0, .slice none 0 0]) (bodyO l) ∧ Chg No w U := fun U hU =>
              ⟨((HO.out.1.keep H6.out (fun _ _ f => f)).keep hU (fun b hb h => by omega)).more (fun b _ hb => by omega), (HO.out.2.2.2.trans H6.out).then hU (fun k hk h => by omega)⟩
            refine bodyPost_ret (v := .tuple #[.agg #[.int .i64 cl, .int .i64 kd, .slice none 0 0, .slice none 0 0], .int .i64 0]) (by simp [results, Tryd.results89, go_sem, sZ]) rfl (Ret.mk ⟨_, rfl, (cF _ ?_).1, (cF _ ?_).2⟩)
            · repeat (with_reducible first | exact Chg.refl _ _ | refine Chg.setCell ?_ (.inl (by simp)) _)
            · repeat (with_reducible first | exact Chg.refl _ _ | refine Chg.setCell ?_ (.inl (by simp)) _)
          · have hd : decOk l = false := by unfold decOk; rw [hk, decide_eq_false he, Bool.and_false, Bool.and_false]
            obtain rfl : ro = O.zero := by rw [← HRR.out.1, decO, hd]; rfl
            obtain rfl : re = 5 := by rw [← HRR.out.2, decE, hd]; rfl
            have HK := Lib.hid (And.intro hk (decide_eq_false he))
            have HEB := Lib.hid (encB_bd (o := bodyO l) (by
              intro x hx
              unfold bodyO at hx
              dsimp only at hx
              split at hx
              · exact HX.out.2 x (List.mem_of_mem_drop hx)
              · cases hx))
            clear hk he hd
            go_wp2_with (first
              | (go_at_call 51
                 refine (Encode_ok _ _ _ _ HO.out.1 HK.out.1).mono ?_
                 rintro e w5 ⟨v5, rfl, u5, rfl, ho5, c5⟩
                 obtain ⟨A5, d5, rfl⟩ := ho5.form
                 have H5 := Lib.hid (And.intro (ho5.bytes HEB.out) c5)
                 clear ho5 c5)
              | (go_at_call 55
                 refine (EqB_any _ _ _ l _ S _ H5.out.1 (HX.out.keep (HO.out.2.2.2.trans H5.out.2) (fun _ _ f => f))).mono ?_
                 rw [HK.out.2]
                 rintro e w6 ⟨rfl, c6⟩
                 have sZ := (HO.out.2.1.keep (H5.out.2.trans c6) (fun f => f)).four
                 have H6 := Lib.hid (H5.out.2.trans c6)
                 clear c6)
              | fail)
            refine bodyPost_ret (v := .tuple #[.agg #[.int .i64 0, .int .i64 0, .slice none 0 0, .slice none 0 0], .int .i64 5]) (by simp [results, Tryd.results89, go_sem, sZ]) rfl (Ret.mk ⟨_, rfl, ObjR.zero _ _, ?_⟩)
            refine Chg.then (F := No) (G := fun b => b = w.heap.size) (HO.out.2.2.2.trans H6.out) ?_ (fun k hk h => by omega)
            repeat (with_reducible first | exact Chg.refl _ _ | refine Chg.setCell ?_ (.inl (by simp)) _)
        · have hk' : okB (bodyO l) = false := by simpa using hk
          have hd : decOk l = false := by unfold decOk; rw [hk', Bool.false_and, Bool.and_false]
          obtain rfl : ro = O.zero := by rw [← HRR.out.1, decO, hd]; rfl
          obtain rfl : re = 5 := by rw [← HRR.out.2, decE, hd]; rfl
          have HK := Lib.hid hk'
          clear hk hk' hd
          go_wp2_with (first
            | (go_at_call 51
               refine (Encode_bad _ _ _ _ HO.out.1 HK.out).mono ?_
               rintro e w5 ⟨rfl, c5⟩
               have sZ := (HO.out.2.1.keep c5 (fun f => f)).four
               have H6 := Lib.hid c5
               clear c5)
            | fail)
          refine bodyPost_ret (v := .tuple #[.agg #[.int .i64 0, .int .i64 0, .slice none 0 0, .slice none 0 0], .int .i64 5]) (by simp [results, Tryd.results89, go_sem, sZ]) rfl (Ret.mk ⟨_, rfl, ObjR.zero _ _, ?_⟩)
          refine Chg.then (F := No) (G := fun b => b = w.heap.size) (HO.out.2.2.2.trans H6.out) ?_ (fun k hk h => by omega)
          repeat (with_reducible first | exact Chg.refl _ _ | refine Chg.setCell ?_ (.inl (by simp)) _)

theorem ByteS.drop0 {w : World} {S : Nat → Prop} {b off n c : Nat} {l : List Int} (h : ByteS w S (.slice (Option.some ⟨b, off, Option.none⟩) n c) l) (k : Nat) (hk : c = k) (hn : k ≤ n) : ByteS w S (.slice (Option.some ⟨b, off, Option.none⟩) (n - k) 0) (l.drop k) := by
  obtain ⟨⟨A, c', hv, hl, h1, h2, h0, h3⟩, hx⟩ := h
  obtain ⟨-, rfl, rfl⟩ := Value.slice.inj hv
  have e : l.drop k = [] := List.drop_eq_nil_of_le (by omega)
  rw [e, show l.length - k = 0 by omega]
  exact ⟨⟨_, 0, rfl, rfl, Nat.le_refl _, Nat.zero_le _, (fun e => by cases e), fun h => absurd h (by simp)⟩, by simp⟩
/-- the state of a reader: what is left, and whether something was wrong -/
def RdS (w : World) (S : Nat → Prop) (g : Nat) (l : List Int) (bad : Bool) : Prop := ∃ v, Row w g 97 #[v, .bool bad] ∧ ByteS w S v l
/-- behind num -/
def numL (l : List Int) : List Int := if getOk l 0 = true then l.drop 4 else l
def numB (l : List Int) (bad : Bool) : Bool := if getOk l 0 = true then bad else true
theorem getOk0 {l : List Int} : getOk l 0 = decide (4 ≤ l.length) := by
  unfold getOk
  rw [decide_eq_decide]
  omega

set_option maxRecDepth 100000 in
set_option maxHeartbeats 1000000 in
theorem num_any (g : Nat) (l : List Int) (bad : Bool) (S : Nat → Prop) (w : World) (h : RdS w S g l bad) (hS : ∀ b, S b → b ≠ g) : Calls Tryd.prog 53 #[.pointer (some ⟨g, 0, none⟩)] w fun e w' => e = .returned (.int .i64 (getV l 0)) ∧ RdS w' S g (numL l) (numB l bad) ∧ Chg (fun b => b = g) w w' := by
  obtain ⟨v, row, hb⟩ := h
  obtain ⟨A, c, rfl, hlc, hcm, -⟩ := hb.form
  have hcm' : c ≤ 9223372036854775807 := by unfold maxLen at hcm; simp at hcm; omega
  have x0 := row.cell 0
  have f0 := row.frozen
  have x1 := row.cell 1
  simp at x0 x1
  have HX := Lib.hid hb
  have HR := Lib.hid row
  have i0 : In64 0 := by unfold In64; omega
  clear row hb hcm
  obtain ⟨nv, hnv⟩ : ∃ x, getV l 0 = x := ⟨_, rfl⟩
  rw [hnv]
  have HV := Lib.hid hnv
  clear hnv
  generalize hn : l.length = n at *
  have HN := Lib.hid hn
  clear hn
  by_cases h4 : 4 ≤ n
  · have hok : getOk l 0 = true := by rw [getOk0, HN.out]; exact decide_eq_true h4
    have he : getE l 0 = 0 := by unfold getE; rw [if_pos hok]
    have HE := Lib.hid he
    unfold numL numB
    rw [if_pos hok, if_pos hok]
    clear he
    obtain ⟨b, off, rfl⟩ := HX.out.some (by rw [HN.out]; omega)
    clear hok
    by_cases hc4 : c = 4
    · subst hc4
      obtain rfl : n = 4 := by omega
      go_enter Tryd.func53, Tryd.ntmps53
      go_wp2_with (first
        | (go_at_call 88
           refine (Get_any _ l S w HX.out 0 i0).mono ?_
           rw [HV.out, HE.out]
           rintro e w' ⟨rfl, rfl⟩)
        | fail)
      go_ret
      exact ⟨rfl, ⟨_, HR.out.set 0 _, (HX.out.drop0 4 rfl (Nat.le_refl _)).keep (F := fun b => b = g) (Chg.setCell (F := fun b => b = g) (Chg.refl _ _) (.inl rfl) _) (fun b hb e => hS b hb e)⟩, Chg.setCell (F := fun b => b = g) (Chg.refl _ _) (.inl rfl) _⟩
    · go_enter Tryd.func53, Tryd.ntmps53
      go_wp2_with (first
        | (go_at_call 88
           refine (Get_any _ l S w HX.out 0 i0).mono ?_
           rw [HV.out, HE.out]
           rintro e w' ⟨rfl, rfl⟩)
        | fail)
      go_ret
      exact ⟨rfl, ⟨_, HR.out.set 0 _, (HX.out.drop 4 (by rw [HN.out]; exact h4)).keep (F := fun b => b = g) (Chg.setCell (F := fun b => b = g) (Chg.refl _ _) (.inl rfl) _) (fun b hb e => hS b hb e)⟩, Chg.setCell (F := fun b => b = g) (Chg.refl _ _) (.inl rfl) _⟩
  · have hok : getOk l 0 = false := by rw [getOk0, HN.out]; exact decide_eq_false h4
    have he : getE l 0 = 2 := by unfold getE; rw [hok]; rfl
    have hv0 : nv = 0 := by rw [← HV.out]; unfold getV; rw [hok]; rfl
    subst hv0
    have HE := Lib.hid he
    unfold numL numB
    rw [hok, if_neg (by decide), if_neg (by decide)]
    clear he hok
    go_enter Tryd.func53, Tryd.ntmps53
    go_wp2_with (first
      | (go_at_call 88
         refine (Get_any _ l S w HX.out 0 i0).mono ?_
         rw [HV.out, HE.out]
         rintro e w' ⟨rfl, rfl⟩)
      | fail)
    go_ret
    exact ⟨rfl, ⟨_, HR.out.set 1 _, HX.out.keep (F := fun b => b = g) (Chg.setCell (F := fun b => b = g) (Chg.refl _ _) (.inl rfl) _) (fun b hb e => hS b hb e)⟩, Chg.setCell (F := fun b => b = g) (Chg.refl _ _) (.inl rfl) _⟩

theorem ByteS.dropP {w : World} {S : Nat → Prop} {p : Addr} {n c : Nat} {l : List Int} (h : ByteS w S (.slice (Option.some p) n c) l) {k : Nat} (hk : k ≤ l.length) : ByteS w S (.slice (Option.some (p.add k)) (n - k) (c - k)) (l.drop k) := by
  obtain ⟨⟨A', c', hv, hl, h1, h2, h0, h3⟩, hx⟩ := h
  obtain ⟨rfl, rfl, rfl⟩ := Value.slice.inj hv
  rw [List.length_map, Nat.mul_one] at hl
  refine ⟨⟨_, c - k, by rw [List.length_drop], by simp, by rw [List.length_drop]; omega, by omega, (fun e => by cases e), fun hn => ?_⟩, fun x hx' => hx x (List.mem_of_mem_drop hx')⟩
  rw [List.length_drop] at hn
  obtain ⟨b, off, e, hS, hb, hc⟩ := h3 (by omega)
  obtain rfl := Option.some.inj e
  refine ⟨b, off + k, by simp [Addr.add], hS, hb, fun i u hu => ?_⟩
  rw [Nat.add_assoc]
  refine hc (k + i) u ?_
  rw [← hu, List.map_drop, List.getElem?_drop]
theorem ByteS.dropE {w : World} {S : Nat → Prop} {A : Option Addr} {c : Nat} {l : List Int} (h : ByteS w S (.slice A c c) l) {k : Nat} (hk : k ≤ l.length) : k = c → ByteS w S (.slice A 0 0) (l.drop k) := by
  rintro rfl
  obtain ⟨⟨A', c', hv, hl, h1, h2, h0, h3⟩, hx⟩ := h
  obtain ⟨rfl, rfl, rfl⟩ := Value.slice.inj hv
  rw [List.drop_eq_nil_of_le (by omega)]
  exact ⟨⟨A, 0, by simp, rfl, Nat.le_refl _, Nat.zero_le _, fun e => rfl, fun hn => absurd hn (by simp)⟩, by simp⟩
theorem ByteS.take {w : World} {S : Nat → Prop} {A : Option Addr} {n c : Nat} {l : List Int} (h : ByteS w S (.slice A n c) l) (k : Nat) (hk : k ≤ l.length) : ByteS w S (.slice A k c) (l.take k) := by
  obtain ⟨⟨A', c', hv, hl, h1, h2, h0, h3⟩, hx⟩ := h
  obtain ⟨rfl, rfl, rfl⟩ := Value.slice.inj hv
  have hlt : (l.take k).length = k := by rw [List.length_take]; omega
  refine ⟨⟨A, c, by rw [hlt], by simp, by rw [hlt]; omega, h2, h0, fun hn => ?_⟩, fun x hx' => hx x (List.mem_of_mem_take hx')⟩
  rw [hlt] at hn
  obtain ⟨b, off, e, hS, hb, hc⟩ := h3 (by omega)
  refine ⟨b, off, e, hS, hb, fun i u hu => hc i u ?_⟩
  rw [← hu]
  have hik : i < k := by
    have := (List.getElem?_eq_some_iff.1 hu).1
    rw [List.length_map, hlt] at this
    exact this
  rw [List.getElem?_map, List.getElem?_map, List.getElem?_take_of_lt hik]
/-- how obj goes: is something wrong, the object, what is left -/
def objBad (l : List Int) (bad : Bool) : Bool := numB l bad || (decide (getV l 0 < 0) || decide (((numL l).length : Int) < getV l 0))
def objO (l : List Int) (bad : Bool) : O := if objBad l bad = true then O.zero else decO ((numL l).take (getV l 0).toNat)
def objL (l : List Int) (bad : Bool) : List Int := if objBad l bad = true then numL l else (numL l).drop (getV l 0).toNat
def objB (l : List Int) (bad : Bool) : Bool := if objBad l bad = true then true else decide (decE ((numL l).take (getV l 0).toNat) ≠ 0)

theorem RdS.keep {w w' : World} {S F : Nat → Prop} {g : Nat} {l : List Int} {bad : Bool} (h : RdS w S g l bad) (c : Chg F w w') (hg : ¬ F g) (hS : ∀ b, S b → ¬ F b) : RdS w' S g l bad := by
  obtain ⟨v, h1, h2⟩ := h
  exact ⟨v, h1.keep c hg, h2.keep c hS⟩
set_option maxRecDepth 100000 in
set_option maxHeartbeats 1000000 in
theorem obj_any (g : Nat) (l : List Int) (bad : Bool) (S : Nat → Prop) (w : World) (h : RdS w S g l bad) (hS : ∀ b, S b → b ≠ g ∧ b < w.heap.size) (hm : l.length ≤ 100000000) : Calls Tryd.prog 54 #[.pointer (some ⟨g, 0, none⟩)] w (Ret fun v w' => ObjR w' (fun b => w.heap.size ≤ b) v (objO l bad) ∧ RdS w' S g (objL l bad) (objB l bad) ∧ Chg (fun b => b = g) w w') := by
  have hg : g < w.heap.size := by
    obtain ⟨v, r, -⟩ := h
    exact r.lt
  have HSW := Lib.hid (show ∀ b, S b → b ≠ w.heap.size from fun b hb => by have := (hS b hb).2; omega)
  replace hS : ∀ b, S b → b ≠ g := fun b hb => (hS b hb).1
  have cA : Chg No w (w.alloc (.cells #[.int .i64 0, .int .i64 0, .slice none 0 0, .slice none 0 0] 41)) := (Chg.refl _ _).alloc _
  have HRD := Lib.hid (h.keep cA (fun f => f) (fun _ _ f => f))
  have HZ := Lib.hid (Row.new w 41 #[.int .i64 0, .int .i64 0, .slice none 0 0, .slice none 0 0])
  obtain ⟨nv, hnv⟩ : ∃ x, getV l 0 = x := ⟨_, rfl⟩
  have hml : (numL l).length ≤ 100000000 := by
    unfold numL
    split
    · rw [List.length_drop]; omega
    · exact hm
  have nv64 : In64 nv := by rw [← hnv]; exact getV_in _ _
  unfold objO objL objB objBad
  rw [hnv]
  obtain ⟨l2, hl2⟩ : ∃ x, numL l = x := ⟨_, rfl⟩
  obtain ⟨b2, hb2⟩ : ∃ x, numB l bad = x := ⟨_, rfl⟩
  rw [hl2, hb2]
  rw [hl2] at hml
  have HV := Lib.hid hnv
  have HNL := Lib.hid (And.intro hl2 hb2)
  clear hnv hl2 hb2 h
  generalize hn : l2.length = n at *
  have HN := Lib.hid hn
  clear hn
  cases b2
  · by_cases h0 : nv < 0
    · have t1 : decide (nv < 0) = true := decide_eq_true h0
      rw [t1]
      simp only [Bool.false_or, Bool.true_or, if_true]
      clear h0
      go_enter Tryd.func54, Tryd.ntmps54
      go_wp2_with (first
        | (go_at_call 53
           refine (num_any g l bad S _ HRD.out hS).mono ?_
           rw [HV.out, HNL.out.1, HNL.out.2]
           rintro e w1 ⟨rfl, ⟨v1, r1, hb1⟩, c1⟩
           obtain ⟨A1, d1, rfl, hcap, hcap2, hA0⟩ : ∃ A c, v1 = .slice A n c ∧ n ≤ c ∧ c ≤ 9223372036854775807 ∧ (A = none → c = 0) := by
             obtain ⟨A, c, e, e2, e3, e4, -⟩ := hb1.form
             rw [HN.out] at e e2
             exact ⟨A, c, e, e2, by unfold maxLen at e3; simp at e3; omega, e4⟩
           have HA0 := Lib.hid hA0
           clear hA0
           have x0 := r1.cell 0
           have x1 := r1.cell 1
           have f1 := r1.frozen
           simp at x0 x1
           have zR := (HZ.out.keep c1 (by omega)).four
           have H1 := Lib.hid (And.intro r1 (And.intro hb1 c1))
           clear r1 hb1 c1)
        | fail)
      refine bodyPost_ret (v := .agg #[.int .i64 0, .int .i64 0, .slice none 0 0, .slice none 0 0]) (by simp [results, Tryd.results54, go_sem, zR]) rfl (Ret.mk ⟨ObjR.zero _ _, ?_, ?_⟩)
      · have hgw : w.heap.size ≠ g := by omega
        have cF : ∀ V, Chg (fun b => b = w.heap.size) (w1.setCell ⟨g, 1, none⟩ (.bool true)) V → RdS V S g l2 true := fun V hV =>
          ⟨_, (H1.out.1.set 1 _).keep hV (by omega), (H1.out.2.1.keep (F := fun b => b = g) (Chg.setCell (F := fun b => b = g) (Chg.refl _ _) (.inl rfl) _) (fun b hb e => hS b hb e)).keep hV (fun b hb e => HSW.out b hb e)⟩
        refine cF _ ?_
        repeat (with_reducible first | exact Chg.refl _ _ | refine Chg.setCell ?_ (.inl (by simp)) _)
      · have cW : Chg (fun b => b = g) w w1 := Chg.then cA.no H1.out.2.2 (fun k hk h => h)
        exact Chg.setCell (Chg.setCell (Chg.setCell (Chg.setCell (Chg.setCell cW (.inl rfl) _) (.inr (Nat.le_refl _)) _) (.inr (Nat.le_refl _)) _) (.inr (Nat.le_refl _)) _) (.inr (Nat.le_refl _)) _
    · have t1 : decide (nv < 0) = false := decide_eq_false h0
      by_cases h2 : (n : Int) < nv
      · have t2 : decide ((n : Int) < nv) = true := decide_eq_true h2
        rw [t1, t2]
        simp only [Bool.false_or, if_true]
        clear h0 h2
        go_enter Tryd.func54, Tryd.ntmps54
        go_wp2_with (first
          | (go_at_call 53
             refine (num_any g l bad S _ HRD.out hS).mono ?_
             rw [HV.out, HNL.out.1, HNL.out.2]
             rintro e w1 ⟨rfl, ⟨v1, r1, hb1⟩, c1⟩
             obtain ⟨A1, d1, rfl, hcap, hcap2, hA0⟩ : ∃ A c, v1 = .slice A n c ∧ n ≤ c ∧ c ≤ 9223372036854775807 ∧ (A = none → c = 0) := by
               obtain ⟨A, c, e, e2, e3, e4, -⟩ := hb1.form
               rw [HN.out] at e e2
               exact ⟨A, c, e, e2, by unfold maxLen at e3; simp at e3; omega, e4⟩
             have HA0 := Lib.hid hA0
             clear hA0
             have x0 := r1.cell 0
             have x1 := r1.cell 1
             have f1 := r1.frozen
             simp at x0 x1
             have zR := (HZ.out.keep c1 (by omega)).four
             have H1 := Lib.hid (And.intro r1 (And.intro hb1 c1))
             clear r1 hb1 c1)
          | fail)
        refine bodyPost_ret (v := .agg #[.int .i64 0, .int .i64 0, .slice none 0 0, .slice none 0 0]) (by simp [results, Tryd.results54, go_sem, zR]) rfl (Ret.mk ⟨ObjR.zero _ _, ?_, ?_⟩)
        · have hgw : w.heap.size ≠ g := by omega
          have cF : ∀ V, Chg (fun b => b = w.heap.size) (w1.setCell ⟨g, 1, none⟩ (.bool true)) V → RdS V S g l2 true := fun V hV =>
            ⟨_, (H1.out.1.set 1 _).keep hV (by omega), (H1.out.2.1.keep (F := fun b => b = g) (Chg.setCell (F := fun b => b = g) (Chg.refl _ _) (.inl rfl) _) (fun b hb e => hS b hb e)).keep hV (fun b hb e => HSW.out b hb e)⟩
          refine cF _ ?_
          repeat (with_reducible first | exact Chg.refl _ _ | refine Chg.setCell ?_ (.inl (by simp)) _)
        · have cW : Chg (fun b => b = g) w w1 := Chg.then cA.no H1.out.2.2 (fun k hk h => h)
          exact Chg.setCell (Chg.setCell (Chg.setCell (Chg.setCell (Chg.setCell cW (.inl rfl) _) (.inr (Nat.le_refl _)) _) (.inr (Nat.le_refl _)) _) (.inr (Nat.le_refl _)) _) (.inr (Nat.le_refl _)) _
      · have t2 : decide ((n : Int) < nv) = false := decide_eq_false h2
        rw [t1, t2]
        simp only [Bool.or_false, if_neg (show ¬ (false = true) by decide)]
        obtain ⟨k, rfl⟩ : ∃ k : Nat, nv = (k : Int) := ⟨nv.toNat, by omega⟩
        rw [Int.toNat_natCast]
        have hk : k ≤ n := by omega
        have hkn : ¬ n < k := by omega
        have t3 : decide (n < k) = false := decide_eq_false hkn
        clear h0 h2
        obtain ⟨de, hde⟩ : ∃ x, decE (l2.take k) = x := ⟨_, rfl⟩
        obtain ⟨dO, hdo⟩ : ∃ x, decO (l2.take k) = x := ⟨_, rfl⟩
        rw [hde, hdo]
        have HDE := Lib.hid (And.intro hde hdo)
        clear hde hdo
        obtain ⟨qb, hqb⟩ : ∃ x, decide (de ≠ 0) = x := ⟨_, rfl⟩
        rw [hqb]
        have tq : (de != 0) = qb := by rw [← hqb]; simp [bne, BEq.beq]
        have HQ := Lib.hid hqb
        clear hqb
        go_enter Tryd.func54, Tryd.ntmps54
        go_wp2_with (first
          | (go_at_call 53
             refine (num_any g l bad S _ HRD.out hS).mono ?_
             rw [HV.out, HNL.out.1, HNL.out.2]
             rintro e w1 ⟨rfl, ⟨v1, r1, hb1⟩, c1⟩
             obtain ⟨A1, d1, rfl, hcap, hcap2, hA0⟩ : ∃ A c, v1 = .slice A n c ∧ n ≤ c ∧ c ≤ 9223372036854775807 ∧ (A = none → c = 0) := by
               obtain ⟨A, c, e, e2, e3, e4, -⟩ := hb1.form
               rw [HN.out] at e e2
               exact ⟨A, c, e, e2, by unfold maxLen at e3; simp at e3; omega, e4⟩
             have HA0 := Lib.hid hA0
             clear hA0
             have x0 := r1.cell 0
             have x1 := r1.cell 1
             have f1 := r1.frozen
             simp at x0 x1
             have zR := (HZ.out.keep c1 (by omega)).four
             have H1 := Lib.hid (And.intro r1 (And.intro hb1 c1))
             clear r1 hb1 c1)
          | (go_at_call 89
             refine (Decode_any _ (l2.take k) S _ ((H1.out.2.1.take k (by rw [HN.out]; exact hk)).keep (F := fun b => b = g) (Chg.setCell (F := fun b => b = g) (Chg.refl _ _) (.inl rfl) _) (fun b hb e => hS b hb e)) (by rw [List.length_take]; omega)).mono ?_
             rw [HDE.out.1, HDE.out.2]
             rintro e w2 ⟨v2, rfl, u2, rfl, ho2, c2⟩
             obtain ⟨wv2, bv2, rfl, hI, hB, i64, k64⟩ := ho2
             obtain ⟨A7, d7, rfl, -⟩ := hI.form
             obtain ⟨A8, d8, rfl, -⟩ := hB.form
             simp only [cells2]
             have HO2 := Lib.hid (And.intro hI (And.intro hB (And.intro i64 k64)))
             have r2 : Row w2 g 97 #[.slice A1 n d1, .bool false] := (H1.out.1.set 1 (.bool false)).keep c2 (fun f => f)
             obtain ⟨W3, hW3⟩ : ∃ W, w2.alloc (.cells #[.int .i64 dO.cls, .int .i64 dO.kind, .slice A7 dO.W.length d7, .slice A8 dO.B.length d8] 41) = W := ⟨_, rfl⟩
             have r3 : Row W3 g 97 #[.slice A1 n d1, .bool false] := by rw [← hW3]; exact r2.alloc _
             have rO := Row.new w2 41 #[.int .i64 dO.cls, .int .i64 dO.kind, .slice A7 dO.W.length d7, .slice A8 dO.B.length d8]
             rw [hW3] at rO
             have c3 : Chg No (w1.setCell ⟨g, 1, none⟩ (.bool false)) W3 := c2.trans (by rw [← hW3]; exact (Chg.refl _ _).alloc _)
             have y0 : ∀ v, Chg No W3 v → v.cell? ⟨g, 0, none⟩ = some (.slice A1 n d1) := fun v hv => (r3.keep hv (fun f => f)).cell 0
             have hG2 := Lib.hid (show g < w2.heap.size ∧ w.heap.size < w2.heap.size by
               have e1 := r2.lt
               have e2 := H1.out.2.2.size
               have e3 := c2.size
               simp at e2 e3
               omega)
             have HW3 := Lib.hid hW3
             have H3 := Lib.hid (And.intro r3 (And.intro rO c3))
             clear hI hB i64 k64 c2 r2 hW3 r3 rO c3 x0 x1 f1 zR)
          | (rw [HW3.out])
          | fail)
        by_cases hdk : d1 = k
        · obtain rfl : n = k := by omega
          subst hdk
          have rV := H3.out.1
          have fV1 := rV.frozen 1
          have fV0 := rV.frozen 0
          have xV1 := rV.cell 1
          have xV0 := rV.cell 0
          simp at xV1 xV0
          clear y0 rV
          go_region_law (fail)
          generalize hW6 : World.drew (World.setCell (World.setCell W3 ⟨g, 1, none⟩ (.bool qb)) ⟨g, 0, none⟩ (.slice A1 0 0)) = W6
          have hgw := H3.out.2.2.size
          have hgw2 := hG2.out
          have c16 : Chg (fun b => b = g) w1 W6 := by
            rw [← hW6]
            exact Chg.drew (Chg.setCell (Chg.setCell (((Chg.refl _ _).setCell (F := fun b => b = g) (.inl rfl) _).trans H3.out.2.2.no) (.inl rfl) _) (.inl rfl) _)
          have c06 : Chg (fun b => b = g) w W6 := (Chg.then cA.no H1.out.2.2 (fun k hk h => h)).trans c16
          have r6 : Row W6 g 97 #[(.slice A1 0 0), .bool qb] := by
            rw [← hW6]
            exact ((H3.out.1.set 1 _).set 0 _)
          have rO6 := ((H3.out.2.1.other (p := ⟨g, 1, none⟩) (by show w2.heap.size ≠ g; omega) (.bool qb)).other (p := ⟨g, 0, none⟩) (by show w2.heap.size ≠ g; omega) (.slice A1 0 0)).drew2
          rw [hW6] at rO6
          obtain ⟨q0, q1, q2, q3, qf⟩ := rO6.four
          have z6 := ((HZ.out.keep (H1.out.2.2.trans c16) (show w.heap.size ≠ g by omega))).four
          have cO : Chg (fun b => b = g) w2 W6 := by
            rw [← hW6]
            refine Chg.drew (Chg.setCell (F := fun b => b = g) (Chg.setCell (F := fun b => b = g) ?_ (.inl rfl) _) (.inl rfl) _)
            rw [← HW3.out]
            exact (Chg.refl _ _).alloc _
          have H6 := Lib.hid (And.intro c16 (And.intro c06 (And.intro r6 cO)))
          clear c16 c06 r6 rO6 hW6 cO
          go_wp2_with fail
          refine bodyPost_ret (v := .agg #[.int .i64 dO.cls, .int .i64 dO.kind, .slice A7 dO.W.length d7, .slice A8 dO.B.length d8]) (by simp [results, Tryd.results54, go_sem, z6]) rfl (Ret.mk ?_)
          generalize hWf : World.setCell (World.setCell (World.setCell (World.setCell W6 _ _) _ _) _ _) _ _ = Wf
          have cf : Chg (fun b => b = w.heap.size) W6 Wf := by
            rw [← hWf]
            exact Chg.setCell (F := fun b => b = w.heap.size) (Chg.setCell (F := fun b => b = w.heap.size) (Chg.setCell (F := fun b => b = w.heap.size) (Chg.setCell (F := fun b => b = w.heap.size) (Chg.refl _ _) (.inl rfl) _) (.inl rfl) _) (.inl rfl) _) (.inl rfl) _
          have hs1 := H1.out.2.2.size
          have hs2 := H1.out.1.lt
          simp at hs1
          refine ⟨⟨_, _, rfl, ?_, ?_, HO2.out.2.2⟩, ⟨_, H6.out.2.2.1.keep cf (show ¬ (g = w.heap.size) by omega), ?_⟩, Chg.then H6.out.2.1 cf (fun k hk h => absurd h (by omega))⟩
          · exact (((HO2.out.1.keep H6.out.2.2.2 (fun b hb e => by simp at hb; omega)).keep cf (fun b hb e => by simp at hb; omega))).more (fun b _ hb => by simp at hb; omega)
          · exact (((HO2.out.2.1.keep H6.out.2.2.2 (fun b hb e => by simp at hb; omega)).keep cf (fun b hb e => by simp at hb; omega))).more (fun b _ hb => by simp at hb; omega)
          · exact (((fun a b => ByteS.dropE a b rfl) H1.out.2.1 (by rw [HN.out]; exact hk)).keep H6.out.1 (fun b hb e => hS b hb e)).keep cf (fun b hb e => HSW.out b hb e)
        · obtain ⟨p, rfl⟩ : ∃ p, A1 = some p := by
            cases A1 with
            | none => exact absurd (HA0.out rfl) (by omega)
            | some p => exact ⟨p, rfl⟩
          have rV := H3.out.1
          have fV1 := rV.frozen 1
          have fV0 := rV.frozen 0
          have xV1 := rV.cell 1
          have xV0 := rV.cell 0
          simp at xV1 xV0
          clear y0 rV
          go_region_law (fail)
          generalize hW6 : World.drew (World.setCell (World.setCell W3 ⟨g, 1, none⟩ (.bool qb)) ⟨g, 0, none⟩ (.slice (some (p.add k)) (n - k) (d1 - k))) = W6
          have hgw := H3.out.2.2.size
          have hgw2 := hG2.out
          have c16 : Chg (fun b => b = g) w1 W6 := by
            rw [← hW6]
            exact Chg.drew (Chg.setCell (Chg.setCell (((Chg.refl _ _).setCell (F := fun b => b = g) (.inl rfl) _).trans H3.out.2.2.no) (.inl rfl) _) (.inl rfl) _)
          have c06 : Chg (fun b => b = g) w W6 := (Chg.then cA.no H1.out.2.2 (fun k hk h => h)).trans c16
          have r6 : Row W6 g 97 #[(.slice (some (p.add k)) (n - k) (d1 - k)), .bool qb] := by
            rw [← hW6]
            exact ((H3.out.1.set 1 _).set 0 _)
          have rO6 := ((H3.out.2.1.other (p := ⟨g, 1, none⟩) (by show w2.heap.size ≠ g; omega) (.bool qb)).other (p := ⟨g, 0, none⟩) (by show w2.heap.size ≠ g; omega) (.slice (some (p.add k)) (n - k) (d1 - k))).drew2
          rw [hW6] at rO6
          obtain ⟨q0, q1, q2, q3, qf⟩ := rO6.four
          have z6 := ((HZ.out.keep (H1.out.2.2.trans c16) (show w.heap.size ≠ g by omega))).four
          have cO : Chg (fun b => b = g) w2 W6 := by
            rw [← hW6]
            refine Chg.drew (Chg.setCell (F := fun b => b = g) (Chg.setCell (F := fun b => b = g) ?_ (.inl rfl) _) (.inl rfl) _)
            rw [← HW3.out]
            exact (Chg.refl _ _).alloc _
          have H6 := Lib.hid (And.intro c16 (And.intro c06 (And.intro r6 cO)))
          clear c16 c06 r6 rO6 hW6 cO
          go_wp2_with fail
          refine bodyPost_ret (v := .agg #[.int .i64 dO.cls, .int .i64 dO.kind, .slice A7 dO.W.length d7, .slice A8 dO.B.length d8]) (by simp [results, Tryd.results54, go_sem, z6]) rfl (Ret.mk ?_)
          generalize hWf : World.setCell (World.setCell (World.setCell (World.setCell W6 _ _) _ _) _ _) _ _ = Wf
          have cf : Chg (fun b => b = w.heap.size) W6 Wf := by
            rw [← hWf]
            exact Chg.setCell (F := fun b => b = w.heap.size) (Chg.setCell (F := fun b => b = w.heap.size) (Chg.setCell (F := fun b => b = w.heap.size) (Chg.setCell (F := fun b => b = w.heap.size) (Chg.refl _ _) (.inl rfl) _) (.inl rfl) _) (.inl rfl) _) (.inl rfl) _
          have hs1 := H1.out.2.2.size
          have hs2 := H1.out.1.lt
          simp at hs1
          refine ⟨⟨_, _, rfl, ?_, ?_, HO2.out.2.2⟩, ⟨_, H6.out.2.2.1.keep cf (show ¬ (g = w.heap.size) by omega), ?_⟩, Chg.then H6.out.2.1 cf (fun k hk h => absurd h (by omega))⟩
          · exact (((HO2.out.1.keep H6.out.2.2.2 (fun b hb e => by simp at hb; omega)).keep cf (fun b hb e => by simp at hb; omega))).more (fun b _ hb => by simp at hb; omega)
          · exact (((HO2.out.2.1.keep H6.out.2.2.2 (fun b hb e => by simp at hb; omega)).keep cf (fun b hb e => by simp at hb; omega))).more (fun b _ hb => by simp at hb; omega)
          · exact ((ByteS.dropP H1.out.2.1 (by rw [HN.out]; exact hk)).keep H6.out.1 (fun b hb e => hS b hb e)).keep cf (fun b hb e => HSW.out b hb e)
  · simp only [Bool.true_or, if_true]
    go_enter Tryd.func54, Tryd.ntmps54
    go_wp2_with (first
      | (go_at_call 53
         refine (num_any g l bad S _ HRD.out hS).mono ?_
         rw [HV.out, HNL.out.1, HNL.out.2]
         rintro e w1 ⟨rfl, ⟨v1, r1, hb1⟩, c1⟩
         obtain ⟨A1, d1, rfl, hcap, hcap2, hA0⟩ : ∃ A c, v1 = .slice A n c ∧ n ≤ c ∧ c ≤ 9223372036854775807 ∧ (A = none → c = 0) := by
           obtain ⟨A, c, e, e2, e3, e4, -⟩ := hb1.form
           rw [HN.out] at e e2
           exact ⟨A, c, e, e2, by unfold maxLen at e3; simp at e3; omega, e4⟩
         have HA0 := Lib.hid hA0
         clear hA0
         have x0 := r1.cell 0
         have x1 := r1.cell 1
         have f1 := r1.frozen
         simp at x0 x1
         have zR := (HZ.out.keep c1 (by omega)).four
         have H1 := Lib.hid (And.intro r1 (And.intro hb1 c1))
         clear r1 hb1 c1)
      | fail)
    refine bodyPost_ret (v := .agg #[.int .i64 0, .int .i64 0, .slice none 0 0, .slice none 0 0]) (by simp [results, Tryd.results54, go_sem, zR]) rfl (Ret.mk ⟨ObjR.zero _ _, ?_, ?_⟩)
    · have hgw : w.heap.size ≠ g := by omega
      have cF : ∀ V, Chg (fun b => b = w.heap.size) (w1.setCell ⟨g, 1, none⟩ (.bool true)) V → RdS V S g l2 true := fun V hV =>
        ⟨_, (H1.out.1.set 1 _).keep hV (by omega), (H1.out.2.1.keep (F := fun b => b = g) (Chg.setCell (F := fun b => b = g) (Chg.refl _ _) (.inl rfl) _) (fun b hb e => hS b hb e)).keep hV (fun b hb e => HSW.out b hb e)⟩
      refine cF _ ?_
      repeat (with_reducible first | exact Chg.refl _ _ | refine Chg.setCell ?_ (.inl (by simp)) _)
    · have cW : Chg (fun b => b = g) w w1 := Chg.then cA.no H1.out.2.2 (fun k hk h => h)
      exact Chg.setCell (Chg.setCell (Chg.setCell (Chg.setCell (Chg.setCell cW (.inl rfl) _) (.inr (Nat.le_refl _)) _) (.inr (Nat.le_refl _)) _) (.inr (Nat.le_refl _)) _) (.inr (Nat.le_refl _)) _

end Go.Proofs.YtncoanmgifgcbaaDoor
