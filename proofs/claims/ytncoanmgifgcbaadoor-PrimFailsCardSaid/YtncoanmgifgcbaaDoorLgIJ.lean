/- Large numbers over a flat memory: prim.sums. · Large numbers over a flat memory: prim.Do at 21, 22 and 29. -/
import Derived.Test.YtncoanmgifgcbaaDoorLgH
namespace Go.Proofs.YtncoanmgifgcbaaDoor
set_option linter.unusedVariables false
set_option linter.unusedSimpArgs false
open Go.RowKit

/-- the sum, the difference, the product; none: there is none -/
def sumZ (n x y : Int) : Option Nat :=
  if n = 22 then (if x < y then none else some (x - y).toNat)
  else if (dg (if n = 21 then x + y else x * y).toNat).length ≤ 400 then some (if n = 21 then x + y else x * y).toNat else none
/-- what is told, whether it failed, what is left -/
def sumR (L : List O) (n a b : Int) : Int × Int × List O :=
  if (digOk L a && digOk L b) = true then
    match sumZ n (val (digB L a)) (val (digB L b)) with
    | none => (0, 2, L)
    | some z =>
      if z ≤ 1073741823 then (2 * (z : Int) + 1, 0, L)
      else if placeE L 8 1 5 ≠ 0 then (0, placeE L 8 1 5, L)
      else if namedOk (fetchV L 8 5) = true then (2 * ((L.length : Int) + 1), 0, L ++ [⟨fetchV L 8 5, 2, [], dg z⟩])
      else (0, 2, L)
  else (0, 2, L)
/-- how the reckoning ends -/
def Reck (w w' : World) (z : Option Nat) (e : Ending) : Prop :=
  match z with
  | none => ∃ k : Int, (k == 0) = false ∧ e = .returned (.tuple #[.slice none 0 0, .int .i64 k])
  | some z => ∃ v, e = .returned (.tuple #[v, .int .i64 0]) ∧ ByteS w' (fun b => w.heap.size ≤ b) v (dg z) ∧ (dg z).length ≤ 400
theorem ByteS.lt {w : World} {S : Nat → Prop} {v : Value} {l : List Int} (h : ByteS w S v l) : ByteS w (fun b => b < w.heap.size) v l := h.more fun b hb _ => hb
theorem reck_told {w w' : World} {n x y : Int} {e : Ending} (hn : n ≠ 22) (h : Told w' (fun b => w.heap.size ≤ b) (if n = 21 then x + y else x * y).toNat e) : Reck w w' (sumZ n x y) e := by
  unfold sumZ
  rw [if_neg hn]
  rcases h with ⟨h4, v, rfl, hv⟩ | ⟨h4, rfl⟩
  · rw [if_pos h4]
    exact ⟨v, rfl, hv, h4⟩
  · rw [if_neg (by omega)]
    exact ⟨3, by decide, rfl⟩
theorem reck_21 (va vb : Value) (a b : List Int) (S S2 : Nat → Prop) (w : World) (ha : ByteS w S va a) (hb : ByteS w S2 vb b) (ra : rightD a = true) (rb : rightD b = true) (t : TypeId) :
    Calls Tryd.prog 72 #[va, .slice (some ⟨w.heap.size, 0, none⟩) 1 1] (w.alloc (.cells #[vb] t)) fun e w' => Reck w w' (sumZ 21 (val a) (val b)) e ∧ Chg No w w' := by
  have c0 : Chg No w (w.alloc (.cells #[vb] t)) := (Chg.refl _ _).alloc _
  refine (Add_any va vb a b S S2 _ (ha.keep c0 (fun _ _ f => f)) (hb.keep c0 (fun _ _ f => f)) ra rb _ t (Row.new _ _ _)).mono fun e w' h => ⟨reck_told (by decide) ?_, c0.trans h.2⟩
  rw [if_pos rfl]
  rcases h.1 with ⟨h4, v, rfl, hv⟩ | h4
  · exact .inl ⟨h4, v, rfl, hv.more fun b _ hb => Nat.le_trans c0.size hb⟩
  · exact .inr h4
theorem reck_22 (va vb : Value) (a b : List Int) (S S2 : Nat → Prop) (w : World) (ha : ByteS w S va a) (hb : ByteS w S2 vb b) (ra : rightD a = true) (rb : rightD b = true) :
    Calls Tryd.prog 73 #[va, vb] w fun e w' => Reck w w' (sumZ 22 (val a) (val b)) e ∧ Chg No w w' := by
  have hB := (val_bd hb.by).1
  have hA := val_bd ha.by
  refine (Sub_any va vb a b w ha.lt hb.lt ra rb).mono fun e w' h => ⟨?_, h.2⟩
  unfold sumZ
  rw [if_pos rfl]
  rcases h.1 with ⟨h1, rfl⟩ | ⟨h1, v, rfl, hv⟩
  · rw [if_pos h1]
    exact ⟨4, by decide, rfl⟩
  · rw [if_neg (by omega)]
    refine ⟨v, rfl, hv, (dg_len _ _).2 ?_⟩
    have := pw_le (right_len ra)
    omega
theorem reck_29 (va vb : Value) (a b : List Int) (S S2 : Nat → Prop) (w : World) (ha : ByteS w S va a) (hb : ByteS w S2 vb b) (ra : rightD a = true) (rb : rightD b = true) :
    Calls Tryd.prog 74 #[va, vb] w fun e w' => Reck w w' (sumZ 29 (val a) (val b)) e ∧ Chg No w w' :=
  (Mul_any va vb a b S S2 w ha hb ra rb).mono fun e w' h => ⟨reck_told (by decide) (by rw [if_neg (by decide)]; exact h.1), h.2⟩

section
variable {w0 w w' : World} {m : Nat} {L L' : List O} {K : (Nat → Prop) → World → Prop} {F F' : Nat → Prop}
set_option maxRecDepth 100000 in
set_option maxHeartbeats 800000 in
theorem k_sums21 (h : MemK w0 w m L K) (a b : Int) (ha : In64 a) (hb : In64 b) (hn : L.length + 2 < 1073741823) :
    Calls Tryd.prog 46 #[.iface 27 (.pointer (some ⟨m, 0, none⟩)), .int .i64 21, .int .i64 a, .int .i64 b] w fun e w' => e = .returned (.tuple #[.int .i64 (sumR L 21 a b).1, .int .i64 (sumR L 21 a b).2.1]) ∧ MemK w0 w' m (sumR L 21 a b).2.2 K := by
  have H := Lib.hid h
  have tok : True := trivial
  have HC := Lib.hid (And.intro (fetch64 (fun _ hk => h.okAt hk) 8 5) hn)
  clear h
  unfold sumR
  obtain ⟨ra, hra⟩ : ∃ r, digOk L a = r := ⟨_, rfl⟩
  obtain ⟨rb, hrb⟩ : ∃ r, digOk L b = r := ⟨_, rfl⟩
  rw [hra, hrb]
  have HD := Lib.hid (And.intro hra hrb)
  clear hra hrb
  cases ra with
  | false =>
    rw [if_neg (by simp)]
    go_enter Tryd.func46, Tryd.ntmps46
    go_wp2_with (first
      | (go_at_call 71
         have _t := tok
         clear tok
         refine (k_digits H.out a ha).mono ?_
         rw [HD.out.1]
         rintro e' w1 ⟨v1, rfl, b1, g1, c1⟩
         obtain ⟨A1, d1, rfl, -⟩ := b1.form
         have H1 := Lib.hid (And.intro b1 (And.intro g1 c1))
         clear b1 g1 c1)
      | (go_at_call 71
         refine (k_digits H1.out.2.1 b hb).mono ?_
         rw [HD.out.2]
         rintro e' w2 ⟨v2, rfl, b2, g2, c2⟩
         obtain ⟨A2, d2, rfl, -⟩ := b2.form
         have H2 := Lib.hid (And.intro b2 (And.intro g2 (And.intro c2 (H1.out.2.2.trans c2))))
         clear b2 g2 c2)
      | fail)
    go_ret2
    exact ⟨rfl, H2.out.2.1⟩
  | true =>
    cases rb with
    | false =>
      rw [if_neg (by simp)]
      go_enter Tryd.func46, Tryd.ntmps46
      go_wp2_with (first
        | (go_at_call 71
           have _t := tok
           clear tok
           refine (k_digits H.out a ha).mono ?_
           rw [HD.out.1]
           rintro e' w1 ⟨v1, rfl, b1, g1, c1⟩
           obtain ⟨A1, d1, rfl, -⟩ := b1.form
           have H1 := Lib.hid (And.intro b1 (And.intro g1 c1))
           clear b1 g1 c1)
        | (go_at_call 71
           refine (k_digits H1.out.2.1 b hb).mono ?_
           rw [HD.out.2]
           rintro e' w2 ⟨v2, rfl, b2, g2, c2⟩
           obtain ⟨A2, d2, rfl, -⟩ := b2.form
           have H2 := Lib.hid (And.intro b2 (And.intro g2 (And.intro c2 (H1.out.2.2.trans c2))))
           clear b2 g2 c2)
        | fail)
      go_ret2
      exact ⟨rfl, H2.out.2.1⟩
    | true =>
      rw [if_pos (by simp)]
      have HRR := Lib.hid (And.intro (dig_right HD.out.1) (dig_right HD.out.2))
      obtain ⟨z, hz⟩ : ∃ z, sumZ 21 (val (digB L a)) (val (digB L b)) = z := ⟨_, rfl⟩
      rw [hz]
      have HZ := Lib.hid hz
      clear hz
      cases z with
      | none =>
        dsimp only
        go_enter Tryd.func46, Tryd.ntmps46
        go_wp2_with (first
          | (go_at_call 71
             have _t := tok
             clear tok
             refine (k_digits H.out a ha).mono ?_
             rw [HD.out.1]
             rintro e' w1 ⟨v1, rfl, b1, g1, c1⟩
             obtain ⟨A1, d1, rfl, -⟩ := b1.form
             have H1 := Lib.hid (And.intro b1 (And.intro g1 c1))
             clear b1 g1 c1)
          | (go_at_call 71
             refine (k_digits H1.out.2.1 b hb).mono ?_
             rw [HD.out.2]
             rintro e' w2 ⟨v2, rfl, b2, g2, c2⟩
             obtain ⟨A2, d2, rfl, -⟩ := b2.form
             have H2 := Lib.hid (And.intro b2 (And.intro g2 (And.intro c2 (H1.out.2.2.trans c2))))
             clear b2 g2 c2)
          | (go_at_call 72
             refine (reck_21 _ _ _ _ _ _ w2 (H1.out.1.keep H2.out.2.2.1 (fun _ _ f => f)) H2.out.1 HRR.out.1 HRR.out.2 _).mono ?_
             rw [HZ.out]
             unfold Reck
             rintro e' w3 ⟨⟨k, k0, rfl⟩, c3⟩
             have H3 := Lib.hid c3; clear c3)
          | fail)
        go_ret2
        exact ⟨rfl, H2.out.2.1.world H3.out⟩
      | some z =>
        dsimp only
        by_cases hs : z ≤ 1073741823
        · rw [if_pos hs]
          have hok : intOk (dg z) = true := by
            unfold intOk
            have h8 := dg_short (n := z) (by omega)
            have h4 : ¬ (dg z).length = 8 := by
              have h5 := (dg_len z 4).2 (by have : pw 4 = 4294967296 := by decide
                                            omega)
              omega
            rw [dg_rightD (by omega), decide_eq_true h8, decide_eq_false h4]
            rfl
          have t1 : decide ((z : Int) ≤ 1073741823) = true := decide_eq_true (by omega)
          have hsv : smallV (z : Int) = 2 * (z : Int) + 1 := by unfold smallV; rw [if_pos (by omega)]
          have hse : smallE (z : Int) = 0 := by unfold smallE; rw [if_pos (by omega)]
          have HO := Lib.hid (And.intro hok (And.intro hsv hse))
          clear hok hsv hse
          go_enter Tryd.func46, Tryd.ntmps46
          go_wp2_with (first
            | (go_at_call 71
               have _t := tok
               clear tok
               refine (k_digits H.out a ha).mono ?_
               rw [HD.out.1]
               rintro e' w1 ⟨v1, rfl, b1, g1, c1⟩
               obtain ⟨A1, d1, rfl, -⟩ := b1.form
               have H1 := Lib.hid (And.intro b1 (And.intro g1 c1))
               clear b1 g1 c1)
            | (go_at_call 71
               refine (k_digits H1.out.2.1 b hb).mono ?_
               rw [HD.out.2]
               rintro e' w2 ⟨v2, rfl, b2, g2, c2⟩
               obtain ⟨A2, d2, rfl, -⟩ := b2.form
               have H2 := Lib.hid (And.intro b2 (And.intro g2 (And.intro c2 (H1.out.2.2.trans c2))))
               clear b2 g2 c2)
            | (go_at_call 72
               refine (reck_21 _ _ _ _ _ _ w2 (H1.out.1.keep H2.out.2.2.1 (fun _ _ f => f)) H2.out.1 HRR.out.1 HRR.out.2 _).mono ?_
               rw [HZ.out]
               unfold Reck
               rintro e' w3 ⟨⟨v3, rfl, b3, l3⟩, c3⟩
               obtain ⟨A3, d3, rfl, -⟩ := b3.form; have H3 := Lib.hid (And.intro b3 (And.intro c3 l3)); clear b3 c3 l3)
            | (go_at_call 75
               refine (Int_any _ (dg z) _ H3.out.1.lt).mono ?_
               rw [HO.out.1, if_pos rfl, val_dg]
               rintro e' w4 ⟨rfl, b4⟩
               have H4 := Lib.hid (Chg.of_below (F := No) b4)
               clear b4)
            | (go_at_call 69
               refine (Small_any (z : Int) (by omega) (by omega) _).mono ?_
               rw [HO.out.2.1, HO.out.2.2]
               rintro e' w5 ⟨rfl, rfl⟩)
            | fail)
          go_ret2
          exact ⟨rfl, H2.out.2.1.world (H3.out.2.1.trans H4.out)⟩
        · rw [if_neg hs]
          cases hok : intOk (dg z) with
          | true =>
            have t1 : decide ((z : Int) ≤ 1073741823) = false := decide_eq_false (by omega)
            have HO := Lib.hid (And.intro hok trivial)
            clear hok hs
            by_cases h5 : placeE L 8 1 5 = 0
            · rw [if_neg (by simp [h5])]
              have HP := Lib.hid h5
              clear h5
              cases hcn : namedOk (fetchV L 8 5) with
              | true =>
                rw [if_pos rfl]
                have HCN := Lib.hid hcn
                clear hcn
                go_enter Tryd.func46, Tryd.ntmps46
                go_wp2_with (first
                  | (go_at_call 71
                     have _t := tok
                     clear tok
                     refine (k_digits H.out a ha).mono ?_
                     rw [HD.out.1]
                     rintro e' w1 ⟨v1, rfl, b1, g1, c1⟩
                     obtain ⟨A1, d1, rfl, -⟩ := b1.form
                     have H1 := Lib.hid (And.intro b1 (And.intro g1 c1))
                     clear b1 g1 c1)
                  | (go_at_call 71
                     refine (k_digits H1.out.2.1 b hb).mono ?_
                     rw [HD.out.2]
                     rintro e' w2 ⟨v2, rfl, b2, g2, c2⟩
                     obtain ⟨A2, d2, rfl, -⟩ := b2.form
                     have H2 := Lib.hid (And.intro b2 (And.intro g2 (And.intro c2 (H1.out.2.2.trans c2))))
                     clear b2 g2 c2)
                  | (go_at_call 72
                     refine (reck_21 _ _ _ _ _ _ w2 (H1.out.1.keep H2.out.2.2.1 (fun _ _ f => f)) H2.out.1 HRR.out.1 HRR.out.2 _).mono ?_
                     rw [HZ.out]
                     unfold Reck
                     rintro e' w3 ⟨⟨v3, rfl, b3, l3⟩, c3⟩
                     obtain ⟨A3, d3, rfl, -⟩ := b3.form; have H3 := Lib.hid (And.intro b3 (And.intro c3 l3)); clear b3 c3 l3)
                  | (go_at_call 75
                     refine (Int_any _ (dg z) _ H3.out.1.lt).mono ?_
                     rw [HO.out.1]
                     first
                       | rw [if_pos rfl, val_dg]
                       | rw [if_neg (by simp)]
                     rintro e' w4 ⟨rfl, b4⟩
                     have H4 := Lib.hid (Chg.of_below (F := No) b4)
                     clear b4)
                  | (go_at_call 76
                     refine (k_Special (H2.out.2.1.world (H3.out.2.1.trans H4.out)) 5).mono ?_
                     rw [HP.out]
                     rintro e' w5 ⟨rfl, -, c5⟩
                     have H5 := Lib.hid (((H2.out.2.2.2.trans H3.out.2.1).trans H4.out).trans c5)
                     have H6 := Lib.hid (H3.out.1.keep (H4.out.trans c5) (fun _ _ f => f))
                     clear c5)
                  | (go_at_call 77
                     refine (k_bytes (H.out.also (K2 := fun v => ByteS v (fun _ => True) (.slice A3 (dg z).length d3) (dg z)) H5.out (fun G hG w9 c9 => (H6.out.keep c9 (fun b hb hg => by have h1 := (hG b hg).1; have h2 := H2.out.2.2.2.size; have h3 : w2.heap.size ≤ b := hb; omega)).more (fun _ _ _ => trivial))) (fetchV L 8 5) HC.out.1 _ (dg z) (fun F x hk => hk.2) (by have := H3.out.2.2; omega) HC.out.2).mono ?_
                     rw [HCN.out]
                     simp only [↓reduceIte, Bool.false_eq_true]
                     rintro e' w6 ⟨rfl, g7⟩)
                  | fail)
                go_ret2
                exact ⟨rfl, g7.mono fun _ _ hk => hk.1⟩
              | false =>
                rw [if_neg (by simp)]
                have HCN := Lib.hid hcn
                clear hcn
                go_enter Tryd.func46, Tryd.ntmps46
                go_wp2_with (first
                  | (go_at_call 71
                     have _t := tok
                     clear tok
                     refine (k_digits H.out a ha).mono ?_
                     rw [HD.out.1]
                     rintro e' w1 ⟨v1, rfl, b1, g1, c1⟩
                     obtain ⟨A1, d1, rfl, -⟩ := b1.form
                     have H1 := Lib.hid (And.intro b1 (And.intro g1 c1))
                     clear b1 g1 c1)
                  | (go_at_call 71
                     refine (k_digits H1.out.2.1 b hb).mono ?_
                     rw [HD.out.2]
                     rintro e' w2 ⟨v2, rfl, b2, g2, c2⟩
                     obtain ⟨A2, d2, rfl, -⟩ := b2.form
                     have H2 := Lib.hid (And.intro b2 (And.intro g2 (And.intro c2 (H1.out.2.2.trans c2))))
                     clear b2 g2 c2)
                  | (go_at_call 72
                     refine (reck_21 _ _ _ _ _ _ w2 (H1.out.1.keep H2.out.2.2.1 (fun _ _ f => f)) H2.out.1 HRR.out.1 HRR.out.2 _).mono ?_
                     rw [HZ.out]
                     unfold Reck
                     rintro e' w3 ⟨⟨v3, rfl, b3, l3⟩, c3⟩
                     obtain ⟨A3, d3, rfl, -⟩ := b3.form; have H3 := Lib.hid (And.intro b3 (And.intro c3 l3)); clear b3 c3 l3)
                  | (go_at_call 75
                     refine (Int_any _ (dg z) _ H3.out.1.lt).mono ?_
                     rw [HO.out.1]
                     first
                       | rw [if_pos rfl, val_dg]
                       | rw [if_neg (by simp)]
                     rintro e' w4 ⟨rfl, b4⟩
                     have H4 := Lib.hid (Chg.of_below (F := No) b4)
                     clear b4)
                  | (go_at_call 76
                     refine (k_Special (H2.out.2.1.world (H3.out.2.1.trans H4.out)) 5).mono ?_
                     rw [HP.out]
                     rintro e' w5 ⟨rfl, -, c5⟩
                     have H5 := Lib.hid (((H2.out.2.2.2.trans H3.out.2.1).trans H4.out).trans c5)
                     have H6 := Lib.hid (H3.out.1.keep (H4.out.trans c5) (fun _ _ f => f))
                     clear c5)
                  | (go_at_call 77
                     refine (k_bytes (H.out.also (K2 := fun v => ByteS v (fun _ => True) (.slice A3 (dg z).length d3) (dg z)) H5.out (fun G hG w9 c9 => (H6.out.keep c9 (fun b hb hg => by have h1 := (hG b hg).1; have h2 := H2.out.2.2.2.size; have h3 : w2.heap.size ≤ b := hb; omega)).more (fun _ _ _ => trivial))) (fetchV L 8 5) HC.out.1 _ (dg z) (fun F x hk => hk.2) (by have := H3.out.2.2; omega) HC.out.2).mono ?_
                     rw [HCN.out]
                     simp only [↓reduceIte, Bool.false_eq_true]
                     rintro e' w6 ⟨rfl, g7⟩)
                  | fail)
                go_ret2
                exact ⟨rfl, g7.mono fun _ _ hk => hk.1⟩
            · rw [if_pos h5]
              obtain ⟨e5, he5⟩ : ∃ e, placeE L 8 1 5 = e := ⟨_, rfl⟩
              rw [he5] at h5 ⊢
              have HP := Lib.hid he5
              have t5 : (e5 != 0) = true := by simpa using h5
              clear h5 he5
              go_enter Tryd.func46, Tryd.ntmps46
              go_wp2_with (first
                | (go_at_call 71
                   have _t := tok
                   clear tok
                   refine (k_digits H.out a ha).mono ?_
                   rw [HD.out.1]
                   rintro e' w1 ⟨v1, rfl, b1, g1, c1⟩
                   obtain ⟨A1, d1, rfl, -⟩ := b1.form
                   have H1 := Lib.hid (And.intro b1 (And.intro g1 c1))
                   clear b1 g1 c1)
                | (go_at_call 71
                   refine (k_digits H1.out.2.1 b hb).mono ?_
                   rw [HD.out.2]
                   rintro e' w2 ⟨v2, rfl, b2, g2, c2⟩
                   obtain ⟨A2, d2, rfl, -⟩ := b2.form
                   have H2 := Lib.hid (And.intro b2 (And.intro g2 (And.intro c2 (H1.out.2.2.trans c2))))
                   clear b2 g2 c2)
                | (go_at_call 72
                   refine (reck_21 _ _ _ _ _ _ w2 (H1.out.1.keep H2.out.2.2.1 (fun _ _ f => f)) H2.out.1 HRR.out.1 HRR.out.2 _).mono ?_
                   rw [HZ.out]
                   unfold Reck
                   rintro e' w3 ⟨⟨v3, rfl, b3, l3⟩, c3⟩
                   obtain ⟨A3, d3, rfl, -⟩ := b3.form; have H3 := Lib.hid (And.intro b3 (And.intro c3 l3)); clear b3 c3 l3)
                | (go_at_call 75
                   refine (Int_any _ (dg z) _ H3.out.1.lt).mono ?_
                   rw [HO.out.1]
                   first
                     | rw [if_pos rfl, val_dg]
                     | rw [if_neg (by simp)]
                   rintro e' w4 ⟨rfl, b4⟩
                   have H4 := Lib.hid (Chg.of_below (F := No) b4)
                   clear b4)
                | (go_at_call 76
                   refine (k_Special (H2.out.2.1.world (H3.out.2.1.trans H4.out)) 5).mono ?_
                   rw [HP.out]
                   rintro e' w5 ⟨rfl, -, c5⟩
                   have H5 := Lib.hid (((H2.out.2.2.2.trans H3.out.2.1).trans H4.out).trans c5)
                   have H6 := Lib.hid (H3.out.1.keep (H4.out.trans c5) (fun _ _ f => f))
                   clear c5)
                | fail)
              go_ret2
              exact ⟨rfl, H.out.world H5.out⟩
          | false =>
            have HO := Lib.hid (And.intro hok trivial)
            clear hok hs
            by_cases h5 : placeE L 8 1 5 = 0
            · rw [if_neg (by simp [h5])]
              have HP := Lib.hid h5
              clear h5
              cases hcn : namedOk (fetchV L 8 5) with
              | true =>
                rw [if_pos rfl]
                have HCN := Lib.hid hcn
                clear hcn
                go_enter Tryd.func46, Tryd.ntmps46
                go_wp2_with (first
                  | (go_at_call 71
                     have _t := tok
                     clear tok
                     refine (k_digits H.out a ha).mono ?_
                     rw [HD.out.1]
                     rintro e' w1 ⟨v1, rfl, b1, g1, c1⟩
                     obtain ⟨A1, d1, rfl, -⟩ := b1.form
                     have H1 := Lib.hid (And.intro b1 (And.intro g1 c1))
                     clear b1 g1 c1)
                  | (go_at_call 71
                     refine (k_digits H1.out.2.1 b hb).mono ?_
                     rw [HD.out.2]
                     rintro e' w2 ⟨v2, rfl, b2, g2, c2⟩
                     obtain ⟨A2, d2, rfl, -⟩ := b2.form
                     have H2 := Lib.hid (And.intro b2 (And.intro g2 (And.intro c2 (H1.out.2.2.trans c2))))
                     clear b2 g2 c2)
                  | (go_at_call 72
                     refine (reck_21 _ _ _ _ _ _ w2 (H1.out.1.keep H2.out.2.2.1 (fun _ _ f => f)) H2.out.1 HRR.out.1 HRR.out.2 _).mono ?_
                     rw [HZ.out]
                     unfold Reck
                     rintro e' w3 ⟨⟨v3, rfl, b3, l3⟩, c3⟩
                     obtain ⟨A3, d3, rfl, -⟩ := b3.form; have H3 := Lib.hid (And.intro b3 (And.intro c3 l3)); clear b3 c3 l3)
                  | (go_at_call 75
                     refine (Int_any _ (dg z) _ H3.out.1.lt).mono ?_
                     rw [HO.out.1]
                     first
                       | rw [if_pos rfl, val_dg]
                       | rw [if_neg (by simp)]
                     rintro e' w4 ⟨rfl, b4⟩
                     have H4 := Lib.hid (Chg.of_below (F := No) b4)
                     clear b4)
                  | (go_at_call 76
                     refine (k_Special (H2.out.2.1.world (H3.out.2.1.trans H4.out)) 5).mono ?_
                     rw [HP.out]
                     rintro e' w5 ⟨rfl, -, c5⟩
                     have H5 := Lib.hid (((H2.out.2.2.2.trans H3.out.2.1).trans H4.out).trans c5)
                     have H6 := Lib.hid (H3.out.1.keep (H4.out.trans c5) (fun _ _ f => f))
                     clear c5)
                  | (go_at_call 77
                     refine (k_bytes (H.out.also (K2 := fun v => ByteS v (fun _ => True) (.slice A3 (dg z).length d3) (dg z)) H5.out (fun G hG w9 c9 => (H6.out.keep c9 (fun b hb hg => by have h1 := (hG b hg).1; have h2 := H2.out.2.2.2.size; have h3 : w2.heap.size ≤ b := hb; omega)).more (fun _ _ _ => trivial))) (fetchV L 8 5) HC.out.1 _ (dg z) (fun F x hk => hk.2) (by have := H3.out.2.2; omega) HC.out.2).mono ?_
                     rw [HCN.out]
                     simp only [↓reduceIte, Bool.false_eq_true]
                     rintro e' w6 ⟨rfl, g7⟩)
                  | fail)
                go_ret2
                exact ⟨rfl, g7.mono fun _ _ hk => hk.1⟩
              | false =>
                rw [if_neg (by simp)]
                have HCN := Lib.hid hcn
                clear hcn
                go_enter Tryd.func46, Tryd.ntmps46
                go_wp2_with (first
                  | (go_at_call 71
                     have _t := tok
                     clear tok
                     refine (k_digits H.out a ha).mono ?_
                     rw [HD.out.1]
                     rintro e' w1 ⟨v1, rfl, b1, g1, c1⟩
                     obtain ⟨A1, d1, rfl, -⟩ := b1.form
                     have H1 := Lib.hid (And.intro b1 (And.intro g1 c1))
                     clear b1 g1 c1)
                  | (go_at_call 71
                     refine (k_digits H1.out.2.1 b hb).mono ?_
                     rw [HD.out.2]
                     rintro e' w2 ⟨v2, rfl, b2, g2, c2⟩
                     obtain ⟨A2, d2, rfl, -⟩ := b2.form
                     have H2 := Lib.hid (And.intro b2 (And.intro g2 (And.intro c2 (H1.out.2.2.trans c2))))
                     clear b2 g2 c2)
                  | (go_at_call 72
                     refine (reck_21 _ _ _ _ _ _ w2 (H1.out.1.keep H2.out.2.2.1 (fun _ _ f => f)) H2.out.1 HRR.out.1 HRR.out.2 _).mono ?_
                     rw [HZ.out]
                     unfold Reck
                     rintro e' w3 ⟨⟨v3, rfl, b3, l3⟩, c3⟩
                     obtain ⟨A3, d3, rfl, -⟩ := b3.form; have H3 := Lib.hid (And.intro b3 (And.intro c3 l3)); clear b3 c3 l3)
                  | (go_at_call 75
                     refine (Int_any _ (dg z) _ H3.out.1.lt).mono ?_
                     rw [HO.out.1]
                     first
                       | rw [if_pos rfl, val_dg]
                       | rw [if_neg (by simp)]
                     rintro e' w4 ⟨rfl, b4⟩
                     have H4 := Lib.hid (Chg.of_below (F := No) b4)
                     clear b4)
                  | (go_at_call 76
                     refine (k_Special (H2.out.2.1.world (H3.out.2.1.trans H4.out)) 5).mono ?_
                     rw [HP.out]
                     rintro e' w5 ⟨rfl, -, c5⟩
                     have H5 := Lib.hid (((H2.out.2.2.2.trans H3.out.2.1).trans H4.out).trans c5)
                     have H6 := Lib.hid (H3.out.1.keep (H4.out.trans c5) (fun _ _ f => f))
                     clear c5)
                  | (go_at_call 77
                     refine (k_bytes (H.out.also (K2 := fun v => ByteS v (fun _ => True) (.slice A3 (dg z).length d3) (dg z)) H5.out (fun G hG w9 c9 => (H6.out.keep c9 (fun b hb hg => by have h1 := (hG b hg).1; have h2 := H2.out.2.2.2.size; have h3 : w2.heap.size ≤ b := hb; omega)).more (fun _ _ _ => trivial))) (fetchV L 8 5) HC.out.1 _ (dg z) (fun F x hk => hk.2) (by have := H3.out.2.2; omega) HC.out.2).mono ?_
                     rw [HCN.out]
                     simp only [↓reduceIte, Bool.false_eq_true]
                     rintro e' w6 ⟨rfl, g7⟩)
                  | fail)
                go_ret2
                exact ⟨rfl, g7.mono fun _ _ hk => hk.1⟩
            · rw [if_pos h5]
              obtain ⟨e5, he5⟩ : ∃ e, placeE L 8 1 5 = e := ⟨_, rfl⟩
              rw [he5] at h5 ⊢
              have HP := Lib.hid he5
              have t5 : (e5 != 0) = true := by simpa using h5
              clear h5 he5
              go_enter Tryd.func46, Tryd.ntmps46
              go_wp2_with (first
                | (go_at_call 71
                   have _t := tok
                   clear tok
                   refine (k_digits H.out a ha).mono ?_
                   rw [HD.out.1]
                   rintro e' w1 ⟨v1, rfl, b1, g1, c1⟩
                   obtain ⟨A1, d1, rfl, -⟩ := b1.form
                   have H1 := Lib.hid (And.intro b1 (And.intro g1 c1))
                   clear b1 g1 c1)
                | (go_at_call 71
                   refine (k_digits H1.out.2.1 b hb).mono ?_
                   rw [HD.out.2]
                   rintro e' w2 ⟨v2, rfl, b2, g2, c2⟩
                   obtain ⟨A2, d2, rfl, -⟩ := b2.form
                   have H2 := Lib.hid (And.intro b2 (And.intro g2 (And.intro c2 (H1.out.2.2.trans c2))))
                   clear b2 g2 c2)
                | (go_at_call 72
                   refine (reck_21 _ _ _ _ _ _ w2 (H1.out.1.keep H2.out.2.2.1 (fun _ _ f => f)) H2.out.1 HRR.out.1 HRR.out.2 _).mono ?_
                   rw [HZ.out]
                   unfold Reck
                   rintro e' w3 ⟨⟨v3, rfl, b3, l3⟩, c3⟩
                   obtain ⟨A3, d3, rfl, -⟩ := b3.form; have H3 := Lib.hid (And.intro b3 (And.intro c3 l3)); clear b3 c3 l3)
                | (go_at_call 75
                   refine (Int_any _ (dg z) _ H3.out.1.lt).mono ?_
                   rw [HO.out.1]
                   first
                     | rw [if_pos rfl, val_dg]
                     | rw [if_neg (by simp)]
                   rintro e' w4 ⟨rfl, b4⟩
                   have H4 := Lib.hid (Chg.of_below (F := No) b4)
                   clear b4)
                | (go_at_call 76
                   refine (k_Special (H2.out.2.1.world (H3.out.2.1.trans H4.out)) 5).mono ?_
                   rw [HP.out]
                   rintro e' w5 ⟨rfl, -, c5⟩
                   have H5 := Lib.hid (((H2.out.2.2.2.trans H3.out.2.1).trans H4.out).trans c5)
                   have H6 := Lib.hid (H3.out.1.keep (H4.out.trans c5) (fun _ _ f => f))
                   clear c5)
                | fail)
              go_ret2
              exact ⟨rfl, H.out.world H5.out⟩

set_option maxRecDepth 100000 in
set_option maxHeartbeats 800000 in
theorem k_sums22 (h : MemK w0 w m L K) (a b : Int) (ha : In64 a) (hb : In64 b) (hn : L.length + 2 < 1073741823) :
    Calls Tryd.prog 46 #[.iface 27 (.pointer (some ⟨m, 0, none⟩)), .int .i64 22, .int .i64 a, .int .i64 b] w fun e w' => e = .returned (.tuple #[.int .i64 (sumR L 22 a b).1, .int .i64 (sumR L 22 a b).2.1]) ∧ MemK w0 w' m (sumR L 22 a b).2.2 K := by
  have H := Lib.hid h
  have tok : True := trivial
  have HC := Lib.hid (And.intro (fetch64 (fun _ hk => h.okAt hk) 8 5) hn)
  clear h
  unfold sumR
  obtain ⟨ra, hra⟩ : ∃ r, digOk L a = r := ⟨_, rfl⟩
  obtain ⟨rb, hrb⟩ : ∃ r, digOk L b = r := ⟨_, rfl⟩
  rw [hra, hrb]
  have HD := Lib.hid (And.intro hra hrb)
  clear hra hrb
  cases ra with
  | false =>
    rw [if_neg (by simp)]
    go_enter Tryd.func46, Tryd.ntmps46
    go_wp2_with (first
      | (go_at_call 71
         have _t := tok
         clear tok
         refine (k_digits H.out a ha).mono ?_
         rw [HD.out.1]
         rintro e' w1 ⟨v1, rfl, b1, g1, c1⟩
         obtain ⟨A1, d1, rfl, -⟩ := b1.form
         have H1 := Lib.hid (And.intro b1 (And.intro g1 c1))
         clear b1 g1 c1)
      | (go_at_call 71
         refine (k_digits H1.out.2.1 b hb).mono ?_
         rw [HD.out.2]
         rintro e' w2 ⟨v2, rfl, b2, g2, c2⟩
         obtain ⟨A2, d2, rfl, -⟩ := b2.form
         have H2 := Lib.hid (And.intro b2 (And.intro g2 (And.intro c2 (H1.out.2.2.trans c2))))
         clear b2 g2 c2)
      | fail)
    go_ret2
    exact ⟨rfl, H2.out.2.1⟩
  | true =>
    cases rb with
    | false =>
      rw [if_neg (by simp)]
      go_enter Tryd.func46, Tryd.ntmps46
      go_wp2_with (first
        | (go_at_call 71
           have _t := tok
           clear tok
           refine (k_digits H.out a ha).mono ?_
           rw [HD.out.1]
           rintro e' w1 ⟨v1, rfl, b1, g1, c1⟩
           obtain ⟨A1, d1, rfl, -⟩ := b1.form
           have H1 := Lib.hid (And.intro b1 (And.intro g1 c1))
           clear b1 g1 c1)
        | (go_at_call 71
           refine (k_digits H1.out.2.1 b hb).mono ?_
           rw [HD.out.2]
           rintro e' w2 ⟨v2, rfl, b2, g2, c2⟩
           obtain ⟨A2, d2, rfl, -⟩ := b2.form
           have H2 := Lib.hid (And.intro b2 (And.intro g2 (And.intro c2 (H1.out.2.2.trans c2))))
           clear b2 g2 c2)
        | fail)
      go_ret2
      exact ⟨rfl, H2.out.2.1⟩
    | true =>
      rw [if_pos (by simp)]
      have HRR := Lib.hid (And.intro (dig_right HD.out.1) (dig_right HD.out.2))
      obtain ⟨z, hz⟩ : ∃ z, sumZ 22 (val (digB L a)) (val (digB L b)) = z := ⟨_, rfl⟩
      rw [hz]
      have HZ := Lib.hid hz
      clear hz
      cases z with
      | none =>
        dsimp only
        go_enter Tryd.func46, Tryd.ntmps46
        go_wp2_with (first
          | (go_at_call 71
             have _t := tok
             clear tok
             refine (k_digits H.out a ha).mono ?_
             rw [HD.out.1]
             rintro e' w1 ⟨v1, rfl, b1, g1, c1⟩
             obtain ⟨A1, d1, rfl, -⟩ := b1.form
             have H1 := Lib.hid (And.intro b1 (And.intro g1 c1))
             clear b1 g1 c1)
          | (go_at_call 71
             refine (k_digits H1.out.2.1 b hb).mono ?_
             rw [HD.out.2]
             rintro e' w2 ⟨v2, rfl, b2, g2, c2⟩
             obtain ⟨A2, d2, rfl, -⟩ := b2.form
             have H2 := Lib.hid (And.intro b2 (And.intro g2 (And.intro c2 (H1.out.2.2.trans c2))))
             clear b2 g2 c2)
          | (go_at_call 73
             refine (reck_22 _ _ _ _ _ _ w2 (H1.out.1.keep H2.out.2.2.1 (fun _ _ f => f)) H2.out.1 HRR.out.1 HRR.out.2).mono ?_
             rw [HZ.out]
             unfold Reck
             rintro e' w3 ⟨⟨k, k0, rfl⟩, c3⟩
             have H3 := Lib.hid c3; clear c3)
          | fail)
        go_ret2
        exact ⟨rfl, H2.out.2.1.world H3.out⟩
      | some z =>
        dsimp only
        by_cases hs : z ≤ 1073741823
        · rw [if_pos hs]
          have hok : intOk (dg z) = true := by
            unfold intOk
            have h8 := dg_short (n := z) (by omega)
            have h4 : ¬ (dg z).length = 8 := by
              have h5 := (dg_len z 4).2 (by have : pw 4 = 4294967296 := by decide
                                            omega)
              omega
            rw [dg_rightD (by omega), decide_eq_true h8, decide_eq_false h4]
            rfl
          have t1 : decide ((z : Int) ≤ 1073741823) = true := decide_eq_true (by omega)
          have hsv : smallV (z : Int) = 2 * (z : Int) + 1 := by unfold smallV; rw [if_pos (by omega)]
          have hse : smallE (z : Int) = 0 := by unfold smallE; rw [if_pos (by omega)]
          have HO := Lib.hid (And.intro hok (And.intro hsv hse))
          clear hok hsv hse
          go_enter Tryd.func46, Tryd.ntmps46
          go_wp2_with (first
            | (go_at_call 71
               have _t := tok
               clear tok
               refine (k_digits H.out a ha).mono ?_
               rw [HD.out.1]
               rintro e' w1 ⟨v1, rfl, b1, g1, c1⟩
               obtain ⟨A1, d1, rfl, -⟩ := b1.form
               have H1 := Lib.hid (And.intro b1 (And.intro g1 c1))
               clear b1 g1 c1)
            | (go_at_call 71
               refine (k_digits H1.out.2.1 b hb).mono ?_
               rw [HD.out.2]
               rintro e' w2 ⟨v2, rfl, b2, g2, c2⟩
               obtain ⟨A2, d2, rfl, -⟩ := b2.form
               have H2 := Lib.hid (And.intro b2 (And.intro g2 (And.intro c2 (H1.out.2.2.trans c2))))
               clear b2 g2 c2)
            | (go_at_call 73
               refine (reck_22 _ _ _ _ _ _ w2 (H1.out.1.keep H2.out.2.2.1 (fun _ _ f => f)) H2.out.1 HRR.out.1 HRR.out.2).mono ?_
               rw [HZ.out]
               unfold Reck
               rintro e' w3 ⟨⟨v3, rfl, b3, l3⟩, c3⟩
               obtain ⟨A3, d3, rfl, -⟩ := b3.form; have H3 := Lib.hid (And.intro b3 (And.intro c3 l3)); clear b3 c3 l3)
            | (go_at_call 75
               refine (Int_any _ (dg z) _ H3.out.1.lt).mono ?_
               rw [HO.out.1, if_pos rfl, val_dg]
               rintro e' w4 ⟨rfl, b4⟩
               have H4 := Lib.hid (Chg.of_below (F := No) b4)
               clear b4)
            | (go_at_call 69
               refine (Small_any (z : Int) (by omega) (by omega) _).mono ?_
               rw [HO.out.2.1, HO.out.2.2]
               rintro e' w5 ⟨rfl, rfl⟩)
            | fail)
          go_ret2
          exact ⟨rfl, H2.out.2.1.world (H3.out.2.1.trans H4.out)⟩
        · rw [if_neg hs]
          cases hok : intOk (dg z) with
          | true =>
            have t1 : decide ((z : Int) ≤ 1073741823) = false := decide_eq_false (by omega)
            have HO := Lib.hid (And.intro hok trivial)
            clear hok hs
            by_cases h5 : placeE L 8 1 5 = 0
            · rw [if_neg (by simp [h5])]
              have HP := Lib.hid h5
              clear h5
              cases hcn : namedOk (fetchV L 8 5) with
              | true =>
                rw [if_pos rfl]
                have HCN := Lib.hid hcn
                clear hcn
                go_enter Tryd.func46, Tryd.ntmps46
                go_wp2_with (first
                  | (go_at_call 71
                     have _t := tok
                     clear tok
                     refine (k_digits H.out a ha).mono ?_
                     rw [HD.out.1]
                     rintro e' w1 ⟨v1, rfl, b1, g1, c1⟩
                     obtain ⟨A1, d1, rfl, -⟩ := b1.form
                     have H1 := Lib.hid (And.intro b1 (And.intro g1 c1))
                     clear b1 g1 c1)
                  | (go_at_call 71
                     refine (k_digits H1.out.2.1 b hb).mono ?_
                     rw [HD.out.2]
                     rintro e' w2 ⟨v2, rfl, b2, g2, c2⟩
                     obtain ⟨A2, d2, rfl, -⟩ := b2.form
                     have H2 := Lib.hid (And.intro b2 (And.intro g2 (And.intro c2 (H1.out.2.2.trans c2))))
                     clear b2 g2 c2)
                  | (go_at_call 73
                     refine (reck_22 _ _ _ _ _ _ w2 (H1.out.1.keep H2.out.2.2.1 (fun _ _ f => f)) H2.out.1 HRR.out.1 HRR.out.2).mono ?_
                     rw [HZ.out]
                     unfold Reck
                     rintro e' w3 ⟨⟨v3, rfl, b3, l3⟩, c3⟩
                     obtain ⟨A3, d3, rfl, -⟩ := b3.form; have H3 := Lib.hid (And.intro b3 (And.intro c3 l3)); clear b3 c3 l3)
                  | (go_at_call 75
                     refine (Int_any _ (dg z) _ H3.out.1.lt).mono ?_
                     rw [HO.out.1]
                     first
                       | rw [if_pos rfl, val_dg]
                       | rw [if_neg (by simp)]
                     rintro e' w4 ⟨rfl, b4⟩
                     have H4 := Lib.hid (Chg.of_below (F := No) b4)
                     clear b4)
                  | (go_at_call 76
                     refine (k_Special (H2.out.2.1.world (H3.out.2.1.trans H4.out)) 5).mono ?_
                     rw [HP.out]
                     rintro e' w5 ⟨rfl, -, c5⟩
                     have H5 := Lib.hid (((H2.out.2.2.2.trans H3.out.2.1).trans H4.out).trans c5)
                     have H6 := Lib.hid (H3.out.1.keep (H4.out.trans c5) (fun _ _ f => f))
                     clear c5)
                  | (go_at_call 77
                     refine (k_bytes (H.out.also (K2 := fun v => ByteS v (fun _ => True) (.slice A3 (dg z).length d3) (dg z)) H5.out (fun G hG w9 c9 => (H6.out.keep c9 (fun b hb hg => by have h1 := (hG b hg).1; have h2 := H2.out.2.2.2.size; have h3 : w2.heap.size ≤ b := hb; omega)).more (fun _ _ _ => trivial))) (fetchV L 8 5) HC.out.1 _ (dg z) (fun F x hk => hk.2) (by have := H3.out.2.2; omega) HC.out.2).mono ?_
                     rw [HCN.out]
                     simp only [↓reduceIte, Bool.false_eq_true]
                     rintro e' w6 ⟨rfl, g7⟩)
                  | fail)
                go_ret2
                exact ⟨rfl, g7.mono fun _ _ hk => hk.1⟩
              | false =>
                rw [if_neg (by simp)]
                have HCN := Lib.hid hcn
                clear hcn
                go_enter Tryd.func46, Tryd.ntmps46
                go_wp2_with (first
                  | (go_at_call 71
                     have _t := tok
                     clear tok
                     refine (k_digits H.out a ha).mono ?_
                     rw [HD.out.1]
                     rintro e' w1 ⟨v1, rfl, b1, g1, c1⟩
                     obtain ⟨A1, d1, rfl, -⟩ := b1.form
                     have H1 := Lib.hid (And.intro b1 (And.intro g1 c1))
                     clear b1 g1 c1)
                  | (go_at_call 71
                     refine (k_digits H1.out.2.1 b hb).mono ?_
                     rw [HD.out.2]
                     rintro e' w2 ⟨v2, rfl, b2, g2, c2⟩
                     obtain ⟨A2, d2, rfl, -⟩ := b2.form
                     have H2 := Lib.hid (And.intro b2 (And.intro g2 (And.intro c2 (H1.out.2.2.trans c2))))
                     clear b2 g2 c2)
                  | (go_at_call 73
                     refine (reck_22 _ _ _ _ _ _ w2 (H1.out.1.keep H2.out.2.2.1 (fun _ _ f => f)) H2.out.1 HRR.out.1 HRR.out.2).mono ?_
                     rw [HZ.out]
                     unfold Reck
                     rintro e' w3 ⟨⟨v3, rfl, b3, l3⟩, c3⟩
                     obtain ⟨A3, d3, rfl, -⟩ := b3.form; have H3 := Lib.hid (And.intro b3 (And.intro c3 l3)); clear b3 c3 l3)
                  | (go_at_call 75
                     refine (Int_any _ (dg z) _ H3.out.1.lt).mono ?_
                     rw [HO.out.1]
                     first
                       | rw [if_pos rfl, val_dg]
                       | rw [if_neg (by simp)]
                     rintro e' w4 ⟨rfl, b4⟩
                     have H4 := Lib.hid (Chg.of_below (F := No) b4)
                     clear b4)
                  | (go_at_call 76
                     refine (k_Special (H2.out.2.1.world (H3.out.2.1.trans H4.out)) 5).mono ?_
                     rw [HP.out]
                     rintro e' w5 ⟨rfl, -, c5⟩
                     have H5 := Lib.hid (((H2.out.2.2.2.trans H3.out.2.1).trans H4.out).trans c5)
                     have H6 := Lib.hid (H3.out.1.keep (H4.out.trans c5) (fun _ _ f => f))
                     clear c5)
                  | (go_at_call 77
                     refine (k_bytes (H.out.also (K2 := fun v => ByteS v (fun _ => True) (.slice A3 (dg z).length d3) (dg z)) H5.out (fun G hG w9 c9 => (H6.out.keep c9 (fun b hb hg => by have h1 := (hG b hg).1; have h2 := H2.out.2.2.2.size; have h3 : w2.heap.size ≤ b := hb; omega)).more (fun _ _ _ => trivial))) (fetchV L 8 5) HC.out.1 _ (dg z) (fun F x hk => hk.2) (by have := H3.out.2.2; omega) HC.out.2).mono ?_
                     rw [HCN.out]
                     simp only [↓reduceIte, Bool.false_eq_true]
                     rintro e' w6 ⟨rfl, g7⟩)
                  | fail)
                go_ret2
                exact ⟨rfl, g7.mono fun _ _ hk => hk.1⟩
            · rw [if_pos h5]
              obtain ⟨e5, he5⟩ : ∃ e, placeE L 8 1 5 = e := ⟨_, rfl⟩
              rw [he5] at h5 ⊢
              have HP := Lib.hid he5
              have t5 : (e5 != 0) = true := by simpa using h5
              clear h5 he5
              go_enter Tryd.func46, Tryd.ntmps46
              go_wp2_with (first
                | (go_at_call 71
                   have _t := tok
                   clear tok
                   refine (k_digits H.out a ha).mono ?_
                   rw [HD.out.1]
                   rintro e' w1 ⟨v1, rfl, b1, g1, c1⟩
                   obtain ⟨A1, d1, rfl, -⟩ := b1.form
                   have H1 := Lib.hid (And.intro b1 (And.intro g1 c1))
                   clear b1 g1 c1)
                | (go_at_call 71
                   refine (k_digits H1.out.2.1 b hb).mono ?_
                   rw [HD.out.2]
                   rintro e' w2 ⟨v2, rfl, b2, g2, c2⟩
                   obtain ⟨A2, d2, rfl, -⟩ := b2.form
                   have H2 := Lib.hid (And.intro b2 (And.intro g2 (And.intro c2 (H1.out.2.2.trans c2))))
                   clear b2 g2 c2)
                | (go_at_call 73
                   refine (reck_22 _ _ _ _ _ _ w2 (H1.out.1.keep H2.out.2.2.1 (fun _ _ f => f)) H2.out.1 HRR.out.1 HRR.out.2).mono ?_
                   rw [HZ.out]
                   unfold Reck
                   rintro e' w3 ⟨⟨v3, rfl, b3, l3⟩, c3⟩
                   obtain ⟨A3, d3, rfl, -⟩ := b3.form; have H3 := Lib.hid (And.intro b3 (And.intro c3 l3)); clear b3 c3 l3)
                | (go_at_call 75
                   refine (Int_any _ (dg z) _ H3.out.1.lt).mono ?_
                   rw [HO.out.1]
                   first
                     | rw [if_pos rfl, val_dg]
                     | rw [if_neg (by simp)]
                   rintro e' w4 ⟨rfl, b4⟩
                   have H4 := Lib.hid (Chg.of_below (F := No) b4)
                   clear b4)
                | (go_at_call 76
                   refine (k_Special (H2.out.2.1.world (H3.out.2.1.trans H4.out)) 5).mono ?_
                   rw [HP.out]
                   rintro e' w5 ⟨rfl, -, c5⟩
                   have H5 := Lib.hid (((H2.out.2.2.2.trans H3.out.2.1).trans H4.out).trans c5)
                   have H6 := Lib.hid (H3.out.1.keep (H4.out.trans c5) (fun _ _ f => f))
                   clear c5)
                | fail)
              go_ret2
              exact ⟨rfl, H.out.world H5.out⟩
          | false =>
            have HO := Lib.hid (And.intro hok trivial)
            clear hok hs
            by_cases h5 : placeE L 8 1 5 = 0
            · rw [if_neg (by simp [h5])]
              have HP := Lib.hid h5
              clear h5
              cases hcn : namedOk (fetchV L 8 5) with
              | true =>
                rw [if_pos rfl]
                have HCN := Lib.hid hcn
                clear hcn
                go_enter Tryd.func46, Tryd.ntmps46
                go_wp2_with (first
                  | (go_at_call 71
                     have _t := tok
                     clear tok
                     refine (k_digits H.out a ha).mono ?_
                     rw [HD.out.1]
                     rintro e' w1 ⟨v1, rfl, b1, g1, c1⟩
                     obtain ⟨A1, d1, rfl, -⟩ := b1.form
                     have H1 := Lib.hid (And.intro b1 (And.intro g1 c1))
                     clear b1 g1 c1)
                  | (go_at_call 71
                     refine (k_digits H1.out.2.1 b hb).mono ?_
                     rw [HD.out.2]
                     rintro e' w2 ⟨v2, rfl, b2, g2, c2⟩
                     obtain ⟨A2, d2, rfl, -⟩ := b2.form
                     have H2 := Lib.hid (And.intro b2 (And.intro g2 (And.intro c2 (H1.out.2.2.trans c2))))
                     clear b2 g2 c2)
                  | (go_at_call 73
                     refine (reck_22 _ _ _ _ _ _ w2 (H1.out.1.keep H2.out.2.2.1 (fun _ _ f => f)) H2.out.1 HRR.out.1 HRR.out.2).mono ?_
                     rw [HZ.out]
                     unfold Reck
                     rintro e' w3 ⟨⟨v3, rfl, b3, l3⟩, c3⟩
                     obtain ⟨A3, d3, rfl, -⟩ := b3.form; have H3 := Lib.hid (And.intro b3 (And.intro c3 l3)); clear b3 c3 l3)
                  | (go_at_call 75
                     refine (Int_any _ (dg z) _ H3.out.1.lt).mono ?_
                     rw [HO.out.1]
                     first
                       | rw [if_pos rfl, val_dg]
                       | rw [if_neg (by simp)]
                     rintro e' w4 ⟨rfl, b4⟩
                     have H4 := Lib.hid (Chg.of_below (F := No) b4)
                     clear b4)
                  | (go_at_call 76
                     refine (k_Special (H2.out.2.1.world (H3.out.2.1.trans H4.out)) 5).mono ?_
                     rw [HP.out]
                     rintro e' w5 ⟨rfl, -, c5⟩
                     have H5 := Lib.hid (((H2.out.2.2.2.trans H3.out.2.1).trans H4.out).trans c5)
                     have H6 := Lib.hid (H3.out.1.keep (H4.out.trans c5) (fun _ _ f => f))
                     clear c5)
                  | (go_at_call 77
                     refine (k_bytes (H.out.also (K2 := fun v => ByteS v (fun _ => True) (.slice A3 (dg z).length d3) (dg z)) H5.out (fun G hG w9 c9 => (H6.out.keep c9 (fun b hb hg => by have h1 := (hG b hg).1; have h2 := H2.out.2.2.2.size; have h3 : w2.heap.size ≤ b := hb; omega)).more (fun _ _ _ => trivial))) (fetchV L 8 5) HC.out.1 _ (dg z) (fun F x hk => hk.2) (by have := H3.out.2.2; omega) HC.out.2).mono ?_
                     rw [HCN.out]
                     simp only [↓reduceIte, Bool.false_eq_true]
                     rintro e' w6 ⟨rfl, g7⟩)
                  | fail)
                go_ret2
                exact ⟨rfl, g7.mono fun _ _ hk => hk.1⟩
              | false =>
                rw [if_neg (by simp)]
                have HCN := Lib.hid hcn
                clear hcn
                go_enter Tryd.func46, Tryd.ntmps46
                go_wp2_with (first
                  | (go_at_call 71
                     have _t := tok
                     clear tok
                     refine (k_digits H.out a ha).mono ?_
                     rw [HD.out.1]
                     rintro e' w1 ⟨v1, rfl, b1, g1, c1⟩
                     obtain ⟨A1, d1, rfl, -⟩ := b1.form
                     have H1 := Lib.hid (And.intro b1 (And.intro g1 c1))
                     clear b1 g1 c1)
                  | (go_at_call 71
                     refine (k_digits H1.out.2.1 b hb).mono ?_
                     rw [HD.out.2]
                     rintro e' w2 ⟨v2, rfl, b2, g2, c2⟩
                     obtain ⟨A2, d2, rfl, -⟩ := b2.form
                     have H2 := Lib.hid (And.intro b2 (And.intro g2 (And.intro c2 (H1.out.2.2.trans c2))))
                     clear b2 g2 c2)
                  | (go_at_call 73
                     refine (reck_22 _ _ _ _ _ _ w2 (H1.out.1.keep H2.out.2.2.1 (fun _ _ f => f)) H2.out.1 HRR.out.1 HRR.out.2).mono ?_
                     rw [HZ.out]
                     unfold Reck
                     rintro e' w3 ⟨⟨v3, rfl, b3, l3⟩, c3⟩
                     obtain ⟨A3, d3, rfl, -⟩ := b3.form; have H3 := Lib.hid (And.intro b3 (And.intro c3 l3)); clear b3 c3 l3)
                  | (go_at_call 75
                     refine (Int_any _ (dg z) _ H3.out.1.lt).mono ?_
                     rw [HO.out.1]
                     first
                       | rw [if_pos rfl, val_dg]
                       | rw [if_neg (by simp)]
                     rintro e' w4 ⟨rfl, b4⟩
                     have H4 := Lib.hid (Chg.of_below (F := No) b4)
                     clear b4)
                  | (go_at_call 76
                     refine (k_Special (H2.out.2.1.world (H3.out.2.1.trans H4.out)) 5).mono ?_
                     rw [HP.out]
                     rintro e' w5 ⟨rfl, -, c5⟩
                     have H5 := Lib.hid (((H2.out.2.2.2.trans H3.out.2.1).trans H4.out).trans c5)
                     have H6 := Lib.hid (H3.out.1.keep (H4.out.trans c5) (fun _ _ f => f))
                     clear c5)
                  | (go_at_call 77
                     refine (k_bytes (H.out.also (K2 := fun v => ByteS v (fun _ => True) (.slice A3 (dg z).length d3) (dg z)) H5.out (fun G hG w9 c9 => (H6.out.keep c9 (fun b hb hg => by have h1 := (hG b hg).1; have h2 := H2.out.2.2.2.size; have h3 : w2.heap.size ≤ b := hb; omega)).more (fun _ _ _ => trivial))) (fetchV L 8 5) HC.out.1 _ (dg z) (fun F x hk => hk.2) (by have := H3.out.2.2; omega) HC.out.2).mono ?_
                     rw [HCN.out]
                     simp only [↓reduceIte, Bool.false_eq_true]
                     rintro e' w6 ⟨rfl, g7⟩)
                  | fail)
                go_ret2
                exact ⟨rfl, g7.mono fun _ _ hk => hk.1⟩
            · rw [if_pos h5]
              obtain ⟨e5, he5⟩ : ∃ e, placeE L 8 1 5 = e := ⟨_, rfl⟩
              rw [he5] at h5 ⊢
              have HP := Lib.hid he5
              have t5 : (e5 != 0) = true := by simpa using h5
              clear h5 he5
              go_enter Tryd.func46, Tryd.ntmps46
              go_wp2_with (first
                | (go_at_call 71
                   have _t := tok
                   clear tok
                   refine (k_digits H.out a ha).mono ?_
                   rw [HD.out.1]
                   rintro e' w1 ⟨v1, rfl, b1, g1, c1⟩
                   obtain ⟨A1, d1, rfl, -⟩ := b1.form
                   have H1 := Lib.hid (And.intro b1 (And.intro g1 c1))
                   clear b1 g1 c1)
                | (go_at_call 71
                   refine (k_digits H1.out.2.1 b hb).mono ?_
                   rw [HD.out.2]
                   rintro e' w2 ⟨v2, rfl, b2, g2, c2⟩
                   obtain ⟨A2, d2, rfl, -⟩ := b2.form
                   have H2 := Lib.hid (And.intro b2 (And.intro g2 (And.intro c2 (H1.out.2.2.trans c2))))
                   clear b2 g2 c2)
                | (go_at_call 73
                   refine (reck_22 _ _ _ _ _ _ w2 (H1.out.1.keep H2.out.2.2.1 (fun _ _ f => f)) H2.out.1 HRR.out.1 HRR.out.2).mono ?_
                   rw [HZ.out]
                   unfold Reck
                   rintro e' w3 ⟨⟨v3, rfl, b3, l3⟩, c3⟩
                   obtain ⟨A3, d3, rfl, -⟩ := b3.form; have H3 := Lib.hid (And.intro b3 (And.intro c3 l3)); clear b3 c3 l3)
                | (go_at_call 75
                   refine (Int_any _ (dg z) _ H3.out.1.lt).mono ?_
                   rw [HO.out.1]
                   first
                     | rw [if_pos rfl, val_dg]
                     | rw [if_neg (by simp)]
                   rintro e' w4 ⟨rfl, b4⟩
                   have H4 := Lib.hid (Chg.of_below (F := No) b4)
                   clear b4)
                | (go_at_call 76
                   refine (k_Special (H2.out.2.1.world (H3.out.2.1.trans H4.out)) 5).mono ?_
                   rw [HP.out]
                   rintro e' w5 ⟨rfl, -, c5⟩
                   have H5 := Lib.hid (((H2.out.2.2.2.trans H3.out.2.1).trans H4.out).trans c5)
                   have H6 := Lib.hid (H3.out.1.keep (H4.out.trans c5) (fun _ _ f => f))
                   clear c5)
                | fail)
              go_ret2
              exact ⟨rfl, H.out.world H5.out⟩

set_option maxRecDepth 100000 in
set_option maxHeartbeats 800000 in
theorem k_sums29 (h : MemK w0 w m L K) (a b : Int) (ha : In64 a) (hb : In64 b) (hn : L.length + 2 < 1073741823) :
    Calls Tryd.prog 46 #[.iface 27 (.pointer (some ⟨m, 0, none⟩)), .int .i64 29, .int .i64 a, .int .i64 b] w fun e w' => e = .returned (.tuple #[.int .i64 (sumR L 29 a b).1, .int .i64 (sumR L 29 a b).2.1]) ∧ MemK w0 w' m (sumR L 29 a b).2.2 K := by
  have H := Lib.hid h
  have tok : True := trivial
  have HC := Lib.hid (And.intro (fetch64 (fun _ hk => h.okAt hk) 8 5) hn)
  clear h
  unfold sumR
  obtain ⟨ra, hra⟩ : ∃ r, digOk L a = r := ⟨_, rfl⟩
  obtain ⟨rb, hrb⟩ : ∃ r, digOk L b = r := ⟨_, rfl⟩
  rw [hra, hrb]
  have HD := Lib.hid (And.intro hra hrb)
  clear hra hrb
  cases ra with
  | false =>
    rw [if_neg (by simp)]
    go_enter Tryd.func46, Tryd.ntmps46
    go_wp2_with (first
      | (go_at_call 71
         have _t := tok
         clear tok
         refine (k_digits H.out a ha).mono ?_
         rw [HD.out.1]
         rintro e' w1 ⟨v1, rfl, b1, g1, c1⟩
         obtain ⟨A1, d1, rfl, -⟩ := b1.form
         have H1 := Lib.hid (And.intro b1 (And.intro g1 c1))
         clear b1 g1 c1)
      | (go_at_call 71
         refine (k_digits H1.out.2.1 b hb).mono ?_
         rw [HD.out.2]
         rintro e' w2 ⟨v2, rfl, b2, g2, c2⟩
         obtain ⟨A2, d2, rfl, -⟩ := b2.form
         have H2 := Lib.hid (And.intro b2 (And.intro g2 (And.intro c2 (H1.out.2.2.trans c2))))
         clear b2 g2 c2)
      | fail)
    go_ret2
    exact ⟨rfl, H2.out.2.1⟩
  | true =>
    cases rb with
    | false =>
      rw [if_neg (by simp)]
      go_enter Tryd.func46, Tryd.ntmps46
      go_wp2_with (first
        | (go_at_call 71
           have _t := tok
           clear tok
           refine (k_digits H.out a ha).mono ?_
           rw [HD.out.1]
           rintro e' w1 ⟨v1, rfl, b1, g1, c1⟩
           obtain ⟨A1, d1, rfl, -⟩ := b1.form
           have H1 := Lib.hid (And.intro b1 (And.intro g1 c1))
           clear b1 g1 c1)
        | (go_at_call 71
           refine (k_digits H1.out.2.1 b hb).mono ?_
           rw [HD.out.2]
           rintro e' w2 ⟨v2, rfl, b2, g2, c2⟩
           obtain ⟨A2, d2, rfl, -⟩ := b2.form
           have H2 := Lib.hid (And.intro b2 (And.intro g2 (And.intro c2 (H1.out.2.2.trans c2))))
           clear b2 g2 c2)
        | fail)
      go_ret2
      exact ⟨rfl, H2.out.2.1⟩
    | true =>
      rw [if_pos (by simp)]
      have HRR := Lib.hid (And.intro (dig_right HD.out.1) (dig_right HD.out.2))
      obtain ⟨z, hz⟩ : ∃ z, sumZ 29 (val (digB L a)) (val (digB L b)) = z := ⟨_, rfl⟩
      rw [hz]
      have HZ := Lib.hid hz
      clear hz
      cases z with
      | none =>
        dsimp only
        go_enter Tryd.func46, Tryd.ntmps46
        go_wp2_with (first
          | (go_at_call 71
             have _t := tok
             clear tok
             refine (k_digits H.out a ha).mono ?_
             rw [HD.out.1]
             rintro e' w1 ⟨v1, rfl, b1, g1, c1⟩
             obtain ⟨A1, d1, rfl, -⟩ := b1.form
             have H1 := Lib.hid (And.intro b1 (And.intro g1 c1))
             clear b1 g1 c1)
          | (go_at_call 71
             refine (k_digits H1.out.2.1 b hb).mono ?_
             rw [HD.out.2]
             rintro e' w2 ⟨v2, rfl, b2, g2, c2⟩
             obtain ⟨A2, d2, rfl, -⟩ := b2.form
             have H2 := Lib.hid (And.intro b2 (And.intro g2 (And.intro c2 (H1.out.2.2.trans c2))))
             clear b2 g2 c2)
          | (go_at_call 74
             refine (reck_29 _ _ _ _ _ _ w2 (H1.out.1.keep H2.out.2.2.1 (fun _ _ f => f)) H2.out.1 HRR.out.1 HRR.out.2).mono ?_
             rw [HZ.out]
             unfold Reck
             rintro e' w3 ⟨⟨k, k0, rfl⟩, c3⟩
             have H3 := Lib.hid c3; clear c3)
          | fail)
        go_ret2
        exact ⟨rfl, H2.out.2.1.world H3.out⟩
      | some z =>
        dsimp only
        by_cases hs : z ≤ 1073741823
        · rw [if_pos hs]
          have hok : intOk (dg z) = true := by
            unfold intOk
            have h8 := dg_short (n := z) (by omega)
            have h4 : ¬ (dg z).length = 8 := by
              have h5 := (dg_len z 4).2 (by have : pw 4 = 4294967296 := by decide
                                            omega)
              omega
            rw [dg_rightD (by omega), decide_eq_true h8, decide_eq_false h4]
            rfl
          have t1 : decide ((z : Int) ≤ 1073741823) = true := decide_eq_true (by omega)
          have hsv : smallV (z : Int) = 2 * (z : Int) + 1 := by unfold smallV; rw [if_pos (by omega)]
          have hse : smallE (z : Int) = 0 := by unfold smallE; rw [if_pos (by omega)]
          have HO := Lib.hid (And.intro hok (And.intro hsv hse))
          clear hok hsv hse
          go_enter Tryd.func46, Tryd.ntmps46
          go_wp2_with (first
            | (go_at_call 71
               have _t := tok
               clear tok
               refine (k_digits H.out a ha).mono ?_
               rw [HD.out.1]
               rintro e' w1 ⟨v1, rfl, b1, g1, c1⟩
               obtain ⟨A1, d1, rfl, -⟩ := b1.form
               have H1 := Lib.hid (And.intro b1 (And.intro g1 c1))
               clear b1 g1 c1)
            | (go_at_call 71
               refine (k_digits H1.out.2.1 b hb).mono ?_
               rw [HD.out.2]
               rintro e' w2 ⟨v2, rfl, b2, g2, c2⟩
               obtain ⟨A2, d2, rfl, -⟩ := b2.form
               have H2 := Lib.hid (And.intro b2 (And.intro g2 (And.intro c2 (H1.out.2.2.trans c2))))
               clear b2 g2 c2)
            | (go_at_call 74
               refine (reck_29 _ _ _ _ _ _ w2 (H1.out.1.keep H2.out.2.2.1 (fun _ _ f => f)) H2.out.1 HRR.out.1 HRR.out.2).mono ?_
               rw [HZ.out]
               unfold Reck
               rintro e' w3 ⟨⟨v3, rfl, b3, l3⟩, c3⟩
               obtain ⟨A3, d3, rfl, -⟩ := b3.form; have H3 := Lib.hid (And.intro b3 (And.intro c3 l3)); clear b3 c3 l3)
            | (go_at_call 75
               refine (Int_any _ (dg z) _ H3.out.1.lt).mono ?_
               rw [HO.out.1, if_pos rfl, val_dg]
               rintro e' w4 ⟨rfl, b4⟩
               have H4 := Lib.hid (Chg.of_below (F := No) b4)
               clear b4)
            | (go_at_call 69
               refine (Small_any (z : Int) (by omega) (by omega) _).mono ?_
               rw [HO.out.2.1, HO.out.2.2]
               rintro e' w5 ⟨rfl, rfl⟩)
            | fail)
          go_ret2
          exact ⟨rfl, H2.out.2.1.world (H3.out.2.1.trans H4.out)⟩
        · rw [if_neg hs]
          cases hok : intOk (dg z) with
          | true =>
            have t1 : decide ((z : Int) ≤ 1073741823) = false := decide_eq_false (by omega)
            have HO := Lib.hid (And.intro hok trivial)
            clear hok hs
            by_cases h5 : placeE L 8 1 5 = 0
            · rw [if_neg (by simp [h5])]
              have HP := Lib.hid h5
              clear h5
              cases hcn : namedOk (fetchV L 8 5) with
              | true =>
                rw [if_pos rfl]
                have HCN := Lib.hid hcn
                clear hcn
                go_enter Tryd.func46, Tryd.ntmps46
                go_wp2_with (first
                  | (go_at_call 71
                     have _t := tok
                     clear tok
                     refine (k_digits H.out a ha).mono ?_
                     rw [HD.out.1]
                     rintro e' w1 ⟨v1, rfl, b1, g1, c1⟩
                     obtain ⟨A1, d1, rfl, -⟩ := b1.form
                     have H1 := Lib.hid (And.intro b1 (And.intro g1 c1))
                     clear b1 g1 c1)
                  | (go_at_call 71
                     refine (k_digits H1.out.2.1 b hb).mono ?_
                     rw [HD.out.2]
                     rintro e' w2 ⟨v2, rfl, b2, g2, c2⟩
                     obtain ⟨A2, d2, rfl, -⟩ := b2.form
                     have H2 := Lib.hid (And.intro b2 (And.intro g2 (And.intro c2 (H1.out.2.2.trans c2))))
                     clear b2 g2 c2)
                  | (go_at_call 74
                     refine (reck_29 _ _ _ _ _ _ w2 (H1.out.1.keep H2.out.2.2.1 (fun _ _ f => f)) H2.out.1 HRR.out.1 HRR.out.2).mono ?_
                     rw [HZ.out]
                     unfold Reck
                     rintro e' w3 ⟨⟨v3, rfl, b3, l3⟩, c3⟩
                     obtain ⟨A3, d3, rfl, -⟩ := b3.form; have H3 := Lib.hid (And.intro b3 (And.intro c3 l3)); clear b3 c3 l3)
                  | (go_at_call 75
                     refine (Int_any _ (dg z) _ H3.out.1.lt).mono ?_
                     rw [HO.out.1]
                     first
                       | rw [if_pos rfl, val_dg]
                       | rw [if_neg (by simp)]
                     rintro e' w4 ⟨rfl, b4⟩
                     have H4 := Lib.hid (Chg.of_below (F := No) b4)
                     clear b4)
                  | (go_at_call 76
                     refine (k_Special (H2.out.2.1.world (H3.out.2.1.trans H4.out)) 5).mono ?_
                     rw [HP.out]
                     rintro e' w5 ⟨rfl, -, c5⟩
                     have H5 := Lib.hid (((H2.out.2.2.2.trans H3.out.2.1).trans H4.out).trans c5)
                     have H6 := Lib.hid (H3.out.1.keep (H4.out.trans c5) (fun _ _ f => f))
                     clear c5)
                  | (go_at_call 77
                     refine (k_bytes (H.out.also (K2 := fun v => ByteS v (fun _ => True) (.slice A3 (dg z).length d3) (dg z)) H5.out (fun G hG w9 c9 => (H6.out.keep c9 (fun b hb hg => by have h1 := (hG b hg).1; have h2 := H2.out.2.2.2.size; have h3 : w2.heap.size ≤ b := hb; omega)).more (fun _ _ _ => trivial))) (fetchV L 8 5) HC.out.1 _ (dg z) (fun F x hk => hk.2) (by have := H3.out.2.2; omega) HC.out.2).mono ?_
                     rw [HCN.out]
                     simp only [↓reduceIte, Bool.false_eq_true]
                     rintro e' w6 ⟨rfl, g7⟩)
                  | fail)
                go_ret2
                exact ⟨rfl, g7.mono fun _ _ hk => hk.1⟩
              | false =>
                rw [if_neg (by simp)]
                have HCN := Lib.hid hcn
                clear hcn
                go_enter Tryd.func46, Tryd.ntmps46
                go_wp2_with (first
                  | (go_at_call 71
                     have _t := tok
                     clear tok
                     refine (k_digits H.out a ha).mono ?_
                     rw [HD.out.1]
                     rintro e' w1 ⟨v1, rfl, b1, g1, c1⟩
                     obtain ⟨A1, d1, rfl, -⟩ := b1.form
                     have H1 := Lib.hid (And.intro b1 (And.intro g1 c1))
                     clear b1 g1 c1)
                  | (go_at_call 71
                     refine (k_digits H1.out.2.1 b hb).mono ?_
                     rw [HD.out.2]
                     rintro e' w2 ⟨v2, rfl, b2, g2, c2⟩
                     obtain ⟨A2, d2, rfl, -⟩ := b2.form
                     have H2 := Lib.hid (And.intro b2 (And.intro g2 (And.intro c2 (H1.out.2.2.trans c2))))
                     clear b2 g2 c2)
                  | (go_at_call 74
                     refine (reck_29 _ _ _ _ _ _ w2 (H1.out.1.keep H2.out.2.2.1 (fun _ _ f => f)) H2.out.1 HRR.out.1 HRR.out.2).mono ?_
                     rw [HZ.out]
                     unfold Reck
                     rintro e' w3 ⟨⟨v3, rfl, b3, l3⟩, c3⟩
                     obtain ⟨A3, d3, rfl, -⟩ := b3.form; have H3 := Lib.hid (And.intro b3 (And.intro c3 l3)); clear b3 c3 l3)
                  | (go_at_call 75
                     refine (Int_any _ (dg z) _ H3.out.1.lt).mono ?_
                     rw [HO.out.1]
                     first
                       | rw [if_pos rfl, val_dg]
                       | rw [if_neg (by simp)]
                     rintro e' w4 ⟨rfl, b4⟩
                     have H4 := Lib.hid (Chg.of_below (F := No) b4)
                     clear b4)
                  | (go_at_call 76
                     refine (k_Special (H2.out.2.1.world (H3.out.2.1.trans H4.out)) 5).mono ?_
                     rw [HP.out]
                     rintro e' w5 ⟨rfl, -, c5⟩
                     have H5 := Lib.hid (((H2.out.2.2.2.trans H3.out.2.1).trans H4.out).trans c5)
                     have H6 := Lib.hid (H3.out.1.keep (H4.out.trans c5) (fun _ _ f => f))
                     clear c5)
                  | (go_at_call 77
                     refine (k_bytes (H.out.also (K2 := fun v => ByteS v (fun _ => True) (.slice A3 (dg z).length d3) (dg z)) H5.out (fun G hG w9 c9 => (H6.out.keep c9 (fun b hb hg => by have h1 := (hG b hg).1; have h2 := H2.out.2.2.2.size; have h3 : w2.heap.size ≤ b := hb; omega)).more (fun _ _ _ => trivial))) (fetchV L 8 5) HC.out.1 _ (dg z) (fun F x hk => hk.2) (by have := H3.out.2.2; omega) HC.out.2).mono ?_
                     rw [HCN.out]
                     simp only [↓reduceIte, Bool.false_eq_true]
                     rintro e' w6 ⟨rfl, g7⟩)
                  | fail)
                go_ret2
                exact ⟨rfl, g7.mono fun _ _ hk => hk.1⟩
            · rw [if_pos h5]
              obtain ⟨e5, he5⟩ : ∃ e, placeE L 8 1 5 = e := ⟨_, rfl⟩
              rw [he5] at h5 ⊢
              have HP := Lib.hid he5
              have t5 : (e5 != 0) = true := by simpa using h5
              clear h5 he5
              go_enter Tryd.func46, Tryd.ntmps46
              go_wp2_with (first
                | (go_at_call 71
                   have _t := tok
                   clear tok
                   refine (k_digits H.out a ha).mono ?_
                   rw [HD.out.1]
                   rintro e' w1 ⟨v1, rfl, b1, g1, c1⟩
                   obtain ⟨A1, d1, rfl, -⟩ := b1.form
                   have H1 := Lib.hid (And.intro b1 (And.intro g1 c1))
                   clear b1 g1 c1)
                | (go_at_call 71
                   refine (k_digits H1.out.2.1 b hb).mono ?_
                   rw [HD.out.2]
                   rintro e' w2 ⟨v2, rfl, b2, g2, c2⟩
                   obtain ⟨A2, d2, rfl, -⟩ := b2.form
                   have H2 := Lib.hid (And.intro b2 (And.intro g2 (And.intro c2 (H1.out.2.2.trans c2))))
                   clear b2 g2 c2)
                | (go_at_call 74
                   refine (reck_29 _ _ _ _ _ _ w2 (H1.out.1.keep H2.out.2.2.1 (fun _ _ f => f)) H2.out.1 HRR.out.1 HRR.out.2).mono ?_
                   rw [HZ.out]
                   unfold Reck
                   rintro e' w3 ⟨⟨v3, rfl, b3, l3⟩, c3⟩
                   obtain ⟨A3, d3, rfl, -⟩ := b3.form; have H3 := Lib.hid (And.intro b3 (And.intro c3 l3)); clear b3 c3 l3)
                | (go_at_call 75
                   refine (Int_any _ (dg z) _ H3.out.1.lt).mono ?_
                   rw [HO.out.1]
                   first
                     | rw [if_pos rfl, val_dg]
                     | rw [if_neg (by simp)]
                   rintro e' w4 ⟨rfl, b4⟩
                   have H4 := Lib.hid (Chg.of_below (F := No) b4)
                   clear b4)
                | (go_at_call 76
                   refine (k_Special (H2.out.2.1.world (H3.out.2.1.trans H4.out)) 5).mono ?_
                   rw [HP.out]
                   rintro e' w5 ⟨rfl, -, c5⟩
                   have H5 := Lib.hid (((H2.out.2.2.2.trans H3.out.2.1).trans H4.out).trans c5)
                   have H6 := Lib.hid (H3.out.1.keep (H4.out.trans c5) (fun _ _ f => f))
                   clear c5)
                | fail)
              go_ret2
              exact ⟨rfl, H.out.world H5.out⟩
          | false =>
            have HO := Lib.hid (And.intro hok trivial)
            clear hok hs
            by_cases h5 : placeE L 8 1 5 = 0
            · rw [if_neg (by simp [h5])]
              have HP := Lib.hid h5
              clear h5
              cases hcn : namedOk (fetchV L 8 5) with
              | true =>
                rw [if_pos rfl]
                have HCN := Lib.hid hcn
                clear hcn
                go_enter Tryd.func46, Tryd.ntmps46
                go_wp2_with (first
                  | (go_at_call 71
                     have _t := tok
                     clear tok
                     refine (k_digits H.out a ha).mono ?_
                     rw [HD.out.1]
                     rintro e' w1 ⟨v1, rfl, b1, g1, c1⟩
                     obtain ⟨A1, d1, rfl, -⟩ := b1.form
                     have H1 := Lib.hid (And.intro b1 (And.intro g1 c1))
                     clear b1 g1 c1)
                  | (go_at_call 71
                     refine (k_digits H1.out.2.1 b hb).mono ?_
                     rw [HD.out.2]
                     rintro e' w2 ⟨v2, rfl, b2, g2, c2⟩
                     obtain ⟨A2, d2, rfl, -⟩ := b2.form
                     have H2 := Lib.hid (And.intro b2 (And.intro g2 (And.intro c2 (H1.out.2.2.trans c2))))
                     clear b2 g2 c2)
                  | (go_at_call 74
                     refine (reck_29 _ _ _ _ _ _ w2 (H1.out.1.keep H2.out.2.2.1 (fun _ _ f => f)) H2.out.1 HRR.out.1 HRR.out.2).mono ?_
                     rw [HZ.out]
                     unfold Reck
                     rintro e' w3 ⟨⟨v3, rfl, b3, l3⟩, c3⟩
                     obtain ⟨A3, d3, rfl, -⟩ := b3.form; have H3 := Lib.hid (And.intro b3 (And.intro c3 l3)); clear b3 c3 l3)
                  | (go_at_call 75
                     refine (Int_any _ (dg z) _ H3.out.1.lt).mono ?_
                     rw [HO.out.1]
                     first
                       | rw [if_pos rfl, val_dg]
                       | rw [if_neg (by simp)]
                     rintro e' w4 ⟨rfl, b4⟩
                     have H4 := Lib.hid (Chg.of_below (F := No) b4)
                     clear b4)
                  | (go_at_call 76
                     refine (k_Special (H2.out.2.1.world (H3.out.2.1.trans H4.out)) 5).mono ?_
                     rw [HP.out]
                     rintro e' w5 ⟨rfl, -, c5⟩
                     have H5 := Lib.hid (((H2.out.2.2.2.trans H3.out.2.1).trans H4.out).trans c5)
                     have H6 := Lib.hid (H3.out.1.keep (H4.out.trans c5) (fun _ _ f => f))
                     clear c5)
                  | (go_at_call 77
                     refine (k_bytes (H.out.also (K2 := fun v => ByteS v (fun _ => True) (.slice A3 (dg z).length d3) (dg z)) H5.out (fun G hG w9 c9 => (H6.out.keep c9 (fun b hb hg => by have h1 := (hG b hg).1; have h2 := H2.out.2.2.2.size; have h3 : w2.heap.size ≤ b := hb; omega)).more (fun _ _ _ => trivial))) (fetchV L 8 5) HC.out.1 _ (dg z) (fun F x hk => hk.2) (by have := H3.out.2.2; omega) HC.out.2).mono ?_
                     rw [HCN.out]
                     simp only [↓reduceIte, Bool.false_eq_true]
                     rintro e' w6 ⟨rfl, g7⟩)
                  | fail)
                go_ret2
                exact ⟨rfl, g7.mono fun _ _ hk => hk.1⟩
              | false =>
                rw [if_neg (by simp)]
                have HCN := Lib.hid hcn
                clear hcn
                go_enter Tryd.func46, Tryd.ntmps46
                go_wp2_with (first
                  | (go_at_call 71
                     have _t := tok
                     clear tok
                     refine (k_digits H.out a ha).mono ?_
                     rw [HD.out.1]
                     rintro e' w1 ⟨v1, rfl, b1, g1, c1⟩
                     obtain ⟨A1, d1, rfl, -⟩ := b1.form
                     have H1 := Lib.hid (And.intro b1 (And.intro g1 c1))
                     clear b1 g1 c1)
                  | (go_at_call 71
                     refine (k_digits H1.out.2.1 b hb).mono ?_
                     rw [HD.out.2]
                     rintro e' w2 ⟨v2, rfl, b2, g2, c2⟩
                     obtain ⟨A2, d2, rfl, -⟩ := b2.form
                     have H2 := Lib.hid (And.intro b2 (And.intro g2 (And.intro c2 (H1.out.2.2.trans c2))))
                     clear b2 g2 c2)
                  | (go_at_call 74
                     refine (reck_29 _ _ _ _ _ _ w2 (H1.out.1.keep H2.out.2.2.1 (fun _ _ f => f)) H2.out.1 HRR.out.1 HRR.out.2).mono ?_
                     rw [HZ.out]
                     unfold Reck
                     rintro e' w3 ⟨⟨v3, rfl, b3, l3⟩, c3⟩
                     obtain ⟨A3, d3, rfl, -⟩ := b3.form; have H3 := Lib.hid (And.intro b3 (And.intro c3 l3)); clear b3 c3 l3)
                  | (go_at_call 75
                     refine (Int_any _ (dg z) _ H3.out.1.lt).mono ?_
                     rw [HO.out.1]
                     first
                       | rw [if_pos rfl, val_dg]
                       | rw [if_neg (by simp)]
                     rintro e' w4 ⟨rfl, b4⟩
                     have H4 := Lib.hid (Chg.of_below (F := No) b4)
                     clear b4)
                  | (go_at_call 76
                     refine (k_Special (H2.out.2.1.world (H3.out.2.1.trans H4.out)) 5).mono ?_
                     rw [HP.out]
                     rintro e' w5 ⟨rfl, -, c5⟩
                     have H5 := Lib.hid (((H2.out.2.2.2.trans H3.out.2.1).trans H4.out).trans c5)
                     have H6 := Lib.hid (H3.out.1.keep (H4.out.trans c5) (fun _ _ f => f))
                     clear c5)
                  | (go_at_call 77
                     refine (k_bytes (H.out.also (K2 := fun v => ByteS v (fun _ => True) (.slice A3 (dg z).length d3) (dg z)) H5.out (fun G hG w9 c9 => (H6.out.keep c9 (fun b hb hg => by have h1 := (hG b hg).1; have h2 := H2.out.2.2.2.size; have h3 : w2.heap.size ≤ b := hb; omega)).more (fun _ _ _ => trivial))) (fetchV L 8 5) HC.out.1 _ (dg z) (fun F x hk => hk.2) (by have := H3.out.2.2; omega) HC.out.2).mono ?_
                     rw [HCN.out]
                     simp only [↓reduceIte, Bool.false_eq_true]
                     rintro e' w6 ⟨rfl, g7⟩)
                  | fail)
                go_ret2
                exact ⟨rfl, g7.mono fun _ _ hk => hk.1⟩
            · rw [if_pos h5]
              obtain ⟨e5, he5⟩ : ∃ e, placeE L 8 1 5 = e := ⟨_, rfl⟩
              rw [he5] at h5 ⊢
              have HP := Lib.hid he5
              have t5 : (e5 != 0) = true := by simpa using h5
              clear h5 he5
              go_enter Tryd.func46, Tryd.ntmps46
              go_wp2_with (first
                | (go_at_call 71
                   have _t := tok
                   clear tok
                   refine (k_digits H.out a ha).mono ?_
                   rw [HD.out.1]
                   rintro e' w1 ⟨v1, rfl, b1, g1, c1⟩
                   obtain ⟨A1, d1, rfl, -⟩ := b1.form
                   have H1 := Lib.hid (And.intro b1 (And.intro g1 c1))
                   clear b1 g1 c1)
                | (go_at_call 71
                   refine (k_digits H1.out.2.1 b hb).mono ?_
                   rw [HD.out.2]
                   rintro e' w2 ⟨v2, rfl, b2, g2, c2⟩
                   obtain ⟨A2, d2, rfl, -⟩ := b2.form
                   have H2 := Lib.hid (And.intro b2 (And.intro g2 (And.intro c2 (H1.out.2.2.trans c2))))
                   clear b2 g2 c2)
                | (go_at_call 74
                   refine (reck_29 _ _ _ _ _ _ w2 (H1.out.1.keep H2.out.2.2.1 (fun _ _ f => f)) H2.out.1 HRR.out.1 HRR.out.2).mono ?_
                   rw [HZ.out]
                   unfold Reck
                   rintro e' w3 ⟨⟨v3, rfl, b3, l3⟩, c3⟩
                   obtain ⟨A3, d3, rfl, -⟩ := b3.form; have H3 := Lib.hid (And.intro b3 (And.intro c3 l3)); clear b3 c3 l3)
                | (go_at_call 75
                   refine (Int_any _ (dg z) _ H3.out.1.lt).mono ?_
                   rw [HO.out.1]
                   first
                     | rw [if_pos rfl, val_dg]
                     | rw [if_neg (by simp)]
                   rintro e' w4 ⟨rfl, b4⟩
                   have H4 := Lib.hid (Chg.of_below (F := No) b4)
                   clear b4)
                | (go_at_call 76
                   refine (k_Special (H2.out.2.1.world (H3.out.2.1.trans H4.out)) 5).mono ?_
                   rw [HP.out]
                   rintro e' w5 ⟨rfl, -, c5⟩
                   have H5 := Lib.hid (((H2.out.2.2.2.trans H3.out.2.1).trans H4.out).trans c5)
                   have H6 := Lib.hid (H3.out.1.keep (H4.out.trans c5) (fun _ _ f => f))
                   clear c5)
                | fail)
              go_ret2
              exact ⟨rfl, H.out.world H5.out⟩

theorem k_sums (h : MemK w0 w m L K) (n a b : Int) (h21 : n = 21 ∨ n = 22 ∨ n = 29) (ha : In64 a) (hb : In64 b) (hn : L.length + 2 < 1073741823) :
    Calls Tryd.prog 46 #[.iface 27 (.pointer (some ⟨m, 0, none⟩)), .int .i64 n, .int .i64 a, .int .i64 b] w fun e w' => e = .returned (.tuple #[.int .i64 (sumR L n a b).1, .int .i64 (sumR L n a b).2.1]) ∧ MemK w0 w' m (sumR L n a b).2.2 K := by
  rcases h21 with rfl | rfl | rfl
  · exact k_sums21 h a b ha hb hn
  · exact k_sums22 h a b ha hb hn
  · exact k_sums29 h a b ha hb hn
theorem sumR_e (L : List O) (n a b : Int) : (sumR L n a b).2.1 ≠ 3 := by
  unfold sumR
  split
  · split
    · simp
    · split
      · simp
      · split
        · simp only []
          unfold placeE
          split
          · simp
          · split
            · split <;> simp
            · simp
        · split <;> simp
  · simp

end

section
variable {w0 w w' : World} {m : Nat} {L L' : List O} {K : (Nat → Prop) → World → Prop} {F F' : Nat → Prop}
set_option maxRecDepth 100000 in
set_option maxHeartbeats 1000000 in
theorem k_DoSum (h : MemK w0 w m L K) (ht : Tab w) (n o b : Int) (h21 : n = 21 ∨ n = 22 ∨ n = 29) (ho : In64 o) (hb : In64 b) (A : Option Addr) (c : Nat) (S : Nat → Prop) (hv : IntS w S (.slice A 1 c) [b]) (hn : L.length + 2 < 1073741823) :
    Calls Tryd.prog 20 #[.iface 27 (.pointer (some ⟨m, 0, none⟩)), .int .i64 n, .int .i64 o, .slice A 1 c] w fun e' w' => e' = .returned (.tuple #[.int .i64 (if (sumR L n o b).2.1 = 0 then (sumR L n o b).1 else 0), .bool ((sumR L n o b).2.1 == 0), .int .i64 0]) ∧ MemK w0 w' m (sumR L n o b).2.2 K := by
  have he := sumR_e L n o b
  have HM := Lib.hid h
  have HN := Lib.hid (And.intro h21 (And.intro ho (And.intro hb hn)))
  have hkn : knV n = 1 ∧ knOk n = true := by rcases h21 with rfl | rfl | rfl <;> exact ⟨by kernel_rfl, by kernel_rfl⟩
  have HKN := Lib.hid hkn
  have HNI := Lib.hid (show decide (n ∈ ([21, 22, 29] : List Int)) = true from decide_eq_true (by simp; omega))
  have t1 : decide (n < 16) = false := decide_eq_false (by omega)
  obtain ⟨g, off, rfl, hlt, hc, -⟩ := hv.at (i := 0) (by simp)
  simp only [List.getElem?_cons_zero, Option.getD_some, Nat.add_zero] at hc
  have HA := Lib.hid (fun (v : World) (hv : Chg No w v) => ((hv.cell hlt (fun f => f)).trans hc : v.cell? ⟨g, off, none⟩ = some (.int .i64 b)))
  obtain ⟨V, hV⟩ : ∃ V, (sumR L n o b).1 = V := ⟨_, rfl⟩
  obtain ⟨E, hE⟩ : ∃ E, (sumR L n o b).2.1 = E := ⟨_, rfl⟩
  have HVE := Lib.hid (And.intro hV hE)
  rw [hV, hE]
  rw [hE] at he
  clear h hkn hv hc hV hE hn h21 ho hb hlt
  by_cases h0 : E = 0
  · subst h0
    rw [if_pos rfl]
    go_enter Tryd.func20, Tryd.ntmps20
    go_wp2_with (first
                  | (go_at_call 23
                     refine (Known_any n _ ht).mono ?_
                     rw [HKN.out.1, HKN.out.2]
                     rintro e' w1 ⟨rfl, hb⟩
                     have c1 := Chg.of_below (F := No) hb
                     obtain ⟨W2, hW2⟩ : ∃ W, w1.alloc (.cells #[.int .i64 0, .int .i64 0, .int .i64 1, .int .i64 2, .int .i64 3, .int .i64 4, .int .i64 5, .int .i64 6, .int .i64 7, .int .i64 8, .int .i64 9, .int .i64 10, .int .i64 13, .int .i64 0, .int .i64 14, .int .i64 15] 3) = W := ⟨_, rfl⟩
                     obtain ⟨W3, hW3⟩ : ∃ W, W2.alloc (.cells #[.int .i64 21, .int .i64 22, .int .i64 29] 3) = W := ⟨_, rfl⟩
                     have c2 : Chg No w1 W2 := by rw [← hW2]; exact (Chg.refl _ _).alloc _
                     have c3 : Chg No W2 W3 := by rw [← hW3]; exact (Chg.refl _ _).alloc _
                     have r3 : Row W3 W2.heap.size 3 #[.int .i64 21, .int .i64 22, .int .i64 29] := by rw [← hW3]; exact Row.new _ _ _
                     have H3 := Lib.hid (And.intro (c1.trans (c2.trans c3)) (IntS.row3 r3 (by unfold In64; omega) (by unfold In64; omega) (by unfold In64; omega)))
                     have HW2 := Lib.hid hW2
                     have HW3 := Lib.hid hW3
                     clear c1 c2 c3 r3 hW2 hW3 hb)
                  | (rw [HW2.out])
                  | (rw [HW3.out])
                  | (go_at_call 45
                     refine (ContainsI2_any _ [21, 22, 29] _ n _ H3.out.2).mono ?_
                     rw [HNI.out]
                     rintro e' w4 ⟨rfl, c4⟩
                     have hc4 := HA.out w4 (H3.out.1.trans c4)
                     have H4 := Lib.hid (H3.out.1.trans c4)
                     clear c4)
                  | (go_at_call 46
                     refine (k_sums (HM.out.world H4.out) n o b HN.out.1 HN.out.2.1 HN.out.2.2.1 HN.out.2.2.2).mono ?_
                     rw [HVE.out.1, HVE.out.2]
                     rintro e' w5 ⟨rfl, g5⟩
                     have H5 := Lib.hid g5
                     clear g5)
                  | fail)
    exact bodyPost_ret (v := .tuple #[.int .i64 V, .bool true, .int .i64 0]) (by simp [results, Tryd.results20, go_sem]) rfl ⟨rfl, H5.out⟩
  · have t3 : (E == 0) = false := beq_eq_false_iff_ne.2 h0
    have t4 : (E == 3) = false := beq_eq_false_iff_ne.2 he
    rw [if_neg h0, t3]
    go_enter Tryd.func20, Tryd.ntmps20
    go_wp2_with (first
                  | (go_at_call 23
                     refine (Known_any n _ ht).mono ?_
                     rw [HKN.out.1, HKN.out.2]
                     rintro e' w1 ⟨rfl, hb⟩
                     have c1 := Chg.of_below (F := No) hb
                     obtain ⟨W2, hW2⟩ : ∃ W, w1.alloc (.cells #[.int .i64 0, .int .i64 0, .int .i64 1, .int .i64 2, .int .i64 3, .int .i64 4, .int .i64 5, .int .i64 6, .int .i64 7, .int .i64 8, .int .i64 9, .int .i64 10, .int .i64 13, .int .i64 0, .int .i64 14, .int .i64 15] 3) = W := ⟨_, rfl⟩
                     obtain ⟨W3, hW3⟩ : ∃ W, W2.alloc (.cells #[.int .i64 21, .int .i64 22, .int .i64 29] 3) = W := ⟨_, rfl⟩
                     have c2 : Chg No w1 W2 := by rw [← hW2]; exact (Chg.refl _ _).alloc _
                     have c3 : Chg No W2 W3 := by rw [← hW3]; exact (Chg.refl _ _).alloc _
                     have r3 : Row W3 W2.heap.size 3 #[.int .i64 21, .int .i64 22, .int .i64 29] := by rw [← hW3]; exact Row.new _ _ _
                     have H3 := Lib.hid (And.intro (c1.trans (c2.trans c3)) (IntS.row3 r3 (by unfold In64; omega) (by unfold In64; omega) (by unfold In64; omega)))
                     have HW2 := Lib.hid hW2
                     have HW3 := Lib.hid hW3
                     clear c1 c2 c3 r3 hW2 hW3 hb)
                  | (rw [HW2.out])
                  | (rw [HW3.out])
                  | (go_at_call 45
                     refine (ContainsI2_any _ [21, 22, 29] _ n _ H3.out.2).mono ?_
                     rw [HNI.out]
                     rintro e' w4 ⟨rfl, c4⟩
                     have hc4 := HA.out w4 (H3.out.1.trans c4)
                     have H4 := Lib.hid (H3.out.1.trans c4)
                     clear c4)
                  | (go_at_call 46
                     refine (k_sums (HM.out.world H4.out) n o b HN.out.1 HN.out.2.1 HN.out.2.2.1 HN.out.2.2.2).mono ?_
                     rw [HVE.out.1, HVE.out.2]
                     rintro e' w5 ⟨rfl, g5⟩
                     have H5 := Lib.hid g5
                     clear g5)
                  | fail)
    exact bodyPost_ret (v := .tuple #[.int .i64 0, .bool false, .int .i64 0]) (by simp [results, Tryd.results20, go_sem]) rfl ⟨rfl, H5.out⟩
end

end Go.Proofs.YtncoanmgifgcbaaDoor
