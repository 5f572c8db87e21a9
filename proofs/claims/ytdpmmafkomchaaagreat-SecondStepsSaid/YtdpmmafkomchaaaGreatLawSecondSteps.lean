/- A space of any size answers all that is done to it, one thing behind the other, as the chapter says, and holds what it says. -/
import Derived.Test.YtdpmmafkomchaaaGreatSecSAC
import Derived.Test.YtdpmmafkomchaaaGreatLawSecondNear
import Derived.Test.YtdpmmafkomchaaaGreatSameB
namespace Go.Proofs.YtdpmmafkomchaaaGreat
set_option linter.unusedVariables false
set_option linter.unusedSimpArgs false
open Go.RowKit

theorem DoR.lt0 {w : World} {S : Nat → Prop} {bb off : Nat} {n c : Nat} {D : List D6} (h : DoR w S (.slice (some ⟨bb, off, none⟩) n c) D) {i : Nat} {x : D6} (hi : D[i]? = some x) (_ : True) : bb < w.heap.size := by
  obtain ⟨b, off', e, -, hb, -⟩ := h.at hi
  cases e
  exact hb
/-- the document's space stands in its cell, apart from the program's -/
def Beside (w wr : World) (Q : SB) (X N : Nat) (L : List Rw) (made : Nat) : Prop := ∃ v, Row wr X 32 #[v, .int .i64 N, .int .i64 made] ∧ SpR wr (fun b => ¬ Q.has b ∧ b ≠ X) v L ∧ SecS wr Q N L made ∧ Chg No w wr
theorem SpR.form {w : World} {S : Nat → Prop} {v : Value} {L : List Rw} (h : SpR w S v L) : ∃ A n c, v = .slice A n c := by
  obtain ⟨T, -, h⟩ := h
  obtain ⟨A, c, e, -⟩ := h.form
  exact ⟨A, _, c, e⟩

set_option maxRecDepth 100000 in
set_option maxHeartbeats 2000000 in
theorem SecondSteps_few (n0 : Int) (v rv : Value) (D : List D6) (R : List Int) (w : World) (h : DoR w (fun _ => True) v D) (hm : D.length ≤ maxLen) (hr : IntS w (fun _ => True) rv R) (lr : R.length ≤ 17592186044416) (hmany : (300 < n0 ∧ n0 ≤ 20000) ∨ 80 < longF D ∨ 20 < R.length ∨ n0 < 0 ∨ 20000 < n0) :
    Calls Tryz.prog 3 #[.int .i64 n0, v, rv] w fun e w' => e = .returned (.bool true) ∧ Chg No w w' := by
  have HLO := Lib.hid (long06_any v D _ w h hm)
  obtain ⟨A, c, rfl⟩ : ∃ A c, v = .slice A D.length c := by obtain ⟨A, c, e, -⟩ := h.1; exact ⟨A, c, e⟩
  obtain ⟨Ar, cr, rfl, -⟩ := hr.form
  obtain ⟨lo, hlo⟩ : ∃ b, decide (80 < longF D) = b := ⟨_, rfl⟩
  rw [hlo] at HLO
  generalize D.length = n at *
  generalize R.length = nr at *
  clear h hm hr
  by_cases h1 : 300 < n0 ∧ n0 ≤ 20000
  · have t1 : decide (300 < n0) = true := decide_eq_true h1.1
    have t2 : decide (n0 ≤ 20000) = true := decide_eq_true h1.2
    clear hmany h1 hlo
    go_enter Tryz.func3, Tryz.ntmps3
    go_wp2_with (first
      | (go_at_call 5; refine (known06_any _).mono ?_; rintro e w9 ⟨rfl, c9⟩)
      | fail)
    go_ret
    exact ⟨rfl, c9⟩
  have t0 : decide (300 < n0) = false ∨ (decide (300 < n0) = true ∧ decide (n0 ≤ 20000) = false) := by
    by_cases h2 : 300 < n0
    · exact .inr ⟨decide_eq_true h2, decide_eq_false (by omega)⟩
    · exact .inl (decide_eq_false h2)
  have hm2 := hmany.resolve_left h1
  rw [← decide_eq_true_iff (p := 80 < longF D), hlo] at hm2
  cases lo with
  | true =>
    clear hmany h1 hlo hm2
    rcases t0 with t1 | ⟨t1, t2⟩
    · go_enter Tryz.func3, Tryz.ntmps3
      go_wp2_with (first
        | (go_at_call 4
           refine HLO.out.mono ?_
           rintro e w1 ⟨rfl, c1⟩
           have C1 := Lib.hid c1
           clear c1)
        | (go_at_call 5; refine (known06_any _).mono ?_; rintro e w9 ⟨rfl, c9⟩)
        | fail)
      go_ret
      exact ⟨rfl, C1.out.trans c9⟩
    · go_enter Tryz.func3, Tryz.ntmps3
      go_wp2_with (first
        | (go_at_call 4
           refine HLO.out.mono ?_
           rintro e w1 ⟨rfl, c1⟩
           have C1 := Lib.hid c1
           clear c1)
        | (go_at_call 5; refine (known06_any _).mono ?_; rintro e w9 ⟨rfl, c9⟩)
        | fail)
      go_ret
      exact ⟨rfl, C1.out.trans c9⟩
  | false =>
    have hm3 := hm2.resolve_left (by simp)
    by_cases h2 : 20 < nr
    · have t3 : decide ((20 : Int) < (nr : Int)) = true := decide_eq_true (by omega)
      have t4 : decide (20 < nr) = true := decide_eq_true h2
      clear hmany h1 hlo hm2 hm3
      rcases t0 with t1 | ⟨t1, t2⟩
      · go_enter Tryz.func3, Tryz.ntmps3
        go_wp2_with (first
          | (go_at_call 4
             refine HLO.out.mono ?_
             rintro e w1 ⟨rfl, c1⟩
             have C1 := Lib.hid c1
             clear c1)
          | (go_at_call 5; refine (known06_any _).mono ?_; rintro e w9 ⟨rfl, c9⟩)
          | fail)
        go_ret
        exact ⟨rfl, C1.out.trans c9⟩
      · go_enter Tryz.func3, Tryz.ntmps3
        go_wp2_with (first
          | (go_at_call 4
             refine HLO.out.mono ?_
             rintro e w1 ⟨rfl, c1⟩
             have C1 := Lib.hid c1
             clear c1)
          | (go_at_call 5; refine (known06_any _).mono ?_; rintro e w9 ⟨rfl, c9⟩)
          | fail)
        go_ret
        exact ⟨rfl, C1.out.trans c9⟩
    · have t3 : decide ((20 : Int) < (nr : Int)) = false := decide_eq_false (by omega)
      have t4 : decide (20 < nr) = false := decide_eq_false h2
      have hm4 := hm3.resolve_left h2
      by_cases h3 : n0 < 0
      · have t1 : decide (300 < n0) = false := decide_eq_false (by omega)
        have t5 : decide (n0 < 0) = true := decide_eq_true h3
        clear hmany h1 hlo hm2 hm3 t0
        go_enter Tryz.func3, Tryz.ntmps3
        go_wp2_with (first
          | (go_at_call 4
             refine HLO.out.mono ?_
             rintro e w1 ⟨rfl, c1⟩
             have C1 := Lib.hid c1
             clear c1)
          | (go_at_call 6
             refine (secNew_bad n0 hm4 _).mono ?_
             rintro e w2 ⟨rfl, rfl⟩)
          | (go_at_call 5; refine (known06_any _).mono ?_; rintro e w9 ⟨rfl, c9⟩)
          | fail)
        go_ret
        exact ⟨rfl, C1.out.trans c9⟩
      · have t1 : decide (300 < n0) = true := decide_eq_true (by omega)
        have t2 : decide (n0 ≤ 20000) = false := decide_eq_false (by omega)
        have t5 : decide (n0 < 0) = false := decide_eq_false h3
        have t6 : decide (20000 < n0) = true := decide_eq_true (by omega)
        clear hmany h1 hlo hm2 hm3 t0
        go_enter Tryz.func3, Tryz.ntmps3
        go_wp2_with (first
          | (go_at_call 4
             refine HLO.out.mono ?_
             rintro e w1 ⟨rfl, c1⟩
             have C1 := Lib.hid c1
             clear c1)
          | (go_at_call 6
             refine (secNew_bad n0 hm4 _).mono ?_
             rintro e w2 ⟨rfl, rfl⟩)
          | (go_at_call 5; refine (known06_any _).mono ?_; rintro e w9 ⟨rfl, c9⟩)
          | fail)
        go_ret
        exact ⟨rfl, C1.out.trans c9⟩

/-- ahead of a round's end: the new space stands in y's cell -/
def Ready (w W : World) (Q : SB) (X Y N : Nat) (A : Option Addr) (m c : Nat) (L : List Rw) (made : Nat) : Prop :=
  (∃ a b d, Row W X 32 #[a, b, d]) ∧ Row W Y 32 #[.slice A m c, .int .i64 N, .int .i64 made] ∧ SpR W (fun b => ¬ Q.has b ∧ b ≠ X) (.slice A m c) L ∧ SecS W Q N L made ∧ Chg No w W
set_option maxRecDepth 100000 in
set_option maxHeartbeats 40000000 in
theorem SecondSteps_most (N : Nat) (v rv : Value) (D : List D6) (R : List Int) (w : World) (h : DoR w (fun _ => True) v D) (hm : D.length ≤ maxLen) (hr : IntS w (fun _ => True) rv R) (hN : N ≤ 300) (hlo : decide (80 < longF D) = false) (hR : R.length ≤ 20) :
    Calls Tryz.prog 3 #[.int .i64 N, v, rv] w fun e w' => e = .returned (.bool true) ∧ Chg No w w' := by
  have HLO := Lib.hid (long06_any v D _ w h hm)
  rw [hlo] at HLO
  obtain ⟨A, c, rfl⟩ : ∃ A c, v = .slice A D.length c := by obtain ⟨A, c, e, -⟩ := h.1; exact ⟨A, c, e⟩
  obtain ⟨Ar, cr, rfl, -⟩ := hr.form
  have hm2 : D.length ≤ 9223372036854775807 := by unfold maxLen at hm; simp at hm; omega
  have HX := Lib.hid (h.more (S' := fun b => b < w.heap.size) (fun b hb _ => hb))
  have HRT := Lib.hid (hr.more (S' := fun b => b < w.heap.size) (fun b hb _ => hb))
  have hN2 : N ≤ 20000 := by omega
  generalize hn : D.length = n at *
  have HLN := Lib.hid hn
  generalize hnr : R.length = nr at *
  have HNR := Lib.hid hnr
  clear h hm hr hlo hn hnr
  have t1 : decide ((300 : Int) < (N : Int)) = false := decide_eq_false (by omega)
  have t2 : decide (300 < N) = false := decide_eq_false (by omega)
  have t3 : decide ((20 : Int) < (nr : Int)) = false := decide_eq_false (by omega)
  have t4 : decide (20 < nr) = false := decide_eq_false (by omega)
  have t5 : decide ((N : Int) < 0) = false := decide_eq_false (by omega)
  have t6 : decide ((20000 : Int) < (N : Int)) = false := decide_eq_false (by omega)
  have t7 : decide (20000 < N) = false := decide_eq_false (by omega)
  go_enter Tryz.func3, Tryz.ntmps3
  go_wp2_with (first
    | (go_at_call 4
       refine HLO.out.mono ?_
       rintro e w1 ⟨rfl, c1⟩
       have C1 := Lib.hid c1
       clear c1)
    | (go_at_call 6
       refine (secNew_ok N hN2 _).mono ?_
       rintro e w2 ⟨v2, rfl, Q, rfl, hs, hge, c2⟩
       have H2 := Lib.hid (And.intro hs (And.intro (show ∀ k, Q.has k → w.heap.size ≤ k from fun k hk => by have := hge k hk; have := C1.out.size; omega) (C1.out.trans c2)))
       clear hs hge c2)
    | fail)
  clear t1 t2 t3 t4 t5 t6 t7
  obtain ⟨X, hX⟩ : ∃ X, w2.heap.size = X := ⟨_, rfl⟩
  rw [hX]
  have HXQ := Lib.hid (show ¬ Q.has X from fun hq => by have := H2.out.1.lt hq; omega)
  have hXw : w.heap.size ≤ X := by have := H2.out.2.2.size; omega
  have c3 : Chg No w (w2.alloc (.cells #[.slice none 0 0, .int .i64 N, .int .i64 0] 32)) := H2.out.2.2.alloc _
  have r3 : Row (w2.alloc (.cells #[.slice none 0 0, .int .i64 N, .int .i64 0] 32)) X 32 #[.slice none 0 0, .int .i64 N, .int .i64 0] := by rw [← hX]; exact Row.new _ _ _
  have H3 := Lib.hid (And.intro r3 (And.intro (H2.out.1.keep (F := No) ((Chg.refl _ _).alloc (.cells #[.slice none 0 0, .int .i64 N, .int .i64 0] 32)) (fun _ _ f => f)) c3))
  clear r3 c3
  go_loopg [10] n (fun j v10 wr => ∃ (i : Nat) (L : List Rw) (made : Nat), v10 = .int .i64 (i : Int) ∧ i ≤ n ∧ n - i ≤ j ∧ Beside w wr Q X N L made)
  case atStart => exact ⟨0, [], 0, rfl, by omega, by omega, .slice none 0 0, H3.out.1, SpR.nil _ _, H3.out.2.1, H3.out.2.2⟩
  case round =>
    obtain ⟨i, L, made, rfl, i1, i2, dv, hrow, hsp, hsec, cw⟩ := hrel
    obtain ⟨Ad, nd, cd, rfl⟩ := hsp.form
    obtain ⟨x0, x1, x2, xf⟩ := hrow.three
    by_cases hi : i < n
    · obtain ⟨t, ht⟩ : ∃ t, D[i]? = some t := ⟨_, List.getElem?_eq_getElem (by rw [HLN.out]; exact hi)⟩
      have u1 : decide ((i : Int) < (n : Int)) = true := decide_eq_true (by omega)
      have u2 : (i : Int) < (n : Int) := by omega
      obtain ⟨kk, id, o, xv, yv⟩ := t
      obtain ⟨bb, off, A1, ca1, A2, ca2, rfl, rfl, rfl, hat⟩ := HX.out.elem ht
      have HAT := Lib.hid hat
      have q0 : ∀ v, Chg No w v → v.cell? ⟨bb, off + i * 6, none⟩ = some (.int .i64 kk) := fun v hv => (HAT.out v hv).2.2.1
      have q1 : ∀ v, Chg No w v → v.cell? ⟨bb, off + i * 6 + 1, none⟩ = some (.int .i64 id) := fun v hv => (HAT.out v hv).2.2.2.1
      have q2 : ∀ v, Chg No w v → v.cell? ⟨bb, off + i * 6 + 2, none⟩ = some (.int .i64 o.cls) ∧ v.cell? ⟨bb, off + i * 6 + 2 + 1, none⟩ = some (.int .i64 o.kind) ∧ v.cell? ⟨bb, off + i * 6 + 2 + 2, none⟩ = some (.slice A1 o.W.length ca1) ∧ v.cell? ⟨bb, off + i * 6 + 2 + 3, none⟩ = some (.slice A2 o.B.length ca2) := fun v hv =>
        ⟨(HAT.out v hv).2.2.2.2.1, (HAT.out v hv).2.2.2.2.2.1, (HAT.out v hv).2.2.2.2.2.2.1, (HAT.out v hv).2.2.2.2.2.2.2⟩
      clear hat ht
      obtain ⟨Y, hY⟩ : ∃ Y, wr.heap.size = Y := ⟨_, rfl⟩
      obtain ⟨W1, hW1⟩ : ∃ W, wr.alloc (.cells #[.slice Ad nd cd, .int .i64 N, .int .i64 made] 32) = W := ⟨_, rfl⟩
      have c1 : Chg No wr W1 := by rw [← hW1]; exact (Chg.refl _ _).alloc _
      have rY1 : Row W1 Y 32 #[.slice Ad nd cd, .int .i64 N, .int .i64 made] := by rw [← hW1, ← hY]; exact Row.new _ _ _
      have rX1 := hrow.keep c1 (fun f => f)
      have cw1 := cw.trans c1
      have hsp1 := (hsp.more (S' := fun b => (¬ Q.has b ∧ b ≠ X) ∧ b < Y) (fun b hb hS => ⟨hS, by omega⟩)).keep c1 (fun _ _ f => f)
      have hsec1 := hsec.keep c1 (fun _ _ f => f)
      have hYX : X < Y := by rw [← hY]; exact hrow.lt
      have hYQ : ¬ Q.has Y := fun hq => by have := hsec.lt hq; omega
      have H1 := Lib.hid (And.intro rY1 (And.intro rX1 (And.intro hsp1 (And.intro hsec1 cw1))))
      have HYQ := Lib.hid hYQ
      have k0 := q0 W1 cw1
      have k1 := q1 W1 cw1
      have k2 := q2 W1 cw1
      have HW1 := Lib.hid (show wr.alloc (.cells #[.slice Ad nd cd, .int .i64 N, .int .i64 made] 32) = W1 from hW1)
      have hwY : w.heap.size ≤ wr.heap.size := cw.size
      have hY1 : Y < W1.heap.size := rY1.lt
      clear rY1 rX1 cw1 hsp1 hsec1 hsec hsp cw hrow c1 hW1
      subst hY
      have G1 := Lib.hid H1.out.2.2.2.1.good
      by_cases e1 : kk = 1
      · subst e1
        as_aux_lemma =>
          obtain ⟨mi, hmi⟩ : ∃ x, mkI N L made o = x := ⟨_, rfl⟩
          obtain ⟨me, hme⟩ : ∃ x, mkE N L made o = x := ⟨_, rfl⟩
          obtain ⟨LE, hLE⟩ : ∃ x, mkL N L made o = x := ⟨_, rfl⟩
          obtain ⟨mE, hmE⟩ : ∃ x, mkM N L made o = x := ⟨_, rfl⟩
          have HMM := Lib.hid (And.intro hmi (And.intro hme (And.intro hLE hmE)))
          clear hmi hme hLE hmE
          go_wp2_with (first
            | (rw [HW1.out])
            | (go_at_call 7
               refine (secMake_any H1.out.2.2.2.1 _ o _ (HAT.out _ H1.out.2.2.2.2).1).mono ?_
               rw [HMM.out.1, HMM.out.2.1, HMM.out.2.2.1, HMM.out.2.2.2]
               rintro e w3 ⟨rfl, hs3, c3⟩
               have H3' := Lib.hid (And.intro hs3 (And.intro (Chg.fresh H1.out.2.2.2.2 c3 H2.out.2.1) (And.intro (H1.out.2.2.1.keep c3 (fun b hb => hb.1.1)) (And.intro (H1.out.2.1.keep c3 HXQ.out) (H1.out.1.keep c3 HYQ.out)))))
               have s3 := c3.size
               clear hs3 c3)
            | fail)
          have hcv : ∀ v, Chg (fun b => b = wr.heap.size) w3 v → Chg No w v := fun v hv => H3'.out.2.1.then hv (fun b hb e => by have e' : b = wr.heap.size := e; omega)
          have z0 : ∀ v, Chg (fun b => b = wr.heap.size) w3 v → v.cell? ⟨X, 0, none⟩ = some (.slice Ad nd cd) ∧ v.cell? ⟨X, 1, none⟩ = some (.int .i64 N) ∧ v.cell? ⟨X, 2, none⟩ = some (.int .i64 made) := fun v hv => by
            obtain ⟨u0, u1, u2, -⟩ := (H3'.out.2.2.2.1.keep hv (by omega)).three
            exact ⟨u0, u1, u2⟩
          have z1 : ∀ v, Chg (fun b => b = wr.heap.size) w3 v → v.cell? ⟨bb, off + i * 6 + 1, none⟩ = some (.int .i64 id) := fun v hv => q1 v (hcv v hv)
          have z2 : ∀ v, Chg (fun b => b = wr.heap.size) w3 v → v.cell? ⟨bb, off + i * 6 + 2, none⟩ = some (.int .i64 o.cls) ∧ v.cell? ⟨bb, off + i * 6 + 2 + 1, none⟩ = some (.int .i64 o.kind) ∧ v.cell? ⟨bb, off + i * 6 + 2 + 2, none⟩ = some (.slice A1 o.W.length ca1) ∧ v.cell? ⟨bb, off + i * 6 + 2 + 3, none⟩ = some (.slice A2 o.B.length ca2) := fun v hv => q2 v (hcv v hv)
          have HCV := Lib.hid hcv
          have hC0 : Chg (fun b => b = wr.heap.size) w3 w3 := Chg.refl _ _
          clear hcv
          go_region_held3 (fun w' => Chg (fun b => b = wr.heap.size) w3 w') (repeat (with_reducible first | assumption | exact Chg.refl _ _ | refine Chg.drew ?_ | refine Chg.alloc ?_ _ | refine Chg.setCell ?_ (.inl (by simp)) _))
            (first
              | (go_at_call 8
                 have c3d : Chg No w3 w3.drew := (Chg.refl _ _).drew
                 refine (Make06_any (H3'.out.2.2.1.keep c3d (fun _ _ f => f)) G1.out hN2 (HAT.out _ (H3'.out.2.1.trans c3d)).1).mono ?_
                 rw [HMM.out.1, HMM.out.2.1, HMM.out.2.2.1, HMM.out.2.2.2]
                 rintro e w6 ⟨v6, rfl, v6', rfl, hs6, c6⟩
                 obtain ⟨AE, nE, cE, rfl⟩ := hs6.form
                 have c36 : Chg No w3 w6 := c3d.trans c6
                 have hC6 : Chg (fun b => b = wr.heap.size) w3 w6 := c36.no
                 have rY6 := H3'.out.2.2.2.2.keep c36 (fun f => f)
                 have rX6 := H3'.out.2.2.2.1.keep c36 (fun f => f)
                 obtain ⟨o0, o1, o2, of⟩ := rY6.three
                 have s36 := c36.size
                 obtain ⟨WE, hWE⟩ : ∃ W, ((w6.setCell ⟨wr.heap.size, 0, none⟩ (.slice AE nE cE)).setCell ⟨wr.heap.size, 1, none⟩ (.int .i64 N)).setCell ⟨wr.heap.size, 2, none⟩ (.int .i64 mE) = W := ⟨_, rfl⟩
                 have cE6 : Chg (fun b => b = wr.heap.size) w6 WE := by rw [← hWE]; exact ((Chg.one _ _ _ _).trans (Chg.one _ _ _ _)).trans (Chg.one _ _ _ _)
                 have rYE : Row WE wr.heap.size 32 #[.slice AE nE cE, .int .i64 N, .int .i64 mE] := by rw [← hWE]; exact rY6.set3 _ _ _
                 have HE := Lib.hid (show Ready w WE Q X wr.heap.size N AE nE cE LE mE from ⟨⟨_, _, _, rX6.keep cE6 (by omega)⟩, rYE, (hs6.keep cE6 (fun b hb e => by
                     have e' : b = wr.heap.size := e
                     rcases hb with hb | hb
                     · omega
                     · have hb' : w3.heap.size ≤ b := Nat.le_trans c3d.size hb
                       omega)).more (fun b hb hS => by
                     rcases hS with hS | hS
                     · exact hS.1
                     · have hS' : w3.heap.size ≤ b := Nat.le_trans c3d.size hS
                       exact ⟨fun hq => by have := H2.out.1.lt hq; omega, by omega⟩), (H3'.out.1.keep c36 (fun _ _ f => f)).keep cE6 (fun b hb e => HYQ.out (by rw [← show b = wr.heap.size from e]; exact hb)), HCV.out WE (hC6.trans cE6)⟩)
                 have HWE := Lib.hid hWE
                 clear hs6 c6 c36 rY6 rX6 hWE cE6 rYE c3d
                 skip)
              | fail)
          rw [HWE.out]
          obtain ⟨⟨ra, rb, rd, hrx⟩, hry, hrs, hrq, hrc⟩ := HE.out
          obtain ⟨y0, y1, y2, -⟩ := hry.three
          obtain ⟨x0, x1, x2, xf⟩ := hrx.three
          obtain ⟨W9, hW9⟩ : ∃ W, ((WE.setCell ⟨X, 0, none⟩ (.slice AE nE cE)).setCell ⟨X, 1, none⟩ (.int .i64 N)).setCell ⟨X, 2, none⟩ (.int .i64 mE) = W := ⟨_, rfl⟩
          have c9 : Chg (fun b => b = X) WE W9 := by rw [← hW9]; exact ((Chg.one _ _ _ _).trans (Chg.one _ _ _ _)).trans (Chg.one _ _ _ _)
          have r9 : Row W9 X 32 #[.slice AE nE cE, .int .i64 N, .int .i64 mE] := by rw [← hW9]; exact hrx.set3 _ _ _
          have s9 := hrs.keep c9 (fun b hb e => hb.2 e)
          have p9 := hrq.keep c9 (fun b hb e => HXQ.out (by rw [← show b = X from e]; exact hb))
          have cw9 : Chg No w W9 := hrc.then c9 (fun b hb e => by have e' : b = X := e; omega)
          have G9 := p9.good
          have hz0 : ∀ v, Chg No W9 v → v.cell? ⟨X, 0, none⟩ = some (.slice AE nE cE) ∧ v.cell? ⟨X, 1, none⟩ = some (.int .i64 N) ∧ v.cell? ⟨X, 2, none⟩ = some (.int .i64 mE) := fun v hv => ⟨(r9.keep hv (fun f => f)).cell 0, (r9.keep hv (fun f => f)).cell 1, (r9.keep hv (fun f => f)).cell 2⟩
          have hz1 : ∀ v, Chg No W9 v → v.cell? ⟨bb, off + i * 6 + 1, none⟩ = some (.int .i64 id) := fun v hv => q1 v (cw9.trans hv)
          have hps := posR_some (L := LE) (k := id)
          obtain ⟨hs0, hhs⟩ : ∃ x, (lk LE id).isSome = x := ⟨_, rfl⟩
          obtain ⟨ps, hpp⟩ : ∃ x, posR LE id = x := ⟨_, rfl⟩
          rw [hhs, hpp] at hps
          have H9 := Lib.hid (And.intro r9 (And.intro s9 (And.intro p9 (And.intro cw9 (And.intro G9 (And.intro hhs hpp))))))
          have HW9 := Lib.hid hW9
          have HQ1 := Lib.hid (And.intro q0 (And.intro q1 q2))
          clear hrx hry hrs hrq hrc hW9 c9 r9 s9 p9 cw9 G9 hhs hpp q0 q1 q2
          go_wp2_with (first
            | (rw [HW9.out])
            | fail)
          refine q_region (C := (Chg No W9)) (by kernel_rfl) (by kernel_rfl) ?_ ?_
          · exact (Chg.refl _ _).drew
          repeat
            refine q_step (fun K hK => ?_)
            go_simp
            first
              | ((with_reducible refine hK _ ?_); clear hK K)
              | (refine (if_neg (by simp [undef])).mpr ?_; (with_reducible refine hK _ ?_); clear hK K)
              | (apply Exists.intro
                 with_reducible refine ⟨fun v hv => ?_, hK _ ?_⟩
                 · first
                     | with_reducible exact rfl
                     | with_reducible exact ⟨rfl, rfl⟩
                     | (go_simp
                        first
                          | done
                          | with_reducible exact rfl
                          | with_reducible exact ⟨rfl, rfl⟩
                          | (first | (go_at_call 16; refine (secUsed_any (H9.out.2.2.1.keep hv (fun _ _ f => f))).mono ?_; rintro e w' ⟨rfl, rfl⟩; exact ⟨rfl, hv⟩) | (go_at_call 17; refine (Used6_any (H9.out.2.1.keep hv (fun _ _ f => f)) H9.out.2.2.2.2.1 hN2 _ _).mono ?_; rintro e w' ⟨rfl, g5⟩; exact ⟨rfl, hv.trans g5⟩) | (go_at_call 18; refine (secHas_any (H9.out.2.2.1.keep hv (fun _ _ f => f)) id).mono ?_; rw [H9.out.2.2.2.2.2.1]; rintro e w' ⟨rfl, g5⟩; exact ⟨rfl, hv.trans g5⟩) | (go_at_call 10; refine (Find6_any (H9.out.2.1.keep hv (fun _ _ f => f)) H9.out.2.2.2.2.1 _ _ id).mono ?_; rw [H9.out.2.2.2.2.2.2]; rintro e w' ⟨rfl, g5⟩; exact ⟨rfl, hv.trans g5⟩)))
                 clear hK K)
          refine q_nil ?_
          intro V hV
          go_wp2_with fail
          go_roundg (n - (i + 1))
          case measure => omega
          case rel => exact ⟨i + 1, LE, mE, by go_num, by omega, by omega, _, H9.out.1.keep hV (fun f => f), H9.out.2.1.keep hV (fun _ _ f => f), H9.out.2.2.1.keep hV (fun _ _ f => f), H9.out.2.2.2.1.trans hV⟩
      by_cases e3 : kk = 3
      · subst e3
        as_aux_lemma =>
          obtain ⟨me, hme⟩ : ∃ x, stE N L id o = x := ⟨_, rfl⟩
          obtain ⟨LE, hLE⟩ : ∃ x, stL N L id o = x := ⟨_, rfl⟩
          have HMM := Lib.hid (And.intro hme hLE)
          have v1 : ∀ v, Chg No W1 v → v.cell? ⟨bb, off + i * 6 + 1, none⟩ = some (.int .i64 id) := fun v hv => q1 v (H1.out.2.2.2.2.trans hv)
          have v2 : ∀ v, Chg No W1 v → v.cell? ⟨bb, off + i * 6 + 2, none⟩ = some (.int .i64 o.cls) ∧ v.cell? ⟨bb, off + i * 6 + 2 + 1, none⟩ = some (.int .i64 o.kind) ∧ v.cell? ⟨bb, off + i * 6 + 2 + 2, none⟩ = some (.slice A1 o.W.length ca1) ∧ v.cell? ⟨bb, off + i * 6 + 2 + 3, none⟩ = some (.slice A2 o.B.length ca2) := fun v hv => q2 v (H1.out.2.2.2.2.trans hv)
          clear hme hLE
          go_wp2_with (first
            | (rw [HW1.out])
            | fail)
          refine rem_start (by kernel_rfl) (by kernel_rfl) ?_
          refine rem_quiet 11 (C := (Chg No W1)) (by kernel_rfl) (by simp only [List.toList_toArray, List.drop_succ_cons, List.drop_zero, List.take_succ_cons, List.take_zero, Nat.reduceSub, Nat.reduceAdd]; rfl) ?_ ?_
          · exact (Chg.refl _ _).drew
          repeat
            refine q_step (fun K hK => ?_)
            go_simp
            first
              | ((with_reducible refine hK _ ?_); clear hK K)
              | (refine (if_neg (by simp [undef])).mpr ?_; (with_reducible refine hK _ ?_); clear hK K)
              | (apply Exists.intro
                 with_reducible refine ⟨fun v hv => ?_, hK _ ?_⟩
                 · first
                     | with_reducible exact rfl
                     | with_reducible exact ⟨rfl, rfl⟩
                     | (go_simp
                        first
                          | done
                          | with_reducible exact rfl
                          | with_reducible exact ⟨rfl, rfl⟩
                          | fail)
                 clear hK K)
          refine q_nil ?_
          intro V hV
          have hq := secStore_any (H1.out.2.2.2.1.keep hV (fun _ _ f => f)) id _ o _ (HAT.out _ (H1.out.2.2.2.2.trans hV)).1
          rw [HMM.out.1, HMM.out.2] at hq
          have HQ2 := Lib.hid hq
          clear hq
          refine rem_one (by kernel_rfl) (by kernel_rfl) rfl (by kernel_rfl) (fun K hK => ?_)
          go_wp2_with (first
            | (go_at_call 12
               refine HQ2.out.mono ?_
               rintro e w3 ⟨rfl, hs3, c3⟩
               have H3' := Lib.hid (And.intro hs3 (And.intro (Chg.fresh (H1.out.2.2.2.2.trans hV) c3 H2.out.2.1) (And.intro ((H1.out.2.2.1.keep hV (fun _ _ f => f)).keep c3 (fun b hb => hb.1.1)) (And.intro ((H1.out.2.1.keep hV (fun f => f)).keep c3 HXQ.out) ((H1.out.1.keep hV (fun f => f)).keep c3 HYQ.out)))))
               have s3 := Nat.le_trans hV.size c3.size
               clear hs3 c3 HQ2)
            | fail)
          refine rem_one (by kernel_rfl) (by kernel_rfl) rfl (by kernel_rfl) (fun K hK => ?_)
          go_wp2_with fail
          refine rem_end (by kernel_rfl) ?_
          go_wp2_with fail
          clear v1 v2 k0 k1 k2
          have hcv : ∀ v, Chg (fun b => b = wr.heap.size) w3 v → Chg No w v := fun v hv => H3'.out.2.1.then hv (fun b hb e => by have e' : b = wr.heap.size := e; omega)
          have z0 : ∀ v, Chg (fun b => b = wr.heap.size) w3 v → v.cell? ⟨X, 0, none⟩ = some (.slice Ad nd cd) ∧ v.cell? ⟨X, 1, none⟩ = some (.int .i64 N) ∧ v.cell? ⟨X, 2, none⟩ = some (.int .i64 made) := fun v hv => by
            obtain ⟨u0, u1, u2, -⟩ := (H3'.out.2.2.2.1.keep hv (by omega)).three
            exact ⟨u0, u1, u2⟩
          have z1 : ∀ v, Chg (fun b => b = wr.heap.size) w3 v → v.cell? ⟨bb, off + i * 6 + 1, none⟩ = some (.int .i64 id) := fun v hv => q1 v (hcv v hv)
          have z2 : ∀ v, Chg (fun b => b = wr.heap.size) w3 v → v.cell? ⟨bb, off + i * 6 + 2, none⟩ = some (.int .i64 o.cls) ∧ v.cell? ⟨bb, off + i * 6 + 2 + 1, none⟩ = some (.int .i64 o.kind) ∧ v.cell? ⟨bb, off + i * 6 + 2 + 2, none⟩ = some (.slice A1 o.W.length ca1) ∧ v.cell? ⟨bb, off + i * 6 + 2 + 3, none⟩ = some (.slice A2 o.B.length ca2) := fun v hv => q2 v (hcv v hv)
          have HCV := Lib.hid hcv
          have hC0 : Chg (fun b => b = wr.heap.size) w3 w3 := Chg.refl _ _
          clear hcv
          go_region_held3 (fun w' => Chg (fun b => b = wr.heap.size) w3 w') (repeat (with_reducible first | assumption | exact Chg.refl _ _ | refine Chg.drew ?_ | refine Chg.alloc ?_ _ | refine Chg.setCell ?_ (.inl (by simp)) _))
            (first
              | (go_at_call 13
                 have c3d : Chg No w3 w3.drew := (Chg.refl _ _).drew
                 refine (Store06_any (H3'.out.2.2.1.keep c3d (fun _ _ f => f)) G1.out hN2 (HAT.out _ (H3'.out.2.1.trans c3d)).1).mono ?_
                 rw [HMM.out.1, HMM.out.2]
                 rintro e w6 ⟨v6, rfl, v6', rfl, hs6, c6⟩
                 obtain ⟨AE, nE, cE, rfl⟩ := hs6.form
                 have c36 : Chg No w3 w6 := c3d.trans c6
                 have hC6 : Chg (fun b => b = wr.heap.size) w3 w6 := c36.no
                 have rY6 := H3'.out.2.2.2.2.keep c36 (fun f => f)
                 have rX6 := H3'.out.2.2.2.1.keep c36 (fun f => f)
                 obtain ⟨o0, o1, o2, of⟩ := rY6.three
                 have s36 := c36.size
                 obtain ⟨WE, hWE⟩ : ∃ W, ((w6.setCell ⟨wr.heap.size, 0, none⟩ (.slice AE nE cE)).setCell ⟨wr.heap.size, 1, none⟩ (.int .i64 N)).setCell ⟨wr.heap.size, 2, none⟩ (.int .i64 made) = W := ⟨_, rfl⟩
                 have cE6 : Chg (fun b => b = wr.heap.size) w6 WE := by rw [← hWE]; exact ((Chg.one _ _ _ _).trans (Chg.one _ _ _ _)).trans (Chg.one _ _ _ _)
                 have rYE : Row WE wr.heap.size 32 #[.slice AE nE cE, .int .i64 N, .int .i64 made] := by rw [← hWE]; exact rY6.set3 _ _ _
                 have HE := Lib.hid (show Ready w WE Q X wr.heap.size N AE nE cE LE made from ⟨⟨_, _, _, rX6.keep cE6 (by omega)⟩, rYE, (hs6.keep cE6 (fun b hb e => by
                     have e' : b = wr.heap.size := e
                     rcases hb with hb | hb
                     · omega
                     · have hb' : w3.heap.size ≤ b := Nat.le_trans c3d.size hb
                       omega)).more (fun b hb hS => by
                     rcases hS with hS | hS
                     · exact hS.1
                     · have hS' : w3.heap.size ≤ b := Nat.le_trans c3d.size hS
                       exact ⟨fun hq => by have := H2.out.1.lt hq; omega, by omega⟩), (H3'.out.1.keep c36 (fun _ _ f => f)).keep cE6 (fun b hb e => HYQ.out (by rw [← show b = wr.heap.size from e]; exact hb)), HCV.out WE (hC6.trans cE6)⟩)
                 have HWE := Lib.hid hWE
                 clear hs6 c6 c36 rY6 rX6 hWE cE6 rYE c3d
                 skip)
              | fail)
          rw [HWE.out]
          obtain ⟨⟨ra, rb, rd, hrx⟩, hry, hrs, hrq, hrc⟩ := HE.out
          obtain ⟨y0, y1, y2, -⟩ := hry.three
          obtain ⟨x0, x1, x2, xf⟩ := hrx.three
          obtain ⟨W9, hW9⟩ : ∃ W, ((WE.setCell ⟨X, 0, none⟩ (.slice AE nE cE)).setCell ⟨X, 1, none⟩ (.int .i64 N)).setCell ⟨X, 2, none⟩ (.int .i64 made) = W := ⟨_, rfl⟩
          have c9 : Chg (fun b => b = X) WE W9 := by rw [← hW9]; exact ((Chg.one _ _ _ _).trans (Chg.one _ _ _ _)).trans (Chg.one _ _ _ _)
          have r9 : Row W9 X 32 #[.slice AE nE cE, .int .i64 N, .int .i64 made] := by rw [← hW9]; exact hrx.set3 _ _ _
          have s9 := hrs.keep c9 (fun b hb e => hb.2 e)
          have p9 := hrq.keep c9 (fun b hb e => HXQ.out (by rw [← show b = X from e]; exact hb))
          have cw9 : Chg No w W9 := hrc.then c9 (fun b hb e => by have e' : b = X := e; omega)
          have G9 := p9.good
          have hz0 : ∀ v, Chg No W9 v → v.cell? ⟨X, 0, none⟩ = some (.slice AE nE cE) ∧ v.cell? ⟨X, 1, none⟩ = some (.int .i64 N) ∧ v.cell? ⟨X, 2, none⟩ = some (.int .i64 made) := fun v hv => ⟨(r9.keep hv (fun f => f)).cell 0, (r9.keep hv (fun f => f)).cell 1, (r9.keep hv (fun f => f)).cell 2⟩
          have hz1 : ∀ v, Chg No W9 v → v.cell? ⟨bb, off + i * 6 + 1, none⟩ = some (.int .i64 id) := fun v hv => q1 v (cw9.trans hv)
          have hps := posR_some (L := LE) (k := id)
          obtain ⟨hs0, hhs⟩ : ∃ x, (lk LE id).isSome = x := ⟨_, rfl⟩
          obtain ⟨ps, hpp⟩ : ∃ x, posR LE id = x := ⟨_, rfl⟩
          rw [hhs, hpp] at hps
          have H9 := Lib.hid (And.intro r9 (And.intro s9 (And.intro p9 (And.intro cw9 (And.intro G9 (And.intro hhs hpp))))))
          have HW9 := Lib.hid hW9
          have HQ1 := Lib.hid (And.intro q0 (And.intro q1 q2))
          clear hrx hry hrs hrq hrc hW9 c9 r9 s9 p9 cw9 G9 hhs hpp q0 q1 q2
          go_wp2_with (first
            | (rw [HW9.out])
            | fail)
          refine q_region (C := (Chg No W9)) (by kernel_rfl) (by kernel_rfl) ?_ ?_
          · exact (Chg.refl _ _).drew
          repeat
            refine q_step (fun K hK => ?_)
            go_simp
            first
              | ((with_reducible refine hK _ ?_); clear hK K)
              | (refine (if_neg (by simp [undef])).mpr ?_; (with_reducible refine hK _ ?_); clear hK K)
              | (apply Exists.intro
                 with_reducible refine ⟨fun v hv => ?_, hK _ ?_⟩
                 · first
                     | with_reducible exact rfl
                     | with_reducible exact ⟨rfl, rfl⟩
                     | (go_simp
                        first
                          | done
                          | with_reducible exact rfl
                          | with_reducible exact ⟨rfl, rfl⟩
                          | (first | (go_at_call 16; refine (secUsed_any (H9.out.2.2.1.keep hv (fun _ _ f => f))).mono ?_; rintro e w' ⟨rfl, rfl⟩; exact ⟨rfl, hv⟩) | (go_at_call 17; refine (Used6_any (H9.out.2.1.keep hv (fun _ _ f => f)) H9.out.2.2.2.2.1 hN2 _ _).mono ?_; rintro e w' ⟨rfl, g5⟩; exact ⟨rfl, hv.trans g5⟩) | (go_at_call 18; refine (secHas_any (H9.out.2.2.1.keep hv (fun _ _ f => f)) id).mono ?_; rw [H9.out.2.2.2.2.2.1]; rintro e w' ⟨rfl, g5⟩; exact ⟨rfl, hv.trans g5⟩) | (go_at_call 10; refine (Find6_any (H9.out.2.1.keep hv (fun _ _ f => f)) H9.out.2.2.2.2.1 _ _ id).mono ?_; rw [H9.out.2.2.2.2.2.2]; rintro e w' ⟨rfl, g5⟩; exact ⟨rfl, hv.trans g5⟩)))
                 clear hK K)
          refine q_nil ?_
          intro V hV
          go_wp2_with fail
          go_roundg (n - (i + 1))
          case measure => omega
          case rel => exact ⟨i + 1, LE, made, by go_num, by omega, by omega, _, H9.out.1.keep hV (fun f => f), H9.out.2.1.keep hV (fun _ _ f => f), H9.out.2.2.1.keep hV (fun _ _ f => f), H9.out.2.2.2.1.trans hV⟩
      by_cases e2 : kk = 2
      · subst e2
        cases hr : lk L id with
        | none =>
          as_aux_lemma =>
            have hpo := posR_none hr
            have hf := secFetch_none H1.out.2.2.2.1 hr
            have HFE := Lib.hid (And.intro hf hpo)
            clear hr hf hpo
            go_wp2_with (first
              | (rw [HW1.out])
              | (go_at_call 9
                 refine HFE.out.1.mono ?_
                 rintro e w3 ⟨v3, rfl, u3, rfl, ho3, hs3, c3⟩
                 obtain ⟨wv3, bv3, rfl, hI3, hB3, -, -⟩ := ho3
                 obtain ⟨A3, k3, rfl, -⟩ := hI3.form
                 obtain ⟨A4, k4, rfl, -⟩ := hB3.form
                 obtain ⟨W4, hW4⟩ : ∃ W, w3.alloc (.cells #[.int .i64 0, .int .i64 0, .slice A3 0 k3, .slice A4 0 k4] 35) = W := ⟨_, rfl⟩
                 have c4 : Chg No w3 W4 := by rw [← hW4]; exact (Chg.refl _ _).alloc _
                 have hdq : ∀ k, k = Q.B.d → Q.has k := fun k hk => by rw [hk]; exact .inr (.inr (.inr (.inl rfl)))
                 have H4 := Lib.hid (And.intro (hs3.keep c4 (fun _ _ f => f)) (And.intro ((Chg.fresh H1.out.2.2.2.2 c3 (fun k hk => H2.out.2.1 k (hdq k hk))).trans c4) (And.intro ((H1.out.2.2.1.keep c3 (fun b hb e => hb.1.1 (hdq b e))).keep c4 (fun _ _ f => f)) (And.intro ((H1.out.2.1.keep c3 (fun e => HXQ.out (hdq _ e))).keep c4 (fun f => f)) ((H1.out.1.keep c3 (fun e => HYQ.out (hdq _ e))).keep c4 (fun f => f))))))
                 have HW4 := Lib.hid hW4
                 simp only [cells2, O.zero, List.length_nil]
                 clear hI3 hB3 hs3 c3 c4 hW4 hdq)
              | (rw [HW4.out])
              | fail)
            have z0 : ∀ v, Chg No W4 v → v.cell? ⟨X, 0, none⟩ = some (.slice Ad nd cd) ∧ v.cell? ⟨X, 1, none⟩ = some (.int .i64 N) ∧ v.cell? ⟨X, 2, none⟩ = some (.int .i64 made) := fun v hv => by
              obtain ⟨u0, u1, u2, -⟩ := (H4.out.2.2.2.1.keep hv (fun f => f)).three
              exact ⟨u0, u1, u2⟩
            have z1 : ∀ v, Chg No W4 v → v.cell? ⟨bb, off + i * 6 + 1, none⟩ = some (.int .i64 id) := fun v hv => q1 v (H4.out.2.1.trans hv)
            refine q_region (C := (Chg No W4)) (by kernel_rfl) (by kernel_rfl) ?_ ?_
            · exact (Chg.refl _ _).drew
            repeat
              refine q_step (fun K hK => ?_)
              go_simp
              first
                | ((with_reducible refine hK _ ?_); clear hK K)
                | (refine (if_neg (by simp [undef])).mpr ?_; (with_reducible refine hK _ ?_); clear hK K)
                | (apply Exists.intro
                   with_reducible refine ⟨fun v hv => ?_, hK _ ?_⟩
                   · first
                       | with_reducible exact rfl
                       | with_reducible exact ⟨rfl, rfl⟩
                       | (go_simp
                          first
                            | done
                            | with_reducible exact rfl
                            | with_reducible exact ⟨rfl, rfl⟩
                            | (go_at_call 10; refine (Find6_any (H4.out.2.2.1.keep hv (fun _ _ f => f)) G1.out _ _ id).mono ?_; rw [HFE.out.2]; rintro e w' ⟨rfl, g5⟩; exact ⟨rfl, hv.trans g5⟩))
                   clear hK K)
            refine q_nil ?_
            intro V hV
            go_wp2_with fail
            refine q_region (C := (Chg No V)) (by kernel_rfl) (by kernel_rfl) ?_ ?_
            · exact (Chg.refl _ _).drew
            repeat
              refine q_step (fun K hK => ?_)
              go_simp
              first
                | ((with_reducible refine hK _ ?_); clear hK K)
                | (refine (if_neg (by simp [undef])).mpr ?_; (with_reducible refine hK _ ?_); clear hK K)
                | (apply Exists.intro
                   with_reducible refine ⟨fun v hv => ?_, hK _ ?_⟩
                   · first
                       | with_reducible exact rfl
                       | with_reducible exact ⟨rfl, rfl⟩
                       | (go_simp
                          first
                            | done
                            | with_reducible exact rfl
                            | with_reducible exact ⟨rfl, rfl⟩
                            | fail)
                   clear hK K)
            refine q_nil ?_
            intro WE hWE
            have cE4 := hV.trans hWE
            have HE := Lib.hid (show Ready w WE Q X wr.heap.size N _ _ _ L made from ⟨⟨_, _, _, H4.out.2.2.2.1.keep cE4 (fun f => f)⟩, H4.out.2.2.2.2.keep cE4 (fun f => f), (H4.out.2.2.1.keep cE4 (fun _ _ f => f)).more (fun b _ hb => hb.1), H4.out.1.keep cE4 (fun _ _ f => f), H4.out.2.1.trans cE4⟩)
            clear cE4 z0 z1
            obtain ⟨⟨ra, rb, rd, hrx⟩, hry, hrs, hrq, hrc⟩ := HE.out
            obtain ⟨y0, y1, y2, -⟩ := hry.three
            obtain ⟨x0, x1, x2, xf⟩ := hrx.three
            obtain ⟨W9, hW9⟩ : ∃ W, ((WE.setCell ⟨X, 0, none⟩ (.slice Ad nd cd)).setCell ⟨X, 1, none⟩ (.int .i64 N)).setCell ⟨X, 2, none⟩ (.int .i64 made) = W := ⟨_, rfl⟩
            have c9 : Chg (fun b => b = X) WE W9 := by rw [← hW9]; exact ((Chg.one _ _ _ _).trans (Chg.one _ _ _ _)).trans (Chg.one _ _ _ _)
            have r9 : Row W9 X 32 #[.slice Ad nd cd, .int .i64 N, .int .i64 made] := by rw [← hW9]; exact hrx.set3 _ _ _
            have s9 := hrs.keep c9 (fun b hb e => hb.2 e)
            have p9 := hrq.keep c9 (fun b hb e => HXQ.out (by rw [← show b = X from e]; exact hb))
            have cw9 : Chg No w W9 := hrc.then c9 (fun b hb e => by have e' : b = X := e; omega)
            have G9 := p9.good
            have hz0 : ∀ v, Chg No W9 v → v.cell? ⟨X, 0, none⟩ = some (.slice Ad nd cd) ∧ v.cell? ⟨X, 1, none⟩ = some (.int .i64 N) ∧ v.cell? ⟨X, 2, none⟩ = some (.int .i64 made) := fun v hv => ⟨(r9.keep hv (fun f => f)).cell 0, (r9.keep hv (fun f => f)).cell 1, (r9.keep hv (fun f => f)).cell 2⟩
            have hz1 : ∀ v, Chg No W9 v → v.cell? ⟨bb, off + i * 6 + 1, none⟩ = some (.int .i64 id) := fun v hv => q1 v (cw9.trans hv)
            have hps := posR_some (L := L) (k := id)
            obtain ⟨hs0, hhs⟩ : ∃ x, (lk L id).isSome = x := ⟨_, rfl⟩
            obtain ⟨ps, hpp⟩ : ∃ x, posR L id = x := ⟨_, rfl⟩
            rw [hhs, hpp] at hps
            have H9 := Lib.hid (And.intro r9 (And.intro s9 (And.intro p9 (And.intro cw9 (And.intro G9 (And.intro hhs hpp))))))
            have HW9 := Lib.hid hW9
            have HQ1 := Lib.hid (And.intro q0 (And.intro q1 q2))
            clear hrx hry hrs hrq hrc hW9 c9 r9 s9 p9 cw9 G9 hhs hpp q0 q1 q2
            go_wp2_with (first
              | (rw [HW9.out])
              | fail)
            refine q_region (C := (Chg No W9)) (by kernel_rfl) (by kernel_rfl) ?_ ?_
            · exact (Chg.refl _ _).drew
            repeat
              refine q_step (fun K hK => ?_)
              go_simp
              first
                | ((with_reducible refine hK _ ?_); clear hK K)
                | (refine (if_neg (by simp [undef])).mpr ?_; (with_reducible refine hK _ ?_); clear hK K)
                | (apply Exists.intro
                   with_reducible refine ⟨fun v hv => ?_, hK _ ?_⟩
                   · first
                       | with_reducible exact rfl
                       | with_reducible exact ⟨rfl, rfl⟩
                       | (go_simp
                          first
                            | done
                            | with_reducible exact rfl
                            | with_reducible exact ⟨rfl, rfl⟩
                            | (first | (go_at_call 16; refine (secUsed_any (H9.out.2.2.1.keep hv (fun _ _ f => f))).mono ?_; rintro e w' ⟨rfl, rfl⟩; exact ⟨rfl, hv⟩) | (go_at_call 17; refine (Used6_any (H9.out.2.1.keep hv (fun _ _ f => f)) H9.out.2.2.2.2.1 hN2 _ _).mono ?_; rintro e w' ⟨rfl, g5⟩; exact ⟨rfl, hv.trans g5⟩) | (go_at_call 18; refine (secHas_any (H9.out.2.2.1.keep hv (fun _ _ f => f)) id).mono ?_; rw [H9.out.2.2.2.2.2.1]; rintro e w' ⟨rfl, g5⟩; exact ⟨rfl, hv.trans g5⟩) | (go_at_call 10; refine (Find6_any (H9.out.2.1.keep hv (fun _ _ f => f)) H9.out.2.2.2.2.1 _ _ id).mono ?_; rw [H9.out.2.2.2.2.2.2]; rintro e w' ⟨rfl, g5⟩; exact ⟨rfl, hv.trans g5⟩)))
                   clear hK K)
            refine q_nil ?_
            intro V hV
            go_wp2_with fail
            go_roundg (n - (i + 1))
            case measure => omega
            case rel => exact ⟨i + 1, L, made, by go_num, by omega, by omega, _, H9.out.1.keep hV (fun f => f), H9.out.2.1.keep hV (fun _ _ f => f), H9.out.2.2.1.keep hV (fun _ _ f => f), H9.out.2.2.2.1.trans hV⟩
        | some r =>
          as_aux_lemma =>
            obtain ⟨L1, L2, eL, hpo, -, -⟩ := row_split G1.out.rise hr
            obtain ⟨p, hp⟩ : ∃ p, L1.length = p := ⟨_, rfl⟩
            rw [hp] at hpo
            have hLp : L[p]? = some r := by rw [eL, ← hp]; simp
            have hpl : p < L.length := (List.getElem?_eq_some_iff.1 hLp).1
            have hL20 := G1.out.len
            have hf := secFetch_some H1.out.2.2.2.1 hr
            have HFE := Lib.hid (And.intro hf (And.intro hpo hLp))
            have t8 : decide ((p : Int) < 0) = false := decide_eq_false (by omega)
            have t9 : decide ((0 : Int) ≤ (p : Int)) = true := decide_eq_true (by omega)
            clear hr hf hpo eL hLp hp
            go_wp2_with (first
              | (rw [HW1.out])
              | (go_at_call 9
                 refine HFE.out.1.mono ?_
                 rintro e w3 ⟨v3, rfl, u3, rfl, ho3, hs3, c3⟩
                 obtain ⟨wv3, bv3, rfl, hI3, hB3, k1', k2'⟩ := ho3
                 obtain ⟨A3, k3, rfl, -⟩ := hI3.form
                 obtain ⟨A4, k4, rfl, -⟩ := hB3.form
                 obtain ⟨W4, hW4⟩ : ∃ W, w3.alloc (.cells #[.int .i64 r.o.cls, .int .i64 r.o.kind, .slice A3 r.o.W.length k3, .slice A4 r.o.B.length k4] 35) = W := ⟨_, rfl⟩
                 have c4 : Chg No w3 W4 := by rw [← hW4]; exact (Chg.refl _ _).alloc _
                 have rF : Row W4 w3.heap.size 35 #[.int .i64 r.o.cls, .int .i64 r.o.kind, .slice A3 r.o.W.length k3, .slice A4 r.o.B.length k4] := by rw [← hW4]; exact Row.new _ _ _
                 have hdq : ∀ k, k = Q.B.d → Q.has k := fun k hk => by rw [hk]; exact .inr (.inr (.inr (.inl rfl)))
                 have HO3 := Lib.hid (And.intro rF (show ObjR W4 (fun _ => True) (.agg #[.int .i64 r.o.cls, .int .i64 r.o.kind, .slice A3 r.o.W.length k3, .slice A4 r.o.B.length k4]) r.o from ⟨_, _, rfl, (hI3.more (fun _ _ _ => trivial)).keep c4 (fun _ _ f => f), (hB3.more (fun _ _ _ => trivial)).keep c4 (fun _ _ f => f), k1', k2'⟩))
                 have H4 := Lib.hid (And.intro (hs3.keep c4 (fun _ _ f => f)) (And.intro ((Chg.fresh H1.out.2.2.2.2 c3 (fun k hk => H2.out.2.1 k (hdq k hk))).trans c4) (And.intro ((H1.out.2.2.1.keep c3 (fun b hb e => hb.1.1 (hdq b e))).keep c4 (fun _ _ f => f)) (And.intro ((H1.out.2.1.keep c3 (fun e => HXQ.out (hdq _ e))).keep c4 (fun f => f)) ((H1.out.1.keep c3 (fun e => HYQ.out (hdq _ e))).keep c4 (fun f => f))))))
                 have HW4 := Lib.hid hW4
                 simp only [cells2]
                 clear hI3 hB3 hs3 c3 c4 hW4 hdq rF k1' k2')
              | (rw [HW4.out])
              | fail)
            have z0 : ∀ v, Chg No W4 v → v.cell? ⟨X, 0, none⟩ = some (.slice Ad nd cd) ∧ v.cell? ⟨X, 1, none⟩ = some (.int .i64 N) ∧ v.cell? ⟨X, 2, none⟩ = some (.int .i64 made) := fun v hv => by
              obtain ⟨u0, u1, u2, -⟩ := (H4.out.2.2.2.1.keep hv (fun f => f)).three
              exact ⟨u0, u1, u2⟩
            have z1 : ∀ v, Chg No W4 v → v.cell? ⟨bb, off + i * 6 + 1, none⟩ = some (.int .i64 id) := fun v hv => q1 v (H4.out.2.1.trans hv)
            refine q_region (C := (Chg No W4)) (by kernel_rfl) (by kernel_rfl) ?_ ?_
            · exact (Chg.refl _ _).drew
            repeat
              refine q_step (fun K hK => ?_)
              go_simp
              first
                | ((with_reducible refine hK _ ?_); clear hK K)
                | (refine (if_neg (by simp [undef])).mpr ?_; (with_reducible refine hK _ ?_); clear hK K)
                | (apply Exists.intro
                   with_reducible refine ⟨fun v hv => ?_, hK _ ?_⟩
                   · first
                       | with_reducible exact rfl
                       | with_reducible exact ⟨rfl, rfl⟩
                       | (go_simp
                          first
                            | done
                            | with_reducible exact rfl
                            | with_reducible exact ⟨rfl, rfl⟩
                            | (go_at_call 10; refine (Find6_any (H4.out.2.2.1.keep hv (fun _ _ f => f)) G1.out _ _ id).mono ?_; rw [HFE.out.2.1]; rintro e w' ⟨rfl, g5⟩; exact ⟨rfl, hv.trans g5⟩))
                   clear hK K)
            refine q_nil ?_
            intro V hV
            go_wp2_with fail
            obtain ⟨T, hT, hR8⟩ := H4.out.2.2.1.keep hV (fun _ _ f => f)
            obtain ⟨t8', ht8, ht8r⟩ : ∃ t, T[p]? = some t ∧ t.1 = r := by
              have h1 := HFE.out.2.2
              rw [← hT, List.getElem?_map] at h1
              cases h2 : T[p]? with
              | none => rw [h2] at h1; cases h1
              | some t => rw [h2] at h1; exact ⟨t, rfl, Option.some.inj h1⟩
            obtain ⟨bT, offT, A31, c31, A32, c32, hAd, hnd, e31, e32, hc8⟩ := hR8.elem ht8
            have hTL : T.length = L.length := by rw [← hT, List.length_map]
            obtain rfl : nd = L.length := hnd.trans hTL
            subst hAd
            have hpn : (p : Int) < (L.length : Int) := by omega
            have x8 : ∀ v, Chg No V v → v.cell? ⟨bT, offT + p * 8 + 1, none⟩ = some (.int .i64 r.o.cls) ∧ v.cell? ⟨bT, offT + p * 8 + 1 + 1, none⟩ = some (.int .i64 r.o.kind) ∧ v.cell? ⟨bT, offT + p * 8 + 1 + 2, none⟩ = some (.slice A31 r.o.W.length c31) ∧ v.cell? ⟨bT, offT + p * 8 + 1 + 3, none⟩ = some (.slice A32 r.o.B.length c32) := fun v hv => by
              obtain ⟨-, -, -, u1, u2, u3, u4, -⟩ := hc8 v hv
              rw [e31] at u3
              rw [e32] at u4
              rw [ht8r] at u1 u2 u3 u4
              exact ⟨u1, u2, u3, u4⟩
            have o8 : ∀ v, Chg No V v → ObjR v _ (.agg #[.int .i64 r.o.cls, .int .i64 r.o.kind, .slice A31 r.o.W.length c31, .slice A32 r.o.B.length c32]) r.o := fun v hv => by
              have := (hc8 v hv).1
              rw [e31, e32, ht8r] at this
              exact this
            have z3 : ∀ v, Chg No V v → v.cell? ⟨X, 0, none⟩ = some (.slice (some ⟨bT, offT, none⟩) L.length cd) := fun v hv => (z0 v (hV.trans hv)).1
            have x9 : ∀ v, Chg No V v → v.cell? ⟨w3.heap.size, 0, none⟩ = some (.int .i64 r.o.cls) ∧ v.cell? ⟨w3.heap.size, 1, none⟩ = some (.int .i64 r.o.kind) ∧ v.cell? ⟨w3.heap.size, 2, none⟩ = some (.slice A3 r.o.W.length k3) ∧ v.cell? ⟨w3.heap.size, 3, none⟩ = some (.slice A4 r.o.B.length k4) := fun v hv => by
              obtain ⟨u0, u1, u2, u3, -⟩ := (HO3.out.1.keep (hV.trans hv) (fun f => f)).four
              exact ⟨u0, u1, u2, u3⟩
            have HO8 := Lib.hid o8
            clear hT hR8 ht8 ht8r e31 e32 hc8 hnd hTL o8
            refine q_region (C := (Chg No V)) (by kernel_rfl) (by kernel_rfl) ?_ ?_
            · exact (Chg.refl _ _).drew
            repeat
              refine q_step (fun K hK => ?_)
              go_simp
              first
                | ((with_reducible refine hK _ ?_); clear hK K)
                | (refine (if_neg (by simp [undef])).mpr ?_; (with_reducible refine hK _ ?_); clear hK K)
                | (apply Exists.intro
                   with_reducible refine ⟨fun v hv => ?_, hK _ ?_⟩
                   · first
                       | with_reducible exact rfl
                       | with_reducible exact ⟨rfl, rfl⟩
                       | (go_simp
                          first
                            | done
                            | with_reducible exact rfl
                            | with_reducible exact ⟨rfl, rfl⟩
                            | (go_at_call 11; refine (Same05_any _ _ r.o r.o _ _ _ (HO3.out.2.keep (hV.trans hv) (fun _ _ f => f)) (HO8.out _ hv)).mono ?_; rw [decide_eq_true rfl]; rintro e w5 ⟨rfl, g5⟩; exact ⟨rfl, hv.trans g5⟩))
                   clear hK K)
            refine q_nil ?_
            intro WE hWE
            clear x8 x9 z3
            have cE4 := hV.trans hWE
            have HE := Lib.hid (show Ready w WE Q X wr.heap.size N _ _ _ L made from ⟨⟨_, _, _, H4.out.2.2.2.1.keep cE4 (fun f => f)⟩, H4.out.2.2.2.2.keep cE4 (fun f => f), (H4.out.2.2.1.keep cE4 (fun _ _ f => f)).more (fun b _ hb => hb.1), H4.out.1.keep cE4 (fun _ _ f => f), H4.out.2.1.trans cE4⟩)
            clear cE4 z0 z1
            obtain ⟨⟨ra, rb, rd, hrx⟩, hry, hrs, hrq, hrc⟩ := HE.out
            obtain ⟨y0, y1, y2, -⟩ := hry.three
            obtain ⟨x0, x1, x2, xf⟩ := hrx.three
            obtain ⟨W9, hW9⟩ : ∃ W, ((WE.setCell ⟨X, 0, none⟩ (.slice (some ⟨bT, offT, none⟩) L.length cd)).setCell ⟨X, 1, none⟩ (.int .i64 N)).setCell ⟨X, 2, none⟩ (.int .i64 made) = W := ⟨_, rfl⟩
            have c9 : Chg (fun b => b = X) WE W9 := by rw [← hW9]; exact ((Chg.one _ _ _ _).trans (Chg.one _ _ _ _)).trans (Chg.one _ _ _ _)
            have r9 : Row W9 X 32 #[.slice (some ⟨bT, offT, none⟩) L.length cd, .int .i64 N, .int .i64 made] := by rw [← hW9]; exact hrx.set3 _ _ _
            have s9 := hrs.keep c9 (fun b hb e => hb.2 e)
            have p9 := hrq.keep c9 (fun b hb e => HXQ.out (by rw [← show b = X from e]; exact hb))
            have cw9 : Chg No w W9 := hrc.then c9 (fun b hb e => by have e' : b = X := e; omega)
            have G9 := p9.good
            have hz0 : ∀ v, Chg No W9 v → v.cell? ⟨X, 0, none⟩ = some (.slice (some ⟨bT, offT, none⟩) L.length cd) ∧ v.cell? ⟨X, 1, none⟩ = some (.int .i64 N) ∧ v.cell? ⟨X, 2, none⟩ = some (.int .i64 made) := fun v hv => ⟨(r9.keep hv (fun f => f)).cell 0, (r9.keep hv (fun f => f)).cell 1, (r9.keep hv (fun f => f)).cell 2⟩
            have hz1 : ∀ v, Chg No W9 v → v.cell? ⟨bb, off + i * 6 + 1, none⟩ = some (.int .i64 id) := fun v hv => q1 v (cw9.trans hv)
            have hps := posR_some (L := L) (k := id)
            obtain ⟨hs0, hhs⟩ : ∃ x, (lk L id).isSome = x := ⟨_, rfl⟩
            obtain ⟨ps, hpp⟩ : ∃ x, posR L id = x := ⟨_, rfl⟩
            rw [hhs, hpp] at hps
            have H9 := Lib.hid (And.intro r9 (And.intro s9 (And.intro p9 (And.intro cw9 (And.intro G9 (And.intro hhs hpp))))))
            have HW9 := Lib.hid hW9
            have HQ1 := Lib.hid (And.intro q0 (And.intro q1 q2))
            clear hrx hry hrs hrq hrc hW9 c9 r9 s9 p9 cw9 G9 hhs hpp q0 q1 q2
            go_wp2_with (first
              | (rw [HW9.out])
              | fail)
            refine q_region (C := (Chg No W9)) (by kernel_rfl) (by kernel_rfl) ?_ ?_
            · exact (Chg.refl _ _).drew
            repeat
              refine q_step (fun K hK => ?_)
              go_simp
              first
                | ((with_reducible refine hK _ ?_); clear hK K)
                | (refine (if_neg (by simp [undef])).mpr ?_; (with_reducible refine hK _ ?_); clear hK K)
                | (apply Exists.intro
                   with_reducible refine ⟨fun v hv => ?_, hK _ ?_⟩
                   · first
                       | with_reducible exact rfl
                       | with_reducible exact ⟨rfl, rfl⟩
                       | (go_simp
                          first
                            | done
                            | with_reducible exact rfl
                            | with_reducible exact ⟨rfl, rfl⟩
                            | (first | (go_at_call 16; refine (secUsed_any (H9.out.2.2.1.keep hv (fun _ _ f => f))).mono ?_; rintro e w' ⟨rfl, rfl⟩; exact ⟨rfl, hv⟩) | (go_at_call 17; refine (Used6_any (H9.out.2.1.keep hv (fun _ _ f => f)) H9.out.2.2.2.2.1 hN2 _ _).mono ?_; rintro e w' ⟨rfl, g5⟩; exact ⟨rfl, hv.trans g5⟩) | (go_at_call 18; refine (secHas_any (H9.out.2.2.1.keep hv (fun _ _ f => f)) id).mono ?_; rw [H9.out.2.2.2.2.2.1]; rintro e w' ⟨rfl, g5⟩; exact ⟨rfl, hv.trans g5⟩) | (go_at_call 10; refine (Find6_any (H9.out.2.1.keep hv (fun _ _ f => f)) H9.out.2.2.2.2.1 _ _ id).mono ?_; rw [H9.out.2.2.2.2.2.2]; rintro e w' ⟨rfl, g5⟩; exact ⟨rfl, hv.trans g5⟩)))
                   clear hK K)
            refine q_nil ?_
            intro V hV
            go_wp2_with fail
            go_roundg (n - (i + 1))
            case measure => omega
            case rel => exact ⟨i + 1, L, made, by go_num, by omega, by omega, _, H9.out.1.keep hV (fun f => f), H9.out.2.1.keep hV (fun _ _ f => f), H9.out.2.2.1.keep hV (fun _ _ f => f), H9.out.2.2.2.1.trans hV⟩
      · have n1 : (kk == 1) = false := beq_eq_false_iff_ne.2 e1
        have n2 : (kk == 2) = false := beq_eq_false_iff_ne.2 e2
        have n3 : (kk == 3) = false := beq_eq_false_iff_ne.2 e3
        clear e1 e2 e3
        as_aux_lemma =>
          obtain ⟨me, hme⟩ : ∃ x : Int, (if dropB L [id] = true then (0 : Int) else 4) = x := ⟨_, rfl⟩
          obtain ⟨LE, hLE⟩ : ∃ x, (if dropB L [id] = true then dropL L [id] else L) = x := ⟨_, rfl⟩
          have HMM := Lib.hid (And.intro hme hLE)
          have hrow : IntS (W1.alloc (.cells #[.int .i64 id] 3)) (fun k => k = W1.heap.size) (.slice (some ⟨W1.heap.size, 0, none⟩) 1 1) [id] := IntS.ofRow (l := [id]) (Row.new W1 _ _) (by simp) (by intro x hx; rw [List.mem_singleton.1 hx]; exact (HAT.out _ H1.out.2.2.2.2).2.1)
          have cA : Chg No W1 (W1.alloc (.cells #[.int .i64 id] 3)) := (Chg.refl _ _).alloc _
          have hdr := secDrop_any (H1.out.2.2.2.1.keep cA (fun _ _ f => f)) _ [id] _ hrow (fun k hk hq => by have := H1.out.2.2.2.1.lt hq; omega) (by simp)
          unfold Dropd at hdr
          rw [hme, hLE] at hdr
          have HDR := Lib.hid (And.intro hdr cA)
          clear hme hLE hrow cA hdr
          go_wp2_with (first
            | (rw [HW1.out])
            | (go_at_call 14
               refine HDR.out.1.mono ?_
               rintro e w3 ⟨rfl, hs3, c3⟩
               have hV := HDR.out.2
               have H3' := Lib.hid (And.intro hs3 (And.intro (Chg.fresh (H1.out.2.2.2.2.trans hV) c3 H2.out.2.1) (And.intro ((H1.out.2.2.1.keep hV (fun _ _ f => f)).keep c3 (fun b hb => hb.1.1)) (And.intro ((H1.out.2.1.keep hV (fun f => f)).keep c3 HXQ.out) ((H1.out.1.keep hV (fun f => f)).keep c3 HYQ.out)))))
               have s3 := Nat.le_trans hV.size c3.size
               clear hs3 c3 hV)
            | fail)
          clear k0 k1 k2
          have hcv : ∀ v, Chg (fun b => b = wr.heap.size) w3 v → Chg No w v := fun v hv => H3'.out.2.1.then hv (fun b hb e => by have e' : b = wr.heap.size := e; omega)
          have z0 : ∀ v, Chg (fun b => b = wr.heap.size) w3 v → v.cell? ⟨X, 0, none⟩ = some (.slice Ad nd cd) ∧ v.cell? ⟨X, 1, none⟩ = some (.int .i64 N) ∧ v.cell? ⟨X, 2, none⟩ = some (.int .i64 made) := fun v hv => by
            obtain ⟨u0, u1, u2, -⟩ := (H3'.out.2.2.2.1.keep hv (by omega)).three
            exact ⟨u0, u1, u2⟩
          have z1 : ∀ v, Chg (fun b => b = wr.heap.size) w3 v → v.cell? ⟨bb, off + i * 6 + 1, none⟩ = some (.int .i64 id) := fun v hv => q1 v (hcv v hv)
          have z2 : ∀ v, Chg (fun b => b = wr.heap.size) w3 v → v.cell? ⟨bb, off + i * 6 + 2, none⟩ = some (.int .i64 o.cls) ∧ v.cell? ⟨bb, off + i * 6 + 2 + 1, none⟩ = some (.int .i64 o.kind) ∧ v.cell? ⟨bb, off + i * 6 + 2 + 2, none⟩ = some (.slice A1 o.W.length ca1) ∧ v.cell? ⟨bb, off + i * 6 + 2 + 3, none⟩ = some (.slice A2 o.B.length ca2) := fun v hv => q2 v (hcv v hv)
          have HCV := Lib.hid hcv
          have hC0 : Chg (fun b => b = wr.heap.size) w3 w3 := Chg.refl _ _
          clear hcv
          go_region_held3 (fun w' => Chg (fun b => b = wr.heap.size) w3 w') (repeat (with_reducible first | assumption | exact Chg.refl _ _ | refine Chg.drew ?_ | refine Chg.alloc ?_ _ | refine Chg.setCell ?_ (.inl (by simp)) _))
            (first
              | (go_at_call 15
                 obtain ⟨wd, hwd⟩ : ∃ x, x = w3.alloc (.cells #[.int .i64 id] 3) := ⟨_, rfl⟩
                 have c3d : Chg No w3 (w3.alloc (.cells #[.int .i64 id] 3)).drew := ((Chg.refl _ _).alloc _).drew
                 have hcid : (w3.alloc (.cells #[.int .i64 id] 3)).drew.cell? ⟨w3.heap.size, 0, none⟩ = some (.int .i64 id) := (show Row (w3.alloc (.cells #[.int .i64 id] 3)).drew w3.heap.size 3 #[.int .i64 id] from Row.new w3 _ _).cell 0
                 refine (Drop06_any (H3'.out.2.2.1.keep c3d (fun _ _ f => f)) G1.out hcid).mono ?_
                 rw [HMM.out.1, HMM.out.2]
                 rintro e w6 ⟨v6, rfl, v6', rfl, hs6, c6⟩
                 obtain ⟨AE, nE, cE, rfl⟩ := hs6.form
                 have c36 : Chg No w3 w6 := c3d.trans c6
                 have hC6 : Chg (fun b => b = wr.heap.size) w3 w6 := c36.no
                 have rY6 := H3'.out.2.2.2.2.keep c36 (fun f => f)
                 have rX6 := H3'.out.2.2.2.1.keep c36 (fun f => f)
                 obtain ⟨o0, o1, o2, of⟩ := rY6.three
                 have s36 := c36.size
                 obtain ⟨WE, hWE⟩ : ∃ W, ((w6.setCell ⟨wr.heap.size, 0, none⟩ (.slice AE nE cE)).setCell ⟨wr.heap.size, 1, none⟩ (.int .i64 N)).setCell ⟨wr.heap.size, 2, none⟩ (.int .i64 made) = W := ⟨_, rfl⟩
                 have cE6 : Chg (fun b => b = wr.heap.size) w6 WE := by rw [← hWE]; exact ((Chg.one _ _ _ _).trans (Chg.one _ _ _ _)).trans (Chg.one _ _ _ _)
                 have rYE : Row WE wr.heap.size 32 #[.slice AE nE cE, .int .i64 N, .int .i64 made] := by rw [← hWE]; exact rY6.set3 _ _ _
                 have HE := Lib.hid (show Ready w WE Q X wr.heap.size N AE nE cE LE made from ⟨⟨_, _, _, rX6.keep cE6 (by omega)⟩, rYE, (hs6.keep cE6 (fun b hb e => by
                     have e' : b = wr.heap.size := e
                     rcases hb with hb | hb
                     · omega
                     · have hb' : w3.heap.size ≤ b := Nat.le_trans c3d.size hb
                       omega)).more (fun b hb hS => by
                     rcases hS with hS | hS
                     · exact hS.1
                     · have hS' : w3.heap.size ≤ b := Nat.le_trans c3d.size hS
                       exact ⟨fun hq => by have := H2.out.1.lt hq; omega, by omega⟩), (H3'.out.1.keep c36 (fun _ _ f => f)).keep cE6 (fun b hb e => HYQ.out (by rw [← show b = wr.heap.size from e]; exact hb)), HCV.out WE (hC6.trans cE6)⟩)
                 have HWE := Lib.hid hWE
                 clear hs6 c6 c36 rY6 rX6 hWE cE6 rYE c3d
                 skip)
              | fail)
          rw [HWE.out]
          obtain ⟨⟨ra, rb, rd, hrx⟩, hry, hrs, hrq, hrc⟩ := HE.out
          obtain ⟨y0, y1, y2, -⟩ := hry.three
          obtain ⟨x0, x1, x2, xf⟩ := hrx.three
          obtain ⟨W9, hW9⟩ : ∃ W, ((WE.setCell ⟨X, 0, none⟩ (.slice AE nE cE)).setCell ⟨X, 1, none⟩ (.int .i64 N)).setCell ⟨X, 2, none⟩ (.int .i64 made) = W := ⟨_, rfl⟩
          have c9 : Chg (fun b => b = X) WE W9 := by rw [← hW9]; exact ((Chg.one _ _ _ _).trans (Chg.one _ _ _ _)).trans (Chg.one _ _ _ _)
          have r9 : Row W9 X 32 #[.slice AE nE cE, .int .i64 N, .int .i64 made] := by rw [← hW9]; exact hrx.set3 _ _ _
          have s9 := hrs.keep c9 (fun b hb e => hb.2 e)
          have p9 := hrq.keep c9 (fun b hb e => HXQ.out (by rw [← show b = X from e]; exact hb))
          have cw9 : Chg No w W9 := hrc.then c9 (fun b hb e => by have e' : b = X := e; omega)
          have G9 := p9.good
          have hz0 : ∀ v, Chg No W9 v → v.cell? ⟨X, 0, none⟩ = some (.slice AE nE cE) ∧ v.cell? ⟨X, 1, none⟩ = some (.int .i64 N) ∧ v.cell? ⟨X, 2, none⟩ = some (.int .i64 made) := fun v hv => ⟨(r9.keep hv (fun f => f)).cell 0, (r9.keep hv (fun f => f)).cell 1, (r9.keep hv (fun f => f)).cell 2⟩
          have hz1 : ∀ v, Chg No W9 v → v.cell? ⟨bb, off + i * 6 + 1, none⟩ = some (.int .i64 id) := fun v hv => q1 v (cw9.trans hv)
          have hps := posR_some (L := LE) (k := id)
          obtain ⟨hs0, hhs⟩ : ∃ x, (lk LE id).isSome = x := ⟨_, rfl⟩
          obtain ⟨ps, hpp⟩ : ∃ x, posR LE id = x := ⟨_, rfl⟩
          rw [hhs, hpp] at hps
          have H9 := Lib.hid (And.intro r9 (And.intro s9 (And.intro p9 (And.intro cw9 (And.intro G9 (And.intro hhs hpp))))))
          have HW9 := Lib.hid hW9
          have HQ1 := Lib.hid (And.intro q0 (And.intro q1 q2))
          clear hrx hry hrs hrq hrc hW9 c9 r9 s9 p9 cw9 G9 hhs hpp q0 q1 q2
          go_wp2_with (first
            | (rw [HW9.out])
            | fail)
          refine q_region (C := (Chg No W9)) (by kernel_rfl) (by kernel_rfl) ?_ ?_
          · exact (Chg.refl _ _).drew
          repeat
            refine q_step (fun K hK => ?_)
            go_simp
            first
              | ((with_reducible refine hK _ ?_); clear hK K)
              | (refine (if_neg (by simp [undef])).mpr ?_; (with_reducible refine hK _ ?_); clear hK K)
              | (apply Exists.intro
                 with_reducible refine ⟨fun v hv => ?_, hK _ ?_⟩
                 · first
                     | with_reducible exact rfl
                     | with_reducible exact ⟨rfl, rfl⟩
                     | (go_simp
                        first
                          | done
                          | with_reducible exact rfl
                          | with_reducible exact ⟨rfl, rfl⟩
                          | (first | (go_at_call 16; refine (secUsed_any (H9.out.2.2.1.keep hv (fun _ _ f => f))).mono ?_; rintro e w' ⟨rfl, rfl⟩; exact ⟨rfl, hv⟩) | (go_at_call 17; refine (Used6_any (H9.out.2.1.keep hv (fun _ _ f => f)) H9.out.2.2.2.2.1 hN2 _ _).mono ?_; rintro e w' ⟨rfl, g5⟩; exact ⟨rfl, hv.trans g5⟩) | (go_at_call 18; refine (secHas_any (H9.out.2.2.1.keep hv (fun _ _ f => f)) id).mono ?_; rw [H9.out.2.2.2.2.2.1]; rintro e w' ⟨rfl, g5⟩; exact ⟨rfl, hv.trans g5⟩) | (go_at_call 10; refine (Find6_any (H9.out.2.1.keep hv (fun _ _ f => f)) H9.out.2.2.2.2.1 _ _ id).mono ?_; rw [H9.out.2.2.2.2.2.2]; rintro e w' ⟨rfl, g5⟩; exact ⟨rfl, hv.trans g5⟩)))
                 clear hK K)
          refine q_nil ?_
          intro V hV
          go_wp2_with fail
          go_roundg (n - (i + 1))
          case measure => omega
          case rel => exact ⟨i + 1, LE, made, by go_num, by omega, by omega, _, H9.out.1.keep hV (fun f => f), H9.out.2.1.keep hV (fun _ _ f => f), H9.out.2.2.1.keep hV (fun _ _ f => f), H9.out.2.2.2.1.trans hV⟩
    · obtain rfl : i = n := by omega
      as_aux_lemma =>
        have u1 : decide ((i : Int) < (i : Int)) = false := decide_eq_false (by omega)
        have z0 : ∀ v, Chg (fun b => b = Q.B.d) wr v → v.cell? ⟨X, 0, none⟩ = some (.slice Ad nd cd) ∧ v.cell? ⟨X, 1, none⟩ = some (.int .i64 N) ∧ v.cell? ⟨X, 2, none⟩ = some (.int .i64 made) := fun v hv => by
          obtain ⟨u0, u1, u2, -⟩ := (hrow.keep hv (fun e => HXQ.out (by rw [show X = Q.B.d from e]; exact .inr (.inr (.inr (.inl rfl)))))).three
          exact ⟨u0, u1, u2⟩
        have HS := Lib.hid (And.intro hsec (And.intro hsp cw))
        have G := Lib.hid hsec.good
        have hC0 : Chg (fun b => b = Q.B.d) wr wr := Chg.refl _ _
        have hwd : w.heap.size ≤ Q.B.d := H2.out.2.1 _ (.inr (.inr (.inr (.inl rfl))))
        clear hsec hsp hrow cw
        go_wp2_with fail
        have tok : True := trivial
        go_region_held3 (fun w' => Chg (fun b => b = Q.B.d) wr w') (repeat (with_reducible first | assumption | exact Chg.refl _ _ | refine Chg.drew ?_))
          (first
            | (go_at_call 19
               have c5d : Chg No wr wr.drew := (Chg.refl _ _).drew
               refine (secMade_any (HS.out.1.keep c5d (fun _ _ f => f))).mono ?_
               rintro e w' ⟨rfl, rfl⟩)
            | (go_at_call 21
               have c5d : Chg No wr wr.drew := (Chg.refl _ _).drew
               refine (secIds_any (HS.out.1.keep c5d (fun _ _ f => f))).mono ?_
               rintro e w5 ⟨v5, rfl, ho5, c5⟩
               obtain ⟨A5, d5, rfl⟩ : ∃ A c, v5 = .slice A L.length c := by have := ho5.form; rwa [List.length_map] at this
               have hC5 : Chg (fun b => b = Q.B.d) wr w5 := (c5d.trans c5).no
               have H5 := Lib.hid (And.intro (ho5.ints G.out.ids) (c5d.trans c5))
               clear ho5 c5 c5d)
            | (go_at_call 22
               refine (Ids6_any (HS.out.2.1.keep H5.out.2 (fun _ _ f => f)) G.out _ _).mono ?_
               rintro e w6 ⟨v6, rfl, ho6, c6⟩
               obtain ⟨A6, d6, rfl⟩ : ∃ A c, v6 = .slice A L.length c := by have := ho6.form; rwa [List.length_map] at this
               have hC6 : Chg (fun b => b = Q.B.d) wr w6 := (H5.out.2.trans c6).no
               have H6 := Lib.hid (And.intro (ho6.ints G.out.ids) (And.intro (H5.out.1.keep c6 (fun _ _ f => f)) (H5.out.2.trans c6)))
               clear ho6 c6)
            | (go_at_call 20
               have _t := tok
               clear tok
               have hsi := SameInts_any _ _ (L.map Rw.id) (L.map Rw.id) _ _ w6 H6.out.2.1 H6.out.1
               rw [decide_eq_true (show L.map Rw.id = L.map Rw.id from rfl)] at hsi
               refine hsi.mono ?_
               rintro e w7 ⟨rfl, c7⟩
               have hC7 : Chg (fun b => b = Q.B.d) wr w7 := (H6.out.2.2.trans c7).no
               have H7 := Lib.hid (H6.out.2.2.trans c7)
               clear c7 hsi)
            | (go_at_call 23
               refine (secNear_any (HS.out.1.keep H7.out (fun _ _ f => f)) _ R _ (HRT.out.keep (HS.out.2.2.trans H7.out) (fun _ _ f => f)) (by rw [HNR.out]; omega)).mono ?_
               rintro e w8 ⟨v8, rfl, ho8, hs8, c8⟩
               obtain ⟨A8, d8, rfl⟩ := ho8.form
               have hC8 : Chg (fun b => b = Q.B.d) wr w8 := H7.out.no.trans c8
               have H8 := Lib.hid (And.intro (ho8.ints (near64 hs8 R)) (And.intro ((HS.out.2.1.keep H7.out (fun _ _ f => f)).keep c8 (fun b hb e => hb.1 (by rw [show b = Q.B.d from e]; exact .inr (.inr (.inr (.inl rfl)))))) ((HS.out.2.2.trans H7.out).then c8 (fun b hb e => by have e' : b = Q.B.d := e; omega))))
               clear ho8 hs8 c8)
            | (go_at_call 24
               refine (Near6_any H8.out.2.1 G.out (HRT.out.keep H8.out.2.2 (fun _ _ f => f)) (by rw [HNR.out]; omega) _ _).mono ?_
               rintro e w9 ⟨v9, rfl, ho9, c9⟩
               obtain ⟨A9, d9, rfl⟩ := ho9.form
               have hC9 : Chg (fun b => b = Q.B.d) wr w9 := hC8.trans c9.no
               have H9 := Lib.hid (And.intro (ho9.ints (near64 HS.out.1 R)) (And.intro (H8.out.1.keep c9 (fun _ _ f => f)) (H8.out.2.2.trans c9)))
               clear ho9 c9)
            | (go_at_call 20
               have hsi := SameInts_any _ _ (nearL L R) (nearL L R) _ _ w9 H9.out.2.1 H9.out.1
               rw [decide_eq_true (show nearL L R = nearL L R from rfl)] at hsi
               refine hsi.mono ?_
               rintro e w10 ⟨rfl, c10⟩
               have hC10 : Chg (fun b => b = Q.B.d) wr w10 := hC9.trans c10.no
               have H10 := Lib.hid (H9.out.2.2.trans c10)
               clear c10 hsi)
            | (go_at_call 5
               refine (known06_any _).mono ?_
               rintro e w11 ⟨rfl, c11⟩
               have hC11 : Chg (fun b => b = Q.B.d) wr w11 := hC10.trans c11.no
               have H11 := Lib.hid (H10.out.trans c11)
               clear c11)
            | fail)
        all_goals
          go_wp2_with fail
          go_ret
          exact ⟨rfl, H11.out⟩

theorem SecondSteps_any (n0 : Int) (v rv : Value) (D : List D6) (R : List Int) (w : World) (h : DoR w (fun _ => True) v D) (hm : D.length ≤ maxLen) (hr : IntS w (fun _ => True) rv R) (lr : R.length ≤ 17592186044416) :
    Calls Tryz.prog 3 #[.int .i64 n0, v, rv] w fun e w' => e = .returned (.bool true) ∧ Chg No w w' := by
  by_cases hmany : (300 < n0 ∧ n0 ≤ 20000) ∨ 80 < longF D ∨ 20 < R.length ∨ n0 < 0 ∨ 20000 < n0
  · exact SecondSteps_few n0 v rv D R w h hm hr lr hmany
  · obtain ⟨N, rfl⟩ : ∃ N : Nat, n0 = (N : Int) := ⟨n0.toNat, by omega⟩
    exact SecondSteps_most N v rv D R w h hm hr (by omega) (decide_eq_false (by omega)) (by omega)

end Go.Proofs.YtdpmmafkomchaaaGreat
