/- The document on frames (websterref15): Enter. -/
import Derived.Test.YtjanojignaonfaaRef15b
import Derived.Test.YtjanojignaonfaaRef15
namespace Go.Proofs.Ytjanojignaonfaa
set_option linter.unusedVariables false
set_option linter.unusedSimpArgs false
open Go.RowKit

set_option maxRecDepth 100000 in
set_option maxHeartbeats 4000000 in
theorem Enter15_any (mv : Value) (S : Nat → Prop) (L : List O) (w : World) (hv : RefM w S mv L) (hok : OkL L) (hL : L.length + 1 < 1073741823) (sender method receiver : Int) (s64 : In64 sender) (h64 : In64 method) (r64 : In64 receiver) (lv : Value) (args : List Int) (hx : IntS w (fun _ => True) lv args) :
    Calls Try.prog 49 #[mv, .int .i64 sender, .int .i64 method, .int .i64 receiver, lv] w (Ret (Went3 w S (enterR L sender method receiver args).1 (enterR L sender method receiver args).2.1 (enterR L sender method receiver args).2.2)) := by
  obtain ⟨lm, rfl, hl⟩ := hv
  obtain ⟨A0, c0, rfl, hl0, hl1, -⟩ := hx.form
  have hmax : args.length ≤ 9223372036854775807 := by unfold maxLen at hl1; simp at hl1; omega
  have HX := Lib.hid hx
  clear hx hl0 hl1
  obtain ⟨p, hp⟩ : ∃ p, args.length = p := ⟨_, rfl⟩
  rw [hp] at hmax HX ⊢
  have HPL := Lib.hid hp
  have HNL1 := Lib.hid hL
  replace hL : L.length < 1073741823 := by have := HNL1.out; omega
  have hbd := readM_bd L method
  have hle := readM_le L method
  have hmd := hok.madeL 4 (head8 sender method receiver)
  have fv64 := madeV64 L 4 (head8 sender method receiver) hL
  obtain ⟨M, hM⟩ : ∃ M, readM L method = M := ⟨_, rfl⟩
  obtain ⟨ma, mt, mp, mc, ml, me⟩ := M
  rw [hM] at hbd hle
  unfold enterR
  rw [hM]
  have HRM := Lib.hid hM
  clear hM
  dsimp only at hbd hle ⊢
  rw [hp]
  by_cases hme : me = 0
  · subst hme
    have hat := hle rfl
    rw [if_neg (by simp)]
    by_cases hpa : (p : Int) = ma
    · rw [if_neg (by simpa using hpa)]
      have t1 : ((p : Int) != ma) = false := by simpa using hpa
      obtain ⟨f, hf⟩ : ∃ f, madeV L 4 (head8 sender method receiver) = f := ⟨_, rfl⟩
      obtain ⟨x, hx⟩ : ∃ x, madeE L 4 (head8 sender method receiver) = x := ⟨_, rfl⟩
      obtain ⟨M1, hM1⟩ : ∃ M1, madeL L 4 (head8 sender method receiver) = M1 := ⟨_, rfl⟩
      rw [hf] at fv64
      rw [hM1] at hmd
      rw [hf, hx, hM1]
      have HMD := Lib.hid (And.intro hM1 (And.intro hf hx))
      have HO2 := Lib.hid (And.intro hmd.1 (show M1.length < 1073741823 from by have := hmd.2; have := HNL1.out; omega))
      clear hf hx hM1 hmd hle
      by_cases hx0 : x = 0
      · subst hx0
        rw [if_neg (by simp), fillR_eq]
        obtain ⟨t, rfl⟩ : ∃ t : Nat, mt = (t : Int) := ⟨mt.toNat, by omega⟩
        have hft : args ++ List.replicate ((t : Int) - ma).toNat 2 = fillL args t := by
          unfold fillL
          rw [hp, show ((t : Int) - ma).toNat = t - p by omega]
        rw [hft]
        clear hft
        obtain ⟨P, hP⟩ : ∃ P, pushR f M1 (fillL args t) = P := ⟨_, rfl⟩
        obtain ⟨RL, Re⟩ := P
        rw [hP]
        have HPu := Lib.hid hP
        have hpt : p ≤ t := by omega
        have HPT := Lib.hid hpt
        have ht32 : t < 32 := by omega
        clear hP hp hat hbd hpa
        obtain ⟨Y, hY⟩ : ∃ Y, (if (RL, Re).2 = 0 then ((RL, Re).1, f, (0 : Int)) else ((RL, Re).1, (0 : Int), (RL, Re).2)) = Y := ⟨_, rfl⟩
        rw [hY]
        have HY := Lib.hid hY
        clear hY
        obtain ⟨A, cp, rfl, -⟩ := hl.form
        have hold : RefM w (fun b => S b ∧ b < w.heap.size) (.agg #[.slice A L.length cp]) L := RefM.more (S' := fun b => S b ∧ b < w.heap.size) ⟨_, rfl, hl⟩ (fun b h1 h2 => ⟨h2, h1⟩)
        have HV := Lib.hid hold
        have HOK := Lib.hid hok
        have HNL := Lib.hid hL
        clear hl hok hL hold
        generalize hn : L.length = n at *
        obtain ⟨W, hW⟩ : ∃ W, (w.alloc (.cells #[.slice A n cp] 33)).alloc (.cells #[.slice none 0 0] 33) = W := ⟨_, rfl⟩
        have cW : Chg No w W := by rw [← hW]; exact ((Chg.refl _ _).alloc _).alloc _
        have rA : Row W w.heap.size 33 #[.slice A n cp] := by rw [← hW]; exact (Row.new w _ _).alloc _
        have rB : Row W (w.heap.size + 1) 33 #[.slice none 0 0] := by rw [← hW]; exact Row.new2' w _ _ _
        have sW : w.heap.size + 2 ≤ W.heap.size := by have := rB.lt; omega
        have HA := Lib.hid (And.intro cW (And.intro rA (And.intro rB sW)))
        have HW := Lib.hid hW
        clear hW cW rA rB sW
        go_enter Try.func49, Try.ntmps49
        go_wp2_with (first
          | (go_at_call 79
             have HZ := HW.out
             clear HW
             rw [HZ]
             refine (Read14_any _ _ L W (HV.out.keep HA.out.1 (fun _ _ f => f)) HOK.out method h64).mono ?_
             rw [HRM.out]
             rintro e w1 ⟨rfl, c1⟩
             simp only [ME.cells]
             obtain ⟨W1, h1⟩ : ∃ W1, w1.alloc (.cells #[.int .i64 ma, .int .i64 (t : Int), .int .i64 mp, .int .i64 mc, .int .i64 ml] 23) = W1 := ⟨_, rfl⟩
             have c12 : Chg No w1 W1 := by rw [← h1]; exact (Chg.refl _ _).alloc _
             have c02 := c1.trans c12
             have rA1 := HA.out.2.1.keep c02 (fun f => f)
             have rB1 := HA.out.2.2.1.keep c02 (fun f => f)
             have rM1 : Row W1 w1.heap.size 23 #[.int .i64 ma, .int .i64 (t : Int), .int .i64 mp, .int .i64 mc, .int .i64 ml] := by rw [← h1]; exact Row.new w1 _ _
             have s1 := c1.size
             have xA1 : W1.cell? ⟨w.heap.size, 0, none⟩ = some (.slice A n cp) := rA1.cell 0
             have xB1 : W1.cell? ⟨w.heap.size + 1, 0, none⟩ = some (.slice none 0 0) := rB1.cell 0
             have xM1 : W1.cell? ⟨w1.heap.size, 0, none⟩ = some (.int .i64 ma) := rM1.cell 0
             have yB1 := rB1.frozen 0
             have zB1 := (rB1.set 0 (.slice A n cp)).cell 0
             have h12 := Lib.hid h1
             have H1 := Lib.hid (And.intro (HA.out.1.trans c02) (And.intro rM1 (And.intro rB1 (And.intro (show w.heap.size + 2 ≤ w1.heap.size from Nat.le_trans HA.out.2.2.2 s1) rM1.lt))))
             clear c1 rA1 rB1 HZ c02 c12 rM1 h1 s1)
            | (rw [h12.out])
          | (go_at_call 80
             refine (Made15_any _ _ L _ (HV.out.keep (H1.out.1.alloc _) (fun _ _ f => f)) HOK.out (by rw [hn]; exact HNL1.out) 4 _ (head8 sender method receiver) ((IntS.row (l := head8 sender method receiver) (Row.new W1 3 _) (by simp [head8]) (by
               intro x hx
               simp [head8] at hx
               rcases hx with rfl | rfl | rfl | rfl | rfl | rfl <;> first | assumption | exact in1 | exact in2)).more (S' := fun _ => True) (fun _ _ _ => trivial))).mono ?_
             rw [HMD.out.1, HMD.out.2.1, HMD.out.2.2]
             rintro e w3 ⟨r1, rfl, x, rfl, c3, ⟨lx, rfl, hlx⟩⟩
             obtain ⟨A5, k5, rfl, -⟩ := hlx.form
             generalize hn5 : M1.length = n5 at *
             have HN5 := Lib.hid hn5
             clear hn5
             obtain ⟨W3, h3⟩ : ∃ W3, w3.alloc (.cells #[.slice A5 n5 k5] 33) = W3 := ⟨_, rfl⟩
             have c34 : Chg No w3 W3 := by rw [← h3]; exact (Chg.refl _ _).alloc _
             have c14 := (((Chg.refl No W1).alloc _).trans c3).trans c34
             have rB3 := H1.out.2.2.1.keep c14 (fun f => f)
             have rM3 := H1.out.2.1.keep c14 (fun f => f)
             have rX3 : Row W3 w3.heap.size 33 #[.slice A5 n5 k5] := by rw [← h3]; exact Row.new w3 _ _
             have s13 := ((Chg.refl No W1).alloc _ |>.trans c3).size
             have xB3 : W3.cell? ⟨w.heap.size + 1, 0, none⟩ = some (.slice none 0 0) := rB3.cell 0
             have yB3 := rB3.frozen 0
             have zB3 := (rB3.set 0 (.slice A5 n5 k5)).cell 0
             have xM3 : W3.cell? ⟨w1.heap.size, 1, none⟩ = some (.int .i64 (t : Int)) := rM3.cell 1
             have xX3 : W3.cell? ⟨w3.heap.size, 0, none⟩ = some (.slice A5 n5 k5) := rX3.cell 0
             have hl3 : RefL W3 (fun b => (S b ∧ b < w.heap.size) ∨ (w.heap.size + 2 ≤ b ∧ b ≠ w3.heap.size)) (.slice A5 n5 k5) M1 := RefL.keep (RefL.more (S' := fun b => (S b ∧ b < w.heap.size) ∨ (w.heap.size + 2 ≤ b ∧ b ≠ w3.heap.size)) hlx (fun b hb h => by
               have h1 := H1.out.2.2.2.1
               have h2 := H1.out.2.2.2.2
               have h4 := ((Chg.refl No W1).alloc (.cells #[.int .i64 sender, .int .i64 1, .int .i64 1, .int .i64 method, .int .i64 receiver, .int .i64 2, .int .i64 1, .int .i64 1] 3)).size
               rcases h with h | h
               · exact .inl h
               · exact .inr ⟨by simp at h; omega, by omega⟩)) c34 (fun _ _ f => f)
             have H3 := Lib.hid h3
             have H2 := Lib.hid (And.intro (H1.out.1.trans c14) (And.intro rB3 (And.intro hl3 (And.intro (show w.heap.size + 2 ≤ w3.heap.size from by have := H1.out.2.2.2.1; have := H1.out.2.2.2.2; omega) (And.intro rX3 (And.intro rM3 (show w1.heap.size < w3.heap.size from by have := H1.out.2.2.2.2; omega)))))))
             clear c3 c34 c14 rB3 hlx h3 hl3 rX3 rM3 s13)
            | (rw [H3.out])
          | fail)
        go_loopg [17, 18] t (fun j v17 v18 wr => ∃ (i : Nat) (ek : Int) (Li : List O) (Ai : Option Addr) (ni ki : Nat), v17 = .int .i64 ek ∧ v18 = .int .i64 (i : Int) ∧ i ≤ t ∧ t - i ≤ j ∧ Chg No w wr ∧ Row wr w3.heap.size 33 #[.slice Ai ni ki] ∧ Row wr (w.heap.size + 1) 33 #[.slice none 0 0] ∧ Row wr w1.heap.size 23 #[.int .i64 ma, .int .i64 (t : Int), .int .i64 mp, .int .i64 mc, .int .i64 ml] ∧
          RefL wr (fun b => (S b ∧ b < w.heap.size) ∨ (w.heap.size + 2 ≤ b ∧ b ≠ w3.heap.size)) (.slice Ai ni ki) Li ∧ OkL Li ∧ Li.length < 1073741823 ∧ (if ek = 0 then pushR f Li ((fillL args t).drop i) else (Li, ek)) = (RL, Re))
        case atStart => exact ⟨0, 0, M1, A5, n5, k5, rfl, rfl, by omega, by omega, H2.out.1, H2.out.2.2.2.2.1, H2.out.2.1, H2.out.2.2.2.2.2.1, H2.out.2.2.1, HO2.out.1, by rw [HN5.out]; exact HO2.out.2, by rw [if_pos rfl]; exact HPu.out⟩
        case round =>
          have hw3 := H2.out.2.2.2.1
          have hw13 := H2.out.2.2.2.2.2.2
          clear HPu HRM HMD HO2 xA1 xB1 yB1 zB1 xM1 xB3 yB3 zB3 xM3 xX3 HV HOK H1 H2 H3 HA h12
          obtain ⟨i, ek, Li, Ai, ni, ki, rfl, rfl, hi, hj, cg, rx, rB, rM, hl, hok, hlen, hfin⟩ := hrel
          have xX : wr.cell? ⟨w3.heap.size, 0, none⟩ = some (.slice Ai ni ki) := rx.cell 0
          have yX := rx.frozen 0
          have xM : wr.cell? ⟨w1.heap.size, 1, none⟩ = some (.int .i64 (t : Int)) := rM.cell 1
          have hlf := fillL_len (args := args) (t := t) (by rw [HPL.out]; exact HPT.out)
          by_cases hlt : i < t
          · have t2 : decide ((i : Int) < (t : Int)) = true := decide_eq_true (by omega)
            by_cases hek : ek = 0
            · subst hek
              rw [if_pos rfl, pushR_step (by rw [hlf]; exact hlt)] at hfin
              have wi : IntKind.i64.wrap ((i : Int) + 1) = (i : Int) + 1 := IntWalk.i64_in _ (by omega)
              by_cases hip : i < p
              · have t3 : decide ((i : Int) < (p : Int)) = true := decide_eq_true (by omega)
                have l3 : (i : Int) < (p : Int) := by omega
                rw [fillL_lo (by rw [HPL.out]; exact hip)] at hfin
                obtain ⟨b, off, rfl⟩ := HX.out.some' (by rw [HPL.out]; omega)
                obtain ⟨y0, v64⟩ := (HX.out.keep cg (fun _ _ f => f)).lay' (i := i) (by rw [HPL.out]; exact hip)
                obtain ⟨v, hvv⟩ : ∃ v, args[i]?.getD 0 = v := ⟨_, rfl⟩
                rw [hvv] at y0 v64 hfin
                have HG := Lib.hid (And.intro cg (And.intro rx (And.intro rB (And.intro rM (And.intro hl (And.intro hok hlen))))))
                have HF := Lib.hid hfin
                clear cg rx rB rM hl hok hlen hfin hvv hlf
                go_wp2_with (first
                  | (go_at_call 81
                     refine (Push15_any _ _ Li wr ⟨_, rfl, HG.out.2.2.2.2.1⟩ HG.out.2.2.2.2.2.1 HG.out.2.2.2.2.2.2 f v fv64 v64).mono ?_
                     rintro e w5 ⟨r1, rfl, x, rfl, c5, ⟨lx, rfl, hlx⟩⟩
                     obtain ⟨A6, k6, rfl, -⟩ := hlx.form
                     generalize hn6 : (push1L Li f v).length = n6 at *
                     have rX5 := HG.out.2.1.keep c5 (fun f => f)
                     have xX5 : w5.cell? ⟨w3.heap.size, 0, none⟩ = some (.slice Ai ni ki) := rX5.cell 0
                     have yX5 := rX5.frozen 0
                     have hl5 : RefL w5 (fun b => ((S b ∧ b < w.heap.size) ∨ (w.heap.size + 2 ≤ b ∧ b ≠ w3.heap.size)) ∧ b ≠ w.heap.size) (.slice A6 n6 k6) (push1L Li f v) := hlx.more (S' := fun b => ((S b ∧ b < w.heap.size) ∨ (w.heap.size + 2 ≤ b ∧ b ≠ w3.heap.size)) ∧ b ≠ w.heap.size) (fun b hb h => by
                       have h0 := HG.out.1.size
                       have h1 := HG.out.2.1.lt
                       rcases h with h | h
                       · exact ⟨h, by rcases h with h | h <;> omega⟩
                       · exact ⟨.inr ⟨by omega, by omega⟩, by omega⟩)
                     have H5 := Lib.hid (And.intro hl5 (And.intro c5 hn6))
                     clear hlx c5 hn6 rX5 hl5)
                  | fail)
                go_roundg (t - (i + 1))
                case measure => omega
                case rel =>
                  have hr := made_round (y := w.heap.size) hw3 HG.out.1 HG.out.2.1 HG.out.2.2.1 H5.out.1 H5.out.2.1 (Chg.refl _ _)
                  exact ⟨i + 1, _, _, A6, n6, k6, rfl, by go_num, by omega, by omega, hr.1, hr.2.1, hr.2.2.1, (HG.out.2.2.2.1.keep H5.out.2.1 (fun f => f)).keep (F := fun b => b = w3.heap.size) (Chg.setCell (F := fun b => b = w3.heap.size) (p := ⟨w3.heap.size, 0, none⟩) (Chg.refl _ _) (.inl rfl) _) (by omega), hr.2.2.2, HG.out.2.2.2.2.2.1.push1L _ _, by rw [length_push1L]; exact HG.out.2.2.2.2.2.2, HF.out⟩
              · have t3 : decide ((i : Int) < (p : Int)) = false := decide_eq_false (by omega)
                rw [fillL_hi (by rw [HPL.out]; omega) hlt] at hfin
                have v64 := in2
                obtain ⟨v, hvv⟩ : ∃ v : Int, (2 : Int) = v := ⟨_, rfl⟩
                have HG := Lib.hid (And.intro cg (And.intro rx (And.intro rB (And.intro rM (And.intro hl (And.intro hok hlen))))))
                have HF := Lib.hid hfin
                clear cg rx rB rM hl hok hlen hfin hlf hvv v
                go_wp2_with (first
                  | (go_at_call 81
                     refine (Push15_any _ _ Li wr ⟨_, rfl, HG.out.2.2.2.2.1⟩ HG.out.2.2.2.2.2.1 HG.out.2.2.2.2.2.2 f 2 fv64 v64).mono ?_
                     rintro e w5 ⟨r1, rfl, x, rfl, c5, ⟨lx, rfl, hlx⟩⟩
                     obtain ⟨A6, k6, rfl, -⟩ := hlx.form
                     generalize hn6 : (push1L Li f 2).length = n6 at *
                     have rX5 := HG.out.2.1.keep c5 (fun f => f)
                     have xX5 : w5.cell? ⟨w3.heap.size, 0, none⟩ = some (.slice Ai ni ki) := rX5.cell 0
                     have yX5 := rX5.frozen 0
                     have hl5 : RefL w5 (fun b => ((S b ∧ b < w.heap.size) ∨ (w.heap.size + 2 ≤ b ∧ b ≠ w3.heap.size)) ∧ b ≠ w.heap.size) (.slice A6 n6 k6) (push1L Li f 2) := hlx.more (S' := fun b => ((S b ∧ b < w.heap.size) ∨ (w.heap.size + 2 ≤ b ∧ b ≠ w3.heap.size)) ∧ b ≠ w.heap.size) (fun b hb h => by
                       have h0 := HG.out.1.size
                       have h1 := HG.out.2.1.lt
                       rcases h with h | h
                       · exact ⟨h, by rcases h with h | h <;> omega⟩
                       · exact ⟨.inr ⟨by omega, by omega⟩, by omega⟩)
                     have H5 := Lib.hid (And.intro hl5 (And.intro c5 hn6))
                     clear hlx c5 hn6 rX5 hl5)
                  | fail)
                go_roundg (t - (i + 1))
                case measure => omega
                case rel =>
                  have hr := made_round (y := w.heap.size) hw3 HG.out.1 HG.out.2.1 HG.out.2.2.1 H5.out.1 H5.out.2.1 (Chg.refl _ _)
                  exact ⟨i + 1, _, _, A6, n6, k6, rfl, by go_num, by omega, by omega, hr.1, hr.2.1, hr.2.2.1, (HG.out.2.2.2.1.keep H5.out.2.1 (fun f => f)).keep (F := fun b => b = w3.heap.size) (Chg.setCell (F := fun b => b = w3.heap.size) (p := ⟨w3.heap.size, 0, none⟩) (Chg.refl _ _) (.inl rfl) _) (by omega), hr.2.2.2, HG.out.2.2.2.2.2.1.push1L _ _, by rw [length_push1L]; exact HG.out.2.2.2.2.2.2, HF.out⟩
            · rw [if_neg hek] at hfin
              have t3 : (ek == 0) = false := by simpa using hek
              have t4 : (ek != 0) = true := by simpa using hek
              obtain ⟨rfl, rfl⟩ := Prod.mk.inj hfin
              obtain rfl : Y = (Li, 0, ek) := by rw [← HY.out]; exact if_neg hek
              have xB : wr.cell? ⟨w.heap.size + 1, 0, none⟩ = some (.slice none 0 0) := rB.cell 0
              have yB := rB.frozen 0
              have zB := (rB.set 0 (.slice Ai ni ki)).cell 0
              have HG := Lib.hid (And.intro cg hl)
              clear cg rx rB rM hl hok hlen hfin hlf
              go_wp2_with fail
              refine bodyPost_ret (v := .tuple #[.agg #[.slice Ai ni ki], .int .i64 0, .int .i64 ek]) (by simp [results, Try.results49, go_sem, zB]; try exact zB) rfl (Ret.mk ⟨_, rfl, ?_⟩)
              exact made_end (S := S) ⟨_, rfl, HG.out.2⟩ (fun b h => h.elim .inl (fun h => .inr h.1)) HG.out.1 ((Chg.refl _ _).setCell (.inl (by simp)) _)
          · have t2 : decide ((i : Int) < (t : Int)) = false := decide_eq_false (by omega)
            obtain rfl : i = t := by omega
            rw [pushR_end (by rw [hlf]; exact Nat.le_refl _)] at hfin
            by_cases hek : ek = 0
            · subst hek
              rw [if_pos rfl] at hfin
              obtain ⟨rfl, rfl⟩ := Prod.mk.inj hfin
              obtain rfl : Y = (Li, f, 0) := by rw [← HY.out]; exact if_pos rfl
              have xB : wr.cell? ⟨w.heap.size + 1, 0, none⟩ = some (.slice none 0 0) := rB.cell 0
              have yB := rB.frozen 0
              have zB := (rB.set 0 (.slice Ai ni ki)).cell 0
              have HG := Lib.hid (And.intro cg hl)
              clear cg rx rB rM hl hok hlen hfin hlf
              go_wp2_with fail
              refine bodyPost_ret (v := .tuple #[.agg #[.slice Ai ni ki], .int .i64 f, .int .i64 0]) (by simp [results, Try.results49, go_sem, zB]; try exact zB) rfl (Ret.mk ⟨_, rfl, ?_⟩)
              exact made_end (S := S) ⟨_, rfl, HG.out.2⟩ (fun b h => h.elim .inl (fun h => .inr h.1)) HG.out.1 ((Chg.refl _ _).setCell (.inl (by simp)) _)
            · rw [if_neg hek] at hfin
              have t3 : (ek == 0) = false := by simpa using hek
              have t4 : (ek != 0) = true := by simpa using hek
              obtain ⟨rfl, rfl⟩ := Prod.mk.inj hfin
              obtain rfl : Y = (Li, 0, ek) := by rw [← HY.out]; exact if_neg hek
              have xB : wr.cell? ⟨w.heap.size + 1, 0, none⟩ = some (.slice none 0 0) := rB.cell 0
              have yB := rB.frozen 0
              have zB := (rB.set 0 (.slice Ai ni ki)).cell 0
              have HG := Lib.hid (And.intro cg hl)
              clear cg rx rB rM hl hok hlen hfin hlf
              go_wp2_with fail
              refine bodyPost_ret (v := .tuple #[.agg #[.slice Ai ni ki], .int .i64 0, .int .i64 ek]) (by simp [results, Try.results49, go_sem, zB]; try exact zB) rfl (Ret.mk ⟨_, rfl, ?_⟩)
              exact made_end (S := S) ⟨_, rfl, HG.out.2⟩ (fun b h => h.elim .inl (fun h => .inr h.1)) HG.out.1 ((Chg.refl _ _).setCell (.inl (by simp)) _)
      · rw [if_pos hx0]
        have t3 : (x == 0) = false := by simpa using hx0
        have t4 : (x != 0) = true := by simpa using hx0
        clear hx0 hbd hat hp
        obtain ⟨A, cp, rfl, -⟩ := hl.form
        have hold : RefM w (fun b => S b ∧ b < w.heap.size) (.agg #[.slice A L.length cp]) L := RefM.more (S' := fun b => S b ∧ b < w.heap.size) ⟨_, rfl, hl⟩ (fun b h1 h2 => ⟨h2, h1⟩)
        have HV := Lib.hid hold
        have HOK := Lib.hid hok
        have HNL := Lib.hid hL
        clear hl hok hL hold
        generalize hn : L.length = n at *
        obtain ⟨W, hW⟩ : ∃ W, (w.alloc (.cells #[.slice A n cp] 33)).alloc (.cells #[.slice none 0 0] 33) = W := ⟨_, rfl⟩
        have cW : Chg No w W := by rw [← hW]; exact ((Chg.refl _ _).alloc _).alloc _
        have rA : Row W w.heap.size 33 #[.slice A n cp] := by rw [← hW]; exact (Row.new w _ _).alloc _
        have rB : Row W (w.heap.size + 1) 33 #[.slice none 0 0] := by rw [← hW]; exact Row.new2' w _ _ _
        have sW : w.heap.size + 2 ≤ W.heap.size := by have := rB.lt; omega
        have HA := Lib.hid (And.intro cW (And.intro rA (And.intro rB sW)))
        have HW := Lib.hid hW
        clear hW cW rA rB sW
        go_enter Try.func49, Try.ntmps49
        go_wp2_with (first
          | (go_at_call 79
             have HZ := HW.out
             clear HW
             rw [HZ]
             refine (Read14_any _ _ L W (HV.out.keep HA.out.1 (fun _ _ f => f)) HOK.out method h64).mono ?_
             rw [HRM.out]
             rintro e w1 ⟨rfl, c1⟩
             simp only [ME.cells]
             obtain ⟨W1, h1⟩ : ∃ W1, w1.alloc (.cells #[.int .i64 ma, .int .i64 mt, .int .i64 mp, .int .i64 mc, .int .i64 ml] 23) = W1 := ⟨_, rfl⟩
             have c12 : Chg No w1 W1 := by rw [← h1]; exact (Chg.refl _ _).alloc _
             have c02 := c1.trans c12
             have rA1 := HA.out.2.1.keep c02 (fun f => f)
             have rB1 := HA.out.2.2.1.keep c02 (fun f => f)
             have rM1 : Row W1 w1.heap.size 23 #[.int .i64 ma, .int .i64 mt, .int .i64 mp, .int .i64 mc, .int .i64 ml] := by rw [← h1]; exact Row.new w1 _ _
             have s1 := c1.size
             have xA1 : W1.cell? ⟨w.heap.size, 0, none⟩ = some (.slice A n cp) := rA1.cell 0
             have xB1 : W1.cell? ⟨w.heap.size + 1, 0, none⟩ = some (.slice none 0 0) := rB1.cell 0
             have xM1 : W1.cell? ⟨w1.heap.size, 0, none⟩ = some (.int .i64 ma) := rM1.cell 0
             have yB1 := rB1.frozen 0
             have zB1 := (rB1.set 0 (.slice A n cp)).cell 0
             have h12 := Lib.hid h1
             have H1 := Lib.hid (And.intro (HA.out.1.trans c02) (And.intro rM1 (And.intro rB1 (And.intro (show w.heap.size + 2 ≤ w1.heap.size from Nat.le_trans HA.out.2.2.2 s1) rM1.lt))))
             clear c1 rA1 rB1 HZ c02 c12 rM1 h1 s1)
            | (rw [h12.out])
          | (go_at_call 80
             refine (Made15_any _ _ L _ (HV.out.keep (H1.out.1.alloc _) (fun _ _ f => f)) HOK.out (by rw [hn]; exact HNL1.out) 4 _ (head8 sender method receiver) ((IntS.row (l := head8 sender method receiver) (Row.new W1 3 _) (by simp [head8]) (by
               intro x hx
               simp [head8] at hx
               rcases hx with rfl | rfl | rfl | rfl | rfl | rfl <;> first | assumption | exact in1 | exact in2)).more (S' := fun _ => True) (fun _ _ _ => trivial))).mono ?_
             rw [HMD.out.1, HMD.out.2.1, HMD.out.2.2]
             rintro e w3 ⟨r1, rfl, x, rfl, c3, ⟨lx, rfl, hlx⟩⟩
             obtain ⟨A5, k5, rfl, -⟩ := hlx.form
             generalize hn5 : M1.length = n5 at *
             have HN5 := Lib.hid hn5
             clear hn5
             obtain ⟨W3, h3⟩ : ∃ W3, w3.alloc (.cells #[.slice A5 n5 k5] 33) = W3 := ⟨_, rfl⟩
             have c34 : Chg No w3 W3 := by rw [← h3]; exact (Chg.refl _ _).alloc _
             have c14 := (((Chg.refl No W1).alloc _).trans c3).trans c34
             have rB3 := H1.out.2.2.1.keep c14 (fun f => f)
             have rM3 := H1.out.2.1.keep c14 (fun f => f)
             have rX3 : Row W3 w3.heap.size 33 #[.slice A5 n5 k5] := by rw [← h3]; exact Row.new w3 _ _
             have s13 := ((Chg.refl No W1).alloc _ |>.trans c3).size
             have xB3 : W3.cell? ⟨w.heap.size + 1, 0, none⟩ = some (.slice none 0 0) := rB3.cell 0
             have yB3 := rB3.frozen 0
             have zB3 := (rB3.set 0 (.slice A5 n5 k5)).cell 0
             have xM3 : W3.cell? ⟨w1.heap.size, 1, none⟩ = some (.int .i64 mt) := rM3.cell 1
             have xX3 : W3.cell? ⟨w3.heap.size, 0, none⟩ = some (.slice A5 n5 k5) := rX3.cell 0
             have hl3 : RefL W3 (fun b => (S b ∧ b < w.heap.size) ∨ (w.heap.size + 2 ≤ b ∧ b ≠ w3.heap.size)) (.slice A5 n5 k5) M1 := RefL.keep (RefL.more (S' := fun b => (S b ∧ b < w.heap.size) ∨ (w.heap.size + 2 ≤ b ∧ b ≠ w3.heap.size)) hlx (fun b hb h => by
               have h1 := H1.out.2.2.2.1
               have h2 := H1.out.2.2.2.2
               have h4 := ((Chg.refl No W1).alloc (.cells #[.int .i64 sender, .int .i64 1, .int .i64 1, .int .i64 method, .int .i64 receiver, .int .i64 2, .int .i64 1, .int .i64 1] 3)).size
               rcases h with h | h
               · exact .inl h
               · exact .inr ⟨by simp at h; omega, by omega⟩)) c34 (fun _ _ f => f)
             have H3 := Lib.hid h3
             have H2 := Lib.hid (And.intro (H1.out.1.trans c14) (And.intro rB3 (And.intro hl3 (And.intro (show w.heap.size + 2 ≤ w3.heap.size from by have := H1.out.2.2.2.1; have := H1.out.2.2.2.2; omega) (And.intro rX3 (And.intro rM3 (show w1.heap.size < w3.heap.size from by have := H1.out.2.2.2.2; omega)))))))
             clear c3 c34 c14 rB3 hlx h3 hl3 rX3 rM3 s13)
            | (rw [H3.out])
          | fail)
        refine wp_loop_rounds 1 ?_
        rw [rounds_succ]
        go_wp2_with fail
        all_goals
          refine bodyPost_ret (v := .tuple #[.agg #[.slice A5 n5 k5], .int .i64 0, .int .i64 x]) (by simp [results, Try.results49, go_sem, zB3]; try exact zB3) rfl (Ret.mk ⟨_, rfl, ?_⟩)
          exact made_end (S := S) ⟨_, rfl, H2.out.2.2.1⟩ (fun b h => h.elim .inl (fun h => .inr h.1)) H2.out.1 ((Chg.refl _ _).setCell (.inl (by simp)) _)
    · rw [if_pos hpa]
      have t1 : ((p : Int) != ma) = true := by simpa using hpa
      clear hpa hmd hle hbd hp hat fv64
      obtain ⟨A, cp, rfl, -⟩ := hl.form
      have hold : RefM w (fun b => S b ∧ b < w.heap.size) (.agg #[.slice A L.length cp]) L := RefM.more (S' := fun b => S b ∧ b < w.heap.size) ⟨_, rfl, hl⟩ (fun b h1 h2 => ⟨h2, h1⟩)
      have HV := Lib.hid hold
      have HOK := Lib.hid hok
      have HNL := Lib.hid hL
      clear hl hok hL hold
      generalize hn : L.length = n at *
      obtain ⟨W, hW⟩ : ∃ W, (w.alloc (.cells #[.slice A n cp] 33)).alloc (.cells #[.slice none 0 0] 33) = W := ⟨_, rfl⟩
      have cW : Chg No w W := by rw [← hW]; exact ((Chg.refl _ _).alloc _).alloc _
      have rA : Row W w.heap.size 33 #[.slice A n cp] := by rw [← hW]; exact (Row.new w _ _).alloc _
      have rB : Row W (w.heap.size + 1) 33 #[.slice none 0 0] := by rw [← hW]; exact Row.new2' w _ _ _
      have sW : w.heap.size + 2 ≤ W.heap.size := by have := rB.lt; omega
      have HA := Lib.hid (And.intro cW (And.intro rA (And.intro rB sW)))
      have HW := Lib.hid hW
      clear hW cW rA rB sW
      go_enter Try.func49, Try.ntmps49
      go_wp2_with (first
        | (go_at_call 79
           have HZ := HW.out
           clear HW
           rw [HZ]
           refine (Read14_any _ _ L W (HV.out.keep HA.out.1 (fun _ _ f => f)) HOK.out method h64).mono ?_
           rw [HRM.out]
           rintro e w1 ⟨rfl, c1⟩
           simp only [ME.cells]
           obtain ⟨W1, h1⟩ : ∃ W1, w1.alloc (.cells #[.int .i64 ma, .int .i64 mt, .int .i64 mp, .int .i64 mc, .int .i64 ml] 23) = W1 := ⟨_, rfl⟩
           have c12 : Chg No w1 W1 := by rw [← h1]; exact (Chg.refl _ _).alloc _
           have c02 := c1.trans c12
           have rA1 := HA.out.2.1.keep c02 (fun f => f)
           have rB1 := HA.out.2.2.1.keep c02 (fun f => f)
           have rM1 : Row W1 w1.heap.size 23 #[.int .i64 ma, .int .i64 mt, .int .i64 mp, .int .i64 mc, .int .i64 ml] := by rw [← h1]; exact Row.new w1 _ _
           have s1 := c1.size
           have xA1 : W1.cell? ⟨w.heap.size, 0, none⟩ = some (.slice A n cp) := rA1.cell 0
           have xB1 : W1.cell? ⟨w.heap.size + 1, 0, none⟩ = some (.slice none 0 0) := rB1.cell 0
           have xM1 : W1.cell? ⟨w1.heap.size, 0, none⟩ = some (.int .i64 ma) := rM1.cell 0
           have yB1 := rB1.frozen 0
           have zB1 := (rB1.set 0 (.slice A n cp)).cell 0
           have h12 := Lib.hid h1
           have H1 := Lib.hid (And.intro (HA.out.1.trans c02) (And.intro rM1 (And.intro rB1 (And.intro (show w.heap.size + 2 ≤ w1.heap.size from Nat.le_trans HA.out.2.2.2 s1) rM1.lt))))
           clear c1 rA1 rB1 HZ c02 c12 rM1 h1 s1)
          | (rw [h12.out])
        | fail)
      refine bodyPost_ret (v := .tuple #[.agg #[.slice A n cp], .int .i64 0, .int .i64 2]) (by simp [results, Try.results49, go_sem, zB1]; try exact zB1) rfl (Ret.mk ⟨_, rfl, ?_⟩)
      exact made_end (S := S) (HV.out.keep H1.out.1 (fun _ _ f => f)) (fun b h => .inl h) H1.out.1 ((Chg.refl _ _).setCell (.inl (by simp)) _)
  · rw [if_pos hme]
    have t3 : (me == 0) = false := by simpa using hme
    have t4 : (me != 0) = true := by simpa using hme
    clear hme hmd hle hbd hp fv64
    obtain ⟨A, cp, rfl, -⟩ := hl.form
    have hold : RefM w (fun b => S b ∧ b < w.heap.size) (.agg #[.slice A L.length cp]) L := RefM.more (S' := fun b => S b ∧ b < w.heap.size) ⟨_, rfl, hl⟩ (fun b h1 h2 => ⟨h2, h1⟩)
    have HV := Lib.hid hold
    have HOK := Lib.hid hok
    have HNL := Lib.hid hL
    clear hl hok hL hold
    generalize hn : L.length = n at *
    obtain ⟨W, hW⟩ : ∃ W, (w.alloc (.cells #[.slice A n cp] 33)).alloc (.cells #[.slice none 0 0] 33) = W := ⟨_, rfl⟩
    have cW : Chg No w W := by rw [← hW]; exact ((Chg.refl _ _).alloc _).alloc _
    have rA : Row W w.heap.size 33 #[.slice A n cp] := by rw [← hW]; exact (Row.new w _ _).alloc _
    have rB : Row W (w.heap.size + 1) 33 #[.slice none 0 0] := by rw [← hW]; exact Row.new2' w _ _ _
    have sW : w.heap.size + 2 ≤ W.heap.size := by have := rB.lt; omega
    have HA := Lib.hid (And.intro cW (And.intro rA (And.intro rB sW)))
    have HW := Lib.hid hW
    clear hW cW rA rB sW
    go_enter Try.func49, Try.ntmps49
    go_wp2_with (first
      | (go_at_call 79
         have HZ := HW.out
         clear HW
         rw [HZ]
         refine (Read14_any _ _ L W (HV.out.keep HA.out.1 (fun _ _ f => f)) HOK.out method h64).mono ?_
         rw [HRM.out]
         rintro e w1 ⟨rfl, c1⟩
         simp only [ME.cells]
         obtain ⟨W1, h1⟩ : ∃ W1, w1.alloc (.cells #[.int .i64 ma, .int .i64 mt, .int .i64 mp, .int .i64 mc, .int .i64 ml] 23) = W1 := ⟨_, rfl⟩
         have c12 : Chg No w1 W1 := by rw [← h1]; exact (Chg.refl _ _).alloc _
         have c02 := c1.trans c12
         have rA1 := HA.out.2.1.keep c02 (fun f => f)
         have rB1 := HA.out.2.2.1.keep c02 (fun f => f)
         have rM1 : Row W1 w1.heap.size 23 #[.int .i64 ma, .int .i64 mt, .int .i64 mp, .int .i64 mc, .int .i64 ml] := by rw [← h1]; exact Row.new w1 _ _
         have s1 := c1.size
         have xA1 : W1.cell? ⟨w.heap.size, 0, none⟩ = some (.slice A n cp) := rA1.cell 0
         have xB1 : W1.cell? ⟨w.heap.size + 1, 0, none⟩ = some (.slice none 0 0) := rB1.cell 0
         have xM1 : W1.cell? ⟨w1.heap.size, 0, none⟩ = some (.int .i64 ma) := rM1.cell 0
         have yB1 := rB1.frozen 0
         have zB1 := (rB1.set 0 (.slice A n cp)).cell 0
         have h12 := Lib.hid h1
         have H1 := Lib.hid (And.intro (HA.out.1.trans c02) (And.intro rM1 (And.intro rB1 (And.intro (show w.heap.size + 2 ≤ w1.heap.size from Nat.le_trans HA.out.2.2.2 s1) rM1.lt))))
         clear c1 rA1 rB1 HZ c02 c12 rM1 h1 s1)
        | (rw [h12.out])
      | fail)
    refine bodyPost_ret (v := .tuple #[.agg #[.slice A n cp], .int .i64 0, .int .i64 me]) (by simp [results, Try.results49, go_sem, zB1]; try exact zB1) rfl (Ret.mk ⟨_, rfl, ?_⟩)
    exact made_end (S := S) (HV.out.keep H1.out.1 (fun _ _ f => f)) (fun b h => .inl h) H1.out.1 ((Chg.refl _ _).setCell (.inl (by simp)) _)

end Go.Proofs.Ytjanojignaonfaa
