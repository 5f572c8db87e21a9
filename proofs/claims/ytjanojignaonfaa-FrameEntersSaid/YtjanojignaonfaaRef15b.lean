/- The document on frames (websterref15): Push, made. -/
import Derived.Test.YtjanojignaonfaaRef15
import Derived.Test.YtjanojignaonfaaFrameD
namespace Go.Proofs.Ytjanojignaonfaa
set_option linter.unusedVariables false
set_option linter.unusedSimpArgs false
open Go.RowKit

theorem setsR_err {f e : Int} (he : e ≠ 0) : ∀ (l : List Int) (i : Int) (L : List O), setsR f i L e l = (L, e)
  | [], _, _ => rfl
  | v :: r, i, L => by rw [setsR, if_neg he, setsR_err he r]
/-- what is told of a new one, and the memory behind it -/
def Went3 (w : World) (S : Nat → Prop) (L' : List O) (f e : Int) (r : Value) (w' : World) : Prop :=
  ∃ x, r = .tuple #[x, .int .i64 f, .int .i64 e] ∧ Chg No w w' ∧ RefM w' (fun b => S b ∨ w.heap.size ≤ b) x L'

set_option maxRecDepth 100000 in
set_option maxHeartbeats 2000000 in
theorem Push15_any (mv : Value) (S : Nat → Prop) (L : List O) (w : World) (hv : RefM w S mv L) (hok : OkL L) (hL : L.length < 1073741823) (f v : Int) (f64 : In64 f) (v64 : In64 v) :
    Calls Try.prog 81 #[mv, .int .i64 f, .int .i64 v] w (Ret (Went w S (push1L L f v) (push1E L f v))) := by
  obtain ⟨lv, rfl, hl⟩ := hv
  have hbd := num_bd L f 2
  obtain ⟨r, hr⟩ : ∃ r, numR L f 2 = r := ⟨_, rfl⟩
  obtain ⟨q, x⟩ := r
  rw [hr] at hbd
  have HN := Lib.hid hr
  clear hr
  dsimp only at hbd
  by_cases hx : x = 0
  · subst hx
    by_cases h0 : q < 0
    · rw [(push1_n HN.out (by omega)).1, (push1_n HN.out (by omega)).2]
      have t1 : decide (q < 0) = true := decide_eq_true h0
      clear h0 hbd
      obtain ⟨A, cp, rfl, -⟩ := hl.form
      have hold : RefM w (fun b => S b ∧ b < w.heap.size) (.agg #[.slice A L.length cp]) L := RefM.more (S' := fun b => S b ∧ b < w.heap.size) ⟨_, rfl, hl⟩ (fun b h1 h2 => ⟨h2, h1⟩)
      have HV := Lib.hid hold
      have HOK := Lib.hid hok
      have HNL := Lib.hid hL
      clear hl hok hL hold
      generalize hn : L.length = n at *
      obtain ⟨W, hW⟩ : ∃ W, (w.alloc (.cells #[.slice A n cp] 33)).alloc (.cells #[.slice none 0 0] 33) = W := ⟨_, rfl⟩
      have cW : Chg No w W := by rw [← hW]; exact ((Chg.refl _ _).alloc _).alloc _
      have rA : Row W w.heap.size 33 #[.slice A n cp] := by rw [← hW]; exact (Row.new w _ _).alloc _
      have rB : Row W (w.heap.size + 1) 33 #[.slice none 0 0] := by rw [← hW]; exact Row.new2' w _ _ _
      have sW : w.heap.size + 2 ≤ W.heap.size := by have := rB.lt; omega
      have HA := Lib.hid (And.intro cW (And.intro rA (And.intro rB sW)))
      have HW := Lib.hid hW
      clear hW cW rA rB sW
      go_enter Try.func81, Try.ntmps81
      go_wp2_with (first
        | (go_at_call 101
           have HZ := HW.out
           clear HW
           rw [HZ]
           refine (Num15_any _ _ L W (HV.out.keep HA.out.1 (fun _ _ f => f)) HOK.out f 2 f64).mono ?_
           rw [HN.out]
           rintro e w1 ⟨rfl, c1⟩
           have rA1 := HA.out.2.1.keep c1 (fun f => f)
           have rB1 := HA.out.2.2.1.keep c1 (fun f => f)
           have xA1 : w1.cell? ⟨w.heap.size, 0, none⟩ = some (.slice A n cp) := rA1.cell 0
           have xB1 : w1.cell? ⟨w.heap.size + 1, 0, none⟩ = some (.slice none 0 0) := rB1.cell 0
           have yB1 := rB1.frozen 0
           have zB1 := (rB1.set 0 (.slice A n cp)).cell 0
           have H1 := Lib.hid (And.intro (HA.out.1.trans c1) (And.intro rA1 (And.intro rB1 (Nat.le_trans HA.out.2.2.2 c1.size))))
           clear c1 rA1 rB1 HZ)
        | fail)
      refine bodyPost_ret (v := .tuple #[.agg #[.slice A n cp], .int .i64 22]) (by simp [results, Try.results81, go_sem, zB1]; try exact zB1) rfl (Ret.mk ⟨_, rfl, ?_⟩)
      exact made_end (S := S) (HV.out.keep H1.out.1 (fun _ _ f => f)) (fun b h => .inl h) H1.out.1 ((Chg.refl _ _).setCell (.inl (by simp)) _)
    · have t1 : decide (q < 0) = false := decide_eq_false h0
      by_cases h2 : 23 < q
      · rw [(push1_n HN.out (by omega)).1, (push1_n HN.out (by omega)).2]
        have t2 : decide (23 < q) = true := decide_eq_true h2
        clear h0 h2 hbd
        obtain ⟨A, cp, rfl, -⟩ := hl.form
        have hold : RefM w (fun b => S b ∧ b < w.heap.size) (.agg #[.slice A L.length cp]) L := RefM.more (S' := fun b => S b ∧ b < w.heap.size) ⟨_, rfl, hl⟩ (fun b h1 h2 => ⟨h2, h1⟩)
        have HV := Lib.hid hold
        have HOK := Lib.hid hok
        have HNL := Lib.hid hL
        clear hl hok hL hold
        generalize hn : L.length = n at *
        obtain ⟨W, hW⟩ : ∃ W, (w.alloc (.cells #[.slice A n cp] 33)).alloc (.cells #[.slice none 0 0] 33) = W := ⟨_, rfl⟩
        have cW : Chg No w W := by rw [← hW]; exact ((Chg.refl _ _).alloc _).alloc _
        have rA : Row W w.heap.size 33 #[.slice A n cp] := by rw [← hW]; exact (Row.new w _ _).alloc _
        have rB : Row W (w.heap.size + 1) 33 #[.slice none 0 0] := by rw [← hW]; exact Row.new2' w _ _ _
        have sW : w.heap.size + 2 ≤ W.heap.size := by have := rB.lt; omega
        have HA := Lib.hid (And.intro cW (And.intro rA (And.intro rB sW)))
        have HW := Lib.hid hW
        clear hW cW rA rB sW
        go_enter Try.func81, Try.ntmps81
        go_wp2_with (first
          | (go_at_call 101
             have HZ := HW.out
             clear HW
             rw [HZ]
             refine (Num15_any _ _ L W (HV.out.keep HA.out.1 (fun _ _ f => f)) HOK.out f 2 f64).mono ?_
             rw [HN.out]
             rintro e w1 ⟨rfl, c1⟩
             have rA1 := HA.out.2.1.keep c1 (fun f => f)
             have rB1 := HA.out.2.2.1.keep c1 (fun f => f)
             have xA1 : w1.cell? ⟨w.heap.size, 0, none⟩ = some (.slice A n cp) := rA1.cell 0
             have xB1 : w1.cell? ⟨w.heap.size + 1, 0, none⟩ = some (.slice none 0 0) := rB1.cell 0
             have yB1 := rB1.frozen 0
             have zB1 := (rB1.set 0 (.slice A n cp)).cell 0
             have H1 := Lib.hid (And.intro (HA.out.1.trans c1) (And.intro rA1 (And.intro rB1 (Nat.le_trans HA.out.2.2.2 c1.size))))
             clear c1 rA1 rB1 HZ)
          | fail)
        refine bodyPost_ret (v := .tuple #[.agg #[.slice A n cp], .int .i64 22]) (by simp [results, Try.results81, go_sem, zB1]; try exact zB1) rfl (Ret.mk ⟨_, rfl, ?_⟩)
        exact made_end (S := S) (HV.out.keep H1.out.1 (fun _ _ f => f)) (fun b h => .inl h) H1.out.1 ((Chg.refl _ _).setCell (.inl (by simp)) _)
      · have t2 : decide (23 < q) = false := decide_eq_false h2
        have hc : 0 ≤ q ∧ q < 24 := by omega
        have wq8 : IntKind.i64.wrap (8 + q) = 8 + q := IntWalk.i64_in _ (by omega)
        have wq1 : IntKind.i64.wrap (q + 1) = q + 1 := IntWalk.i64_in _ (by omega)
        have q64 : In64 (q + 1) := ⟨by omega, by omega⟩
        have hL2 : (setL L f (8 + q) v).length < 1073741823 := by rw [length_setL]; exact hL
        have HL2 := Lib.hid hL2
        obtain ⟨s, hs⟩ : ∃ s, setE L f (8 + q) v = s := ⟨_, rfl⟩
        clear h0 h2 hbd hL2
        by_cases hs0 : s = 0
        · subst hs0
          rw [(push1_y HN.out hc hs).1, (push1_y HN.out hc hs).2]
          have HS := Lib.hid hs
          clear hs
          obtain ⟨A, cp, rfl, -⟩ := hl.form
          have hold : RefM w (fun b => S b ∧ b < w.heap.size) (.agg #[.slice A L.length cp]) L := RefM.more (S' := fun b => S b ∧ b < w.heap.size) ⟨_, rfl, hl⟩ (fun b h1 h2 => ⟨h2, h1⟩)
          have HV := Lib.hid hold
          have HOK := Lib.hid hok
          have HNL := Lib.hid hL
          clear hl hok hL hold
          generalize hn : L.length = n at *
          obtain ⟨W, hW⟩ : ∃ W, (w.alloc (.cells #[.slice A n cp] 33)).alloc (.cells #[.slice none 0 0] 33) = W := ⟨_, rfl⟩
          have cW : Chg No w W := by rw [← hW]; exact ((Chg.refl _ _).alloc _).alloc _
          have rA : Row W w.heap.size 33 #[.slice A n cp] := by rw [← hW]; exact (Row.new w _ _).alloc _
          have rB : Row W (w.heap.size + 1) 33 #[.slice none 0 0] := by rw [← hW]; exact Row.new2' w _ _ _
          have sW : w.heap.size + 2 ≤ W.heap.size := by have := rB.lt; omega
          have HA := Lib.hid (And.intro cW (And.intro rA (And.intro rB sW)))
          have HW := Lib.hid hW
          clear hW cW rA rB sW
          go_enter Try.func81, Try.ntmps81
          go_wp2_with (first
            | (go_at_call 101
               have HZ := HW.out
               clear HW
               rw [HZ]
               refine (Num15_any _ _ L W (HV.out.keep HA.out.1 (fun _ _ f => f)) HOK.out f 2 f64).mono ?_
               rw [HN.out]
               rintro e w1 ⟨rfl, c1⟩
               have rA1 := HA.out.2.1.keep c1 (fun f => f)
               have rB1 := HA.out.2.2.1.keep c1 (fun f => f)
               have xA1 : w1.cell? ⟨w.heap.size, 0, none⟩ = some (.slice A n cp) := rA1.cell 0
               have xB1 : w1.cell? ⟨w.heap.size + 1, 0, none⟩ = some (.slice none 0 0) := rB1.cell 0
               have yB1 := rB1.frozen 0
               have zB1 := (rB1.set 0 (.slice A n cp)).cell 0
               have H1 := Lib.hid (And.intro (HA.out.1.trans c1) (And.intro rA1 (And.intro rB1 (Nat.le_trans HA.out.2.2.2 c1.size))))
               clear c1 rA1 rB1 HZ)
            | (go_at_call 100
               refine (Set15_any _ _ L w1 (HV.out.keep H1.out.1 (fun _ _ f => f)) HOK.out (by rw [hn]; exact HNL.out) f (8 + q) v f64 v64).mono ?_
               rw [HS.out]
               rintro e w2 ⟨r1, rfl, x, rfl, c2, ⟨lx, rfl, hlx⟩⟩
               obtain ⟨A5, k5, rfl, -⟩ := hlx.form
               generalize hn5 : (setL L f (8 + q) v).length = n5 at *
               have HN5 := Lib.hid hn5
               clear hn5
               obtain ⟨W3, h3⟩ : ∃ W3, w2.alloc (.cells #[.slice A5 n5 k5] 33) = W3 := ⟨_, rfl⟩
               have c23 : Chg No w2 W3 := by rw [← h3]; exact (Chg.refl _ _).alloc _
               have c13 := c2.trans c23
               have rA3 := H1.out.2.1.keep c13 (fun f => f)
               have rB3 := H1.out.2.2.1.keep c13 (fun f => f)
               have xA3 : W3.cell? ⟨w.heap.size, 0, none⟩ = some (.slice A n cp) := rA3.cell 0
               have xB3 : W3.cell? ⟨w.heap.size + 1, 0, none⟩ = some (.slice none 0 0) := rB3.cell 0
               have yB3 := rB3.frozen 0
               have zB3 := (rB3.set 0 (.slice A n cp)).cell 0
               have x53 : W3.cell? ⟨w2.heap.size, 0, none⟩ = some (.slice A5 n5 k5) := by rw [← h3]; exact (Row.new w2 _ _).cell 0
               have H3 := Lib.hid h3
               have H2 := Lib.hid (And.intro (H1.out.1.trans c13) (And.intro rB3 (And.intro (hlx.keep c23 (fun _ _ f => f)) (And.intro (Nat.le_trans H1.out.2.2.2 c13.size) H1.out.2.2.2))))
               clear c2 c23 c13 rA3 rB3 hlx h3)
            | (go_at_call 102
               refine (SetNum15_any _ _ (setL L f (8 + q) v) W3 ⟨_, rfl, H2.out.2.2.1⟩ (HOK.out.setL _ _ _) (by rw [HN5.out]; exact HL2.out) f 2 (q + 1) f64 q64).mono ?_
               rintro e w4 ⟨r1, rfl, x, rfl, c4, ⟨lx, rfl, hlx⟩⟩
               obtain ⟨A8, k8, rfl, -⟩ := hlx.form
               generalize (setNumL (setL L f (8 + q) v) f 2 (q + 1)).length = n8 at *
               have rB4 := H2.out.2.1.keep c4 (fun f => f)
               have xB4 : w4.cell? ⟨w.heap.size + 1, 0, none⟩ = some (.slice none 0 0) := rB4.cell 0
               have yB4 := rB4.frozen 0
               have zB4 := (rB4.set 0 (.slice A8 n8 k8)).cell 0
               have H4 := Lib.hid (And.intro (H2.out.1.trans c4) hlx)
               clear c4 rB4 hlx)
            | (rw [H3.out]))
          refine bodyPost_ret (v := .tuple #[.agg #[.slice A8 n8 k8], .int .i64 (setNumE (setL L f (8 + q) v) f 2 (q + 1))]) (by simp [results, Try.results81, go_sem, zB4]; try exact zB4) rfl (Ret.mk ⟨_, rfl, ?_⟩)
          refine made_end (S := S) ⟨_, rfl, H4.out.2⟩ (fun b h => ?_) H4.out.1 ((Chg.refl _ _).setCell (.inl (by simp)) _)
          have hs3 := H2.out.2.2.2.1
          have hs1 := H2.out.2.2.2.2
          rcases h with (h | h) | h
          · exact .inl h
          · exact .inr (by omega)
          · exact .inr (by omega)
        · rw [(push1_s HN.out hc hs hs0).1, (push1_s HN.out hc hs hs0).2, setL_bad (by rw [hs]; exact hs0)]
          have HS := Lib.hid hs
          have t3 : (s != 0) = true := by simpa using hs0
          clear hs hs0
          obtain ⟨A, cp, rfl, -⟩ := hl.form
          have hold : RefM w (fun b => S b ∧ b < w.heap.size) (.agg #[.slice A L.length cp]) L := RefM.more (S' := fun b => S b ∧ b < w.heap.size) ⟨_, rfl, hl⟩ (fun b h1 h2 => ⟨h2, h1⟩)
          have HV := Lib.hid hold
          have HOK := Lib.hid hok
          have HNL := Lib.hid hL
          clear hl hok hL hold
          generalize hn : L.length = n at *
          obtain ⟨W, hW⟩ : ∃ W, (w.alloc (.cells #[.slice A n cp] 33)).alloc (.cells #[.slice none 0 0] 33) = W := ⟨_, rfl⟩
          have cW : Chg No w W := by rw [← hW]; exact ((Chg.refl _ _).alloc _).alloc _
          have rA : Row W w.heap.size 33 #[.slice A n cp] := by rw [← hW]; exact (Row.new w _ _).alloc _
          have rB : Row W (w.heap.size + 1) 33 #[.slice none 0 0] := by rw [← hW]; exact Row.new2' w _ _ _
          have sW : w.heap.size + 2 ≤ W.heap.size := by have := rB.lt; omega
          have HA := Lib.hid (And.intro cW (And.intro rA (And.intro rB sW)))
          have HW := Lib.hid hW
          clear hW cW rA rB sW
          go_enter Try.func81, Try.ntmps81
          go_wp2_with (first
            | (go_at_call 101
               have HZ := HW.out
               clear HW
               rw [HZ]
               refine (Num15_any _ _ L W (HV.out.keep HA.out.1 (fun _ _ f => f)) HOK.out f 2 f64).mono ?_
               rw [HN.out]
               rintro e w1 ⟨rfl, c1⟩
               have rA1 := HA.out.2.1.keep c1 (fun f => f)
               have rB1 := HA.out.2.2.1.keep c1 (fun f => f)
               have xA1 : w1.cell? ⟨w.heap.size, 0, none⟩ = some (.slice A n cp) := rA1.cell 0
               have xB1 : w1.cell? ⟨w.heap.size + 1, 0, none⟩ = some (.slice none 0 0) := rB1.cell 0
               have yB1 := rB1.frozen 0
               have zB1 := (rB1.set 0 (.slice A n cp)).cell 0
               have H1 := Lib.hid (And.intro (HA.out.1.trans c1) (And.intro rA1 (And.intro rB1 (Nat.le_trans HA.out.2.2.2 c1.size))))
               clear c1 rA1 rB1 HZ)
            | (go_at_call 100
               refine (Set15_any _ _ L w1 (HV.out.keep H1.out.1 (fun _ _ f => f)) HOK.out (by rw [hn]; exact HNL.out) f (8 + q) v f64 v64).mono ?_
               rw [HS.out]
               rintro e w2 ⟨r1, rfl, x, rfl, c2, ⟨lx, rfl, hlx⟩⟩
               obtain ⟨A5, k5, rfl, -⟩ := hlx.form
               generalize hn5 : (setL L f (8 + q) v).length = n5 at *
               have HN5 := Lib.hid hn5
               clear hn5
               obtain ⟨W3, h3⟩ : ∃ W3, w2.alloc (.cells #[.slice A5 n5 k5] 33) = W3 := ⟨_, rfl⟩
               have c23 : Chg No w2 W3 := by rw [← h3]; exact (Chg.refl _ _).alloc _
               have c13 := c2.trans c23
               have rA3 := H1.out.2.1.keep c13 (fun f => f)
               have rB3 := H1.out.2.2.1.keep c13 (fun f => f)
               have xA3 : W3.cell? ⟨w.heap.size, 0, none⟩ = some (.slice A n cp) := rA3.cell 0
               have xB3 : W3.cell? ⟨w.heap.size + 1, 0, none⟩ = some (.slice none 0 0) := rB3.cell 0
               have yB3 := rB3.frozen 0
               have zB3 := (rB3.set 0 (.slice A n cp)).cell 0
               have x53 : W3.cell? ⟨w2.heap.size, 0, none⟩ = some (.slice A5 n5 k5) := by rw [← h3]; exact (Row.new w2 _ _).cell 0
               have H3 := Lib.hid h3
               have H2 := Lib.hid (And.intro (H1.out.1.trans c13) (And.intro rB3 (And.intro (hlx.keep c23 (fun _ _ f => f)) (And.intro (Nat.le_trans H1.out.2.2.2 c13.size) H1.out.2.2.2))))
               clear c2 c23 c13 rA3 rB3 hlx h3)
            | (rw [H3.out]))
          refine bodyPost_ret (v := .tuple #[.agg #[.slice A n cp], .int .i64 s]) (by simp [results, Try.results81, go_sem, zB3]; try exact zB3) rfl (Ret.mk ⟨_, rfl, ?_⟩)
          exact made_end (S := S) (HV.out.keep H2.out.1 (fun _ _ f => f)) (fun b h => .inl h) H2.out.1 ((Chg.refl _ _).setCell (.inl (by simp)) _)
  · rw [(push1_x HN.out hx).1, (push1_x HN.out hx).2]
    have t0 : (x != 0) = true := by simpa using hx
    clear hx hbd
    obtain ⟨A, cp, rfl, -⟩ := hl.form
    have hold : RefM w (fun b => S b ∧ b < w.heap.size) (.agg #[.slice A L.length cp]) L := RefM.more (S' := fun b => S b ∧ b < w.heap.size) ⟨_, rfl, hl⟩ (fun b h1 h2 => ⟨h2, h1⟩)
    have HV := Lib.hid hold
    have HOK := Lib.hid hok
    have HNL := Lib.hid hL
    clear hl hok hL hold
    generalize hn : L.length = n at *
    obtain ⟨W, hW⟩ : ∃ W, (w.alloc (.cells #[.slice A n cp] 33)).alloc (.cells #[.slice none 0 0] 33) = W := ⟨_, rfl⟩
    have cW : Chg No w W := by rw [← hW]; exact ((Chg.refl _ _).alloc _).alloc _
    have rA : Row W w.heap.size 33 #[.slice A n cp] := by rw [← hW]; exact (Row.new w _ _).alloc _
    have rB : Row W (w.heap.size + 1) 33 #[.slice none 0 0] := by rw [← hW]; exact Row.new2' w _ _ _
    have sW : w.heap.size + 2 ≤ W.heap.size := by have := rB.lt; omega
    have HA := Lib.hid (And.intro cW (And.intro rA (And.intro rB sW)))
    have HW := Lib.hid hW
    clear hW cW rA rB sW
    go_enter Try.func81, Try.ntmps81
    go_wp2_with (first
      | (go_at_call 101
         have HZ := HW.out
         clear HW
         rw [HZ]
         refine (Num15_any _ _ L W (HV.out.keep HA.out.1 (fun _ _ f => f)) HOK.out f 2 f64).mono ?_
         rw [HN.out]
         rintro e w1 ⟨rfl, c1⟩
         have rA1 := HA.out.2.1.keep c1 (fun f => f)
         have rB1 := HA.out.2.2.1.keep c1 (fun f => f)
         have xA1 : w1.cell? ⟨w.heap.size, 0, none⟩ = some (.slice A n cp) := rA1.cell 0
         have xB1 : w1.cell? ⟨w.heap.size + 1, 0, none⟩ = some (.slice none 0 0) := rB1.cell 0
         have yB1 := rB1.frozen 0
         have zB1 := (rB1.set 0 (.slice A n cp)).cell 0
         have H1 := Lib.hid (And.intro (HA.out.1.trans c1) (And.intro rA1 (And.intro rB1 (Nat.le_trans HA.out.2.2.2 c1.size))))
         clear c1 rA1 rB1 HZ)
      | fail)
    refine bodyPost_ret (v := .tuple #[.agg #[.slice A n cp], .int .i64 x]) (by simp [results, Try.results81, go_sem, zB1]; try exact zB1) rfl (Ret.mk ⟨_, rfl, ?_⟩)
    exact made_end (S := S) (HV.out.keep H1.out.1 (fun _ _ f => f)) (fun b h => .inl h) H1.out.1 ((Chg.refl _ _).setCell (.inl (by simp)) _)

theorem Calls.with {P : Program} {f : Nat} {args : Array Value} {w : World} {b : Nat} {t : TypeId} {cs : Array Value} {Q : Ending → World → Prop} (hr : Row w b t cs) (h : Row w b t cs → Calls P f args w Q) : Calls P f args w Q := h hr
theorem Row.drew1 {w : World} {b : Nat} {t : TypeId} {cs : Array Value} (h : Row w b t cs) : Row w.drew b t cs := h.drewN 1
/-- behind a round of made's loop: x has the new memory -/
theorem made_round {w wr w5 V : World} {S : Nat → Prop} {k y : Nat} {t : TypeId} {x0 xn zB : Value} {Lx : List O} (hk : w.heap.size + 2 ≤ k) (cg : Chg No w wr) (rx : Row wr k t #[x0]) (rB : Row wr (w.heap.size + 1) t #[zB])
    (h5 : RefL w5 (fun b => ((S b ∧ b < w.heap.size) ∨ (w.heap.size + 2 ≤ b ∧ b ≠ k)) ∧ b ≠ y) xn Lx) (c1 : Chg No wr V) (c5 : Chg (fun b => b = y) w5 V) :
    Chg No w (V.setCell ⟨k, 0, none⟩ xn) ∧ Row (V.setCell ⟨k, 0, none⟩ xn) k t #[xn] ∧ Row (V.setCell ⟨k, 0, none⟩ xn) (w.heap.size + 1) t #[zB] ∧ RefL (V.setCell ⟨k, 0, none⟩ xn) (fun b => (S b ∧ b < w.heap.size) ∨ (w.heap.size + 2 ≤ b ∧ b ≠ k)) xn Lx := by
  have cs : Chg (fun b => b = k) V (V.setCell ⟨k, 0, none⟩ xn) := Chg.setCell (F := fun b => b = k) (Chg.refl _ _) (.inl rfl) _
  refine ⟨(cg.trans c1).setCell (.inr (by dsimp only; omega)) _, (rx.keep c1 (fun f => f)).set 0 xn, (rB.keep c1 (fun f => f)).keep cs (by omega), ?_⟩
  refine RefL.keep (RefL.more (h5.keep c5 (fun b hb e => hb.2 e)) (fun b _ h => h.1)) cs (fun b hb e => ?_)
  have hl := rx.lt
  have hs := cg.size
  rcases hb with h | h <;> omega

theorem in8 : In64 8 := ⟨by decide, by decide⟩
theorem in32 : In64 32 := ⟨by decide, by decide⟩
set_option maxRecDepth 100000 in
set_option maxHeartbeats 4000000 in
theorem Made15_any (mv : Value) (S : Nat → Prop) (L : List O) (w : World) (hv : RefM w S mv L) (hok : OkL L) (hL : L.length + 1 < 1073741823) (sp : Int) (lv : Value) (l : List Int) (hx : IntS w (fun _ => True) lv l) :
    Calls Try.prog 80 #[mv, .int .i64 sp, lv] w (Ret (Went3 w S (madeL L sp l) (madeV L sp l) (madeE L sp l))) := by
  obtain ⟨lm, rfl, hl⟩ := hv
  obtain ⟨A0, c0, rfl, hl0, hl1, -⟩ := hx.form
  have hmax : l.length ≤ 9223372036854775807 := by unfold maxLen at hl1; simp at hl1; omega
  have HX := Lib.hid hx
  have c64 := fetch64 hok 8 sp
  clear hx hl0 hl1
  generalize hpl : l.length = p at *
  have HPL := Lib.hid hpl
  clear hpl
  have hLt := hL
  obtain ⟨c, hc⟩ : ∃ c, fetchV L 8 sp = c := ⟨_, rfl⟩
  obtain ⟨pe, hp⟩ : ∃ pe, placeE L 8 1 sp = pe := ⟨_, rfl⟩
  have HP := Lib.hid (And.intro hc hp)
  unfold madeV madeL
  unfold madeE
  rw [hp, hc]
  rw [hc] at c64
  by_cases hp0 : pe = 0
  · subst hp0
    simp only [if_true]
    by_cases hb : blankOk c 1 32 = true
    · obtain ⟨fv, hfv⟩ : ∃ fv, newN L c 1 32 = fv := ⟨_, rfl⟩
      obtain ⟨L2, hL2⟩ : ∃ L2, newL L c 1 32 = L2 := ⟨_, rfl⟩
      have he : newE c 1 32 = 0 := by unfold newE; rw [if_pos hb]
      have hm : madeS L sp l = setsR fv 0 L2 0 l := by unfold madeS; rw [hc, hfv, hL2, he]
      have fv64 : In64 fv := by rw [← hfv]; unfold newN In64; rw [if_pos hb]; omega
      have hok2 : OkL L2 := by rw [← hL2]; exact hok.newL _ _ _
      have hlen2 : L2.length < 1073741823 := by rw [← hL2]; have := newL_len L c 1 32; omega
      rw [hm, hfv]
      obtain ⟨R, hR⟩ : ∃ R, setsR fv 0 L2 0 l = R := ⟨_, rfl⟩
      obtain ⟨RL, Re⟩ := R
      rw [hR]
      dsimp only
      have HR := Lib.hid hR
      obtain ⟨fo, hfo⟩ : ∃ fo, (if Re = 0 then fv else 0) = fo := ⟨_, rfl⟩
      rw [hfo]
      have HF := Lib.hid hfo
      clear hfo
      have HNW := Lib.hid (And.intro hfv (And.intro he hL2))
      have HO2 := Lib.hid (And.intro hok2 hlen2)
      replace hL : L.length < 1073741823 := by omega
      clear hp hc hb hfv hL2 he hm hok2 hlen2 hR hLt
      obtain ⟨A, cp, rfl, -⟩ := hl.form
      have hold : RefM w (fun b => S b ∧ b < w.heap.size) (.agg #[.slice A L.length cp]) L := RefM.more (S' := fun b => S b ∧ b < w.heap.size) ⟨_, rfl, hl⟩ (fun b h1 h2 => ⟨h2, h1⟩)
      have HV := Lib.hid hold
      have HOK := Lib.hid hok
      have HNL := Lib.hid hL
      clear hl hok hL hold
      generalize hn : L.length = n at *
      obtain ⟨W, hW⟩ : ∃ W, (w.alloc (.cells #[.slice A n cp] 33)).alloc (.cells #[.slice none 0 0] 33) = W := ⟨_, rfl⟩
      have cW : Chg No w W := by rw [← hW]; exact ((Chg.refl _ _).alloc _).alloc _
      have rA : Row W w.heap.size 33 #[.slice A n cp] := by rw [← hW]; exact (Row.new w _ _).alloc _
      have rB : Row W (w.heap.size + 1) 33 #[.slice none 0 0] := by rw [← hW]; exact Row.new2' w _ _ _
      have sW : w.heap.size + 2 ≤ W.heap.size := by have := rB.lt; omega
      have HA := Lib.hid (And.intro cW (And.intro rA (And.intro rB sW)))
      have HW := Lib.hid hW
      clear hW cW rA rB sW
      go_enter Try.func80, Try.ntmps80
      go_wp2_with (first
        | (go_at_call 60
           have HZ := HW.out
           clear HW
           rw [HZ]
           refine (Fetch14_any _ _ L W (HV.out.keep HA.out.1 (fun _ _ f => f)) HOK.out 8 sp in8).mono ?_
           rw [HP.out.1, HP.out.2]
           rintro e w1 ⟨rfl, c1⟩
           have rA1 := HA.out.2.1.keep c1 (fun f => f)
           have rB1 := HA.out.2.2.1.keep c1 (fun f => f)
           have xA1 : w1.cell? ⟨w.heap.size, 0, none⟩ = some (.slice A n cp) := rA1.cell 0
           have xB1 : w1.cell? ⟨w.heap.size + 1, 0, none⟩ = some (.slice none 0 0) := rB1.cell 0
           have yB1 := rB1.frozen 0
           have zB1 := (rB1.set 0 (.slice A n cp)).cell 0
           have H1 := Lib.hid (And.intro (HA.out.1.trans c1) (And.intro rA1 (And.intro rB1 (Nat.le_trans HA.out.2.2.2 c1.size))))
           clear c1 rA1 rB1 HZ)
        | (go_at_call 63
           refine (Ref10New_any _ _ L w1 (HV.out.keep H1.out.1 (fun _ _ f => f)) (by rw [hn]; exact HNL.out) c 1 32 c64 ⟨by decide, by decide⟩ in32).mono ?_
           rintro e w2 ⟨r1, rfl, x, rfl, c2, ⟨lx, rfl, hlx⟩⟩
           rw [HNW.out.1, HNW.out.2.1]
           rw [HNW.out.2.2] at hlx
           obtain ⟨A5, k5, rfl, -⟩ := hlx.form
           generalize hn5 : L2.length = n5 at *
           have HN5 := Lib.hid hn5
           clear hn5
           obtain ⟨W3, h3⟩ : ∃ W3, w2.alloc (.cells #[.slice A5 n5 k5] 33) = W3 := ⟨_, rfl⟩
           have c23 : Chg No w2 W3 := by rw [← h3]; exact (Chg.refl _ _).alloc _
           have c13 := c2.trans c23
           have rA3 := H1.out.2.1.keep c13 (fun f => f)
           have rB3 := H1.out.2.2.1.keep c13 (fun f => f)
           have xA3 : W3.cell? ⟨w.heap.size, 0, none⟩ = some (.slice A n cp) := rA3.cell 0
           have xB3 : W3.cell? ⟨w.heap.size + 1, 0, none⟩ = some (.slice none 0 0) := rB3.cell 0
           have yB3 := rB3.frozen 0
           have zB3 := (rB3.set 0 (.slice A n cp)).cell 0
           have r53 : Row W3 w2.heap.size 33 #[.slice A5 n5 k5] := by rw [← h3]; exact Row.new w2 _ _
           have s12 : w1.heap.size ≤ w2.heap.size := c2.size
           have hl3 : RefL W3 (fun b => (S b ∧ b < w.heap.size) ∨ (w.heap.size + 2 ≤ b ∧ b ≠ w2.heap.size)) (.slice A5 n5 k5) L2 := (RefL.keep (RefL.more (S' := fun b => (S b ∧ b < w.heap.size) ∨ (w.heap.size + 2 ≤ b ∧ b ≠ w2.heap.size)) hlx (fun b hb h => by
             have := H1.out.2.2.2
             rcases h with h | h
             · exact .inl h
             · exact .inr ⟨by omega, by omega⟩)) c23 (fun _ _ f => f))
           have H3 := Lib.hid h3
           have H2 := Lib.hid (And.intro (H1.out.1.trans c13) (And.intro rB3 (And.intro hl3 (And.intro (show w.heap.size + 2 ≤ w2.heap.size from Nat.le_trans H1.out.2.2.2 s12) (And.intro r53 trivial)))))
           clear c2 c23 c13 rA3 rB3 hlx h3 hl3 r53 s12)
        | (rw [H3.out]))
      go_loopg [14] p (fun j v14 wr => ∃ (i : Nat) (Li : List O) (Ai : Option Addr) (ni ki : Nat), v14 = .int .i64 (i : Int) ∧ i ≤ p ∧ p - i ≤ j ∧ Chg No w wr ∧ Row wr w2.heap.size 33 #[.slice Ai ni ki] ∧ Row wr (w.heap.size + 1) 33 #[.slice none 0 0] ∧
        RefL wr (fun b => (S b ∧ b < w.heap.size) ∨ (w.heap.size + 2 ≤ b ∧ b ≠ w2.heap.size)) (.slice Ai ni ki) Li ∧ OkL Li ∧ Li.length < 1073741823 ∧ setsR fv (i : Int) Li 0 (l.drop i) = (RL, Re))
      case atStart => exact ⟨0, L2, A5, n5, k5, rfl, by omega, by omega, H2.out.1, H2.out.2.2.2.2.1, H2.out.2.1, H2.out.2.2.1, HO2.out.1, by rw [HN5.out]; exact HO2.out.2, HR.out⟩
      case round =>
        have hw2 := H2.out.2.2.2.1
        have HW2 := Lib.hid hw2
        clear HR HNW HP HO2 xA3 xB3 yB3 zB3 HV HOK H1 H2 H3 HA
        obtain ⟨i, Li, Ai, ni, ki, rfl, hi, hj, cg, rx, rB, hl, hok, hlen, hp⟩ := hrel
        have xX : wr.cell? ⟨w2.heap.size, 0, none⟩ = some (.slice Ai ni ki) := rx.cell 0
        have xB : wr.cell? ⟨w.heap.size + 1, 0, none⟩ = some (.slice none 0 0) := rB.cell 0
        have yB := rB.frozen 0
        have yX := rx.frozen 0
        have sx := rx.lt
        by_cases hlt : i < p
        · have t1 : decide ((i : Int) < (p : Int)) = true := decide_eq_true (by omega)
          have l1 : (i : Int) < (p : Int) := by omega
          rw [setsR_step (by rw [HPL.out]; exact hlt), if_pos rfl] at hp
          obtain ⟨b, off, rfl⟩ := HX.out.some' (by rw [HPL.out]; omega)
          obtain ⟨y0, v64⟩ := (HX.out.keep cg (fun _ _ f => f)).lay' (i := i) (by rw [HPL.out]; exact hlt)
          obtain ⟨v, hvv⟩ : ∃ v, l[i]?.getD 0 = v := ⟨_, rfl⟩
          rw [hvv] at y0 v64 hp
          have hbl : b < wr.heap.size := World.block_lt_of_cell? wr _ y0
          obtain ⟨s, hs⟩ : ∃ s, setE Li fv (i : Int) v = s := ⟨_, rfl⟩
          rw [hs] at hp
          have wi : IntKind.i64.wrap (i : Int) = (i : Int) := IntWalk.i64_in _ (by omega)
          by_cases hs0 : s = 0
          · subst hs0
            have HG := Lib.hid (And.intro cg (And.intro rx (And.intro rB (And.intro (RefL.more (S' := fun b => ((S b ∧ b < w.heap.size) ∨ (w.heap.size + 2 ≤ b ∧ b ≠ w2.heap.size)) ∧ b < wr.heap.size) hl (fun b hb h => ⟨h, hb⟩)) (And.intro hok hlen)))))
            have HS := Lib.hid (And.intro hs hp)
            clear cg rx rB hl hok hlen hp hs hvv xB yB
            go_wp2_with fail
            have zX : ∀ v, Chg No wr v → v.cell? ⟨w2.heap.size, 0, none⟩ = some (.slice Ai ni ki) := fun v hv => (hv.cell (p := ⟨w2.heap.size, 0, none⟩) sx (fun f => f)).trans xX
            have zl : ∀ u, Chg No wr u → u.cell? ⟨b, off + i, none⟩ = some (.int .i64 v) := fun u hu => (hu.cell (p := ⟨b, off + i, none⟩) hbl (fun f => f)).trans y0
            go_region_held3 (fun w' => Chg No wr w') (repeat (with_reducible first | assumption | exact Chg.refl _ _ | refine Chg.drew ?_ | refine Chg.alloc ?_ _ | refine Chg.setCell ?_ (.inr (by first | exact Nat.le_refl _ | (simp; done) | (simp; omega))) _))
              (first
              | (go_at_call 100
                 with_reducible refine Calls.with (Row.drew1 (Row.new wr 33 #[.slice none 0 0])) (fun hr => ?_)
                 refine (Calls.held (F := No) (W := wr) (by assumption) (Set15_any _ _ Li _ (RefM.keep (F := No) ⟨_, rfl, HG.out.2.2.2.1⟩ (by assumption) (fun _ _ f => f)) HG.out.2.2.2.2.1 HG.out.2.2.2.2.2 fv (i : Int) v fv64 v64)).mono ?_
                 rw [HS.out.1]
                 rintro e w5 ⟨⟨r1, rfl, x, rfl, c5, ⟨lx, rfl, hlx⟩⟩, hh⟩
                 obtain ⟨A6, k6, rfl, -⟩ := hlx.form
                 generalize hn6 : (setL Li fv (i : Int) v).length = n6 at *
                 have hs5 := hr.lt
                 have hC5 : Chg No wr w5 := hh.trans c5
                 have rY := hr.keep c5 (fun f => f)
                 have xY : w5.cell? ⟨wr.heap.size, 0, none⟩ = some (.slice none 0 0) := rY.cell 0
                 have yY := rY.frozen 0
                 have rX5 := HG.out.2.1.keep hC5 (fun f => f)
                 have xX5 : w5.cell? ⟨w2.heap.size, 0, none⟩ = some (.slice Ai ni ki) := rX5.cell 0
                 have yX5 := rX5.frozen 0
                 have hl5 : RefL w5 (fun b => ((S b ∧ b < w.heap.size) ∨ (w.heap.size + 2 ≤ b ∧ b ≠ w2.heap.size)) ∧ b ≠ wr.heap.size) (.slice A6 n6 k6) (setL Li fv (i : Int) v) := hlx.more (S' := fun b => ((S b ∧ b < w.heap.size) ∨ (w.heap.size + 2 ≤ b ∧ b ≠ w2.heap.size)) ∧ b ≠ wr.heap.size) (fun b hb h => by
                   have h0 := HG.out.1.size
                   have h1 := HG.out.2.1.lt
                   have h2 := HW2.out
                   rcases h with h | h
                   · exact ⟨h.1, by have := h.2; omega⟩
                   · exact ⟨.inr ⟨by omega, by omega⟩, by omega⟩)
                 have H5 := Lib.hid (And.intro hl5 (And.intro hC5 hn6))
                 have HY := Lib.hid (And.intro (rY.set 0 (.slice A6 n6 k6)) (Chg.setCell (F := fun b => b = wr.heap.size) (p := ⟨wr.heap.size, 0, none⟩) (Chg.refl _ w5) (.inl rfl) (.slice A6 n6 k6)))
                 clear hlx hs5 c5 hn6 hh rY rX5 hl5 hr)
              | (go_at_call 100
                 refine (Calls.held (F := No) (W := wr) (by assumption) (Set15_any _ _ Li _ (RefM.keep (F := No) ⟨_, rfl, HG.out.2.2.2.1⟩ (by assumption) (fun _ _ f => f)) HG.out.2.2.2.2.1 HG.out.2.2.2.2.2 fv (i : Int) v fv64 v64)).mono ?_
                 rw [HS.out.1]
                 rintro e w5 ⟨⟨r1, rfl, x, rfl, c5, ⟨lx, rfl, hlx⟩⟩, hh⟩
                 obtain ⟨A6, k6, rfl, -⟩ := hlx.form
                 generalize hn6 : (setL Li fv (i : Int) v).length = n6 at *
                 have hs5 := hh.size
                 have hC5 : Chg No wr w5 := hh.trans c5
                 have rX5 := HG.out.2.1.keep hC5 (fun f => f)
                 have xX5 : w5.cell? ⟨w2.heap.size, 0, none⟩ = some (.slice Ai ni ki) := rX5.cell 0
                 have yX5 := rX5.frozen 0
                 have hl5 : RefL w5 (fun b => ((S b ∧ b < w.heap.size) ∨ (w.heap.size + 2 ≤ b ∧ b ≠ w2.heap.size)) ∧ b ≠ w5.heap.size) (.slice A6 n6 k6) (setL Li fv (i : Int) v) := hlx.more (S' := fun b => ((S b ∧ b < w.heap.size) ∨ (w.heap.size + 2 ≤ b ∧ b ≠ w2.heap.size)) ∧ b ≠ w5.heap.size) (fun b hb h => by
                   have h0 := HG.out.1.size
                   have h1 := HG.out.2.1.lt
                   have h2 := HW2.out
                   rcases h with h | h
                   · exact ⟨h.1, by have := h.2; omega⟩
                   · exact ⟨.inr ⟨by omega, by omega⟩, by omega⟩)
                 have H5 := Lib.hid (And.intro hl5 (And.intro hC5 hn6))
                 have HY := Lib.hid (And.intro (Row.new w5 33 #[.slice A6 n6 k6]) (Chg.alloc (Chg.refl (fun b => b = w5.heap.size) w5) (.cells #[.slice A6 n6 k6] 33)))
                 clear hlx hs5 c5 hn6 hh rX5 hl5)
              | fail)
            · generalize hV : World.alloc w5 _ = V
              have hcV : Chg No wr V := by rw [← hV]; assumption
              have rY2 : Row V w5.heap.size 33 #[.slice A6 n6 k6] := by rw [← hV]; exact HY.out.1
              have cY2 : Chg (fun b => b = w5.heap.size) w5 V := by rw [← hV]; exact HY.out.2
              have rX2 := HG.out.2.1.keep hcV (fun f => f)
              have rB2 := HG.out.2.2.1.keep hcV (fun f => f)
              have xX2 : V.cell? ⟨w2.heap.size, 0, none⟩ = some (.slice Ai ni ki) := rX2.cell 0
              have yX2 := rX2.frozen 0
              have xY2 : V.cell? ⟨w5.heap.size, 0, none⟩ = some (.slice A6 n6 k6) := rY2.cell 0
              have xB2 : V.cell? ⟨w.heap.size + 1, 0, none⟩ = some (.slice none 0 0) := rB2.cell 0
              have yB2 := rB2.frozen 0
              have zB2 := (rB2.set 0 (.slice Ai ni ki)).cell 0
              have HE := Lib.hid (And.intro hcV cY2)
              clear hV hcV rY2 cY2 rX2 rB2 xX5 yX5
              go_wp2_with fail
              go_roundg (p - (i + 1))
              case measure => omega
              case rel =>
                have hr := made_round hw2 HG.out.1 HG.out.2.1 HG.out.2.2.1 H5.out.1 HE.out.1 HE.out.2
                exact ⟨i + 1, _, A6, n6, k6, by go_num, by omega, by omega, hr.1, hr.2.1, hr.2.2.1, hr.2.2.2, HG.out.2.2.2.2.1.setL _ _ _, by rw [length_setL]; exact HG.out.2.2.2.2.2, HS.out.2⟩
            · generalize hV : World.setCell w5 _ _ = V
              have hcV : Chg No wr V := by rw [← hV]; assumption
              have rY2 : Row V wr.heap.size 33 #[.slice A6 n6 k6] := by rw [← hV]; exact HY.out.1
              have cY2 : Chg (fun b => b = wr.heap.size) w5 V := by rw [← hV]; exact HY.out.2
              have rX2 := HG.out.2.1.keep hcV (fun f => f)
              have rB2 := HG.out.2.2.1.keep hcV (fun f => f)
              have xX2 : V.cell? ⟨w2.heap.size, 0, none⟩ = some (.slice Ai ni ki) := rX2.cell 0
              have yX2 := rX2.frozen 0
              have xY2 : V.cell? ⟨wr.heap.size, 0, none⟩ = some (.slice A6 n6 k6) := rY2.cell 0
              have xB2 : V.cell? ⟨w.heap.size + 1, 0, none⟩ = some (.slice none 0 0) := rB2.cell 0
              have yB2 := rB2.frozen 0
              have zB2 := (rB2.set 0 (.slice Ai ni ki)).cell 0
              have HE := Lib.hid (And.intro hcV cY2)
              clear hV hcV rY2 cY2 rX2 rB2 xX5 yX5
              go_wp2_with fail
              go_roundg (p - (i + 1))
              case measure => omega
              case rel =>
                have hr := made_round hw2 HG.out.1 HG.out.2.1 HG.out.2.2.1 H5.out.1 HE.out.1 HE.out.2
                exact ⟨i + 1, _, A6, n6, k6, by go_num, by omega, by omega, hr.1, hr.2.1, hr.2.2.1, hr.2.2.2, HG.out.2.2.2.2.1.setL _ _ _, by rw [length_setL]; exact HG.out.2.2.2.2.2, HS.out.2⟩
          · rw [setsR_err hs0, setL_bad (by rw [hs]; exact hs0)] at hp
            have t2 : (s != 0) = true := by simpa using hs0
            obtain ⟨rfl, rfl⟩ := Prod.mk.inj hp
            have HG := Lib.hid (And.intro cg (And.intro rx (And.intro rB (And.intro (RefL.more (S' := fun b => ((S b ∧ b < w.heap.size) ∨ (w.heap.size + 2 ≤ b ∧ b ≠ w2.heap.size)) ∧ b < wr.heap.size) hl (fun b hb h => ⟨h, hb⟩)) (And.intro hok hlen)))))
            have HS := Lib.hid (And.intro hs trivial)
            obtain rfl : fo = 0 := by rw [← HF.out]; exact if_neg hs0
            clear cg rx rB hl hok hlen hp hs hvv xB yB hs0
            go_wp2_with fail
            have zX : ∀ v, Chg No wr v → v.cell? ⟨w2.heap.size, 0, none⟩ = some (.slice Ai ni ki) := fun v hv => (hv.cell (p := ⟨w2.heap.size, 0, none⟩) sx (fun f => f)).trans xX
            have zl : ∀ u, Chg No wr u → u.cell? ⟨b, off + i, none⟩ = some (.int .i64 v) := fun u hu => (hu.cell (p := ⟨b, off + i, none⟩) hbl (fun f => f)).trans y0
            go_region_held3 (fun w' => Chg No wr w') (repeat (with_reducible first | assumption | exact Chg.refl _ _ | refine Chg.drew ?_ | refine Chg.alloc ?_ _ | refine Chg.setCell ?_ (.inr (by first | exact Nat.le_refl _ | (simp; done) | (simp; omega))) _))
              (first
              | (go_at_call 100
                 with_reducible refine Calls.with (Row.drew1 (Row.new wr 33 #[.slice none 0 0])) (fun hr => ?_)
                 refine (Calls.held (F := No) (W := wr) (by assumption) (Set15_any _ _ Li _ (RefM.keep (F := No) ⟨_, rfl, HG.out.2.2.2.1⟩ (by assumption) (fun _ _ f => f)) HG.out.2.2.2.2.1 HG.out.2.2.2.2.2 fv (i : Int) v fv64 v64)).mono ?_
                 rw [HS.out.1]
                 rintro e w5 ⟨⟨r1, rfl, x, rfl, c5, ⟨lx, rfl, hlx⟩⟩, hh⟩
                 obtain ⟨A6, k6, rfl, -⟩ := hlx.form
                 generalize hn6 : (setL Li fv (i : Int) v).length = n6 at *
                 have hs5 := hr.lt
                 have hC5 : Chg No wr w5 := hh.trans c5
                 have rY := hr.keep c5 (fun f => f)
                 have xY : w5.cell? ⟨wr.heap.size, 0, none⟩ = some (.slice none 0 0) := rY.cell 0
                 have yY := rY.frozen 0
                 have rX5 := HG.out.2.1.keep hC5 (fun f => f)
                 have xX5 : w5.cell? ⟨w2.heap.size, 0, none⟩ = some (.slice Ai ni ki) := rX5.cell 0
                 have yX5 := rX5.frozen 0
                 have hl5 : RefL w5 (fun b => ((S b ∧ b < w.heap.size) ∨ (w.heap.size + 2 ≤ b ∧ b ≠ w2.heap.size)) ∧ b ≠ wr.heap.size) (.slice A6 n6 k6) (setL Li fv (i : Int) v) := hlx.more (S' := fun b => ((S b ∧ b < w.heap.size) ∨ (w.heap.size + 2 ≤ b ∧ b ≠ w2.heap.size)) ∧ b ≠ wr.heap.size) (fun b hb h => by
                   have h0 := HG.out.1.size
                   have h1 := HG.out.2.1.lt
                   have h2 := HW2.out
                   rcases h with h | h
                   · exact ⟨h.1, by have := h.2; omega⟩
                   · exact ⟨.inr ⟨by omega, by omega⟩, by omega⟩)
                 have H5 := Lib.hid (And.intro hl5 (And.intro hC5 hn6))
                 have HY := Lib.hid (And.intro (rY.set 0 (.slice A6 n6 k6)) (Chg.setCell (F := fun b => b = wr.heap.size) (p := ⟨wr.heap.size, 0, none⟩) (Chg.refl _ w5) (.inl rfl) (.slice A6 n6 k6)))
                 clear hlx hs5 c5 hn6 hh rY rX5 hl5 hr)
              | (go_at_call 100
                 refine (Calls.held (F := No) (W := wr) (by assumption) (Set15_any _ _ Li _ (RefM.keep (F := No) ⟨_, rfl, HG.out.2.2.2.1⟩ (by assumption) (fun _ _ f => f)) HG.out.2.2.2.2.1 HG.out.2.2.2.2.2 fv (i : Int) v fv64 v64)).mono ?_
                 rw [HS.out.1]
                 rintro e w5 ⟨⟨r1, rfl, x, rfl, c5, ⟨lx, rfl, hlx⟩⟩, hh⟩
                 obtain ⟨A6, k6, rfl, -⟩ := hlx.form
                 generalize hn6 : (setL Li fv (i : Int) v).length = n6 at *
                 have hs5 := hh.size
                 have hC5 : Chg No wr w5 := hh.trans c5
                 have rX5 := HG.out.2.1.keep hC5 (fun f => f)
                 have xX5 : w5.cell? ⟨w2.heap.size, 0, none⟩ = some (.slice Ai ni ki) := rX5.cell 0
                 have yX5 := rX5.frozen 0
                 have hl5 : RefL w5 (fun b => ((S b ∧ b < w.heap.size) ∨ (w.heap.size + 2 ≤ b ∧ b ≠ w2.heap.size)) ∧ b ≠ w5.heap.size) (.slice A6 n6 k6) (setL Li fv (i : Int) v) := hlx.more (S' := fun b => ((S b ∧ b < w.heap.size) ∨ (w.heap.size + 2 ≤ b ∧ b ≠ w2.heap.size)) ∧ b ≠ w5.heap.size) (fun b hb h => by
                   have h0 := HG.out.1.size
                   have h1 := HG.out.2.1.lt
                   have h2 := HW2.out
                   rcases h with h | h
                   · exact ⟨h.1, by have := h.2; omega⟩
                   · exact ⟨.inr ⟨by omega, by omega⟩, by omega⟩)
                 have H5 := Lib.hid (And.intro hl5 (And.intro hC5 hn6))
                 have HY := Lib.hid (And.intro (Row.new w5 33 #[.slice A6 n6 k6]) (Chg.alloc (Chg.refl (fun b => b = w5.heap.size) w5) (.cells #[.slice A6 n6 k6] 33)))
                 clear hlx hs5 c5 hn6 hh rX5 hl5)
              | fail)
            · generalize hV : World.alloc w5 _ = V
              have hcV : Chg No wr V := by rw [← hV]; assumption
              have rY2 : Row V w5.heap.size 33 #[.slice A6 n6 k6] := by rw [← hV]; exact HY.out.1
              have cY2 : Chg (fun b => b = w5.heap.size) w5 V := by rw [← hV]; exact HY.out.2
              have rX2 := HG.out.2.1.keep hcV (fun f => f)
              have rB2 := HG.out.2.2.1.keep hcV (fun f => f)
              have xX2 : V.cell? ⟨w2.heap.size, 0, none⟩ = some (.slice Ai ni ki) := rX2.cell 0
              have yX2 := rX2.frozen 0
              have xY2 : V.cell? ⟨w5.heap.size, 0, none⟩ = some (.slice A6 n6 k6) := rY2.cell 0
              have xB2 : V.cell? ⟨w.heap.size + 1, 0, none⟩ = some (.slice none 0 0) := rB2.cell 0
              have yB2 := rB2.frozen 0
              have zB2 := (rB2.set 0 (.slice Ai ni ki)).cell 0
              have HE := Lib.hid (And.intro hcV cY2)
              clear hV hcV rY2 cY2 rX2 rB2 xX5 yX5
              go_wp2_with fail
              refine bodyPost_ret (v := .tuple #[.agg #[.slice Ai ni ki], .int .i64 0, .int .i64 s]) (by simp [results, Try.results80, go_sem, zB2]; try exact zB2) rfl (Ret.mk ⟨_, rfl, ?_⟩)
              exact made_end (S := S) ⟨_, rfl, RefL.keep HG.out.2.2.2.1 HE.out.1 (fun _ _ f => f)⟩ (fun b h => h.1.elim .inl (fun h => .inr h.1)) (HG.out.1.trans HE.out.1) ((Chg.refl _ _).setCell (.inl (by simp)) _)
            · generalize hV : World.setCell w5 _ _ = V
              have hcV : Chg No wr V := by rw [← hV]; assumption
              have rY2 : Row V wr.heap.size 33 #[.slice A6 n6 k6] := by rw [← hV]; exact HY.out.1
              have cY2 : Chg (fun b => b = wr.heap.size) w5 V := by rw [← hV]; exact HY.out.2
              have rX2 := HG.out.2.1.keep hcV (fun f => f)
              have rB2 := HG.out.2.2.1.keep hcV (fun f => f)
              have xX2 : V.cell? ⟨w2.heap.size, 0, none⟩ = some (.slice Ai ni ki) := rX2.cell 0
              have yX2 := rX2.frozen 0
              have xY2 : V.cell? ⟨wr.heap.size, 0, none⟩ = some (.slice A6 n6 k6) := rY2.cell 0
              have xB2 : V.cell? ⟨w.heap.size + 1, 0, none⟩ = some (.slice none 0 0) := rB2.cell 0
              have yB2 := rB2.frozen 0
              have zB2 := (rB2.set 0 (.slice Ai ni ki)).cell 0
              have HE := Lib.hid (And.intro hcV cY2)
              clear hV hcV rY2 cY2 rX2 rB2 xX5 yX5
              go_wp2_with fail
              refine bodyPost_ret (v := .tuple #[.agg #[.slice Ai ni ki], .int .i64 0, .int .i64 s]) (by simp [results, Try.results80, go_sem, zB2]; try exact zB2) rfl (Ret.mk ⟨_, rfl, ?_⟩)
              exact made_end (S := S) ⟨_, rfl, RefL.keep HG.out.2.2.2.1 HE.out.1 (fun _ _ f => f)⟩ (fun b h => h.1.elim .inl (fun h => .inr h.1)) (HG.out.1.trans HE.out.1) ((Chg.refl _ _).setCell (.inl (by simp)) _)
        · have t1 : decide ((i : Int) < (p : Int)) = false := decide_eq_false (by omega)
          rw [setsR_end (by rw [HPL.out]; omega)] at hp
          obtain ⟨rfl, rfl⟩ := Prod.mk.inj hp
          obtain rfl : fo = fv := by rw [← HF.out]; exact if_pos rfl
          have zB := (rB.set 0 (.slice Ai ni ki)).cell 0
          have HG := Lib.hid (And.intro cg hl)
          clear cg rx rB hl hok hlen hp
          go_wp2_with fail
          refine bodyPost_ret (v := .tuple #[.agg #[.slice Ai ni ki], .int .i64 fo, .int .i64 0]) (by simp [results, Try.results80, go_sem, zB]; try exact zB) rfl (Ret.mk ⟨_, rfl, ?_⟩)
          exact made_end (S := S) ⟨_, rfl, HG.out.2⟩ (fun b h => h.elim .inl (fun h => .inr h.1)) HG.out.1 ((Chg.refl _ _).setCell (.inl (by simp)) _)
    · have he : newE c 1 32 = 2 := by unfold newE; rw [if_neg hb]
      have hnn : newN L c 1 32 = 0 := by unfold newN; rw [if_neg hb]
      have hnl : newL L c 1 32 = L := by unfold newL; rw [if_neg hb]
      have hm : madeS L sp l = (L, 2) := by unfold madeS; rw [hc, he, hnl]; exact setsR_err (by decide) _ _ _
      rw [hm]
      simp only []
      rw [if_neg (by decide)]
      obtain ⟨L2, hL2⟩ : ∃ L2, newL L c 1 32 = L2 := ⟨_, rfl⟩
      have HNW := Lib.hid (And.intro hnn (And.intro he hL2))
      replace hL : L.length < 1073741823 := by omega
      clear hp hc hb he hnn hnl hm hL2 hLt
      obtain ⟨A, cp, rfl, -⟩ := hl.form
      have hold : RefM w (fun b => S b ∧ b < w.heap.size) (.agg #[.slice A L.length cp]) L := RefM.more (S' := fun b => S b ∧ b < w.heap.size) ⟨_, rfl, hl⟩ (fun b h1 h2 => ⟨h2, h1⟩)
      have HV := Lib.hid hold
      have HOK := Lib.hid hok
      have HNL := Lib.hid hL
      clear hl hok hL hold
      generalize hn : L.length = n at *
      obtain ⟨W, hW⟩ : ∃ W, (w.alloc (.cells #[.slice A n cp] 33)).alloc (.cells #[.slice none 0 0] 33) = W := ⟨_, rfl⟩
      have cW : Chg No w W := by rw [← hW]; exact ((Chg.refl _ _).alloc _).alloc _
      have rA : Row W w.heap.size 33 #[.slice A n cp] := by rw [← hW]; exact (Row.new w _ _).alloc _
      have rB : Row W (w.heap.size + 1) 33 #[.slice none 0 0] := by rw [← hW]; exact Row.new2' w _ _ _
      have sW : w.heap.size + 2 ≤ W.heap.size := by have := rB.lt; omega
      have HA := Lib.hid (And.intro cW (And.intro rA (And.intro rB sW)))
      have HW := Lib.hid hW
      clear hW cW rA rB sW
      go_enter Try.func80, Try.ntmps80
      go_wp2_with (first
        | (go_at_call 60
           have HZ := HW.out
           clear HW
           rw [HZ]
           refine (Fetch14_any _ _ L W (HV.out.keep HA.out.1 (fun _ _ f => f)) HOK.out 8 sp in8).mono ?_
           rw [HP.out.1, HP.out.2]
           rintro e w1 ⟨rfl, c1⟩
           have rA1 := HA.out.2.1.keep c1 (fun f => f)
           have rB1 := HA.out.2.2.1.keep c1 (fun f => f)
           have xA1 : w1.cell? ⟨w.heap.size, 0, none⟩ = some (.slice A n cp) := rA1.cell 0
           have xB1 : w1.cell? ⟨w.heap.size + 1, 0, none⟩ = some (.slice none 0 0) := rB1.cell 0
           have yB1 := rB1.frozen 0
           have zB1 := (rB1.set 0 (.slice A n cp)).cell 0
           have H1 := Lib.hid (And.intro (HA.out.1.trans c1) (And.intro rA1 (And.intro rB1 (Nat.le_trans HA.out.2.2.2 c1.size))))
           clear c1 rA1 rB1 HZ)
        | (go_at_call 63
           refine (Ref10New_any _ _ L w1 (HV.out.keep H1.out.1 (fun _ _ f => f)) (by rw [hn]; exact HNL.out) c 1 32 c64 ⟨by decide, by decide⟩ in32).mono ?_
           rintro e w2 ⟨r1, rfl, x, rfl, c2, ⟨lx, rfl, hlx⟩⟩
           rw [HNW.out.1, HNW.out.2.1]
           rw [HNW.out.2.2] at hlx
           obtain ⟨A5, k5, rfl, -⟩ := hlx.form
           generalize hn5 : L2.length = n5 at *
           have HN5 := Lib.hid hn5
           clear hn5
           obtain ⟨W3, h3⟩ : ∃ W3, w2.alloc (.cells #[.slice A5 n5 k5] 33) = W3 := ⟨_, rfl⟩
           have c23 : Chg No w2 W3 := by rw [← h3]; exact (Chg.refl _ _).alloc _
           have c13 := c2.trans c23
           have rA3 := H1.out.2.1.keep c13 (fun f => f)
           have rB3 := H1.out.2.2.1.keep c13 (fun f => f)
           have xA3 : W3.cell? ⟨w.heap.size, 0, none⟩ = some (.slice A n cp) := rA3.cell 0
           have xB3 : W3.cell? ⟨w.heap.size + 1, 0, none⟩ = some (.slice none 0 0) := rB3.cell 0
           have yB3 := rB3.frozen 0
           have zB3 := (rB3.set 0 (.slice A n cp)).cell 0
           have r53 : Row W3 w2.heap.size 33 #[.slice A5 n5 k5] := by rw [← h3]; exact Row.new w2 _ _
           have s12 : w1.heap.size ≤ w2.heap.size := c2.size
           have hl3 : RefL W3 (fun b => (S b ∧ b < w.heap.size) ∨ (w.heap.size + 2 ≤ b ∧ b ≠ w2.heap.size)) (.slice A5 n5 k5) L2 := (RefL.keep (RefL.more (S' := fun b => (S b ∧ b < w.heap.size) ∨ (w.heap.size + 2 ≤ b ∧ b ≠ w2.heap.size)) hlx (fun b hb h => by
             have := H1.out.2.2.2
             rcases h with h | h
             · exact .inl h
             · exact .inr ⟨by omega, by omega⟩)) c23 (fun _ _ f => f))
           have H3 := Lib.hid h3
           have H2 := Lib.hid (And.intro (H1.out.1.trans c13) (And.intro rB3 (And.intro hl3 (And.intro (show w.heap.size + 2 ≤ w2.heap.size from Nat.le_trans H1.out.2.2.2 s12) (And.intro r53 trivial)))))
           clear c2 c23 c13 rA3 rB3 hlx h3 hl3 r53 s12)
        | (rw [H3.out]))
      refine bodyPost_ret (v := .tuple #[.agg #[.slice A n cp], .int .i64 0, .int .i64 2]) (by simp [results, Try.results80, go_sem, zB3]; try exact zB3) rfl (Ret.mk ⟨_, rfl, ?_⟩)
      exact made_end (S := S) (HV.out.keep H2.out.1 (fun _ _ f => f)) (fun b h => .inl h) H2.out.1 ((Chg.refl _ _).setCell (.inl (by simp)) _)
  · rw [if_neg hp0, if_neg hp0, if_neg hp0]
    have t0 : (pe != 0) = true := by simpa using hp0
    replace hL : L.length < 1073741823 := by omega
    clear hp hc hp0 hLt
    obtain ⟨A, cp, rfl, -⟩ := hl.form
    have hold : RefM w (fun b => S b ∧ b < w.heap.size) (.agg #[.slice A L.length cp]) L := RefM.more (S' := fun b => S b ∧ b < w.heap.size) ⟨_, rfl, hl⟩ (fun b h1 h2 => ⟨h2, h1⟩)
    have HV := Lib.hid hold
    have HOK := Lib.hid hok
    have HNL := Lib.hid hL
    clear hl hok hL hold
    generalize hn : L.length = n at *
    obtain ⟨W, hW⟩ : ∃ W, (w.alloc (.cells #[.slice A n cp] 33)).alloc (.cells #[.slice none 0 0] 33) = W := ⟨_, rfl⟩
    have cW : Chg No w W := by rw [← hW]; exact ((Chg.refl _ _).alloc _).alloc _
    have rA : Row W w.heap.size 33 #[.slice A n cp] := by rw [← hW]; exact (Row.new w _ _).alloc _
    have rB : Row W (w.heap.size + 1) 33 #[.slice none 0 0] := by rw [← hW]; exact Row.new2' w _ _ _
    have sW : w.heap.size + 2 ≤ W.heap.size := by have := rB.lt; omega
    have HA := Lib.hid (And.intro cW (And.intro rA (And.intro rB sW)))
    have HW := Lib.hid hW
    clear hW cW rA rB sW
    go_enter Try.func80, Try.ntmps80
    go_wp2_with (first
      | (go_at_call 60
         have HZ := HW.out
         clear HW
         rw [HZ]
         refine (Fetch14_any _ _ L W (HV.out.keep HA.out.1 (fun _ _ f => f)) HOK.out 8 sp in8).mono ?_
         rw [HP.out.1, HP.out.2]
         rintro e w1 ⟨rfl, c1⟩
         have rA1 := HA.out.2.1.keep c1 (fun f => f)
         have rB1 := HA.out.2.2.1.keep c1 (fun f => f)
         have xA1 : w1.cell? ⟨w.heap.size, 0, none⟩ = some (.slice A n cp) := rA1.cell 0
         have xB1 : w1.cell? ⟨w.heap.size + 1, 0, none⟩ = some (.slice none 0 0) := rB1.cell 0
         have yB1 := rB1.frozen 0
         have zB1 := (rB1.set 0 (.slice A n cp)).cell 0
         have H1 := Lib.hid (And.intro (HA.out.1.trans c1) (And.intro rA1 (And.intro rB1 (Nat.le_trans HA.out.2.2.2 c1.size))))
         clear c1 rA1 rB1 HZ)
      | fail)
    refine bodyPost_ret (v := .tuple #[.agg #[.slice A n cp], .int .i64 0, .int .i64 pe]) (by simp [results, Try.results80, go_sem, zB1]; try exact zB1) rfl (Ret.mk ⟨_, rfl, ?_⟩)
    exact made_end (S := S) (HV.out.keep H1.out.1 (fun _ _ f => f)) (fun b h => .inl h) H1.out.1 ((Chg.refl _ _).setCell (.inl (by simp)) _)

end Go.Proofs.Ytjanojignaonfaa
