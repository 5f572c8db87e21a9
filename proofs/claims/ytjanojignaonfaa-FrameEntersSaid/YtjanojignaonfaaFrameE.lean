/- A method's frame over a flat memory: Enter (package frame). -/
import Derived.Test.YtjanojignaonfaaFrameD
namespace Go.Proofs.Ytjanojignaonfaa
set_option linter.unusedVariables false
set_option linter.unusedSimpArgs false
open Go.RowKit

theorem IntS.row {w : World} {r : Nat} {t : TypeId} {l : List Int} (h : Row w r t (l.map (.int .i64)).toArray) (hl : l.length ≤ 1000) (hw : ∀ x ∈ l, In64 x) : IntS w (fun b => b = r) (.slice (some ⟨r, 0, none⟩) l.length l.length) l := by
  have ho : w.ownsRow r t 1 (.slice (some ⟨r, 0, none⟩) l.length l.length) l.length (l.map (.int .i64)) := own_of_row h (by simp) (Nat.le_refl _) (by unfold maxLen; simp; omega)
  exact ⟨(Slc.of_own ho).more fun b _ hb => (Option.some.inj (show some r = some b from hb)).symm, hw⟩
theorem MemK.fresh {w0 w : World} {m : Nat} {L : List O} {K : (Nat → Prop) → World → Prop} (h : MemK w0 w m L K) (t : TypeId) (l : List Int) (hl : l.length ≤ 1000) (hw : ∀ x ∈ l, In64 x) :
    MemK w0 (w.alloc (.cells (l.map (.int .i64)).toArray t)) m L (fun F v => K F v ∧ IntS v (fun b => ¬ F b) (.slice (some ⟨w.heap.size, 0, none⟩) l.length l.length) l) :=
  (h.newRow t _).mono fun F v hk => ⟨hk.1, (IntS.row hk.2.2 hl hw).more fun b _ hb => hb ▸ hk.2.1⟩

def nilsR (f : Int) : Nat → List O → List O × Int
  | 0, L => (L, 0)
  | k + 1, L => if (pushR f L [2]).2 = 0 then nilsR f k (pushR f L [2]).1 else pushR f L [2]
def head8 (sender method receiver : Int) : List Int := [sender, 1, 1, method, receiver, 2, 1, 1]
/-- the frame's words that are pushed -/
def fillR (f : Int) (L : List O) (args : List Int) (k : Nat) : List O × Int := if (pushR f L args).2 = 0 then nilsR f k (pushR f L args).1 else pushR f L args
/-- what Enter comes to: the memory, the frame, and why there is none -/
def enterR (L : List O) (sender method receiver : Int) (args : List Int) : List O × Int × Int :=
  if (readM L method).e ≠ 0 then (L, 0, (readM L method).e)
  else if (args.length : Int) ≠ (readM L method).a then (L, 0, 2)
  else if madeE L 4 (head8 sender method receiver) ≠ 0 then (madeL L 4 (head8 sender method receiver), 0, madeE L 4 (head8 sender method receiver))
  else if (fillR (madeV L 4 (head8 sender method receiver)) (madeL L 4 (head8 sender method receiver)) args ((readM L method).t - (readM L method).a).toNat).2 = 0
    then ((fillR (madeV L 4 (head8 sender method receiver)) (madeL L 4 (head8 sender method receiver)) args ((readM L method).t - (readM L method).a).toNat).1, madeV L 4 (head8 sender method receiver), 0)
    else ((fillR (madeV L 4 (head8 sender method receiver)) (madeL L 4 (head8 sender method receiver)) args ((readM L method).t - (readM L method).a).toNat).1, 0, (fillR (madeV L 4 (head8 sender method receiver)) (madeL L 4 (head8 sender method receiver)) args ((readM L method).t - (readM L method).a).toNat).2)
theorem readM_bd (L : List O) (o : Int) : 0 ≤ (readM L o).a ∧ (readM L o).a < 16 ∧ 0 ≤ (readM L o).t ∧ (readM L o).t < 32 := by
  unfold readM
  split
  · exact ⟨by simp, by simp, by simp, by simp⟩
  split
  · exact ⟨by simp, by simp, by simp, by simp⟩
  split
  · exact ⟨by simp, by simp, by simp, by simp⟩
  split
  · exact ⟨by simp, by simp, by simp, by simp⟩
  · exact ⟨by simp only []; omega, by simp only []; omega, by simp only []; omega, by simp only []; omega⟩
theorem madeV64 (L : List O) (sp : Int) (l : List Int) (h : L.length < 1073741823) : In64 (madeV L sp l) := by
  unfold madeV newN
  split
  · split <;> unfold In64 <;> omega
  · unfold In64; omega

theorem MemK.fresh1 {w0 w : World} {m : Nat} {L : List O} {K : (Nat → Prop) → World → Prop} (h : MemK w0 w m L K) (t : TypeId) (n : Nat) (hn : w.heap.size = n) (a : Int) (ha : In64 a) :
    MemK w0 (w.alloc (.cells #[.int .i64 a] t)) m L (fun F v => K F v ∧ IntS v (fun b => ¬ F b) (.slice (some ⟨n, 0, none⟩) 1 1) [a]) :=
  hn ▸ h.fresh t [a] (by simp) (by intro x hx; simp at hx; exact hx ▸ ha)
theorem MemK.fresh8 {w0 w : World} {m : Nat} {L : List O} {K : (Nat → Prop) → World → Prop} (h : MemK w0 w m L K) (t : TypeId) (n : Nat) (hn : w.heap.size = n) (a1 a2 a3 a4 a5 a6 a7 a8 : Int) (h1 : In64 a1) (h2 : In64 a2) (h3 : In64 a3) (h4 : In64 a4) (h5 : In64 a5) (h6 : In64 a6) (h7 : In64 a7) (h8 : In64 a8) :
    MemK w0 (w.alloc (.cells #[.int .i64 a1, .int .i64 a2, .int .i64 a3, .int .i64 a4, .int .i64 a5, .int .i64 a6, .int .i64 a7, .int .i64 a8] t)) m L (fun F v => K F v ∧ IntS v (fun b => ¬ F b) (.slice (some ⟨n, 0, none⟩) 8 8) [a1, a2, a3, a4, a5, a6, a7, a8]) :=
  hn ▸ h.fresh t [a1, a2, a3, a4, a5, a6, a7, a8] (by simp) (by intro x hx; simp at hx; rcases hx with rfl | rfl | rfl | rfl | rfl | rfl | rfl | rfl <;> assumption)
theorem in1 : In64 1 := ⟨by decide, by decide⟩
theorem in2 : In64 2 := ⟨by decide, by decide⟩

section
variable {w0 w w' : World} {m : Nat} {L L' : List O} {K : (Nat → Prop) → World → Prop} {F F' : Nat → Prop}
set_option maxRecDepth 100000 in
set_option maxHeartbeats 1000000 in
theorem k_Enter (h : MemK w0 w m L K) (sender method receiver : Int) (s64 : In64 sender) (h64 : In64 method) (r64 : In64 receiver) (lv : Value) (args : List Int) (hx : ∀ F v, K F v → IntS v (fun b => ¬ F b) lv args) (hln : L.length + 1 < 1073741823) :
    Calls Try.prog 48 #[.iface 30 (.pointer (some ⟨m, 0, none⟩)), .int .i64 sender, .int .i64 method, .int .i64 receiver, lv] w fun e w' => e = .returned (.tuple #[.int .i64 (enterR L sender method receiver args).2.1, .int .i64 (enterR L sender method receiver args).2.2]) ∧ MemK w0 w' m (enterR L sender method receiver args).1 K := by
  obtain ⟨A, c, rfl, hmax⟩ : ∃ A c, lv = .slice A args.length c ∧ args.length ≤ 9223372036854775807 := by
    obtain ⟨F, -, -, hk⟩ := h.opened
    obtain ⟨A, c, e, h1, h2, -⟩ := (hx F w hk).form
    refine ⟨A, c, e, ?_⟩
    unfold maxLen at h2
    simp at h2
    omega
  obtain ⟨p, hp⟩ : ∃ p, args.length = p := ⟨_, rfl⟩
  rw [hp] at hmax hx ⊢
  have HX := Lib.hid hx
  have HM := Lib.hid h
  have hbd := readM_bd L method
  clear h hx
  obtain ⟨M, hM⟩ : ∃ M, readM L method = M := ⟨_, rfl⟩
  obtain ⟨ma, mt, mp, mc, ml, me⟩ := M
  rw [hM] at hbd
  unfold enterR
  rw [hM]
  have HRM := Lib.hid hM
  clear hM
  dsimp only at hbd ⊢
  rw [hp]
  by_cases hme : me = 0
  · subst hme
    rw [if_neg (by simp)]
    by_cases hpa : (p : Int) = ma
    · rw [if_neg (by simpa using hpa)]
      have t1 : ((p : Int) != ma) = false := by simpa using hpa
      have fv64 := madeV64 L 4 (head8 sender method receiver) (by omega)
      obtain ⟨f, hf⟩ : ∃ f, madeV L 4 (head8 sender method receiver) = f := ⟨_, rfl⟩
      obtain ⟨x, hx⟩ : ∃ x, madeE L 4 (head8 sender method receiver) = x := ⟨_, rfl⟩
      rw [hf] at fv64
      rw [hf, hx]
      have HMD := Lib.hid (And.intro hf hx)
      clear hf hx hpa
      by_cases hx0 : x = 0
      · subst hx0
        rw [if_neg (by simp)]
        obtain ⟨M1, hM1⟩ : ∃ M1, madeL L 4 (head8 sender method receiver) = M1 := ⟨_, rfl⟩
        rw [hM1]
        have HML := Lib.hid hM1
        clear hM1
        obtain ⟨k, hk⟩ : ∃ k, (mt - ma).toNat = k := ⟨_, rfl⟩
        rw [hk]
        obtain ⟨P, hP⟩ : ∃ P, pushR f M1 args = P := ⟨_, rfl⟩
        obtain ⟨PL, pe⟩ := P
        unfold fillR
        rw [hP]
        have HPu := Lib.hid hP
        clear hP
        dsimp only
        by_cases hpe : pe = 0
        · subst hpe
          rw [if_pos rfl]
          obtain ⟨R, hR⟩ : ∃ R, nilsR f k PL = R := ⟨_, rfl⟩
          obtain ⟨RL, Re⟩ := R
          rw [hR]
          have HR := Lib.hid hR
          clear hR
          dsimp only
          go_enter Try.func48, Try.ntmps48
          go_wp2_with (first
            | (go_at_call 17
               refine (k_Read HM.out method h64).mono ?_
               rw [HRM.out]
               rintro e w1 ⟨rfl, g1, -⟩
               simp only [ME.cells]
               have gq := g1.newRow 23 #[.int .i64 ma, .int .i64 mt, .int .i64 mp, .int .i64 mc, .int .i64 ml]
               obtain ⟨Fq, -, -, hkq⟩ := gq.opened
               have xq := hkq.2.2.cell 0
               simp at xq
               have H1 := Lib.hid gq
               clear g1 gq hkq)
            | (go_at_call 72
               refine (k_made (H1.out.fresh8 3 (w1.heap.size + 1) (by simp) sender 1 1 method receiver 2 1 1 s64 in1 in1 h64 r64 in2 in1 in1) 4 _ _ (fun F v hk => hk.2) hln).mono ?_
               rw [← head8, HMD.out.1, HMD.out.2]
               try rw [HML.out]
               rintro e w2 ⟨rfl, g2⟩
               have g2b := g2.mono (K2 := fun F v => K F v ∧ ¬ F w1.heap.size ∧ Row v w1.heap.size 23 #[.int .i64 ma, .int .i64 mt, .int .i64 mp, .int .i64 mc, .int .i64 ml]) fun F v hk => hk.1
               obtain ⟨F2, -, -, hk2⟩ := g2b.opened
               have xq2 := hk2.2.2.cell 0
               have xr2 := hk2.2.2.cell 1
               simp at xq2 xr2
               have H2 := Lib.hid g2b
               clear hk2 g2b g2)
            | (go_at_call 40
               refine (k_Push H2.out f fv64 _ args (fun F v hk => HX.out F v hk.1)).mono ?_
               rw [HPu.out]
               rintro e w3 ⟨rfl, g3⟩
               obtain ⟨F3, -, -, hk3⟩ := g3.opened
               have xq3 := hk3.2.2.cell 0
               have xr3 := hk3.2.2.cell 1
               simp at xq3 xr3
               have H3 := Lib.hid g3
               clear g3 hk3)
            | fail)
          go_loopg [13, 15] k (fun j v13 v15 wr => ∃ (i ek : Int) (Lk : List O), v13 = .int .i64 ek ∧ v15 = .int .i64 i ∧ (mt - i).toNat ≤ j ∧ ma ≤ i ∧ i ≤ 32 ∧ MemK w0 wr m Lk (fun F v => K F v ∧ ¬ F w1.heap.size ∧ Row v w1.heap.size 23 #[.int .i64 ma, .int .i64 mt, .int .i64 mp, .int .i64 mc, .int .i64 ml]) ∧ (if ek = 0 then nilsR f (mt - i).toNat Lk else (Lk, ek)) = (RL, Re))
          case atStart => exact ⟨ma, 0, PL, rfl, rfl, by omega, by omega, by omega, H3.out, by rw [if_pos rfl, hk]; exact HR.out⟩
          case round =>
            clear H1 H3 HR
            obtain ⟨i, ek, Lk, rfl, rfl, hj, hi, hi2, g, hfin⟩ := hrel
            obtain ⟨Fr, -, -, hkr⟩ := g.opened
            have x1 := hkr.2.2.cell 1
            simp at x1
            have HG := Lib.hid g
            clear g hkr
            by_cases hlt : i < mt
            · have t2 : decide (i < mt) = true := decide_eq_true hlt
              by_cases hek : ek = 0
              · subst hek
                rw [if_pos rfl, show (mt - i).toNat = (mt - (i + 1)).toNat + 1 by omega, nilsR] at hfin
                obtain ⟨Q, hQ⟩ : ∃ Q, pushR f Lk [2] = Q := ⟨_, rfl⟩
                rw [hQ] at hfin
                obtain ⟨QL, qe⟩ := Q
                dsimp only at hfin
                have HQ := Lib.hid hQ
                have HF := Lib.hid hfin
                have wi : IntKind.i64.wrap (i + 1) = i + 1 := IntWalk.i64_in _ (by omega)
                clear hQ hfin
                go_wp2_with (first
                  | (go_at_call 40
                     refine (k_Push (HG.out.fresh1 3 _ rfl 2 in2) f fv64 _ [2] (fun F v hk => hk.2)).mono ?_
                     rw [HQ.out]
                     rintro e w4 ⟨rfl, g4⟩
                     have H4 := Lib.hid (g4.mono fun F v hk => hk.1)
                     clear g4)
                  | fail)
                go_roundg ((mt - (i + 1)).toNat)
                case measure => omega
                case rel => exact ⟨i + 1, qe, QL, rfl, rfl, by omega, by omega, by omega, H4.out, HF.out⟩
              · rw [if_neg hek] at hfin
                have t3 : (ek == 0) = false := by simpa using hek
                have t4 : (ek != 0) = true := by simpa using hek
                obtain ⟨rfl, rfl⟩ := Prod.mk.inj hfin
                clear hfin
                go_wp2_with fail
                go_ret2
                exact ⟨rfl, HG.out.mono fun F v hk => hk.1⟩
            · have t2 : decide (i < mt) = false := decide_eq_false hlt
              rw [show (mt - i).toNat = 0 by omega, nilsR] at hfin
              by_cases hek : ek = 0
              · subst hek
                rw [if_pos rfl] at hfin
                obtain ⟨rfl, rfl⟩ := Prod.mk.inj hfin
                clear hfin
                go_wp2_with fail
                go_ret2
                exact ⟨rfl, HG.out.mono fun F v hk => hk.1⟩
              · rw [if_neg hek] at hfin
                have t3 : (ek == 0) = false := by simpa using hek
                have t4 : (ek != 0) = true := by simpa using hek
                obtain ⟨rfl, rfl⟩ := Prod.mk.inj hfin
                clear hfin
                go_wp2_with fail
                go_ret2
                exact ⟨rfl, HG.out.mono fun F v hk => hk.1⟩
        · rw [if_neg hpe, if_neg hpe]
          have t3 : (pe == 0) = false := by simpa using hpe
          have t4 : (pe != 0) = true := by simpa using hpe
          clear hpe
          go_enter Try.func48, Try.ntmps48
          go_wp2_with (first
            | (go_at_call 17
               refine (k_Read HM.out method h64).mono ?_
               rw [HRM.out]
               rintro e w1 ⟨rfl, g1, -⟩
               simp only [ME.cells]
               have gq := g1.newRow 23 #[.int .i64 ma, .int .i64 mt, .int .i64 mp, .int .i64 mc, .int .i64 ml]
               obtain ⟨Fq, -, -, hkq⟩ := gq.opened
               have xq := hkq.2.2.cell 0
               simp at xq
               have H1 := Lib.hid gq
               clear g1 gq hkq)
            | (go_at_call 72
               refine (k_made (H1.out.fresh8 3 (w1.heap.size + 1) (by simp) sender 1 1 method receiver 2 1 1 s64 in1 in1 h64 r64 in2 in1 in1) 4 _ _ (fun F v hk => hk.2) hln).mono ?_
               rw [← head8, HMD.out.1, HMD.out.2]
               try rw [HML.out]
               rintro e w2 ⟨rfl, g2⟩
               have g2b := g2.mono (K2 := fun F v => K F v ∧ ¬ F w1.heap.size ∧ Row v w1.heap.size 23 #[.int .i64 ma, .int .i64 mt, .int .i64 mp, .int .i64 mc, .int .i64 ml]) fun F v hk => hk.1
               obtain ⟨F2, -, -, hk2⟩ := g2b.opened
               have xq2 := hk2.2.2.cell 0
               have xr2 := hk2.2.2.cell 1
               simp at xq2 xr2
               have H2 := Lib.hid g2b
               clear hk2 g2b g2)
            | (go_at_call 40
               refine (k_Push H2.out f fv64 _ args (fun F v hk => HX.out F v hk.1)).mono ?_
               rw [HPu.out]
               rintro e w3 ⟨rfl, g3⟩
               obtain ⟨F3, -, -, hk3⟩ := g3.opened
               have xq3 := hk3.2.2.cell 0
               have xr3 := hk3.2.2.cell 1
               simp at xq3 xr3
               have H3 := Lib.hid g3
               clear g3 hk3)
            | fail)
          refine wp_loop_rounds 1 ?_
          rw [rounds_succ]
          go_wp2_with fail
          all_goals
            go_ret2
            exact ⟨rfl, H3.out.mono fun F v hk => hk.1⟩
      · rw [if_pos hx0]
        have t3 : (x == 0) = false := by simpa using hx0
        have t4 : (x != 0) = true := by simpa using hx0
        clear hx0
        go_enter Try.func48, Try.ntmps48
        go_wp2_with (first
          | (go_at_call 17
             refine (k_Read HM.out method h64).mono ?_
             rw [HRM.out]
             rintro e w1 ⟨rfl, g1, -⟩
             simp only [ME.cells]
             have gq := g1.newRow 23 #[.int .i64 ma, .int .i64 mt, .int .i64 mp, .int .i64 mc, .int .i64 ml]
             obtain ⟨Fq, -, -, hkq⟩ := gq.opened
             have xq := hkq.2.2.cell 0
             simp at xq
             have H1 := Lib.hid gq
             clear g1 gq hkq)
          | (go_at_call 72
             refine (k_made (H1.out.fresh8 3 (w1.heap.size + 1) (by simp) sender 1 1 method receiver 2 1 1 s64 in1 in1 h64 r64 in2 in1 in1) 4 _ _ (fun F v hk => hk.2) hln).mono ?_
             rw [← head8, HMD.out.1, HMD.out.2]
             try rw [HML.out]
             rintro e w2 ⟨rfl, g2⟩
             have g2b := g2.mono (K2 := fun F v => K F v ∧ ¬ F w1.heap.size ∧ Row v w1.heap.size 23 #[.int .i64 ma, .int .i64 mt, .int .i64 mp, .int .i64 mc, .int .i64 ml]) fun F v hk => hk.1
             obtain ⟨F2, -, -, hk2⟩ := g2b.opened
             have xq2 := hk2.2.2.cell 0
             have xr2 := hk2.2.2.cell 1
             simp at xq2 xr2
             have H2 := Lib.hid g2b
             clear hk2 g2b g2)
          | fail)
        refine wp_loop_rounds 1 ?_
        rw [rounds_succ]
        go_wp2_with fail
        all_goals
          go_ret2
          exact ⟨rfl, H2.out.mono fun F v hk => hk.1⟩
    · rw [if_pos hpa]
      have t1 : ((p : Int) != ma) = true := by simpa using hpa
      clear hpa
      go_enter Try.func48, Try.ntmps48
      go_wp2_with (go_at_call 17
                   refine (k_Read HM.out method h64).mono ?_
                   rw [HRM.out]
                   rintro e w1 ⟨rfl, g1, -⟩
                   simp only [ME.cells]
                   have gq := g1.newRow 23 #[.int .i64 ma, .int .i64 mt, .int .i64 mp, .int .i64 mc, .int .i64 ml]
                   obtain ⟨Fq, -, -, hkq⟩ := gq.opened
                   have xq := hkq.2.2.cell 0
                   simp at xq
                   have H1 := Lib.hid gq
                   clear g1 gq hkq)
      go_ret2
      exact ⟨rfl, H1.out.mono fun F v hk => hk.1⟩
  · rw [if_pos hme]
    have t3 : (me == 0) = false := by simpa using hme
    have t4 : (me != 0) = true := by simpa using hme
    clear hme
    go_enter Try.func48, Try.ntmps48
    go_wp2_with (go_at_call 17
                 refine (k_Read HM.out method h64).mono ?_
                 rw [HRM.out]
                 rintro e w1 ⟨rfl, g1, -⟩
                 simp only [ME.cells]
                 have gq := g1.newRow 23 #[.int .i64 ma, .int .i64 mt, .int .i64 mp, .int .i64 mc, .int .i64 ml]
                 obtain ⟨Fq, -, -, hkq⟩ := gq.opened
                 have xq := hkq.2.2.cell 0
                 simp at xq
                 have H1 := Lib.hid gq
                 clear g1 gq hkq)
    go_ret2
    exact ⟨rfl, H1.out.mono fun F v hk => hk.1⟩
end

end Go.Proofs.Ytjanojignaonfaa
