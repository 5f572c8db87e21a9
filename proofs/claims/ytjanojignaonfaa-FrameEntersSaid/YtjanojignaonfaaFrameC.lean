/- A frame's stack over a flat memory: Push (package frame). -/
import Derived.Test.YtjanojignaonfaaFrameB
namespace Go.Proofs.Ytjanojignaonfaa
set_option linter.unusedVariables false
set_option linter.unusedSimpArgs false
open Go.RowKit

theorem pushR_step {f : Int} {L : List O} {l : List Int} {i : Nat} (h : i < l.length) : pushR f L (l.drop i) = if push1E L f (l[i]?.getD 0) = 0 then pushR f (push1L L f (l[i]?.getD 0)) (l.drop (i + 1)) else (push1L L f (l[i]?.getD 0), push1E L f (l[i]?.getD 0)) := by
  rw [List.drop_eq_getElem_cons h, List.getElem?_eq_getElem h]
  rfl
theorem pushR_end {f : Int} {L : List O} {l : List Int} {i : Nat} (h : l.length ≤ i) : pushR f L (l.drop i) = (L, 0) := by
  rw [List.drop_eq_nil_of_le h]
  rfl

theorem push1_x {L : List O} {f v n x : Int} (h : numR L f 2 = (n, x)) (hx : ¬ x = 0) : push1E L f v = x ∧ push1L L f v = L := by
  unfold push1E push1L
  rw [h]
  exact ⟨if_neg hx, if_neg fun h => hx h.1⟩
theorem push1_n {L : List O} {f v n : Int} (h : numR L f 2 = (n, 0)) (hn : ¬ (0 ≤ n ∧ n < 24)) : push1E L f v = 22 ∧ push1L L f v = L := by
  unfold push1E push1L
  rw [h]
  exact ⟨(if_pos rfl).trans (if_neg hn), if_neg fun h => hn h.2⟩
theorem push1_s {L : List O} {f v n s : Int} (h : numR L f 2 = (n, 0)) (hn : 0 ≤ n ∧ n < 24) (hs : setE L f (8 + n) v = s) (h0 : ¬ s = 0) : push1E L f v = s ∧ push1L L f v = setL L f (8 + n) v := by
  unfold push1E push1L
  rw [h]
  dsimp only
  rw [hs]
  exact ⟨(if_pos rfl).trans ((if_pos hn).trans (if_neg h0)), (if_pos ⟨rfl, hn⟩).trans (if_neg h0)⟩
theorem push1_y {L : List O} {f v n : Int} (h : numR L f 2 = (n, 0)) (hn : 0 ≤ n ∧ n < 24) (hs : setE L f (8 + n) v = 0) : push1E L f v = setNumE (setL L f (8 + n) v) f 2 (n + 1) ∧ push1L L f v = setNumL (setL L f (8 + n) v) f 2 (n + 1) := by
  unfold push1E push1L
  rw [h]
  dsimp only
  rw [hs]
  exact ⟨(if_pos rfl).trans ((if_pos hn).trans (if_pos rfl)), (if_pos ⟨rfl, hn⟩).trans (if_pos rfl)⟩

section
variable {w0 w w' : World} {m : Nat} {L L' : List O} {K : (Nat → Prop) → World → Prop} {F F' : Nat → Prop}
set_option maxRecDepth 100000 in
set_option maxHeartbeats 2000000 in
theorem k_Push (h : MemK w0 w m L K) (f : Int) (hf : In64 f) (lv : Value) (l : List Int) (hx : ∀ F v, K F v → IntS v (fun b => ¬ F b) lv l) :
    Calls Try.prog 40 #[.iface 30 (.pointer (some ⟨m, 0, none⟩)), .int .i64 f, lv] w fun e w' => e = .returned (.int .i64 (pushR f L l).2) ∧ MemK w0 w' m (pushR f L l).1 K := by
  obtain ⟨A, c, rfl, hmax⟩ : ∃ A c, lv = .slice A l.length c ∧ l.length ≤ 9223372036854775807 := by
    obtain ⟨F, -, -, hk⟩ := h.opened
    obtain ⟨A, c, e, h1, h2, -⟩ := (hx F w hk).form
    refine ⟨A, c, e, ?_⟩
    unfold maxLen at h2
    simp at h2
    omega
  obtain ⟨R, hR⟩ : ∃ R, pushR f L l = R := ⟨_, rfl⟩
  obtain ⟨RL, Re⟩ := R
  rw [hR]
  dsimp only
  have HX := Lib.hid hx
  have HM0 := Lib.hid h
  have HR := Lib.hid hR
  clear h hx hR
  generalize hn : l.length = p at *
  have HP := Lib.hid hn
  clear hn
  go_enter Try.func40, Try.ntmps40
  go_wp2_with fail
  go_loopg [13] p (fun j v13 wr => ∃ (i : Nat) (L1 : List O), v13 = .int .i64 (i : Int) ∧ p - i ≤ j ∧ i ≤ p ∧ MemK w0 wr m L1 K ∧ pushR f L1 (l.drop i) = (RL, Re))
  case atStart => exact ⟨0, L, rfl, by omega, by omega, HM0.out, HR.out⟩
  case round =>
    clear HM0 HR
    obtain ⟨i, L1, rfl, hj, hi, g, hp⟩ := hrel
    by_cases hlt : i < p
    · have t1 : decide ((i : Int) < (p : Int)) = true := decide_eq_true (by omega)
      have l1 : (i : Int) < (p : Int) := by omega
      rw [pushR_step (by rw [HP.out]; exact hlt)] at hp
      obtain ⟨F1, -, -, hk1⟩ := g.opened
      obtain ⟨A', c', eA, -, -, -, hat⟩ := (HX.out F1 wr hk1).form
      obtain ⟨b, off, rfl, -, -, y0, v64⟩ := hat i (by rw [HP.out]; exact hlt)
      obtain ⟨rfl, -, -⟩ := Value.slice.inj eA
      generalize l[i]?.getD 0 = v at *
      have hbd := num_bd L1 f 2
      obtain ⟨r, hr⟩ : ∃ r, numR L1 f 2 = r := ⟨_, rfl⟩
      obtain ⟨n, x⟩ := r
      rw [hr] at hbd
      have HN := Lib.hid hr
      have HM := Lib.hid g
      clear hr g eA hat hk1
      dsimp only at hbd
      by_cases hx0 : x = 0
      · subst hx0
        by_cases h0 : n < 0
        · rw [(push1_n HN.out (by omega)).1, (push1_n HN.out (by omega)).2, if_neg (by decide)] at hp
          have t2 : decide (n < 0) = true := decide_eq_true h0
          obtain ⟨rfl, rfl⟩ := Prod.mk.inj hp
          clear h0 hbd hp
          go_wp2_with (go_at_call 35
                       refine (k_Num HM.out f 2 hf).mono ?_
                       rw [HN.out]
                       rintro e w1 ⟨rfl, g1, c1⟩
                       have H1 := Lib.hid g1
                       clear g1 c1)
          go_ret
          exact ⟨rfl, H1.out⟩
        · have t2 : decide (n < 0) = false := decide_eq_false h0
          by_cases h2 : 24 ≤ n
          · rw [(push1_n HN.out (by omega)).1, (push1_n HN.out (by omega)).2, if_neg (by decide)] at hp
            have t3 : decide (24 ≤ n) = true := decide_eq_true h2
            obtain ⟨rfl, rfl⟩ := Prod.mk.inj hp
            clear h0 h2 hbd hp
            go_wp2_with (go_at_call 35
                         refine (k_Num HM.out f 2 hf).mono ?_
                         rw [HN.out]
                         rintro e w1 ⟨rfl, g1, c1⟩
                         have H1 := Lib.hid g1
                         clear g1 c1)
            go_ret
            exact ⟨rfl, H1.out⟩
          · have t3 : decide (24 ≤ n) = false := decide_eq_false h2
            have hc : 0 ≤ n ∧ n < 24 := by omega
            have w1 : IntKind.i64.wrap (8 + n) = 8 + n := IntWalk.i64_in _ (by omega)
            have w2 : IntKind.i64.wrap (n + 1) = n + 1 := IntWalk.i64_in _ (by omega)
            have n64 : In64 (n + 1) := ⟨by omega, by omega⟩
            obtain ⟨s, hs⟩ : ∃ s, setE L1 f (8 + n) v = s := ⟨_, rfl⟩
            have HS := Lib.hid hs
            clear h0 h2 hbd hs
            by_cases hs0 : s = 0
            · subst hs0
              rw [(push1_y HN.out hc HS.out).1, (push1_y HN.out hc HS.out).2] at hp
              obtain ⟨y, hy⟩ : ∃ y, setNumE (setL L1 f (8 + n) v) f 2 (n + 1) = y := ⟨_, rfl⟩
              rw [hy] at hp
              have HY := Lib.hid hy
              clear hy
              by_cases hy0 : y = 0
              · subst hy0
                rw [if_pos rfl] at hp
                have HPP := Lib.hid hp
                clear hp
                go_wp2_with (first
                  | (go_at_call 35
                     refine (k_Num HM.out f 2 hf).mono ?_
                     rw [HN.out]
                     rintro e w1 ⟨rfl, g1, c1⟩
                     have H1 := Lib.hid g1
                     clear g1 c1)
                  | (go_at_call 54
                     refine (k_Set H1.out f (8 + n) v hf v64).mono ?_
                     rw [HS.out]
                     rintro e w2 ⟨rfl, g2⟩
                     have H2 := Lib.hid g2
                     clear g2)
                  | (go_at_call 34; refine (k_SetNum H2.out f 2 (n + 1) hf n64).mono ?_; rw [HY.out]; rintro e w3 ⟨rfl, g3⟩; have H3 := Lib.hid g3; clear g3))
                go_roundg (p - (i + 1))
                case measure => omega
                case rel => exact ⟨i + 1, _, by go_num, by omega, by omega, H3.out, HPP.out⟩
              · rw [if_neg hy0] at hp
                have t4 : (y != 0) = true := by simpa using hy0
                obtain ⟨rfl, rfl⟩ := Prod.mk.inj hp
                clear hy0 hp
                go_wp2_with (first
                  | (go_at_call 35
                     refine (k_Num HM.out f 2 hf).mono ?_
                     rw [HN.out]
                     rintro e w1 ⟨rfl, g1, c1⟩
                     have H1 := Lib.hid g1
                     clear g1 c1)
                  | (go_at_call 54
                     refine (k_Set H1.out f (8 + n) v hf v64).mono ?_
                     rw [HS.out]
                     rintro e w2 ⟨rfl, g2⟩
                     have H2 := Lib.hid g2
                     clear g2)
                  | (go_at_call 34; refine (k_SetNum H2.out f 2 (n + 1) hf n64).mono ?_; rw [HY.out]; rintro e w3 ⟨rfl, g3⟩; have H3 := Lib.hid g3; clear g3))
                go_ret
                exact ⟨rfl, H3.out⟩
            · rw [(push1_s HN.out hc HS.out hs0).1, (push1_s HN.out hc HS.out hs0).2, if_neg hs0] at hp
              have t4 : (s == 0) = false := by simpa using hs0
              have t5 : (s != 0) = true := by simpa using hs0
              obtain ⟨rfl, rfl⟩ := Prod.mk.inj hp
              clear hs0 hp
              go_wp2_with (first
                | (go_at_call 35
                   refine (k_Num HM.out f 2 hf).mono ?_
                   rw [HN.out]
                   rintro e w1 ⟨rfl, g1, c1⟩
                   have H1 := Lib.hid g1
                   clear g1 c1)
                | (go_at_call 54
                   refine (k_Set H1.out f (8 + n) v hf v64).mono ?_
                   rw [HS.out]
                   rintro e w2 ⟨rfl, g2⟩
                   have H2 := Lib.hid g2
                   clear g2)
                | fail)
              go_ret
              exact ⟨rfl, H2.out⟩
      · rw [(push1_x HN.out hx0).1, (push1_x HN.out hx0).2, if_neg hx0] at hp
        have t4 : (x == 0) = false := by simpa using hx0
        have t5 : (x != 0) = true := by simpa using hx0
        obtain ⟨rfl, rfl⟩ := Prod.mk.inj hp
        clear hx0 hp hbd
        go_wp2_with (go_at_call 35
                     refine (k_Num HM.out f 2 hf).mono ?_
                     rw [HN.out]
                     rintro e w1 ⟨rfl, g1, c1⟩
                     have H1 := Lib.hid g1
                     clear g1 c1)
        go_ret
        exact ⟨rfl, H1.out⟩
    · have t1 : decide ((i : Int) < (p : Int)) = false := decide_eq_false (by omega)
      rw [pushR_end (by rw [HP.out]; omega)] at hp
      obtain ⟨rfl, rfl⟩ := Prod.mk.inj hp
      clear hp
      have HM := Lib.hid g
      clear g
      go_wp2_with fail
      go_ret
      exact ⟨rfl, HM.out⟩
end

end Go.Proofs.Ytjanojignaonfaa
