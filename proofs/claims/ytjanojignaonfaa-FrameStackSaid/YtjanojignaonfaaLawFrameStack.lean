/- The walk of FrameStack. -/
import Derived.Test.YtjanojignaonfaaFrameR
import Derived.Test.YtjanojignaonfaaFrameH
import Derived.Test.YtjanojignaonfaaLawFrameTemps
import Derived.Test.YtjanojignaonfaaRefs

namespace Go.Proofs.Ytjanojignaonfaa
set_option linter.unusedVariables false
set_option linter.unusedSimpArgs false
open Go.RowKit

theorem MemK.old {w0 w : World} {m : Nat} {L : List O} {K : (Nat → Prop) → World → Prop} (g : MemK w0 w m L K) {lv : Value} {l : List Int} (h : IntS w0 (fun _ => True) lv l) : MemK w0 w m L (fun F v => IntS v (fun b => ¬ F b) lv l) := by
  have hc := g.chg
  have h1 : IntS w0 (fun b => b < w0.heap.size) lv l := h.more fun b hb _ => hb
  refine g.now (Chg.refl _ _) fun G hG _ G' w2 h2 h3 c2 _ => ?_
  refine (((h1.keep hc (fun _ _ f => f)).keep c2 fun b hb hg => ?_).more fun b _ hb hg => ?_)
  · have := (hG b hg).2; omega
  · rcases h3 b hg with h | h
    · have := (hG b h).2; omega
    · have := hc.size; omega
theorem IntS.lay {w : World} {S : Nat → Prop} {b off n c : Nat} {l : List Int} (h : IntS w S (.slice (some ⟨b, off, none⟩) n c) l) {i : Nat} (hi : i < l.length) : w.cell? ⟨b, off + i, none⟩ = some (.int .i64 (l[i]?.getD 0)) ∧ In64 (l[i]?.getD 0) := by
  obtain ⟨A', c', eA, -, -, -, hat⟩ := h.form
  obtain ⟨b', off', e, -, -, y, z⟩ := hat i hi
  obtain ⟨rfl, -, -⟩ := Value.slice.inj eA
  obtain ⟨rfl, rfl⟩ : b = b' ∧ off = off' := by simpa using Option.some.inj e
  exact ⟨y, z⟩
theorem IntS.some {w : World} {S : Nat → Prop} {A : Option Addr} {n c : Nat} {l : List Int} (h : IntS w S (.slice A n c) l) (hl : 0 < l.length) : ∃ b off, A = .some ⟨b, off, none⟩ := by
  obtain ⟨A', c', eA, -, -, -, hat⟩ := h.form
  obtain ⟨b', off', e, -⟩ := hat 0 hl
  obtain ⟨rfl, -, -⟩ := Value.slice.inj eA
  exact ⟨b', off', e⟩
theorem own_ints {w : World} {base : Nat} {v : Value} {l : List Int} (h : OwnInts w base v l) (hl : ∀ x ∈ l, In64 x) : IntS w (fun _ => True) v l := ⟨(Slc.of_own h).more fun _ _ _ => trivial, hl⟩
theorem refOk_in {v : Int} (h : refOk v = true) : In64 v := by
  unfold refOk namedOk numOk at h
  unfold In64
  simp at h
  omega
/-- the frame with j of acc's words upon it -/
def stkR (acc : List Int) (j : Nat) (rest : List Int) : List O := stL ([7, 9, 33] ++ acc.take j) rest
theorem stkR_len {acc : List Int} {j : Nat} {rest : List Int} (h : j + rest.length = 21) (hj : j ≤ acc.length) : ([7, 9, 33] ++ acc.take j).length + rest.length = 24 := by
  simp [List.length_take]
  omega
theorem stk_pop {acc : List Int} {j : Nat} {rest : List Int} (h : j + 1 + rest.length = 21) (hj : j < acc.length) :
    (topR (stkR acc (j + 1) rest) 16).1 = acc[j]?.getD 0 ∧ (topR (stkR acc (j + 1) rest) 16).2.2 = 0 ∧ popE (stkR acc (j + 1) rest) 16 = 0 ∧ popV (stkR acc (j + 1) rest) 16 = acc[j]?.getD 0 ∧ popL (stkR acc (j + 1) rest) 16 = stkR acc j (acc[j]?.getD 0 :: rest) := by
  have e : acc.take (j + 1) = acc.take j ++ [acc[j]?.getD 0] := by
    rw [List.take_add_one, List.getElem?_eq_getElem hj]
    rfl
  have hl : (([7, 9, 33] ++ acc.take j) ++ [acc[j]?.getD 0]).length + rest.length = 24 := by simp [List.length_take]; omega
  unfold stkR
  rw [e, ← List.append_assoc]
  obtain ⟨p1, p2, p3⟩ := st_pop hl
  rw [st_top hl]
  exact ⟨rfl, rfl, p1, p2, p3⟩
theorem stk_start {acc : List Int} (ha : acc.length ≤ 21) (hr : ∀ v ∈ acc, refOk v = true) :
    pushR 16 (stL [7, 9, 2] (List.replicate 21 2)) acc = (stL ([7, 9, 2] ++ acc) ((List.replicate 21 2).drop acc.length), 0) := st_pushes acc _ _ (by simp) hr (by simpa using ha)
theorem stk_rest {acc : List Int} (ha : acc.length ≤ 21) : ([7, 9, 2] ++ acc : List Int).length + (((List.replicate 21 2) : List Int).drop acc.length).length = 24 := by
  simp
  omega
theorem stk_temp {acc : List Int} (ha : acc.length ≤ 21) :
    setTempE (stL ([7, 9, 2] ++ acc) ((List.replicate 21 2).drop acc.length)) 18 2 33 = 0 ∧ setTempL (stL ([7, 9, 2] ++ acc) ((List.replicate 21 2).drop acc.length)) 18 2 33 = stkR acc acc.length ((List.replicate 21 2).drop acc.length) ∧
    tempV (stkR acc acc.length ((List.replicate 21 2).drop acc.length)) 16 2 = (33, 0) := by
  obtain ⟨h1, h2⟩ := st_setTemp (stk_rest ha) (k := 2) (by simp) (v := 33) (by rfl)
  refine ⟨h1, h2.trans ?_, ?_⟩
  · unfold stkR
    rw [List.take_length]
    rfl
  · unfold stkR
    rw [List.take_length]
    exact (st_temp (k := 2) (by simp; omega) (by simp) rfl).trans rfl
theorem stk_full {acc : List Int} (ha : acc.length = 21) (v : Int) : pushR 16 (stkR acc acc.length ((List.replicate 21 2).drop acc.length)) [v] = (stkR acc acc.length ((List.replicate 21 2).drop acc.length), 22) := by
  unfold stkR
  rw [List.take_length, show ((List.replicate 21 2).drop acc.length : List Int) = [] by rw [ha]; rfl]
  exact st_full (by simp [ha]) v
theorem stk_bpop (acc : List Int) (j : Nat) (rest : List Int) : popE (stkR acc j rest) 18 = 22 ∧ popV (stkR acc j rest) 18 = 0 ∧ popL (stkR acc j rest) 18 = stkR acc j rest := st_bpop _
/-- what is left at last -/
theorem stk_last (acc rest : List Int) (h : rest.length = 21) : popE (stkR acc 0 rest) 16 = 0 ∧ popV (stkR acc 0 rest) 16 = 33 ∧ popL (stkR acc 0 rest) 16 = stL [7, 9] (33 :: rest) ∧
    popE (stL [7, 9] (33 :: rest)) 16 = 0 ∧ popV (stL [7, 9] (33 :: rest)) 16 = 9 ∧ popL (stL [7, 9] (33 :: rest)) 16 = stL [7] (9 :: 33 :: rest) ∧
    popE (stL [7] (9 :: 33 :: rest)) 16 = 0 ∧ popV (stL [7] (9 :: 33 :: rest)) 16 = 7 ∧ popL (stL [7] (9 :: 33 :: rest)) 16 = stL [] (7 :: 9 :: 33 :: rest) ∧
    popE (stL [] (7 :: 9 :: 33 :: rest)) 16 = 22 := by
  obtain ⟨a1, a2, a3⟩ := st_pop (st := [7, 9]) (v := 33) (rest := rest) (by simp [h])
  obtain ⟨b1, b2, b3⟩ := st_pop (st := [7]) (v := 9) (rest := 33 :: rest) (by simp [h])
  obtain ⟨c1, c2, c3⟩ := st_pop (st := []) (v := 7) (rest := 9 :: 33 :: rest) (by simp [h])
  obtain ⟨d1, -⟩ := st_empty (rest := 7 :: 9 :: 33 :: rest) (by simp [h])
  exact ⟨a1, a2, a3, b1, b2, b3, c1, c2, c3, d1⟩


theorem in5 : In64 5 := ⟨by decide, by decide⟩
theorem in33 : In64 33 := ⟨by decide, by decide⟩
set_option maxRecDepth 100000 in
set_option maxHeartbeats 4000000 in
theorem FrameStack_any (lv : Value) (l : List Int) (w : World) (h : IntS w (fun _ => True) lv l) :
    Calls Try.prog 10 #[lv] w fun e w' => e = .returned (.bool true) ∧ Below w.heap.size w w' := by
  obtain ⟨A0, c0, rfl, hc1, hc2, -⟩ := h.form
  have hmax : l.length ≤ 9223372036854775807 := by unfold maxLen at hc2; simp at hc2; omega
  have HX := Lib.hid h
  clear h hc1 hc2
  generalize hn : l.length = n at *
  have HN := Lib.hid hn
  clear hn
  go_enter Try.func10, Try.ntmps10
  go_wp2_with fail
  go_loopg [3, 4] n (fun k v3 v4 wr => ∃ (i : Nat) (acc : List Int), v4 = .int .i64 (i : Int) ∧ i ≤ n ∧ n - i ≤ k ∧ acc.length ≤ 21 ∧ (∀ v ∈ acc, refOk v = true) ∧ OwnInts wr w.heap.size v3 acc ∧ Chg No w wr)
  case atStart => exact ⟨0, [], rfl, by omega, by omega, by simp, by simp, World.ownsRow_nil _ _ _ _, Chg.refl _ _⟩
  case round =>
    obtain ⟨i, acc, rfl, hi, hk, ha, hr, own, cg⟩ := hrel
    obtain ⟨A3, c3, rfl⟩ := own.form
    by_cases hlt : i < n
    · have t1 : decide ((i : Int) < (n : Int)) = true := decide_eq_true (by omega)
      have l1 : (i : Int) < (n : Int) := by omega
      obtain ⟨b, off, rfl⟩ := HX.out.some (by rw [HN.out]; omega)
      obtain ⟨y0, x64⟩ := (HX.out.keep cg (fun _ _ f => f)).lay (i := i) (by rw [HN.out]; exact hlt)
      obtain ⟨x, hx⟩ : ∃ x, l[i]?.getD 0 = x := ⟨_, rfl⟩
      rw [hx] at y0 x64
      clear hx
      have hHR := Ref05_any x x64
      cases hrx : refOk x
      · rw [hrx] at hHR
        have HC := Lib.hid (And.intro own (And.intro cg (And.intro hr ha)))
        clear own cg hr hrx ha
        generalize hpp : acc.length = p at *
        have HPp := Lib.hid hpp
        clear hpp
        go_wp2_with (go_at_call 39; refine (hHR _).mono ?_; rintro e w' ⟨rfl, rfl⟩)
        go_roundg (n - (i + 1))
        case measure => omega
        case rel => exact ⟨i + 1, acc, by go_num, by omega, by omega, by rw [HPp.out]; exact HC.out.2.2.2, HC.out.2.2.1, HC.out.1, HC.out.2.1⟩
      · rw [hrx] at hHR
        by_cases hp : acc.length < 21
        · have t2 : decide ((acc.length : Int) < 21) = true := decide_eq_true (by omega)
          obtain ⟨A5, c5, w5, hr5, ho5, cg5⟩ := app_one own (by omega) cg.size x 36
          have cw5 : Chg No w w5 := cg.then cg5 (fun k hk hle => by omega)
          have hr2 : ∀ v ∈ acc ++ [x], refOk v = true := by
            intro v hv
            rcases List.mem_append.1 hv with h | h
            · exact hr v h
            · rw [List.mem_singleton.1 h]; exact hrx
          have hl2 : (acc ++ [x]).length ≤ 21 := by simp; omega
          have HC := Lib.hid (And.intro hr5 (And.intro ho5 (And.intro cw5 (And.intro hr2 hl2))))
          clear own cg hr hrx ha hr5 ho5 cg5 cw5 hr2 hl2 hp
          generalize hpp : acc.length = p at *
          have HPp := Lib.hid hpp
          clear hpp
          go_wp2_with (first
            | (go_at_call 39; refine (hHR _).mono ?_; rintro e w' ⟨rfl, rfl⟩)
            | (at_builtin; refine wpList_append_run rfl _ _ _ rfl rfl rfl HC.out.1 ?_)
            | fail)
          go_roundg (n - (i + 1))
          case measure => omega
          case rel => exact ⟨i + 1, acc ++ [x], by go_num, by omega, by omega, HC.out.2.2.2.2, HC.out.2.2.2.1, HC.out.2.1, HC.out.2.2.1⟩
        · have t2 : decide ((acc.length : Int) < 21) = false := decide_eq_false (by omega)
          have HC := Lib.hid (And.intro own (And.intro cg (And.intro hr ha)))
          clear own cg hr hrx ha hp
          generalize hpp : acc.length = p at *
          have HPp := Lib.hid hpp
          clear hpp
          go_wp2_with (go_at_call 39; refine (hHR _).mono ?_; rintro e w' ⟨rfl, rfl⟩)
          go_roundg (n - (i + 1))
          case measure => omega
          case rel => exact ⟨i + 1, acc, by go_num, by omega, by omega, by rw [HPp.out]; exact HC.out.2.2.2, HC.out.2.2.1, HC.out.1, HC.out.2.1⟩
    · have t1 : decide ((i : Int) < (n : Int)) = false := decide_eq_false (by omega)
      obtain ⟨wa, rfl⟩ : ∃ x, x = wr := ⟨_, rfl⟩
      have hS := stk_temp ha
      have HO := Lib.hid (And.intro (own_ints own (fun v hv => refOk_in (hr v hv))) (And.intro own cg))
      have HB := Lib.hid st_block
      obtain ⟨R0, hR0⟩ : ∃ R0, ((List.replicate 21 2).drop acc.length : List Int) = R0 := ⟨_, rfl⟩
      have hR1 : acc.length + R0.length = 21 := by rw [← hR0]; simp; omega
      have hP := stk_start ha hr
      have hF := stk_full (acc := acc)
      rw [hR0] at hS hP
      have HR0 := Lib.hid hR1
      have hp21 : acc.length ≤ 21 := ha
      have tok : True := trivial
      by_cases h21 : acc.length = 21
      · have hF1 := hF h21 1
        rw [hR0] at hF1
        have HF := Lib.hid hF1
        have HS := Lib.hid (And.intro hP hS)
        have t2 : ((acc.length : Int) == 21) = true := by rw [h21]; rfl
        clear hP hS own cg hr hF hF1 hR0 ha hR1 h21
        generalize hpp : acc.length = p at *
        have HPp := Lib.hid hpp
        clear hpp
        go_wp2_with (first
          | (go_at_call 32; refine (made15_any _).mono ?_; rintro e w1 ⟨m, rfl, g1⟩; have H1 := Lib.hid (g1.old (by exact HO.out.1)); clear g1)
            | (go_at_call 37
               refine (k_Block H1.out 16 1 5 in16 in1 in5 (by simp [frameL, worldL])).mono ?_
               rw [HB.out.1, HB.out.2.1, HB.out.2.2]
               rintro e w2 ⟨rfl, g2⟩
               have H2 := Lib.hid g2
               clear g2)
            | (go_at_call 40
               have _t := tok
               clear tok
               refine (k_Push H2.out 16 in16 _ acc (fun F v hk => hk)).mono ?_
               rw [HS.out.1]
               rintro e w3 ⟨rfl, g3⟩
               have H3 := Lib.hid g3
               clear g3)
            | (go_at_call 38
               refine (k_Home H3.out 18 in18).mono ?_
               rw [show homeR (stL ([7, 9, 2] ++ acc) R0) 18 = (16, 0) from st_home _]
               rintro e w4 ⟨rfl, g4, -⟩
               have H4 := Lib.hid g4
               clear g4)
            | (go_at_call 41
               refine (k_SetTemp H4.out 18 2 33 in18 in33).mono ?_
               rw [HS.out.2.1, HS.out.2.2.1]
               rintro e w5 ⟨rfl, g5⟩
               have H5 := Lib.hid g5
               clear g5)
            | (go_at_call 42
               refine (k_Temp H5.out 16 2 in16).mono ?_
               rw [HS.out.2.2.2]
               rintro e w6 ⟨rfl, g6, -⟩
               have H6 := Lib.hid g6
               clear g6)
            | (go_at_call 43
               refine (k_Pop H6.out 18 in18).mono ?_
               rw [(stk_bpop acc p R0).1, (stk_bpop acc p R0).2.1, (stk_bpop acc p R0).2.2]
               rintro e w7 ⟨rfl, g7⟩
               have H7 := Lib.hid g7
               clear g7)
          | (go_at_call 40
             refine (k_Push (H7.out.fresh1 3 _ rfl 1 in1) 16 in16 _ [1] (fun F v hk => hk.2)).mono ?_
             rw [HF.out]
             rintro e w8 ⟨rfl, g8⟩
             have g8b : MemK wa w8 m (stkR acc p R0) (fun F v => IntS v (fun b => ¬ F b) (.slice A3 p c3) acc) := g8.mono fun _ _ hk => hk.1
             have H8 := Lib.hid g8b
             clear g8 g8b)
          | fail)
        go_loopg [17] p (fun k v17 wr => ∃ (j : Nat) (rest : List Int), v17 = .int .i64 ((j : Int) - 1) ∧ j ≤ k ∧ j ≤ p ∧ j + rest.length = 21 ∧ MemK wa wr m (stkR acc j rest) (fun F v => IntS v (fun b => ¬ F b) (.slice A3 p c3) acc))
        case atStart => exact ⟨p, R0, by go_num, by omega, by omega, HR0.out, H8.out⟩
        case round =>
          clear H1 H2 H3 H4 H5 H6 HS HB H7 H8 HF
          obtain ⟨j, rest, rfl, hj, hjp, hrl, g⟩ := hrel
          have HG := Lib.hid g
          clear g
          cases j with
          | zero =>
            have HL := Lib.hid (stk_last acc rest (by omega))
            rw [show ((0 : Nat) : Int) - 1 = -1 from rfl]
            have t1 : decide ((0 : Int) ≤ -1) = false := by decide
            have tok1 : True := trivial
            have tok2 : True := trivial
            have tok3 : True := trivial
            go_wp2_with (first
              | (go_at_call 43
                 have _t := tok1
                 clear tok1
                 refine (k_Pop HG.out 16 in16).mono ?_
                 rw [HL.out.1, HL.out.2.1, HL.out.2.2.1]
                 rintro e w11 ⟨rfl, g11⟩
                 have H11 := Lib.hid g11
                 clear g11)
              | (go_at_call 43
                 have _t := tok2
                 clear tok2
                 refine (k_Pop H11.out 16 in16).mono ?_
                 rw [HL.out.2.2.2.1, HL.out.2.2.2.2.1, HL.out.2.2.2.2.2.1]
                 rintro e w12 ⟨rfl, g12⟩
                 have H12 := Lib.hid g12
                 clear g12)
              | (go_at_call 43
                 have _t := tok3
                 clear tok3
                 refine (k_Pop H12.out 16 in16).mono ?_
                 rw [HL.out.2.2.2.2.2.2.1, HL.out.2.2.2.2.2.2.2.1, HL.out.2.2.2.2.2.2.2.2.1]
                 rintro e w13 ⟨rfl, g13⟩
                 have H13 := Lib.hid g13
                 clear g13)
              | (go_at_call 43
                 refine (k_Pop H13.out 16 in16).mono ?_
                 rw [HL.out.2.2.2.2.2.2.2.2.2]
                 rintro e w14 ⟨rfl, g14⟩
                 have H14 := Lib.hid g14
                 clear g14)
              | (go_at_call 36; refine (known15_any _).mono ?_; rintro e w9 ⟨rfl, c9⟩)
              | fail)
            go_ret
            exact ⟨rfl, (HO.out.2.2.trans (H14.out.chg.trans c9)).below⟩
          | succ j =>
            have t1 : decide (0 ≤ (j : Int)) = true := decide_eq_true (by omega)
            have l1 : (0 : Int) ≤ (j : Int) := by omega
            have l2 : (j : Int) < (p : Int) := by omega
            have e1 : ((j + 1 : Nat) : Int) - 1 = (j : Int) := by omega
            rw [e1]
            have HL := stk_pop (acc := acc) (j := j) (rest := rest) hrl (by rw [HPp.out]; omega)
            obtain ⟨v, hv⟩ : ∃ v, acc[j]?.getD 0 = v := ⟨_, rfl⟩
            rw [hv] at HL
            have hL := Lib.hid HL
            have hV := Lib.hid hv
            clear HL hv
            obtain ⟨F0, -, -, hk0⟩ := HG.out.opened
            obtain ⟨b, off, rfl⟩ := hk0.some (by rw [HPp.out]; omega)
            clear hk0
            go_wp2_with (first
              | (go_at_call 44
                 refine (k_Top HG.out 16 in16).mono ?_
                 rw [hL.out.1, hL.out.2.1]
                 rintro e w11 ⟨rfl, g11, -⟩
                 have H11 := Lib.hid g11
                 clear g11)
              | (go_at_call 43
                 refine (k_Pop H11.out 16 in16).mono ?_
                 rw [hL.out.2.2.1, hL.out.2.2.2.1, hL.out.2.2.2.2]
                 rintro e w12 ⟨rfl, g12⟩
                 obtain ⟨F12, -, -, hk12⟩ := g12.opened
                 have x12 := (hk12.lay (i := j) (by rw [HPp.out]; omega)).1
                 rw [hV.out] at x12
                 have H12 := Lib.hid g12
                 clear g12 hk12)
              | fail)
            go_roundg j
            case measure => omega
            case rel => exact ⟨j, v :: rest, by go_num, by omega, by omega, by simp; omega, H12.out⟩
      · have HS := Lib.hid (And.intro hP hS)
        have t2 : ((acc.length : Int) == 21) = false := beq_eq_false_iff_ne.2 (by omega)
        clear hP hS own cg hr hF hR0 ha hR1 h21
        generalize hpp : acc.length = p at *
        have HPp := Lib.hid hpp
        clear hpp
        go_wp2_with (first
          | (go_at_call 32; refine (made15_any _).mono ?_; rintro e w1 ⟨m, rfl, g1⟩; have H1 := Lib.hid (g1.old (by exact HO.out.1)); clear g1)
            | (go_at_call 37
               refine (k_Block H1.out 16 1 5 in16 in1 in5 (by simp [frameL, worldL])).mono ?_
               rw [HB.out.1, HB.out.2.1, HB.out.2.2]
               rintro e w2 ⟨rfl, g2⟩
               have H2 := Lib.hid g2
               clear g2)
            | (go_at_call 40
               have _t := tok
               clear tok
               refine (k_Push H2.out 16 in16 _ acc (fun F v hk => hk)).mono ?_
               rw [HS.out.1]
               rintro e w3 ⟨rfl, g3⟩
               have H3 := Lib.hid g3
               clear g3)
            | (go_at_call 38
               refine (k_Home H3.out 18 in18).mono ?_
               rw [show homeR (stL ([7, 9, 2] ++ acc) R0) 18 = (16, 0) from st_home _]
               rintro e w4 ⟨rfl, g4, -⟩
               have H4 := Lib.hid g4
               clear g4)
            | (go_at_call 41
               refine (k_SetTemp H4.out 18 2 33 in18 in33).mono ?_
               rw [HS.out.2.1, HS.out.2.2.1]
               rintro e w5 ⟨rfl, g5⟩
               have H5 := Lib.hid g5
               clear g5)
            | (go_at_call 42
               refine (k_Temp H5.out 16 2 in16).mono ?_
               rw [HS.out.2.2.2]
               rintro e w6 ⟨rfl, g6, -⟩
               have H6 := Lib.hid g6
               clear g6)
            | (go_at_call 43
               refine (k_Pop H6.out 18 in18).mono ?_
               rw [(stk_bpop acc p R0).1, (stk_bpop acc p R0).2.1, (stk_bpop acc p R0).2.2]
               rintro e w7 ⟨rfl, g7⟩
               have H7 := Lib.hid g7
               clear g7)
          | fail)
        go_loopg [17] p (fun k v17 wr => ∃ (j : Nat) (rest : List Int), v17 = .int .i64 ((j : Int) - 1) ∧ j ≤ k ∧ j ≤ p ∧ j + rest.length = 21 ∧ MemK wa wr m (stkR acc j rest) (fun F v => IntS v (fun b => ¬ F b) (.slice A3 p c3) acc))
        case atStart => exact ⟨p, R0, by go_num, by omega, by omega, HR0.out, H7.out⟩
        case round =>
          clear H1 H2 H3 H4 H5 H6 HS HB H7
          obtain ⟨j, rest, rfl, hj, hjp, hrl, g⟩ := hrel
          have HG := Lib.hid g
          clear g
          cases j with
          | zero =>
            have HL := Lib.hid (stk_last acc rest (by omega))
            rw [show ((0 : Nat) : Int) - 1 = -1 from rfl]
            have t1 : decide ((0 : Int) ≤ -1) = false := by decide
            have tok1 : True := trivial
            have tok2 : True := trivial
            have tok3 : True := trivial
            go_wp2_with (first
              | (go_at_call 43
                 have _t := tok1
                 clear tok1
                 refine (k_Pop HG.out 16 in16).mono ?_
                 rw [HL.out.1, HL.out.2.1, HL.out.2.2.1]
                 rintro e w11 ⟨rfl, g11⟩
                 have H11 := Lib.hid g11
                 clear g11)
              | (go_at_call 43
                 have _t := tok2
                 clear tok2
                 refine (k_Pop H11.out 16 in16).mono ?_
                 rw [HL.out.2.2.2.1, HL.out.2.2.2.2.1, HL.out.2.2.2.2.2.1]
                 rintro e w12 ⟨rfl, g12⟩
                 have H12 := Lib.hid g12
                 clear g12)
              | (go_at_call 43
                 have _t := tok3
                 clear tok3
                 refine (k_Pop H12.out 16 in16).mono ?_
                 rw [HL.out.2.2.2.2.2.2.1, HL.out.2.2.2.2.2.2.2.1, HL.out.2.2.2.2.2.2.2.2.1]
                 rintro e w13 ⟨rfl, g13⟩
                 have H13 := Lib.hid g13
                 clear g13)
              | (go_at_call 43
                 refine (k_Pop H13.out 16 in16).mono ?_
                 rw [HL.out.2.2.2.2.2.2.2.2.2]
                 rintro e w14 ⟨rfl, g14⟩
                 have H14 := Lib.hid g14
                 clear g14)
              | (go_at_call 36; refine (known15_any _).mono ?_; rintro e w9 ⟨rfl, c9⟩)
              | fail)
            go_ret
            exact ⟨rfl, (HO.out.2.2.trans (H14.out.chg.trans c9)).below⟩
          | succ j =>
            have t1 : decide (0 ≤ (j : Int)) = true := decide_eq_true (by omega)
            have l1 : (0 : Int) ≤ (j : Int) := by omega
            have l2 : (j : Int) < (p : Int) := by omega
            have e1 : ((j + 1 : Nat) : Int) - 1 = (j : Int) := by omega
            rw [e1]
            have HL := stk_pop (acc := acc) (j := j) (rest := rest) hrl (by rw [HPp.out]; omega)
            obtain ⟨v, hv⟩ : ∃ v, acc[j]?.getD 0 = v := ⟨_, rfl⟩
            rw [hv] at HL
            have hL := Lib.hid HL
            have hV := Lib.hid hv
            clear HL hv
            obtain ⟨F0, -, -, hk0⟩ := HG.out.opened
            obtain ⟨b, off, rfl⟩ := hk0.some (by rw [HPp.out]; omega)
            clear hk0
            go_wp2_with (first
              | (go_at_call 44
                 refine (k_Top HG.out 16 in16).mono ?_
                 rw [hL.out.1, hL.out.2.1]
                 rintro e w11 ⟨rfl, g11, -⟩
                 have H11 := Lib.hid g11
                 clear g11)
              | (go_at_call 43
                 refine (k_Pop H11.out 16 in16).mono ?_
                 rw [hL.out.2.2.1, hL.out.2.2.2.1, hL.out.2.2.2.2]
                 rintro e w12 ⟨rfl, g12⟩
                 obtain ⟨F12, -, -, hk12⟩ := g12.opened
                 have x12 := (hk12.lay (i := j) (by rw [HPp.out]; omega)).1
                 rw [hV.out] at x12
                 have H12 := Lib.hid g12
                 clear g12 hk12)
              | fail)
            go_roundg j
            case measure => omega
            case rel => exact ⟨j, v :: rest, by go_num, by omega, by omega, by simp; omega, H12.out⟩

end Go.Proofs.Ytjanojignaonfaa
