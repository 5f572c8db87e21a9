/- The walk of FlatNext. -/
import Derived.Test.YtmpfpfemjpmbaaaDone2
import Derived.Test.YtmpfpfemjpmbaaaReach
namespace Go.Proofs.Ytmpfpfemjpmbaaa
open Go.RowKit

theorem fnd_even (L : List O) (k : Nat) (hk : k < L.length) (hL : L.length < 1073741823) : fnd L (2 * ((k : Int) + 1)) = if (ob L k).kind = 0 then none else some k := by
  unfold fnd
  have e : (2 * ((k : Int) + 1) / 2 - 1).toNat = k := by omega
  rw [e]
  by_cases h : (ob L k).kind = 0
  · rw [if_pos h, if_neg (fun hn => hn.2 h)]
  · rw [if_neg h, if_pos ⟨by simp [namedOk]; omega, h⟩]
theorem objE_even (L : List O) (k : Nat) (hk : k < L.length) (hL : L.length < 1073741823) : objE L (2 * ((k : Int) + 1)) = if (ob L k).kind = 0 then 4 else 0 := by
  unfold objE
  rw [fnd_even L k hk hL]
  by_cases h : (ob L k).kind = 0
  · rw [if_pos h, if_pos h]
  · rw [if_neg h, if_neg h]
theorem next_behind (L : List O) (hL : L.length < 1073741823) : nextN L (2 * ((L.length : Int) + 1)) = 0 ∧ nextOK L (2 * ((L.length : Int) + 1)) = false := by
  have h : nxtI L (L.length + 1) = none := by
    cases hx : nxtI L (L.length + 1) with
    | none => rfl
    | some i =>
      obtain ⟨h1, h2, -⟩ := nxtI_at hx
      omega
  unfold nextN nextOK
  rw [namedV_even L.length (by omega), show ((L.length : Int) + 1).toNat = L.length + 1 by omega, h]
  exact ⟨rfl, rfl⟩
theorem allL_at {L : List O} {i : Nat} {o : Int} (h : (allL L)[i]? = some o) : ∃ k : Nat, k < L.length ∧ (ob L k).kind ≠ 0 ∧ o = 2 * ((k : Int) + 1) := by
  have := List.mem_of_getElem? h
  simp only [allL, allTo, List.mem_map, List.mem_filter, List.mem_range, bne_iff_ne, ne_eq] at this
  obtain ⟨k, ⟨h1, h2⟩, rfl⟩ := this
  exact ⟨k, h1, h2, rfl⟩
theorem allL_rise (L : List O) : (allL L).Pairwise (· < ·) := by
  unfold allL allTo
  rw [List.pairwise_map]
  exact (List.pairwise_lt_range.filter _).imp fun h => by omega
theorem allL_up {L : List O} {i : Nat} {a b : Int} (ha : (allL L)[i]? = some a) (hb : (allL L)[i + 1]? = some b) : a < b := by
  obtain ⟨h1, rfl⟩ := List.getElem?_eq_some_iff.1 ha
  obtain ⟨h2, rfl⟩ := List.getElem?_eq_some_iff.1 hb
  exact List.pairwise_iff_getElem.1 (allL_rise L) i (i + 1) h1 h2 (by omega)

set_option maxRecDepth 100000 in
set_option maxHeartbeats 4000000 in
theorem FlatNext_any (lv : Value) (D : List D4) (w : World) (h : DoS w (fun _ => True) lv D) (hm : D.length ≤ 4398046511104) :
    Calls Try.prog 9 #[lv] w fun e w' => e = .returned (.bool true) ∧ Below w.heap.size w w' := by
  obtain ⟨A, n, c, rfl⟩ : ∃ A n c, lv = .slice A n c := by
    obtain ⟨⟨A, c, e, -⟩, -⟩ := h
    exact ⟨A, _, c, e⟩
  obtain rfl : D.length = n := by
    obtain ⟨⟨A', c', e, -⟩, -⟩ := h
    exact (Value.slice.inj e).2.1.symm
  have hle := (longN_le D).1
  have H := Lib.hid h
  clear h
  generalize hn : D.length = n at *
  have HN := Lib.hid hn
  clear hn
  generalize hln : longN D = ln at *
  have HL := Lib.hid hln
  clear hln
  by_cases hq : 150 < ln
  · have t0 : decide (150 < ln) = true := decide_eq_true hq
    go_enter Try.func9, Try.ntmps9
    go_wp2_with (first
      | (go_at_call 28; refine (long_any _ D _ _ H.out (by rw [HN.out]; exact hm)).mono ?_; rw [HL.out, t0]; rintro e w1 ⟨rfl, c1⟩)
      | (go_at_call 16; refine (known_any _).mono ?_; rintro e w6 ⟨rfl, g6⟩))
    go_ret
    exact ⟨rfl, (c1.trans g6).below⟩
  have t0 : decide (150 < ln) = false := decide_eq_false hq
  have hn150 : n ≤ 150 := by omega
  clear hle hm hq
  go_enter Try.func9, Try.ntmps9
  go_wp2_with (first
    | (go_at_call 28; refine (long_any _ D _ _ H.out (by rw [HN.out]; omega)).mono ?_; rw [HL.out, t0]; rintro e w1 ⟨rfl, c1⟩)
    | (go_at_call 18; refine (k_flatNew c1).mono ?_; rintro e w2 ⟨m, rfl, g0⟩))
  have gA := g0.cameD H.out
  clear g0 c1
  go_loopg [4] n (fun j v4 wr => ∃ i : Nat, v4 = .int .i64 i ∧ i ≤ n ∧ n - i ≤ j ∧ MemK w wr m (runL (D.take i)) (fun F v => DoS v (fun b => ¬ F b) (.slice A n c) D))
  case atStart => exact ⟨0, rfl, by omega, by omega, gA⟩
  case round =>
    clear gA
    obtain ⟨i, rfl, i1, i2, g1⟩ := hrel
    by_cases hi : i < n
    · obtain ⟨⟨dk, da, db, dc⟩, hti⟩ : ∃ d, D[i]? = some d := ⟨_, List.getElem?_eq_getElem (by rw [HN.out]; exact hi)⟩
      obtain ⟨F1, -, -, hk1⟩ := g1.opened
      obtain ⟨b, off, rfl, -, hb, hd, y0, y1, y2, y3⟩ := hk1.at hti
      have hlen := runL_len (D.take i) []
      rw [List.length_nil, List.length_take, HN.out, Nat.min_eq_left i1] at hlen
      have hk := k_done g1 ⟨dk, da, db, dc⟩ hd (Nat.lt_of_le_of_lt (Nat.succ_le_succ hlen) (by omega))
      rw [← runL_take hti] at hk
      dsimp only [D4.cells] at hk y0 y1 y2 y3
      have HK := Lib.hid hk
      clear hk hlen hti hd hk1 g1
      go_wp2_with (go_at_call 29; refine HK.out.mono ?_; rintro e w3 ⟨v, rfl, wv, bv, rfl, -, -, -, -, g3⟩)
      go_roundg (n - (i + 1))
      case measure => omega
      case rel => exact ⟨i + 1, by go_num, by omega, by omega, g3⟩
    · obtain rfl : i = n := by omega
      have hlen := runL_len (D.take i) []
      rw [List.length_nil, List.length_take, HN.out, Nat.min_self] at hlen
      change (runL (D.take i)).length ≤ _ at hlen
      generalize runL (D.take i) = L at *
      have g2 : MemK w wr m L (fun _ _ => True) := g1.now (Chg.refl _ _) fun _ _ _ _ _ _ _ _ _ => trivial
      have hLl : (allL L).length ≤ L.length := allTo_len L L.length
      have HE := Lib.hid (next_behind L (by omega))
      clear g1
      have hmade := g2.made
      go_wp2_with (go_at_call 31; refine (k_All g2).mono ?_; rintro e w4 ⟨v5, rfl, own, g4, -⟩)
      obtain ⟨A5, c5, rfl⟩ := own.form
      generalize hall : allL L = l5 at *
      have HA := Lib.hid hall
      clear hall g2
      generalize hl5 : l5.length = n5 at *
      have HN5 := Lib.hid hl5
      clear hl5
      generalize wr.heap.size = bs at own
      go_loopg [6] n5 (fun j v6 wr => ∃ i5 : Nat, v6 = .int .i64 i5 ∧ i5 ≤ n5 ∧ n5 - i5 ≤ j ∧ MemK w wr m L (fun _ _ => True) ∧ OwnInts wr bs (.slice A5 n5 c5) l5)
      case atStart => exact ⟨0, rfl, by omega, by omega, g4, own⟩
      case round =>
        clear g4 own
        obtain ⟨i5, rfl, j1, j2, g5, own⟩ := hrel
        by_cases h5 : i5 < n5
        · obtain ⟨o, hto⟩ : ∃ o, l5[i5]? = some o := ⟨_, List.getElem?_eq_getElem (by rw [HN5.out]; exact h5)⟩
          obtain ⟨k, k1, k2, rfl⟩ := allL_at (L := L) (i := i5) (o := o) (by rw [HA.out]; exact hto)
          have hE := objE_even L k k1 hmade
          rw [if_neg k2] at hE
          have HE5 := Lib.hid hE
          obtain ⟨b5, rfl, -, hb5, -, hz⟩ := own.at (i := i5) (by rw [HN5.out]; exact h5)
          rw [hto, Nat.zero_add, Option.getD_some] at hz
          have OW := Lib.hid own
          have i64o : In64 (2 * ((k : Int) + 1)) := by unfold In64; omega
          clear hE own k2
          go_wp2_with (go_at_call 23; refine (k_ObjC g5 (2 * ((k : Int) + 1)) i64o).mono ?_; rw [HE5.out]; rintro e w5 ⟨r, rfl, g6, hr, cg⟩; clear g5; obtain ⟨A6, c6, A7, c7, rfl⟩ := hr.shape; clear hr)
          generalize hW : World.alloc w5 _ = W at *
          have hc5 : Chg No wr W := by rw [← hW]; exact cg.trans ((Chg.refl _ _).alloc _)
          have g7 := g6.world (show Chg No w5 W by rw [← hW]; exact (Chg.refl _ _).alloc _)
          have ow7 := OW.out.keep hc5 (fun _ _ f => f)
          have y1 : ∀ v, Chg No W v → v.cell? ⟨b5, i5, none⟩ = some (.int .i64 (2 * ((k : Int) + 1))) := fun v hv => (hc5.trans hv).cell hb5 (fun f => f) |>.trans hz
          have t2 : decide (2 * (L.length : Int) < 2 * ((k : Int) + 1)) = false := decide_eq_false (by omega)
          have G := Lib.hid (And.intro g7 ow7)
          clear hW g6 g7 ow7 cg
          have w2L : IntKind.i64.wrap (2 * (L.length : Int)) = 2 * (L.length : Int) := IntWalk.i64_in _ (by omega)
          rcases i5 with _ | i6
          · refine q_region (C := (Chg No W)) (by kernel_rfl) (by kernel_rfl) ?_ ?_
            · exact (Chg.refl _ _).drew
            repeat
              refine q_step (fun K hK => ?_)
              go_simp
              first
                | ((with_reducible refine hK _ ?_); clear hK K)
                | (refine (if_neg (by simp [undef])).mpr ?_; (with_reducible refine hK _ ?_); clear hK K)
                | (apply Exists.intro
                   with_reducible refine ⟨fun v hv => ?_, hK _ ?_⟩
                   · first
                       | with_reducible exact rfl
                       | with_reducible exact ⟨rfl, rfl⟩
                       | (go_simp
                          first
                            | done
                            | with_reducible exact rfl
                            | with_reducible exact ⟨rfl, rfl⟩
                            | (go_at_call 24; refine (k_Made0 (G.out.1.world hv)).mono ?_; rintro e w' ⟨rfl, rfl⟩; exact ⟨rfl, hv⟩))
                   clear hK K)
            refine q_nil ?_
            intro V hV
            go_wp2_with fail
            go_roundg (n5 - 1)
            case measure => omega
            case rel => exact ⟨1, rfl, by omega, by omega, G.out.1.world hV, G.out.2.keep hV (fun _ _ f => f)⟩
          · obtain ⟨p, htp⟩ : ∃ p, l5[i6]? = some p := ⟨_, List.getElem?_eq_getElem (by rw [HN5.out]; omega)⟩
            have hup := allL_up (L := L) (i := i6) (by rw [HA.out]; exact htp) (by rw [HA.out]; exact hto)
            obtain ⟨b6, e6, -, hb6, -, hz6⟩ := G.out.2.at (i := i6) (by rw [HN5.out]; omega)
            obtain rfl : b5 = b6 := by cases e6; rfl
            rw [htp, Nat.zero_add, Option.getD_some] at hz6
            have y2 : ∀ v, Chg No W v → v.cell? ⟨b5, i6, none⟩ = some (.int .i64 p) := fun v hv => (hv.cell hb6 (fun f => f)).trans hz6
            have t3 : decide (2 * ((k : Int) + 1) ≤ p) = false := decide_eq_false (by omega)
            have t4 : decide (0 < (i6 : Int) + 1) = true := decide_eq_true (by omega)
            have w6 : IntKind.i64.wrap ((i6 : Int) + 1 - 1) = (i6 : Int) := IntWalk.i64_in _ (by omega) |>.trans (by omega)
            have w7 : IntKind.i64.wrap (i6 : Int) = (i6 : Int) := IntWalk.i64_in _ (by omega)
            have q1 : (0 : Int) ≤ (i6 : Int) + 1 := by omega
            have q2 : (i6 : Int) + 1 < (n5 : Int) := by omega
            have q3 : (i6 : Int) < (n5 : Int) := by omega
            clear e6 hz6 htp hup
            refine q_region (C := (Chg No W)) (by kernel_rfl) (by kernel_rfl) ?_ ?_
            · exact (Chg.refl _ _).drew
            repeat
              refine q_step (fun K hK => ?_)
              go_simp
              first
                | ((with_reducible refine hK _ ?_); clear hK K)
                | (refine (if_neg (by simp [undef])).mpr ?_; (with_reducible refine hK _ ?_); clear hK K)
                | (apply Exists.intro
                   with_reducible refine ⟨fun v hv => ?_, hK _ ?_⟩
                   · first
                       | with_reducible exact rfl
                       | with_reducible exact ⟨rfl, rfl⟩
                       | (go_simp
                          first
                            | done
                            | with_reducible exact rfl
                            | with_reducible exact ⟨rfl, rfl⟩
                            | (go_at_call 24; refine (k_Made0 (G.out.1.world hv)).mono ?_; rintro e w' ⟨rfl, rfl⟩; exact ⟨rfl, hv⟩))
                   clear hK K)
            refine q_nil ?_
            intro V hV
            go_wp2_with fail
            go_roundg (n5 - (i6 + 1 + 1))
            case measure => omega
            case rel => exact ⟨i6 + 1 + 1, by go_num, by omega, by omega, G.out.1.world hV, G.out.2.keep hV (fun _ _ f => f)⟩
        · obtain rfl : i5 = n5 := by omega
          have OW := Lib.hid own
          clear own
          have w2L : IntKind.i64.wrap (2 * (L.length : Int)) = 2 * (L.length : Int) := IntWalk.i64_in _ (by omega)
          have hfull : (allTo L L.length).length = i5 := by rw [← HN5.out, ← HA.out]; rfl
          have HF := Lib.hid hfull
          clear hfull
          go_wp2_with fail
          go_loopg [9, 10] L.length (fun j v9 v10 wr => ∃ k s : Nat, v9 = .int .i64 s ∧ s = (allTo L k).length ∧ v10 = .int .i64 (2 * ((k : Int) + 1)) ∧ k ≤ L.length ∧ L.length - k ≤ j ∧ MemK w wr m L (fun _ _ => True))
          case atStart => exact ⟨0, 0, rfl, rfl, rfl, by omega, by omega, g5⟩
          case round =>
            clear g5
            obtain ⟨k, s, rfl, hs, rfl, k1, k2, g5⟩ := hrel
            have hsk := allTo_len L k
            rw [← hs] at hsk
            by_cases hk : k < L.length
            · have t1 : decide (2 * ((k : Int) + 1) ≤ 2 * (L.length : Int)) = true := decide_eq_true (by omega)
              have i64o : In64 (2 * ((k : Int) + 1)) := by unfold In64; omega
              have hE := objE_even L k hk hmade
              have hS := congrArg List.length (allTo_succ L k)
              rw [List.length_append, ← hs] at hS
              have w3 : IntKind.i64.wrap (2 * ((k : Int) + 1) + 2) = 2 * (((k + 1 : Nat) : Int) + 1) := (IntWalk.i64_in _ (by omega)).trans (by omega)
              by_cases hz : (ob L k).kind = 0
              · rw [if_pos hz] at hE
                rw [if_neg (fun h => h hz), List.length_nil, Nat.add_zero] at hS
                have HX := Lib.hid (And.intro hE hS)
                clear hE hS hs hz
                go_wp2_with (first
                  | (go_at_call 24; refine (k_Made0 g5).mono ?_; rintro e w' ⟨rfl, rfl⟩)
                  | (go_at_call 23; refine (k_ObjC g5 (2 * ((k : Int) + 1)) i64o).mono ?_; rw [HX.out.1]; rintro e w5 ⟨r, rfl, g6, hr, cg⟩; clear g5; obtain ⟨A6, c6, A7, c7, rfl⟩ := hr.shape; clear hr cg))
                go_roundg (L.length - (k + 1))
                case measure => omega
                case rel => exact ⟨k + 1, s, rfl, HX.out.2.symm, rfl, by omega, by omega, g6.world ((Chg.refl _ _).alloc _)⟩
              · rw [if_neg hz] at hE
                rw [if_pos hz, List.length_singleton] at hS
                have HX := Lib.hid (And.intro hE hS)
                clear hE hS hs hz
                go_wp2_with (first
                  | (go_at_call 24; refine (k_Made0 g5).mono ?_; rintro e w' ⟨rfl, rfl⟩)
                  | (go_at_call 23; refine (k_ObjC g5 (2 * ((k : Int) + 1)) i64o).mono ?_; rw [HX.out.1]; rintro e w5 ⟨r, rfl, g6, hr, cg⟩; clear g5; obtain ⟨A6, c6, A7, c7, rfl⟩ := hr.shape; clear hr cg))
                go_roundg (L.length - (k + 1))
                case measure => omega
                case rel => exact ⟨k + 1, s + 1, by go_num, HX.out.2.symm, rfl, by omega, by omega, g6.world ((Chg.refl _ _).alloc _)⟩
            · obtain rfl : k = L.length := by omega
              have t1 : decide (2 * ((L.length : Int) + 1) ≤ 2 * (L.length : Int)) = false := decide_eq_false (by omega)
              have i64o : In64 (2 * ((L.length : Int) + 1)) := by unfold In64; omega
              obtain rfl : s = i5 := hs.trans HF.out
              clear hs
              go_wp2_with (first
                | (go_at_call 24; refine (k_Made0 g5).mono ?_; rintro e w' ⟨rfl, rfl⟩)
                | (go_at_call 34; refine (k_Next g5 (2 * ((L.length : Int) + 1)) i64o).mono ?_; rw [HE.out.1, HE.out.2]; rintro e w6 ⟨rfl, g6, -⟩)
                | (go_at_call 16; refine (known_any _).mono ?_; rintro e w7 ⟨rfl, g7⟩))
              go_ret
              exact ⟨rfl, (g6.chg.trans g7).below⟩

end Go.Proofs.Ytmpfpfemjpmbaaa
