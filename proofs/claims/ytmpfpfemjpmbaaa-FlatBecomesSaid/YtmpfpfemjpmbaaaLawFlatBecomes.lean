/- The walk of FlatBecomes. -/
import Derived.Test.YtmpfpfemjpmbaaaDone2
import Derived.Test.YtmpfpfemjpmbaaaReach
import Derived.Test.YtmpfpfemjpmbaaaLoad
import Derived.Test.YtmpfpfemjpmbaaaBec
namespace Go.Proofs.Ytmpfpfemjpmbaaa
set_option linter.unusedVariables false
set_option linter.unusedSimpArgs false
open Go.RowKit

set_option maxRecDepth 100000 in
set_option maxHeartbeats 4000000 in
theorem FlatBecomes_any (lv : Value) (D : List D4) (a b : Int) (a64 : In64 a) (b64 : In64 b) (w : World) (h : DoS w (fun _ => True) lv D) (hm : D.length ≤ 4398046511104) :
    Calls Try.prog 8 #[lv, .int .i64 a, .int .i64 b] w fun e w' => e = .returned (.bool true) ∧ Below w.heap.size w w' := by
  obtain ⟨A, n, c, rfl⟩ : ∃ A n c, lv = .slice A n c := by
    obtain ⟨⟨A, c, e, -⟩, -⟩ := h
    exact ⟨A, _, c, e⟩
  obtain rfl : D.length = n := by
    obtain ⟨⟨A', c', e, -⟩, -⟩ := h
    exact (Value.slice.inj e).2.1.symm
  have hle := (longN_le D).1
  have H := Lib.hid h
  clear h
  generalize hn : D.length = n at *
  have HN := Lib.hid hn
  clear hn
  generalize hln : longN D = ln at *
  have HL := Lib.hid hln
  clear hln
  by_cases hq : 150 < ln
  · have t0 : decide (150 < ln) = true := decide_eq_true hq
    go_enter Try.func8, Try.ntmps8
    go_wp2_with (first
      | (go_at_call 28; refine (long_any _ D _ _ H.out (by rw [HN.out]; exact hm)).mono ?_; rw [HL.out, t0]; rintro e w1 ⟨rfl, c1⟩)
      | (go_at_call 16; refine (known_any _).mono ?_; rintro e w6 ⟨rfl, g6⟩))
    go_ret
    exact ⟨rfl, (c1.trans g6).below⟩
  have t0 : decide (150 < ln) = false := decide_eq_false hq
  have hn150 : n ≤ 150 := by omega
  clear hle hm hq
  go_enter Try.func8, Try.ntmps8
  go_wp2_with (first
    | (go_at_call 28; refine (long_any _ D _ _ H.out (by rw [HN.out]; omega)).mono ?_; rw [HL.out, t0]; rintro e w1 ⟨rfl, c1⟩)
    | (go_at_call 18; refine (k_flatNew c1).mono ?_; rintro e w2 ⟨m, rfl, g0⟩))
  have gA := g0.cameD H.out
  clear g0 c1
  go_loopg [8] n (fun j v4 wr => ∃ i : Nat, v4 = .int .i64 i ∧ i ≤ n ∧ n - i ≤ j ∧ MemK w wr m (runL (D.take i)) (fun F v => DoS v (fun b => ¬ F b) (.slice A n c) D))
  case atStart => exact ⟨0, rfl, by omega, by omega, gA⟩
  case round =>
    clear gA
    obtain ⟨i, rfl, i1, i2, g1⟩ := hrel
    by_cases hi : i < n
    · obtain ⟨⟨dk, da, db, dc⟩, hti⟩ : ∃ d, D[i]? = some d := ⟨_, List.getElem?_eq_getElem (by rw [HN.out]; exact hi)⟩
      obtain ⟨F1, -, -, hk1⟩ := g1.opened
      obtain ⟨bk, off, rfl, -, hb, hd, y0, y1, y2, y3⟩ := hk1.at hti
      have hlen := runL_len (D.take i) []
      rw [List.length_nil, List.length_take, HN.out, Nat.min_eq_left i1] at hlen
      have hk := k_done g1 ⟨dk, da, db, dc⟩ hd (Nat.lt_of_le_of_lt (Nat.succ_le_succ hlen) (by omega))
      rw [← runL_take hti] at hk
      dsimp only [D4.cells] at hk y0 y1 y2 y3
      have HK := Lib.hid hk
      clear hk hlen hti hd hk1 g1
      go_wp2_with (go_at_call 29; refine HK.out.mono ?_; rintro e w3 ⟨v, rfl, wv, bv, rfl, -, -, -, -, g3⟩)
      go_roundg (n - (i + 1))
      case measure => omega
      case rel => exact ⟨i + 1, by go_num, by omega, by omega, g3⟩
    · obtain rfl : i = n := by omega
      have hlen := runL_len (D.take i) []
      rw [List.length_nil, List.length_take, HN.out, Nat.min_self] at hlen
      change (runL (D.take i)).length ≤ _ at hlen
      generalize runL (D.take i) = L at *
      have g2 : MemK w wr m L (fun _ _ => True) := g1.now (Chg.refl _ _) fun _ _ _ _ _ _ _ _ _ => trivial
      have hmade := g2.made
      clear g1
      rcases objE_cases L a with ⟨hea, -⟩ | ⟨hea, -⟩
      · rcases objE_cases L b with ⟨heb, -⟩ | ⟨heb, -⟩
        · obtain ⟨x, hx⟩ : ∃ x, objV L a = x := ⟨_, rfl⟩
          obtain ⟨y, hy⟩ : ∃ y, objV L b = y := ⟨_, rfl⟩
          obtain ⟨L1, hL1⟩ : ∃ L1, becomeL L a b = L1 := ⟨_, rfl⟩
          have ht := twice hmade hea heb
          rw [hL1, hx, hy] at ht
          have HT := Lib.hid ht
          have HEA := Lib.hid hea
          have HEB := Lib.hid heb
          have HXA := Lib.hid hx
          have HXB := Lib.hid hy
          have HL1 := Lib.hid hL1
          have HIN := Lib.hid (allL_in64 hmade)
          have hca := col_all hmade
          have HC := Lib.hid (show ((liveN L : Int) - (liveN (colL L (numsOf (allL L))) : Int)) = 0 by rw [hca.1]; omega)
          have HC2 := Lib.hid hca.2
          have HLL := Lib.hid (show (allL L).length ≤ 1073741823 by have := allTo_len L L.length; exact Nat.le_trans this (by omega))
          clear hx hy hL1 ht hea heb hca
          go_wp2_with (first
            | (go_at_call 23; refine (k_Obj g2 a a64).mono ?_; rw [HEA.out, HXA.out]; rintro e w21 ⟨r, rfl, g', hr⟩; clear g2; obtain ⟨A1, c1, B1, d1, rfl⟩ := hr.shape; clear hr; have g4 := g'.newRow 25 #[.int .i64 x.cls, .int .i64 x.kind, .slice A1 x.W.length c1, .slice B1 x.B.length d1]; clear g')
            | (go_at_call 23; refine (k_Obj g4 b b64).mono ?_; rw [HEB.out, HXB.out]; rintro e w22 ⟨r, rfl, g', hr⟩; clear g4; obtain ⟨A2, c2, B2, d2, rfl⟩ := hr.shape; clear hr; have g6 := g'.newRow 25 #[.int .i64 y.cls, .int .i64 y.kind, .slice A2 y.W.length c2, .slice B2 y.B.length d2]; clear g')
            | (go_at_call 30; refine (k_Become g6 a b a64 b64).mono ?_; rw [HT.out.1, HL1.out]; rintro e w7 ⟨rfl, g7⟩; clear g6)
            | (go_at_call 23; refine (k_Obj g7 a a64).mono ?_; rw [HT.out.2.1, HT.out.2.2.1]; rintro e w23 ⟨r, rfl, g', hr⟩; clear g7; obtain ⟨A3, c3, B3, d3, rfl⟩ := hr.shape; clear hr; have g9 := g'.newRow 25 #[.int .i64 y.cls, .int .i64 y.kind, .slice A3 y.W.length c3, .slice B3 y.B.length d3]; clear g')
            | (go_at_call 23; refine (k_Obj g9 b b64).mono ?_; rw [HT.out.2.2.2.1, HT.out.2.2.2.2.1]; rintro e w24 ⟨r, rfl, g', hr⟩; clear g9; obtain ⟨A4, c4, B4, d4, rfl⟩ := hr.shape; clear hr; have g11 := g'.newRow 25 #[.int .i64 x.cls, .int .i64 x.kind, .slice A4 x.W.length c4, .slice B4 x.B.length d4]; clear g')
            | (go_at_call 30; refine (k_Become g11 b a b64 a64).mono ?_; rw [HT.out.2.2.2.2.2.1, HT.out.2.2.2.2.2.2]; rintro e w12 ⟨rfl, g12⟩; clear g11)
            | (go_at_call 23; refine (k_Obj g12 a a64).mono ?_; rw [HEA.out, HXA.out]; rintro e w25 ⟨r, rfl, g', hr⟩; clear g12; obtain ⟨A5, c5, B5, d5, rfl⟩ := hr.shape; clear hr; have g14 := g'.newRow 25 #[.int .i64 x.cls, .int .i64 x.kind, .slice A5 x.W.length c5, .slice B5 x.B.length d5]; clear g')
            | (go_at_call 23; refine (k_Obj g14 b b64).mono ?_; rw [HEB.out, HXB.out]; rintro e w26 ⟨r, rfl, g', hr⟩; clear g14; obtain ⟨A6, c6, B6, d6, rfl⟩ := hr.shape; clear hr; have g16 := g'.newRow 25 #[.int .i64 y.cls, .int .i64 y.kind, .slice A6 y.W.length c6, .slice B6 y.B.length d6]; clear g')
            | (go_at_call 31; refine (k_AllK g16).mono ?_; rintro e w17 ⟨v, rfl, ⟨A9, c9, rfl⟩, g17⟩; clear g16)
            | (go_at_call 32; refine (k_Collect g17 _ (allL L) (fun _ => True) (MemK.ints g17) HLL.out).mono ?_; rw [HC.out]; rintro e w18 ⟨rfl, g18⟩; clear g17; obtain ⟨F9, -, -, ⟨⟨⟨⟨⟨⟨⟨⟨⟨⟨⟨⟨-, O1⟩, -, R1⟩, O2⟩, -, R2⟩, O3⟩, -, R3⟩, O4⟩, -, R4⟩, O5⟩, -, R5⟩, O6⟩, -, R6⟩, II⟩ := g18.opened; have z10 : ∀ v, Chg No w18 v → v.cell? ⟨w21.heap.size, 0, none⟩ = some (.int .i64 x.cls) := fun v hv => (R1.keep hv (fun f => f)).cell 0; have z11 : ∀ v, Chg No w18 v → v.cell? ⟨w21.heap.size, 1, none⟩ = some (.int .i64 x.kind) := fun v hv => (R1.keep hv (fun f => f)).cell 1; have z12 : ∀ v, Chg No w18 v → v.cell? ⟨w21.heap.size, 2, none⟩ = some (.slice A1 x.W.length c1) := fun v hv => (R1.keep hv (fun f => f)).cell 2; have z13 : ∀ v, Chg No w18 v → v.cell? ⟨w21.heap.size, 3, none⟩ = some (.slice B1 x.B.length d1) := fun v hv => (R1.keep hv (fun f => f)).cell 3; have z20 : ∀ v, Chg No w18 v → v.cell? ⟨w22.heap.size, 0, none⟩ = some (.int .i64 y.cls) := fun v hv => (R2.keep hv (fun f => f)).cell 0; have z21 : ∀ v, Chg No w18 v → v.cell? ⟨w22.heap.size, 1, none⟩ = some (.int .i64 y.kind) := fun v hv => (R2.keep hv (fun f => f)).cell 1; have z22 : ∀ v, Chg No w18 v → v.cell? ⟨w22.heap.size, 2, none⟩ = some (.slice A2 y.W.length c2) := fun v hv => (R2.keep hv (fun f => f)).cell 2; have z23 : ∀ v, Chg No w18 v → v.cell? ⟨w22.heap.size, 3, none⟩ = some (.slice B2 y.B.length d2) := fun v hv => (R2.keep hv (fun f => f)).cell 3; have z30 : ∀ v, Chg No w18 v → v.cell? ⟨w23.heap.size, 0, none⟩ = some (.int .i64 y.cls) := fun v hv => (R3.keep hv (fun f => f)).cell 0; have z31 : ∀ v, Chg No w18 v → v.cell? ⟨w23.heap.size, 1, none⟩ = some (.int .i64 y.kind) := fun v hv => (R3.keep hv (fun f => f)).cell 1; have z32 : ∀ v, Chg No w18 v → v.cell? ⟨w23.heap.size, 2, none⟩ = some (.slice A3 y.W.length c3) := fun v hv => (R3.keep hv (fun f => f)).cell 2; have z33 : ∀ v, Chg No w18 v → v.cell? ⟨w23.heap.size, 3, none⟩ = some (.slice B3 y.B.length d3) := fun v hv => (R3.keep hv (fun f => f)).cell 3; have z40 : ∀ v, Chg No w18 v → v.cell? ⟨w24.heap.size, 0, none⟩ = some (.int .i64 x.cls) := fun v hv => (R4.keep hv (fun f => f)).cell 0; have z41 : ∀ v, Chg No w18 v → v.cell? ⟨w24.heap.size, 1, none⟩ = some (.int .i64 x.kind) := fun v hv => (R4.keep hv (fun f => f)).cell 1; have z42 : ∀ v, Chg No w18 v → v.cell? ⟨w24.heap.size, 2, none⟩ = some (.slice A4 x.W.length c4) := fun v hv => (R4.keep hv (fun f => f)).cell 2; have z43 : ∀ v, Chg No w18 v → v.cell? ⟨w24.heap.size, 3, none⟩ = some (.slice B4 x.B.length d4) := fun v hv => (R4.keep hv (fun f => f)).cell 3; have z50 : ∀ v, Chg No w18 v → v.cell? ⟨w25.heap.size, 0, none⟩ = some (.int .i64 x.cls) := fun v hv => (R5.keep hv (fun f => f)).cell 0; have z51 : ∀ v, Chg No w18 v → v.cell? ⟨w25.heap.size, 1, none⟩ = some (.int .i64 x.kind) := fun v hv => (R5.keep hv (fun f => f)).cell 1; have z52 : ∀ v, Chg No w18 v → v.cell? ⟨w25.heap.size, 2, none⟩ = some (.slice A5 x.W.length c5) := fun v hv => (R5.keep hv (fun f => f)).cell 2; have z53 : ∀ v, Chg No w18 v → v.cell? ⟨w25.heap.size, 3, none⟩ = some (.slice B5 x.B.length d5) := fun v hv => (R5.keep hv (fun f => f)).cell 3; have z60 : ∀ v, Chg No w18 v → v.cell? ⟨w26.heap.size, 0, none⟩ = some (.int .i64 y.cls) := fun v hv => (R6.keep hv (fun f => f)).cell 0; have z61 : ∀ v, Chg No w18 v → v.cell? ⟨w26.heap.size, 1, none⟩ = some (.int .i64 y.kind) := fun v hv => (R6.keep hv (fun f => f)).cell 1; have z62 : ∀ v, Chg No w18 v → v.cell? ⟨w26.heap.size, 2, none⟩ = some (.slice A6 y.W.length c6) := fun v hv => (R6.keep hv (fun f => f)).cell 2; have z63 : ∀ v, Chg No w18 v → v.cell? ⟨w26.heap.size, 3, none⟩ = some (.slice B6 y.B.length d6) := fun v hv => (R6.keep hv (fun f => f)).cell 3; have P1 := Lib.hid (And.intro O3 O2); have P2 := Lib.hid (And.intro O4 O1); have P3 := Lib.hid (And.intro O5 O1); have P4 := Lib.hid (And.intro O6 O2); have GG := Lib.hid (And.intro g18 II); have hV : Chg No w18 w18 := Chg.refl _ _; clear g18 II O1 O2 O3 O4 O5 O6 R1 R2 R3 R4 R5 R6)
            | (go_at_call 17; refine (Same05_eq _ _ y _ _ (P1.out.1.keep hV (fun _ _ f => f)) (P1.out.2.keep hV (fun _ _ f => f))).mono ?_; rintro e w' ⟨rfl, g'⟩; clear P1; replace hV := hV.trans g'; clear g')
            | (go_at_call 17; refine (Same05_eq _ _ x _ _ (P2.out.1.keep hV (fun _ _ f => f)) (P2.out.2.keep hV (fun _ _ f => f))).mono ?_; rintro e w' ⟨rfl, g'⟩; clear P2; replace hV := hV.trans g'; clear g')
            | (go_at_call 17; refine (Same05_eq _ _ x _ _ (P3.out.1.keep hV (fun _ _ f => f)) (P3.out.2.keep hV (fun _ _ f => f))).mono ?_; rintro e w' ⟨rfl, g'⟩; clear P3; replace hV := hV.trans g'; clear g')
            | (go_at_call 17; refine (Same05_eq _ _ y _ _ (P4.out.1.keep hV (fun _ _ f => f)) (P4.out.2.keep hV (fun _ _ f => f))).mono ?_; rintro e w' ⟨rfl, g'⟩; clear P4; replace hV := hV.trans g'; clear g')
            | (go_at_call 31; refine (k_All (GG.out.1.world hV)).mono ?_; rw [HC2.out]; rintro e w30 ⟨v, rfl, ho, -, c30⟩; obtain ⟨A11, c11, rfl⟩ := ho.form; have HO := Lib.hid ho; clear ho; replace hV := hV.trans c30; clear c30)
            | (go_at_call 33; refine (SameInts_eq _ _ (allL L) _ _ (HO.out.ints HIN.out) (GG.out.2.keep hV (fun _ _ f => f))).mono ?_; rintro e w' ⟨rfl, g'⟩; clear HO; replace hV := hV.trans g'; clear g')
            | (go_at_call 16; refine (known_any _).mono ?_; rintro e w8 ⟨rfl, g8⟩))
          go_ret
          exact ⟨rfl, ((GG.out.1.chg.trans hV).trans g8).below⟩
        · have HB := Lib.hid (becomeE_not (a := a) (.inr heb))
          have HEA := Lib.hid hea
          have HEB := Lib.hid heb
          clear hea heb
          go_wp2_with (first
            | (go_at_call 23; refine (k_ObjC g2 a a64).mono ?_; rw [HEA.out]; rintro e w21 ⟨r, rfl, g3, hr, -⟩; clear g2; obtain ⟨A1, c1, B1, d1, rfl⟩ := hr.shape; clear hr)
            | (go_at_call 23; refine (k_ObjC (g3.world ((Chg.refl _ _).alloc _)) b b64).mono ?_; rw [HEB.out]; rintro e w22 ⟨r, rfl, g5, hr, -⟩; clear g3; obtain ⟨A2, c2, B2, d2, rfl⟩ := hr.shape; clear hr)
            | (go_at_call 30; refine (k_Become (g5.world ((Chg.refl _ _).alloc _)) a b a64 b64).mono ?_; rw [HB.out]; rintro e w7 ⟨rfl, g7⟩; clear g5)
            | (go_at_call 16; refine (known_any _).mono ?_; rintro e w8 ⟨rfl, g8⟩))
          go_ret
          exact ⟨rfl, (g7.chg.trans g8).below⟩
      · have HB := Lib.hid (becomeE_not (b := b) (.inl hea))
        rcases objE_cases L b with ⟨heb, -⟩ | ⟨heb, -⟩
        · have HEA := Lib.hid hea
          have HEB := Lib.hid heb
          clear hea heb
          go_wp2_with (first
            | (go_at_call 23; refine (k_ObjC g2 a a64).mono ?_; rw [HEA.out]; rintro e w21 ⟨r, rfl, g3, hr, -⟩; clear g2; obtain ⟨A1, c1, B1, d1, rfl⟩ := hr.shape; clear hr)
            | (go_at_call 23; refine (k_ObjC (g3.world ((Chg.refl _ _).alloc _)) b b64).mono ?_; rw [HEB.out]; rintro e w22 ⟨r, rfl, g5, hr, -⟩; clear g3; obtain ⟨A2, c2, B2, d2, rfl⟩ := hr.shape; clear hr)
            | (go_at_call 30; refine (k_Become (g5.world ((Chg.refl _ _).alloc _)) a b a64 b64).mono ?_; rw [HB.out]; rintro e w7 ⟨rfl, g7⟩; clear g5)
            | (go_at_call 16; refine (known_any _).mono ?_; rintro e w8 ⟨rfl, g8⟩))
          go_ret
          exact ⟨rfl, (g7.chg.trans g8).below⟩
        · have HEA := Lib.hid hea
          have HEB := Lib.hid heb
          clear hea heb
          go_wp2_with (first
            | (go_at_call 23; refine (k_ObjC g2 a a64).mono ?_; rw [HEA.out]; rintro e w21 ⟨r, rfl, g3, hr, -⟩; clear g2; obtain ⟨A1, c1, B1, d1, rfl⟩ := hr.shape; clear hr)
            | (go_at_call 23; refine (k_ObjC (g3.world ((Chg.refl _ _).alloc _)) b b64).mono ?_; rw [HEB.out]; rintro e w22 ⟨r, rfl, g5, hr, -⟩; clear g3; obtain ⟨A2, c2, B2, d2, rfl⟩ := hr.shape; clear hr)
            | (go_at_call 30; refine (k_Become (g5.world ((Chg.refl _ _).alloc _)) a b a64 b64).mono ?_; rw [HB.out]; rintro e w7 ⟨rfl, g7⟩; clear g5)
            | (go_at_call 16; refine (known_any _).mono ?_; rintro e w8 ⟨rfl, g8⟩))
          go_ret
          exact ⟨rfl, (g7.chg.trans g8).below⟩

end Go.Proofs.Ytmpfpfemjpmbaaa
