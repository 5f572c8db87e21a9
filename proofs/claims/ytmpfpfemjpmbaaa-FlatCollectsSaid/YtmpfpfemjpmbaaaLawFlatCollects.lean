/- The walk of FlatCollects. -/
import Derived.Test.YtmpfpfemjpmbaaaDone2
import Derived.Test.YtmpfpfemjpmbaaaReach
import Derived.Test.YtmpfpfemjpmbaaaCol2
import Derived.Test.YtmpfpfemjpmbaaaRefs05
namespace Go.Proofs.Ytmpfpfemjpmbaaa
set_option linter.unusedVariables false
set_option linter.unusedSimpArgs false
open Go.RowKit

theorem MemK.cameR {w w1 : World} {m : Nat} {L : List O} {lv rv : Value} {D : List D4} {R0 : List Int} (g : MemK w w1 m L (fun _ _ => True)) (h : DoS w (fun _ => True) lv D) (hr : IntS w (fun _ => True) rv R0) : MemK w w1 m L (fun F v => DoS v (fun b => ¬ F b) lv D ∧ IntS v (fun _ => True) rv R0) := by
  have hc := g.chg
  have h1 : IntS w (fun b => b < w.heap.size) rv R0 := hr.more fun b hb _ => hb
  exact (g.cameD h).also (Chg.refl _ _) fun G hG w2 c2 => ((h1.keep hc (fun _ _ f => f)).keep c2 (fun b hb hg => by have := (hG b hg).2; omega)).more fun _ _ _ => trivial

set_option maxRecDepth 100000 in
set_option maxHeartbeats 4000000 in
theorem FlatCollects_any (lv : Value) (D : List D4) (rv : Value) (R0 : List Int) (w : World) (h : DoS w (fun _ => True) lv D) (hr : IntS w (fun _ => True) rv R0) (hm : D.length ≤ 4398046511104) :
    Calls Try.prog 10 #[lv, rv] w fun e w' => e = .returned (.bool true) ∧ Below w.heap.size w w' := by
  obtain ⟨A, n, c, rfl⟩ : ∃ A n c, lv = .slice A n c := by
    obtain ⟨⟨A, c, e, -⟩, -⟩ := h
    exact ⟨A, _, c, e⟩
  obtain rfl : D.length = n := by
    obtain ⟨⟨A', c', e, -⟩, -⟩ := h
    exact (Value.slice.inj e).2.1.symm
  have hle := (longN_le D).1
  have H := Lib.hid h
  clear h
  generalize hn : D.length = n at *
  have HN := Lib.hid hn
  clear hn
  generalize hln : longN D = ln at *
  have HL := Lib.hid hln
  clear hln
  obtain ⟨A0, c0, rfl, -⟩ := hr.form
  have HR0 := Lib.hid hr
  clear hr
  generalize hn0 : R0.length = n0 at *
  have HN0 := Lib.hid hn0
  clear hn0
  by_cases hq : 150 < ln
  · have t0 : decide (150 < ln) = true := decide_eq_true hq
    go_enter Try.func10, Try.ntmps10
    go_wp2_with (first
      | (go_at_call 28; refine (long_any _ D _ _ H.out (by rw [HN.out]; exact hm)).mono ?_; rw [HL.out, t0]; rintro e w1 ⟨rfl, c1⟩)
      | (go_at_call 16; refine (known_any _).mono ?_; rintro e w6 ⟨rfl, g6⟩))
    go_ret
    exact ⟨rfl, (c1.trans g6).below⟩
  by_cases hq0 : 10 < n0
  · have t0 : decide (150 < ln) = false := decide_eq_false hq
    have t1 : decide (10 < (n0 : Int)) = true := decide_eq_true (by omega)
    go_enter Try.func10, Try.ntmps10
    go_wp2_with (first
      | (go_at_call 28; refine (long_any _ D _ _ H.out (by rw [HN.out]; exact hm)).mono ?_; rw [HL.out, t0]; rintro e w1 ⟨rfl, c1⟩)
      | (go_at_call 16; refine (known_any _).mono ?_; rintro e w6 ⟨rfl, g6⟩))
    go_ret
    exact ⟨rfl, (c1.trans g6).below⟩
  have t1 : decide (10 < (n0 : Int)) = false := decide_eq_false (by omega)
  have t0 : decide (150 < ln) = false := decide_eq_false hq
  have hn150 : n ≤ 150 := by omega
  clear hle hm hq
  go_enter Try.func10, Try.ntmps10
  go_wp2_with (first
    | (go_at_call 28; refine (long_any _ D _ _ H.out (by rw [HN.out]; omega)).mono ?_; rw [HL.out, t0]; rintro e w1 ⟨rfl, c1⟩)
    | (go_at_call 18; refine (k_flatNew c1).mono ?_; rintro e w2 ⟨m, rfl, g0⟩))
  have gA := g0.cameR H.out HR0.out
  clear g0 c1
  go_loopg [6] n (fun j v4 wr => ∃ i : Nat, v4 = .int .i64 i ∧ i ≤ n ∧ n - i ≤ j ∧ MemK w wr m (runL (D.take i)) (fun F v => DoS v (fun b => ¬ F b) (.slice A n c) D ∧ IntS v (fun _ => True) (.slice A0 n0 c0) R0))
  case atStart => exact ⟨0, rfl, by omega, by omega, gA⟩
  case round =>
    clear gA
    obtain ⟨i, rfl, i1, i2, g1⟩ := hrel
    by_cases hi : i < n
    · obtain ⟨⟨dk, da, db, dc⟩, hti⟩ : ∃ d, D[i]? = some d := ⟨_, List.getElem?_eq_getElem (by rw [HN.out]; exact hi)⟩
      obtain ⟨F1, -, -, hk1⟩ := g1.opened
      obtain ⟨b, off, rfl, -, hb, hd, y0, y1, y2, y3⟩ := hk1.1.at hti
      have hlen := runL_len (D.take i) []
      rw [List.length_nil, List.length_take, HN.out, Nat.min_eq_left i1] at hlen
      have hk := k_done g1 ⟨dk, da, db, dc⟩ hd (Nat.lt_of_le_of_lt (Nat.succ_le_succ hlen) (by omega))
      rw [← runL_take hti] at hk
      dsimp only [D4.cells] at hk y0 y1 y2 y3
      have HK := Lib.hid hk
      clear hk hlen hti hd hk1 g1
      go_wp2_with (go_at_call 29; refine HK.out.mono ?_; rintro e w3 ⟨v, rfl, wv, bv, rfl, -, -, -, -, g3⟩)
      go_roundg (n - (i + 1))
      case measure => omega
      case rel => exact ⟨i + 1, by go_num, by omega, by omega, g3⟩
    · obtain rfl : i = n := by omega
      have hlen := runL_len (D.take i) []
      rw [List.length_nil, List.length_take, HN.out, Nat.min_self] at hlen
      change (runL (D.take i)).length ≤ _ at hlen
      generalize runL (D.take i) = L at *
      have g2 : MemK w wr m L (fun F v => True ∧ IntS v (fun _ => True) (.slice A0 n0 c0) R0) := g1.mono fun F v h => ⟨trivial, h.2⟩
      have hmade := g2.made
      clear g1 hn150 hlen
      have hRl : R0.length ≤ 1073741823 := by rw [HN0.out]; omega
      obtain ⟨M, hM⟩ : ∃ M, colL L (numsOf R0) = M := ⟨_, rfl⟩
      have hMl : M.length = L.length := by rw [← hM, colL_len]
      have hMM : colL M (numsOf R0) = M := by rw [← hM]; exact colL_idem _ _
      obtain ⟨p, hp⟩ : ∃ p, liveN L = p := ⟨_, rfl⟩
      obtain ⟨q, hq⟩ : ∃ q, liveN M = q := ⟨_, rfl⟩
      have hpq : q ≤ p := by rw [← hp, ← hq, ← hM]; exact liveN_col _ _
      have hpl : p ≤ L.length := by rw [← hp, ← allL_len]; exact allTo_len _ _
      have w1' : IntKind.i64.wrap ((p : Int) - (q : Int)) = (p : Int) - (q : Int) := IntWalk.i64_in _ (by omega)
      have hz : ((liveN M : Int) - (liveN (colL M (numsOf R0)) : Int)) = 0 := by rw [hMM]; omega
      have hn1 : ((liveN L : Int) - (liveN (colL L (numsOf R0)) : Int)) = (p : Int) - (q : Int) := by rw [hM, hp, hq]
      have HX := Lib.hid (And.intro hM (And.intro hMM (And.intro hz (And.intro hn1 (And.intro ((allL_len L).trans hp) ((allL_len M).trans hq))))))
      have HRL := Lib.hid hRl
      have HIN := Lib.hid (allL_in64 (L := M) (by omega))
      clear hM hMM hp hq hz hn1 hRl
      go_wp2_with (first
        | (go_at_call 31; refine (k_AllK g2).mono ?_; rw [HX.out.2.2.2.2.1]; rintro e w4 ⟨v, rfl, ⟨A7, c7, rfl⟩, g4⟩; clear g2)
        | (go_at_call 32; refine (k_Collect g4 _ R0 _ (g4.inL.ints) HRL.out).mono ?_; rw [HX.out.2.2.2.1, HX.out.1]; rintro e w5 ⟨rfl, g5⟩; clear g4)
        | (go_at_call 31; refine (k_AllK g5).mono ?_; rw [HX.out.2.2.2.2.2]; rintro e w6 ⟨v, rfl, ⟨A10, c10, rfl⟩, g6⟩; clear g5)
        | (go_at_call 32; refine (k_Collect g6 _ R0 _ (g6.inL.inL.ints) HRL.out).mono ?_; rw [HX.out.2.2.1, HX.out.2.1]; rintro e w7 ⟨rfl, g7⟩; clear g6)
        | (go_at_call 31; refine (k_All g7).mono ?_; rintro e w8 ⟨v, rfl, ho, g8, -⟩; clear g7; obtain ⟨A11, c11, rfl⟩ := ho.form; have HO := Lib.hid (ho.ints HIN.out); clear ho)
        | (go_at_call 33; refine (SameInts_eq _ _ (allL M) _ _ HO.out g8.ints).mono ?_; rintro e w9 ⟨rfl, g9⟩; clear HO))
      obtain ⟨F9, -, -, ⟨⟨⟨-, -⟩, IL⟩, IM⟩⟩ := (g8.world g9).opened
      have GG := Lib.hid (And.intro (g8.world g9) (And.intro IL IM))
      have hok := fun (k : Nat) (hk : (ob M k).kind ≠ 0) => MemK.okAt g8 hk
      have HOK := Lib.hid hok
      clear g8 g9 IL IM hok
      go_loopg [13] q (fun j v13 wr => ∃ i : Nat, v13 = .int .i64 i ∧ i ≤ q ∧ q - i ≤ j ∧ Chg No w9 wr)
      case atStart => exact ⟨0, rfl, by omega, by omega, Chg.refl _ _⟩
      case round =>
        obtain ⟨i, rfl, i1, i2, hV⟩ := hrel
        by_cases hi : i < q
        · obtain ⟨o, hto⟩ : ∃ o, (allL M)[i]? = some o := ⟨_, List.getElem?_eq_getElem (by rw [HX.out.2.2.2.2.2]; exact hi)⟩
          obtain ⟨k, k1, k2, rfl⟩ := allL_at hto
          obtain ⟨b10, off10, rfl, hb10, hz, -, -⟩ := GG.out.2.2.at (i := i) (by rw [HX.out.2.2.2.2.2]; exact hi)
          rw [hto, Option.getD_some] at hz
          have y1 : wr.cell? ⟨b10, off10 + i, none⟩ = some (.int .i64 (2 * ((k : Int) + 1))) := (hV.cell hb10 (fun f => f)).trans hz
          have i64o : In64 (2 * ((k : Int) + 1)) := by unfold In64; omega
          have HE := Lib.hid (objV_even k2 (by omega : M.length < 1073741823))
          have HK2 := Lib.hid k2
          have HV := Lib.hid hV
          have hWk : (ob M k).W.length ≤ 1000000 := Nat.le_trans (HOK.out k k2).2.2.1 (by omega)
          have HWk := Lib.hid hWk
          have h60 := fun x (hx : x ∈ refsO (ob M k)) => And.intro (refsO_bounds hx) (any_stays (L := L) (R := numsOf R0) (k := k) (by rw [HX.out.1]; exact k2) (x := x) (by rw [HX.out.1]; exact hx))
          rw [HX.out.1] at h60
          have H60 := Lib.hid h60
          clear hto hz hV k2 hWk h60
          obtain ⟨ok, hok⟩ : ∃ ok, ob M k = ok := ⟨_, rfl⟩
          rw [hok] at HE HWk H60
          obtain ⟨xs, hxs⟩ : ∃ xs, refsO ok = xs := ⟨_, rfl⟩
          obtain ⟨nr, hnr⟩ : ∃ nr, xs.length = nr := ⟨_, rfl⟩
          have hnb : nr ≤ 1000001 := by
            have h1 := HWk.out
            have h2 : xs.length ≤ (ok.cls :: ok.W).length := by rw [← hxs]; exact fm_len _
            rw [List.length_cons] at h2
            omega
          rw [hxs] at H60
          have HXS := Lib.hid (And.intro hxs hnr)
          clear hok hxs hnr
          go_wp2_with (first
            | (go_at_call 23; refine (k_ObjC (GG.out.1.world HV.out) (2 * ((k : Int) + 1)) i64o).mono ?_; rw [HE.out.1, HE.out.2]; rintro e w5 ⟨r, rfl, -, hr, cg⟩; obtain ⟨A6, c6, A7', c7', rfl⟩ := hr.shape; have hc5 : Chg No w9 (w5.alloc (.cells #[.int .i64 ok.cls, .int .i64 ok.kind, .slice A6 ok.W.length c6, .slice A7' ok.B.length c7'] 25)) := (HV.out.trans cg).alloc _; have hr5 := hr.keep (F := No) ((Chg.refl _ _).alloc (.cells #[.int .i64 ok.cls, .int .i64 ok.kind, .slice A6 ok.W.length c6, .slice A7' ok.B.length c7'] 25)) (fun _ _ f => f); have HC5 := Lib.hid (And.intro hc5 hr5); clear hc5 hr5 hr cg)
            | (go_at_call 35; refine (Refs05_any _ ok _ _ HC5.out.2 HWk.out).mono ?_; rw [HXS.out.1]; rintro e w6 ⟨r, rfl, hown, cr⟩; have c6 := HC5.out.1.trans cr; obtain ⟨A8, c8, rfl⟩ := hown.form; rw [HXS.out.2]; rw [HXS.out.2] at hown; have HO := Lib.hid (And.intro hown c6); clear hown c6 cr))
          obtain ⟨wa, rfl⟩ : ∃ wa, wa = wr := ⟨wr, rfl⟩
          go_loopg [17] nr (fun j v17 wr => ∃ t : Nat, v17 = .int .i64 t ∧ t ≤ nr ∧ nr - t ≤ j ∧ Chg No w6 wr)
          case atStart => exact ⟨0, rfl, by omega, by omega, Chg.refl _ _⟩
          case round =>
            obtain ⟨t, rfl, t1', t2', hT⟩ := hrel
            clear y1
            by_cases ht : t < nr
            · obtain ⟨x, hx⟩ : ∃ x, xs[t]? = some x := ⟨_, List.getElem?_eq_getElem (by rw [HXS.out.2]; exact ht)⟩
              obtain ⟨br, rfl, -, hbr, -, hzr⟩ := HO.out.1.at (i := t) (by rw [HXS.out.2]; exact ht)
              rw [hx, Nat.zero_add, Option.getD_some] at hzr
              have hxr : ∀ v, Chg No wr v → v.cell? ⟨br, t, none⟩ = some (.int .i64 x) := fun v hv => ((hT.trans hv).cell hbr (fun f => f)).trans hzr
              have h6 := H60.out x (List.mem_of_getElem? hx)
              have hx2 : IntKind.i64.wrap (2 * x) = 2 * x := IntWalk.i64_in _ (by have := h6.1; omega)
              have HS6 := Lib.hid h6.2
              have c96 : Chg No w9 wr := HO.out.2.trans hT
              have HT := Lib.hid hT
              have C96 := Lib.hid c96
              clear hx hzr h6 hT c96
              go_wp2_with fail
              obtain ⟨wt, rfl⟩ : ∃ wt, wt = wr := ⟨wr, rfl⟩
              go_loopg [18, 20] p (fun j vb vi wq => ∃ (s : Nat) (th : Bool), vb = .bool th ∧ th = ((allL L).take s).any (fun y => y == 2 * x) ∧ vi = .int .i64 s ∧ s ≤ p ∧ p - s ≤ j ∧ Chg No wt wq)
              case atStart => exact ⟨0, false, rfl, rfl, rfl, by omega, by omega, Chg.refl _ _⟩
              case round =>
                obtain ⟨s, th, rfl, hth, rfl, s1, s2, hq⟩ := hrel
                by_cases hs : s < p
                · obtain ⟨y, hy⟩ : ∃ y, (allL L)[s]? = some y := ⟨_, List.getElem?_eq_getElem (by rw [HX.out.2.2.2.2.1]; exact hs)⟩
                  have hsn := any_snoc hy (2 * x)
                  rw [← hth] at hsn
                  obtain ⟨bq, oq, rfl, hbq, hzq, -, -⟩ := (GG.out.2.1).at (i := s) (by rw [HX.out.2.2.2.2.1]; exact hs)
                  rw [hy, Option.getD_some] at hzq
                  have y2 : ∀ v, Chg No wr v → v.cell? ⟨bq, oq + s, none⟩ = some (.int .i64 y) := fun v hv => ((C96.out.trans (hq.trans hv)).cell hbq (fun f => f)).trans hzq
                  have y3 : ∀ v, Chg No wr v → v.cell? ⟨br, t, none⟩ = some (.int .i64 x) := fun v hv => hxr v (hq.trans hv)
                  have HS := Lib.hid hsn
                  have HQ := Lib.hid hq
                  clear hsn hth hy hzq hq
                  go_wp2_with fail
                  cases th
                  · refine q_region (C := (Chg No wr)) (by kernel_rfl) (by kernel_rfl) ?_ ?_
                    · exact (Chg.refl _ _).drew
                    repeat
                      refine q_step (fun K hK => ?_)
                      go_simp
                      first
                        | ((with_reducible refine hK _ ?_); clear hK K)
                        | (refine (if_neg (by simp [undef])).mpr ?_; (with_reducible refine hK _ ?_); clear hK K)
                        | (apply Exists.intro
                           with_reducible refine ⟨fun v hv => ?_, hK _ ?_⟩
                           · first
                               | with_reducible exact rfl
                               | with_reducible exact ⟨rfl, rfl⟩
                               | (go_simp
                                  first
                                    | done
                                    | with_reducible exact rfl
                                    | with_reducible exact ⟨rfl, rfl⟩
                                    | fail)
                           clear hK K)
                    refine q_nil ?_
                    intro V hV
                    go_wp2_with fail
                    go_roundg (p - (s + 1))
                    case measure => omega
                    case rel => exact ⟨s + 1, _, rfl, by rw [HS.out, Bool.false_or], by go_num, by omega, by omega, HQ.out.trans hV⟩
                  · refine q_region (C := (Chg No wr)) (by kernel_rfl) (by kernel_rfl) ?_ ?_
                    · exact (Chg.refl _ _).drew
                    repeat
                      refine q_step (fun K hK => ?_)
                      go_simp
                      first
                        | ((with_reducible refine hK _ ?_); clear hK K)
                        | (refine (if_neg (by simp [undef])).mpr ?_; (with_reducible refine hK _ ?_); clear hK K)
                        | (apply Exists.intro
                           with_reducible refine ⟨fun v hv => ?_, hK _ ?_⟩
                           · first
                               | with_reducible exact rfl
                               | with_reducible exact ⟨rfl, rfl⟩
                               | (go_simp
                                  first
                                    | done
                                    | with_reducible exact rfl
                                    | with_reducible exact ⟨rfl, rfl⟩
                                    | fail)
                           clear hK K)
                    refine q_nil ?_
                    intro V hV
                    go_wp2_with fail
                    go_roundg (p - (s + 1))
                    case measure => omega
                    case rel => exact ⟨s + 1, true, rfl, by rw [HS.out, Bool.true_or], by go_num, by omega, by omega, HQ.out.trans hV⟩
                · obtain rfl : s = p := by omega
                  rw [List.take_of_length_le (by rw [HX.out.2.2.2.2.1]; exact Nat.le_refl _)] at hth
                  obtain ⟨th1, hth1⟩ : ∃ th1, (allL L).any (fun y => y == 2 * x) = th1 := ⟨_, rfl⟩
                  rw [hth1] at hth
                  have HS7 := Lib.hid ((show (allL M).any (fun y => y == 2 * x) = th1 from HS6.out.symm.trans hth1))
                  have HQ1 := Lib.hid hq
                  obtain rfl : th = th1 := hth
                  clear hq hth1
                  go_wp2_with fail
                  go_loopg [19, 21] q (fun j vb vi wq => ∃ (s2 : Nat) (tg : Bool), vb = .bool tg ∧ tg = ((allL M).take s2).any (fun y => y == 2 * x) ∧ vi = .int .i64 s2 ∧ s2 ≤ q ∧ q - s2 ≤ j ∧ Chg No wt wq)
                  case atStart => exact ⟨0, false, rfl, rfl, rfl, by omega, by omega, HQ1.out⟩
                  case round =>
                    obtain ⟨s2, tg, rfl, htg, rfl, s3, s4, hq⟩ := hrel
                    by_cases hs2 : s2 < q
                    · obtain ⟨y, hy⟩ : ∃ y, (allL M)[s2]? = some y := ⟨_, List.getElem?_eq_getElem (by rw [HX.out.2.2.2.2.2]; exact hs2)⟩
                      have hsn := any_snoc hy (2 * x)
                      rw [← htg] at hsn
                      obtain ⟨bq, oq, e10, hbq, hzq, -, -⟩ := (GG.out.2.2).at (i := s2) (by rw [HX.out.2.2.2.2.2]; exact hs2)
                      rw [hy, Option.getD_some] at hzq
                      obtain ⟨rfl, rfl⟩ : bq = b10 ∧ oq = off10 := by cases e10; exact ⟨rfl, rfl⟩
                      clear e10
                      have y2 : ∀ v, Chg No wr v → v.cell? ⟨bq, oq + s2, none⟩ = some (.int .i64 y) := fun v hv => ((C96.out.trans (hq.trans hv)).cell hbq (fun f => f)).trans hzq
                      have y3 : ∀ v, Chg No wr v → v.cell? ⟨br, t, none⟩ = some (.int .i64 x) := fun v hv => hxr v (hq.trans hv)
                      have HS := Lib.hid hsn
                      have HQ := Lib.hid hq
                      clear hsn htg hy hzq hq
                      go_wp2_with fail
                      cases tg
                      · refine q_region (C := (Chg No wr)) (by kernel_rfl) (by kernel_rfl) ?_ ?_
                        · exact (Chg.refl _ _).drew
                        repeat
                          refine q_step (fun K hK => ?_)
                          go_simp
                          first
                            | ((with_reducible refine hK _ ?_); clear hK K)
                            | (refine (if_neg (by simp [undef])).mpr ?_; (with_reducible refine hK _ ?_); clear hK K)
                            | (apply Exists.intro
                               with_reducible refine ⟨fun v hv => ?_, hK _ ?_⟩
                               · first
                                   | with_reducible exact rfl
                                   | with_reducible exact ⟨rfl, rfl⟩
                                   | (go_simp
                                      first
                                        | done
                                        | with_reducible exact rfl
                                        | with_reducible exact ⟨rfl, rfl⟩
                                        | fail)
                               clear hK K)
                        refine q_nil ?_
                        intro V hV
                        go_wp2_with fail
                        go_roundg (q - (s2 + 1))
                        case measure => omega
                        case rel => exact ⟨s2 + 1, _, rfl, by rw [HS.out, Bool.false_or], by go_num, by omega, by omega, HQ.out.trans hV⟩
                      · refine q_region (C := (Chg No wr)) (by kernel_rfl) (by kernel_rfl) ?_ ?_
                        · exact (Chg.refl _ _).drew
                        repeat
                          refine q_step (fun K hK => ?_)
                          go_simp
                          first
                            | ((with_reducible refine hK _ ?_); clear hK K)
                            | (refine (if_neg (by simp [undef])).mpr ?_; (with_reducible refine hK _ ?_); clear hK K)
                            | (apply Exists.intro
                               with_reducible refine ⟨fun v hv => ?_, hK _ ?_⟩
                               · first
                                   | with_reducible exact rfl
                                   | with_reducible exact ⟨rfl, rfl⟩
                                   | (go_simp
                                      first
                                        | done
                                        | with_reducible exact rfl
                                        | with_reducible exact ⟨rfl, rfl⟩
                                        | fail)
                               clear hK K)
                        refine q_nil ?_
                        intro V hV
                        go_wp2_with fail
                        go_roundg (q - (s2 + 1))
                        case measure => omega
                        case rel => exact ⟨s2 + 1, true, rfl, by rw [HS.out, Bool.true_or], by go_num, by omega, by omega, HQ.out.trans hV⟩
                    · obtain rfl : s2 = q := by omega
                      rw [List.take_of_length_le (by rw [HX.out.2.2.2.2.2]; exact Nat.le_refl _)] at htg
                      rw [HS7.out] at htg
                      obtain rfl : tg = th := htg
                      cases tg
                      · go_wp2_with fail
                        go_roundg (nr - (t + 1))
                        case measure => omega
                        case rel => exact ⟨t + 1, by go_num, by omega, by omega, HT.out.trans hq⟩
                      · go_wp2_with fail
                        go_roundg (nr - (t + 1))
                        case measure => omega
                        case rel => exact ⟨t + 1, by go_num, by omega, by omega, HT.out.trans hq⟩
            · obtain rfl : t = nr := by omega
              go_wp2_with fail
              go_roundg (q - (i + 1))
              case measure => omega
              case rel => exact ⟨i + 1, by go_num, by omega, by omega, HO.out.2.trans hT⟩
        · obtain rfl : i = q := by omega
          go_wp2_with (go_at_call 16; refine (known_any _).mono ?_; rintro e w7 ⟨rfl, g7⟩)
          go_ret
          exact ⟨rfl, (GG.out.1.chg.trans (hV.trans g7)).below⟩

end Go.Proofs.Ytmpfpfemjpmbaaa
