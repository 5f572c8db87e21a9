/- The walk of PrimFails, over the table. -/
import Derived.Test.YtncoanmgifgcbaaDoorSame16
import Derived.Test.YtncoanmgifgcbaaDoorPrimLaws
namespace Go.Proofs.YtncoanmgifgcbaaDoor
set_option linter.unusedVariables false
set_option linter.unusedSimpArgs false
open Go.RowKit

theorem load_few {L : List O} (h : loadB L = true) : L.all okB = true ∧ L.length ≤ 200 := by
  unfold loadB at h
  simp only [Bool.and_eq_true, decide_eq_true_eq] at h
  refine ⟨h.1, ?_⟩
  have key : ∀ M : List O, M.length ≤ sumN M := by
    intro M
    induction M with
    | nil => simp
    | cons x M ih => rw [List.length_cons, sumN, sum1]; omega
  have := key L
  omega
theorem okB_full {L : List O} (h : L.all okB = true) : Full L := fun i hi => by
  have h1 := List.all_eq_true.1 h (ob L i) (by unfold ob; rw [List.getElem?_eq_getElem hi]; exact List.getElem_mem hi)
  obtain ⟨-, -, -, -, h5⟩ := okB_cases h1
  rcases h5 with ⟨h5, -⟩ | ⟨h5, -⟩ <;> omega
theorem args_kept {W w1 : World} {m : Nat} {lv : Value} {T : List T3} {S : Nat → Prop} (rT : RefT W S lv T) (g0 : MemK W w1 m [] (fun _ _ => True)) : MemK W w1 m [] (fun F v => RefT v (fun b => ¬ F b) lv T) := by
  have hc := g0.chg
  have h1 : RefT W (fun b => b < W.heap.size) lv T := rT.more fun b hb _ => hb
  refine g0.now (Chg.refl _ _) fun G hG _ G' w2 h2 h3 c2 _ => ?_
  refine ((h1.keep hc (fun _ _ f => f)).keep c2 fun b hb hg => ?_).more fun b _ hb hg => ?_
  · have := (hG b hg).2; omega
  · rcases h3 b hg with h | h
    · have := (hG b h).2; omega
    · have := hc.size; omega

set_option maxRecDepth 100000 in
set_option maxHeartbeats 1000000 in
theorem PrimFails_any (lv v3 : Value) (L : List O) (ns : List Int) (n o : Int) (h64 : In64 n) (ho : In64 o) (W : World) (hL : RefL W (fun _ => True) lv L) (hm : L.length ≤ 17592186044416) (hv : IntS W (fun _ => True) v3 ns) (ht : Tab W) :
    Calls Tryd.prog 6 #[lv, .int .i64 n, .int .i64 o, v3] W fun e w' => e = .returned (.bool true) ∧ Chg No W w' := by
  have hfew := fun w (c : Chg No W w) => few_any lv L (fun _ => True) w (hL.keep c (fun _ _ f => f)) hm
  obtain ⟨A, c, rfl, hlc, hcm, -⟩ := hv.form
  have hmx : ns.length ≤ 9223372036854775807 := by unfold maxLen at hcm; simp at hcm; omega
  have HT := Lib.hid (And.intro ht (And.intro hv hL))
  cases hl : loadB L with
  | false =>
    simp only [hl] at hfew
    have HF := Lib.hid (hfew W (Chg.refl _ _))
    obtain ⟨T, rfl, hT⟩ := hL.toT
    obtain ⟨B, d, rfl, -⟩ := hT.form
    clear hfew hl hv hL hT hlc hcm
    generalize T.length = q at *
    generalize ns.length = k at *
    go_enter Tryd.func6, Tryd.ntmps6
    go_wp2_with (first
      | (go_at_call 22
         refine HF.out.mono ?_
         rintro e w1 ⟨rfl, c1⟩
         have H1 := Lib.hid c1
         clear c1)
      | (go_at_call 19
         refine (known_law _ (HT.out.1.chg H1.out)).mono ?_
         rintro e w10 ⟨rfl, hb⟩
         have HE := Lib.hid (H1.out.trans (Chg.of_below hb))
         clear hb)
      | fail)
    go_ret
    exact ⟨rfl, HE.out⟩
  | true =>
    simp only [hl] at hfew
    have HF := Lib.hid (hfew W (Chg.refl _ _))
    obtain ⟨hall, h200⟩ := load_few hl
    obtain ⟨T, rfl, hT⟩ := hL.toT
    have hTl : T.length ≤ 200 := by simpa using h200
    by_cases h4 : 4 < ns.length
    · have t1 : decide (4 < (ns.length : Int)) = true := decide_eq_true (by omega)
      obtain ⟨B, d, rfl, -⟩ := hT.form
      clear hfew hl hv hL hT hlc hcm hall h200 h4
      generalize T.length = q at *
      generalize ns.length = k at *
      go_enter Tryd.func6, Tryd.ntmps6
      go_wp2_with (first
        | (go_at_call 22
           refine HF.out.mono ?_
           rintro e w1 ⟨rfl, c1⟩
           have H1 := Lib.hid c1
           clear c1)
        | (go_at_call 19
           refine (known_law _ (HT.out.1.chg H1.out)).mono ?_
           rintro e w10 ⟨rfl, hb⟩
           have HE := Lib.hid (H1.out.trans (Chg.of_below hb))
           clear hb)
        | fail)
      go_ret
      exact ⟨rfl, HE.out⟩
    · have t1 : decide (4 < (ns.length : Int)) = false := decide_eq_false (by omega)
      have hfull := okB_full hall
      have HX := Lib.hid (And.intro hT (And.intro hall (And.intro hfull hTl)))
      have HIS := Lib.hid (show IntS W (fun b => b < W.heap.size) (.slice A ns.length c) ns from hv.more fun b hb _ => hb)
      obtain ⟨B, d, rfl, -⟩ := hT.form
      clear hfew hl hv hL hT hlc hcm hall h200 h4 hfull hTl
      generalize hq : T.length = q at *
      generalize hk : ns.length = k at *
      have HQ := Lib.hid (And.intro hq hk)
      clear hq hk
      obtain ⟨b1, hb1⟩ : ∃ b, knOk n = b := ⟨_, rfl⟩
      obtain ⟨m1, hm1⟩ : ∃ m, knV n = m := ⟨_, rfl⟩
      have HKN := Lib.hid (And.intro hb1 hm1)
      clear hb1 hm1
      go_enter Tryd.func6, Tryd.ntmps6
      go_wp2_with (first
        | (go_at_call 22
           refine HF.out.mono ?_
           rintro e w1 ⟨rfl, c1⟩
           have H1 := Lib.hid c1
           clear c1)
        | (go_at_call 9
           refine (k_flatNew (w0 := w1) (Chg.refl No w1)).mono ?_
           rintro e w2 ⟨m, rfl, g0⟩
           have H2 := Lib.hid (args_kept (HX.out.1.keep H1.out (fun _ _ f => f)) g0)
           clear g0)
        | (go_at_call 17
           refine (k_Load_ok H2.out _ T (by have h1 := HX.out.2.2.2; have h2 := HQ.out.1; omega) (fun F v hk => hk) HX.out.2.1).mono ?_
           rintro e w3 ⟨rfl, g3⟩
           have g3b : MemK w1 w3 m (T.map (·.1)) (fun _ _ => True) := g3.mono fun _ _ _ => trivial
           have H3 := Lib.hid g3b
           clear g3 g3b)
        | (go_at_call 20
           refine (k_DoAny H3.out (HT.out.1.chg (H1.out.trans H3.out.chg)) n o ho A k c ns (fun b => b < W.heap.size) (fun b hb => Nat.lt_of_lt_of_le hb H1.out.size) (HIS.out.keep (H1.out.trans H3.out.chg) (fun _ _ f => f)) (by have h1 := HX.out.2.2.2; have h2 := HQ.out.1; rw [List.length_map]; omega)).mono ?_
           rintro e w4 ⟨V, Bo, L', rfl, g4, hB0, hB1, hfl⟩
           rw [HKN.out.1, HKN.out.2] at hB1
           have hfl2 := hfl HX.out.2.2.1
           cases Bo
           case' false =>
             obtain ⟨rfl, rfl⟩ := hB0 rfl
             have H4 := Lib.hid (And.intro g4 hfl2)
             clear g4 hfl2 hB0 hB1 hfl
           case' true =>
             obtain ⟨rfl, rfl⟩ := hB1 rfl
             have tk : ((k : Int) != (k : Int)) = false := by simp
             have H4 := Lib.hid (And.intro g4 hfl2)
             clear g4 hfl2 hB0 hB1 hfl)
        | (go_at_call 23
           refine (Known_any n _ (HT.out.1.chg (H1.out.trans H4.out.1.chg))).mono ?_
           rw [HKN.out.1, HKN.out.2]
           rintro e w5 ⟨rfl, hb⟩
           have H5 := Lib.hid (H4.out.1.world (Chg.of_below hb))
           clear hb)
        | (go_at_call 25
           refine (objs_any H5.out).mono ?_
           rintro e w6 ⟨v, T2, rfl, ho2, hm2, c6⟩
           obtain ⟨A6, d6, rfl⟩ := ho2.form
           have H6 := Lib.hid (And.intro ho2.ref (And.intro hm2 (H5.out.chg.trans c6)))
           clear ho2 hm2 c6)
        | (go_at_call 24
           refine (Same16_eq _ _ T T2 (fun _ => True) _ _ (HX.out.1.keep (H1.out.trans H6.out.2.2) (fun _ _ f => f)) H6.out.1 (by rw [H6.out.2.1, all_objs HX.out.2.2.1 (by have h1 := HX.out.2.2.2; have h2 := HQ.out.1; rw [List.length_map]; omega)])).mono ?_
           rintro e w7 ⟨rfl, c7⟩
           have H7 := Lib.hid (H1.out.trans (H6.out.2.2.trans c7))
           clear c7)
        | (go_at_call 15
           refine (k_All H5.out).mono ?_
           rintro e w6 ⟨v, rfl, ho2, g6, c6⟩
           obtain ⟨A6, d6, rfl⟩ := ho2.form
           have H7 := Lib.hid (H1.out.trans g6.chg)
           have hge : q ≤ (allL L').length := by rw [allL_full H4.out.2.2]; have h1 := H4.out.2.1; have h2 := HQ.out.1; rw [List.length_map] at h1; omega
           generalize (allL L').length = q2 at *
           have tg : decide ((q : Int) ≤ (q2 : Int)) = true := decide_eq_true (by omega)
           clear ho2 g6 c6)
        | (go_at_call 19
           refine (known_law _ (HT.out.1.chg H7.out)).mono ?_
           rintro e w10 ⟨rfl, hb⟩
           have HE := Lib.hid (H7.out.trans (Chg.of_below hb))
           clear hb)
        | fail)
      all_goals
        go_ret
        exact ⟨rfl, HE.out⟩

end Go.Proofs.YtncoanmgifgcbaaDoor
