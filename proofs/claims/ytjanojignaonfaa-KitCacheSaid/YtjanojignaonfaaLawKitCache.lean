/- The walk of KitCache. -/
import Derived.Test.YtjanojignaonfaaLawKitClass
import Derived.Test.YtjanojignaonfaaFind
namespace Go.Proofs.Ytjanojignaonfaa
set_option linter.unusedVariables false
set_option linter.unusedSimpArgs false
open Go.RowKit

section
variable {w0 w : World} {m : Nat} {L : List O} {K : (Nat → Prop) → World → Prop}

set_option maxRecDepth 100000 in
theorem FindNil_any (g : MemK w0 w m L K) (c s : Int) (hc : In64 c) :
    Calls Try.prog 29 #[.pointer none, .iface 30 (.pointer (some ⟨m, 0, none⟩)), .int .i64 c, .int .i64 s] w fun e w' => e = .returned (.tuple #[.int .i64 (lookV L 60 c s).1, .bool (lookV L 60 c s).2]) ∧ Chg No w w' := by
  have H := Lib.hid g
  clear g
  go_enter Try.func29, Try.ntmps29
  go_wp2_with (first
    | (go_at_call 28
       refine (k_Lookup H.out c s hc).mono ?_
       rintro e w5 ⟨rfl, g5, c5⟩)
    | fail)
  go_ret2
  exact ⟨rfl, c5⟩
end
theorem Last.clean {n : Nat} {cs : Array Value} (h : Clean n cs) (hn : 0 < n) (c s : Int) : ¬ (Last n cs c s ∧ ¬ (c = 0 ∧ s = 0)) := by
  rintro ⟨⟨h1, h2⟩, h3⟩
  obtain ⟨y0, y1, -, -⟩ := h.2 _ (place_lt hn c s)
  rw [y0] at h1
  rw [y1] at h2
  exact h3 ⟨(Value.int.inj (Option.some.inj h1)).2.symm, (Value.int.inj (Option.some.inj h2)).2.symm⟩

set_option maxRecDepth 100000 in
set_option maxHeartbeats 4000000 in
theorem KitCache_any (lv : Value) (L : List O) (k : Int) (hk1 : -128 ≤ k) (hk2 : k ≤ 127) (av : Value) (l : List Int) (w : World) (h : RefL w (fun _ => True) lv L) (hm : L.length ≤ maxLen) (ha : IntS w (fun _ => True) av l) :
    Calls Try.prog 7 #[lv, .int .i8 k, av] w fun e w' => e = .returned (.bool true) ∧ Below w.heap.size w w' := by
  obtain ⟨A2, c2, rfl, -⟩ := ha.form
  have HA := Lib.hid ha
  clear ha
  obtain ⟨A, c, rfl, -⟩ := h.form
  have HLd := Lib.hid (loaded_any _ L w h hm)
  have HH := Lib.hid h
  clear h
  generalize L.length = n at *
  generalize hp : l.length = p at *
  have HP := Lib.hid hp
  clear hp
  have wk : IntKind.i64.wrap k = k := IntWalk.i64_in _ (by omega)
  by_cases h60 : 60 < p
  · have t0 : decide (60 < (p : Int)) = true := decide_eq_true (by omega)
    clear h60
    go_enter Try.func7, Try.ntmps7
    go_wp2_with (first
      | (go_at_call 16
         refine HLd.out.mono ?_
         rintro e w1 (⟨rfl, c1, hlb⟩ | ⟨m, rfl, g1, hl200, hlb⟩)
         rotate_left
         have HG := Lib.hid g1
         clear g1
         rotate_left)
      | (go_at_call 15; refine (known14_any _).mono ?_; rintro e w9 ⟨rfl, c9⟩))
    · go_ret
      exact ⟨rfl, ((c1.alloc _).trans c9).below⟩
    · go_ret
      exact ⟨rfl, ((HG.out.chg.alloc _).trans c9).below⟩
  have t0 : decide (60 < (p : Int)) = false := decide_eq_false (by omega)
  go_enter Try.func7, Try.ntmps7
  go_wp2_with (first
    | (go_at_call 16
       refine HLd.out.mono ?_
       rintro e w1 (⟨rfl, c1, hlb⟩ | ⟨m, rfl, g1, hl200, hlb⟩)
       rotate_left
       have HG := Lib.hid g1
       clear g1
       rotate_left)
    | (go_at_call 15; refine (known14_any _).mono ?_; rintro e w9 ⟨rfl, c9⟩)
    | (go_at_call 27
       refine (NewCache_any k hk1 hk2 _).mono ?_
       rintro e w2 ⟨q, b, n2, cs, rfl, hq, hb, hn0, hn1, C2, hcl, cc2⟩
       have gA : LoadedK w (.slice A n c) L m (w1.alloc (.cells #[.slice A n c] 33)) := MemK.world HG.out ((Chg.refl _ _).alloc _)
       generalize hV : w1.alloc (.cells #[.slice A n c] 33) = W1 at gA hq hb cc2
       have hG2 := hcl.good L
       have HM := Lib.hid gA
       have H2 := Lib.hid (And.intro cc2 (And.intro C2 hG2))
       clear gA cc2 C2 hG2 hcl hV))
  · go_ret
    exact ⟨rfl, ((c1.alloc _).trans c9).below⟩
  have hsep : ∀ v, Chg No W1 v → Chg No w v := fun v hv => HM.out.chg.trans hv
  go_loopg [12] p (fun j v12 wr => ∃ (i : Nat) (cs : Array Value) (hh : Int), v12 = .int .i64 (i : Int) ∧ p - i ≤ j ∧ i ≤ p + 1 ∧ 0 ≤ hh ∧ hh ≤ (i : Int) ∧ Chg No W1 wr ∧ CacheS wr q b n2 cs hh (i : Int) ∧ Good L n2 cs)
  case atStart => exact ⟨0, cs, 0, rfl, by omega, by omega, by omega, by omega, H2.out.1, H2.out.2.1, H2.out.2.2⟩
  case round =>
    clear H2 cs
    obtain ⟨i, cs, hh, rfl, hj, hi, hh0, hh1, cW, C, hGd⟩ := hrel
    obtain ⟨i1, hi1⟩ : ∃ i1, i1 = i + 1 := ⟨_, rfl⟩
    have v1 : IntKind.i64.wrap ((i : Int) + 1) = (i1 : Int) := (IntWalk.i64_in _ (by omega)).trans (by omega)
    by_cases hlt : i1 < p
    · have t1 : decide ((i1 : Int) < (p : Int)) = true := decide_eq_true (by omega)
      obtain ⟨A', c', eA, -, -, -, hat⟩ := HA.out.form
      obtain ⟨ab, ao, rfl, -, hab, y0, x64⟩ := hat i (by rw [HP.out]; omega)
      obtain ⟨ab', ao', e', -, -, y1, y64⟩ := hat i1 (by rw [HP.out]; omega)
      obtain ⟨rfl, rfl, -⟩ : A2 = some ⟨ab, ao, none⟩ ∧ c2 = c' ∧ True := by
        obtain ⟨h1, -, h2⟩ := Value.slice.inj eA
        exact ⟨h1, h2, trivial⟩
      obtain ⟨rfl, rfl⟩ : ab = ab' ∧ ao = ao' := by simpa using e'
      clear hat eA e'
      generalize l[i]?.getD 0 = x at *
      generalize l[i1]?.getD 0 = y at *
      have YA : ∀ v, Chg No W1 v → v.cell? ⟨ab, ao + i, none⟩ = some (.int .i64 x) ∧ v.cell? ⟨ab, ao + i1, none⟩ = some (.int .i64 y) := fun v hv => ⟨((hsep v hv).cell (p := ⟨ab, ao + i, none⟩) hab (fun f => f)).trans y0, ((hsep v hv).cell (p := ⟨ab, ao + i1, none⟩) hab (fun f => f)).trans y1⟩
      obtain ⟨r, hr⟩ : ∃ r, lookV L 60 x y = r := ⟨_, rfl⟩
      obtain ⟨r1, r2⟩ := r
      have HR := Lib.hid hr
      have HYA := Lib.hid YA
      have HW := Lib.hid (And.intro cW (And.intro C hGd))
      have l1 : (i : Int) < (p : Int) := by omega
      have l2 : (i1 : Int) < (p : Int) := by omega
      have HI := Lib.hid hi1
      clear hi1
      clear YA hr cW C hGd y0 y1
      go_wp2_with fail
      have a0 : ∀ v, Chg No wr v → v.cell? ⟨ab, ao + i, none⟩ = some (.int .i64 x) := fun v hv => (HYA.out v (HW.out.1.trans hv)).1
      have a1 : ∀ v, Chg No wr v → v.cell? ⟨ab, ao + i1, none⟩ = some (.int .i64 y) := fun v hv => (HYA.out v (HW.out.1.trans hv)).2
      refine rem_start (by kernel_rfl) (by kernel_rfl) ?_
      refine rem_quiet 11 (C := (Chg No wr)) (by kernel_rfl) (by simp only [List.toList_toArray, List.drop_succ_cons, List.drop_zero, List.take_succ_cons, List.take_zero, Nat.reduceSub, Nat.reduceAdd]; rfl) ?_ ?_
      · exact (Chg.refl _ _).drew
      repeat
        refine q_step (fun K hK => ?_)
        go_simp
        first
          | ((with_reducible refine hK _ ?_); clear hK K)
          | (refine (if_neg (by simp [undef])).mpr ?_; (with_reducible refine hK _ ?_); clear hK K)
          | (apply Exists.intro
             with_reducible refine ⟨fun v hv => ?_, hK _ ?_⟩
             · first
                 | with_reducible exact rfl
                 | with_reducible exact ⟨rfl, rfl⟩
                 | (go_simp
                    first
                      | done
                      | with_reducible exact rfl
                      | with_reducible exact ⟨rfl, rfl⟩
                      | fail)
             clear hK K)
      refine q_nil ?_
      intro V hV
      clear a0 a1
      refine rem_one (by kernel_rfl) (by kernel_rfl) rfl (by kernel_rfl) (fun K hK => ?_)
      go_wp2_with (first
        | (go_at_call 28
           refine (k_Lookup (HM.out.world (HW.out.1.trans hV)) x y x64).mono ?_
           rw [HR.out]
           rintro e w3 ⟨rfl, g3, c3⟩
           have c3b : Chg No wr w3 := hV.trans c3
           have H3 := Lib.hid (And.intro (HW.out.1.trans c3b) (And.intro (HW.out.2.1.keep c3b (fun f => f) (fun f => f)) HW.out.2.2))
           clear g3 c3 c3b hV)
        | fail)
      refine rem_quiet 17 (C := (fun v => v = w3)) (by kernel_rfl) (by simp only [List.toList_toArray, List.drop_succ_cons, List.drop_zero, List.take_succ_cons, List.take_zero, Nat.reduceSub, Nat.reduceAdd]; rfl) ?_ ?_
      · rfl
      repeat
        refine q_step (fun K hK => ?_)
        go_simp
        first
          | ((with_reducible refine hK _ ?_); clear hK K)
          | (refine (if_neg (by simp [undef])).mpr ?_; (with_reducible refine hK _ ?_); clear hK K)
          | (apply Exists.intro
             with_reducible refine ⟨fun v hv => ?_, hK _ ?_⟩
             · first
                 | with_reducible exact rfl
                 | with_reducible exact ⟨rfl, rfl⟩
                 | (go_simp
                    first
                      | done
                      | with_reducible exact rfl
                      | with_reducible exact ⟨rfl, rfl⟩
                      | fail)
             clear hK K)
      refine q_nil ?_
      intro V3 hV3
      subst V3
      refine rem_end (by kernel_rfl) ?_
      go_wp2_with fail
      have a0 : ∀ v, Chg No w3 v → v.cell? ⟨ab, ao + i, none⟩ = some (.int .i64 x) := fun v hv => (HYA.out v (H3.out.1.trans hv)).1
      have a1 : ∀ v, Chg No w3 v → v.cell? ⟨ab, ao + i1, none⟩ = some (.int .i64 y) := fun v hv => (HYA.out v (H3.out.1.trans hv)).2
      refine rem_start (by kernel_rfl) (by kernel_rfl) ?_
      refine rem_quiet 12 (C := (Chg No w3)) (by kernel_rfl) (by simp only [List.toList_toArray, List.drop_succ_cons, List.drop_zero, List.take_succ_cons, List.take_zero, Nat.reduceSub, Nat.reduceAdd]; rfl) ?_ ?_
      · exact (Chg.refl _ _).drew
      repeat
        refine q_step (fun K hK => ?_)
        go_simp
        first
          | ((with_reducible refine hK _ ?_); clear hK K)
          | (refine (if_neg (by simp [undef])).mpr ?_; (with_reducible refine hK _ ?_); clear hK K)
          | (apply Exists.intro
             with_reducible refine ⟨fun v hv => ?_, hK _ ?_⟩
             · first
                 | with_reducible exact rfl
                 | with_reducible exact ⟨rfl, rfl⟩
                 | (go_simp
                    first
                      | done
                      | with_reducible exact rfl
                      | with_reducible exact ⟨rfl, rfl⟩
                      | fail)
             clear hK K)
      refine q_nil ?_
      intro V hV
      clear a0 a1
      refine rem_one (by kernel_rfl) (by kernel_rfl) rfl (by kernel_rfl) (fun K hK => ?_)
      go_wp2_with (first
        | (go_at_call 29
           refine (Find_any HM.out (H3.out.1.trans hV) (H3.out.2.1.keep hV (fun f => f) (fun f => f)) hq hb hn0 hn1 H3.out.2.2 x y x64 y64 hh0 (by omega) (by omega) (by omega)).mono ?_
           rw [HR.out]
           rintro e w4 ⟨rfl, c1, cs1, hh1, C1, G1, L1, hit1, no1⟩
           have hb1 : hh ≤ hh1 ∧ hh1 ≤ hh + 1 := by
             by_cases hx : Last n2 cs x y ∧ ¬ (x = 0 ∧ y = 0)
             · have := hit1 hx.1 hx.2
               omega
             · have := no1 hx
               omega
           have HF1 := Lib.hid (And.intro c1 (And.intro C1 (And.intro G1 (And.intro L1 hit1))))
           clear c1 C1 G1 L1 hit1 no1 hV)
        | fail)
      refine rem_quiet 18 (C := (fun v => v = w4)) (by kernel_rfl) (by simp only [List.toList_toArray, List.drop_succ_cons, List.drop_zero, List.take_succ_cons, List.take_zero, Nat.reduceSub, Nat.reduceAdd]; rfl) ?_ ?_
      · rfl
      repeat
        refine q_step (fun K hK => ?_)
        go_simp
        first
          | ((with_reducible refine hK _ ?_); clear hK K)
          | (refine (if_neg (by simp [undef])).mpr ?_; (with_reducible refine hK _ ?_); clear hK K)
          | (apply Exists.intro
             with_reducible refine ⟨fun v hv => ?_, hK _ ?_⟩
             · first
                 | with_reducible exact rfl
                 | with_reducible exact ⟨rfl, rfl⟩
                 | (go_simp
                    first
                      | done
                      | with_reducible exact rfl
                      | with_reducible exact ⟨rfl, rfl⟩
                      | fail)
             clear hK K)
      refine q_nil ?_
      intro V3 hV3
      subst V3
      refine rem_end (by kernel_rfl) ?_
      go_wp2_with (first
        | (go_at_call 30
           refine (Hits_any HF1.out.2.1).mono ?_
           rintro e w5 ⟨rfl, c1⟩
           have HG1 := Lib.hid (And.intro (HF1.out.1.trans c1) (And.intro (HF1.out.2.1.keep c1 (fun f => f) (fun f => f)) HF1.out.2.2))
           clear c1)
        | fail)
      have a0 : ∀ v, Chg No w5 v → v.cell? ⟨ab, ao + i, none⟩ = some (.int .i64 x) := fun v hv => (HYA.out v (HG1.out.1.trans hv)).1
      have a1 : ∀ v, Chg No w5 v → v.cell? ⟨ab, ao + i1, none⟩ = some (.int .i64 y) := fun v hv => (HYA.out v (HG1.out.1.trans hv)).2
      refine rem_start (by kernel_rfl) (by kernel_rfl) ?_
      refine rem_quiet 12 (C := (Chg No w5)) (by kernel_rfl) (by simp only [List.toList_toArray, List.drop_succ_cons, List.drop_zero, List.take_succ_cons, List.take_zero, Nat.reduceSub, Nat.reduceAdd]; rfl) ?_ ?_
      · exact (Chg.refl _ _).drew
      repeat
        refine q_step (fun K hK => ?_)
        go_simp
        first
          | ((with_reducible refine hK _ ?_); clear hK K)
          | (refine (if_neg (by simp [undef])).mpr ?_; (with_reducible refine hK _ ?_); clear hK K)
          | (apply Exists.intro
             with_reducible refine ⟨fun v hv => ?_, hK _ ?_⟩
             · first
                 | with_reducible exact rfl
                 | with_reducible exact ⟨rfl, rfl⟩
                 | (go_simp
                    first
                      | done
                      | with_reducible exact rfl
                      | with_reducible exact ⟨rfl, rfl⟩
                      | fail)
             clear hK K)
      refine q_nil ?_
      intro V hV
      clear a0 a1
      refine rem_one (by kernel_rfl) (by kernel_rfl) rfl (by kernel_rfl) (fun K hK => ?_)
      go_wp2_with (first
        | (go_at_call 29
           refine (Find_any HM.out (HG1.out.1.trans hV) (HG1.out.2.1.keep hV (fun f => f) (fun f => f)) hq hb hn0 hn1 HG1.out.2.2.1 x y x64 y64 (by omega) (by omega) (by omega) (by omega)).mono ?_
           rw [HR.out]
           rintro e w6 ⟨rfl, c2, cs2, hh2, C2, G2, L2, hit2, no2⟩
           have hb2 : hh1 ≤ hh2 ∧ hh2 ≤ hh1 + 1 := by
             by_cases hx : Last n2 cs1 x y ∧ ¬ (x = 0 ∧ y = 0)
             · have := hit2 hx.1 hx.2
               omega
             · have := no2 hx
               omega
           have HF2 := Lib.hid (And.intro c2 (And.intro C2 (And.intro G2 (And.intro L2 hit2))))
           clear c2 C2 G2 L2 hit2 no2 hV)
        | fail)
      refine rem_quiet 18 (C := (fun v => v = w6)) (by kernel_rfl) (by simp only [List.toList_toArray, List.drop_succ_cons, List.drop_zero, List.take_succ_cons, List.take_zero, Nat.reduceSub, Nat.reduceAdd]; rfl) ?_ ?_
      · rfl
      repeat
        refine q_step (fun K hK => ?_)
        go_simp
        first
          | ((with_reducible refine hK _ ?_); clear hK K)
          | (refine (if_neg (by simp [undef])).mpr ?_; (with_reducible refine hK _ ?_); clear hK K)
          | (apply Exists.intro
             with_reducible refine ⟨fun v hv => ?_, hK _ ?_⟩
             · first
                 | with_reducible exact rfl
                 | with_reducible exact ⟨rfl, rfl⟩
                 | (go_simp
                    first
                      | done
                      | with_reducible exact rfl
                      | with_reducible exact ⟨rfl, rfl⟩
                      | fail)
             clear hK K)
      refine q_nil ?_
      intro V3 hV3
      subst V3
      refine rem_end (by kernel_rfl) ?_
      go_wp2_with (first
        | (go_at_call 30
           refine (Hits_any HF2.out.2.1).mono ?_
           rintro e w7 ⟨rfl, c2⟩
           have HG2 := Lib.hid (And.intro (HF2.out.1.trans c2) (And.intro (HF2.out.2.1.keep c2 (fun f => f) (fun f => f)) HF2.out.2.2))
           clear c2)
        | fail)
      have a0 : ∀ v, Chg No w7 v → v.cell? ⟨ab, ao + i, none⟩ = some (.int .i64 x) := fun v hv => (HYA.out v (HG2.out.1.trans hv)).1
      have a1 : ∀ v, Chg No w7 v → v.cell? ⟨ab, ao + i1, none⟩ = some (.int .i64 y) := fun v hv => (HYA.out v (HG2.out.1.trans hv)).2
      refine rem_start (by kernel_rfl) (by kernel_rfl) ?_
      refine rem_quiet 12 (C := (Chg No w7)) (by kernel_rfl) (by simp only [List.toList_toArray, List.drop_succ_cons, List.drop_zero, List.take_succ_cons, List.take_zero, Nat.reduceSub, Nat.reduceAdd]; rfl) ?_ ?_
      · exact (Chg.refl _ _).drew
      repeat
        refine q_step (fun K hK => ?_)
        go_simp
        first
          | ((with_reducible refine hK _ ?_); clear hK K)
          | (refine (if_neg (by simp [undef])).mpr ?_; (with_reducible refine hK _ ?_); clear hK K)
          | (apply Exists.intro
             with_reducible refine ⟨fun v hv => ?_, hK _ ?_⟩
             · first
                 | with_reducible exact rfl
                 | with_reducible exact ⟨rfl, rfl⟩
                 | (go_simp
                    first
                      | done
                      | with_reducible exact rfl
                      | with_reducible exact ⟨rfl, rfl⟩
                      | fail)
             clear hK K)
      refine q_nil ?_
      intro V hV
      clear a0 a1
      refine rem_one (by kernel_rfl) (by kernel_rfl) rfl (by kernel_rfl) (fun K hK => ?_)
      go_wp2_with (first
        | (go_at_call 29
           refine (FindNil_any (HM.out.world (HG2.out.1.trans hV)) x y x64).mono ?_
           rw [HR.out]
           rintro e w8 ⟨rfl, c8⟩
           have c8b : Chg No w7 w8 := hV.trans c8
           have H8 := Lib.hid (And.intro (HG2.out.1.trans c8b) (And.intro (HG2.out.2.1.keep c8b (fun f => f) (fun f => f)) HG2.out.2.2))
           clear c8 c8b hV)
        | fail)
      refine rem_quiet 18 (C := (fun v => v = w8)) (by kernel_rfl) (by simp only [List.toList_toArray, List.drop_succ_cons, List.drop_zero, List.take_succ_cons, List.take_zero, Nat.reduceSub, Nat.reduceAdd]; rfl) ?_ ?_
      · rfl
      repeat
        refine q_step (fun K hK => ?_)
        go_simp
        first
          | ((with_reducible refine hK _ ?_); clear hK K)
          | (refine (if_neg (by simp [undef])).mpr ?_; (with_reducible refine hK _ ?_); clear hK K)
          | (apply Exists.intro
             with_reducible refine ⟨fun v hv => ?_, hK _ ?_⟩
             · first
                 | with_reducible exact rfl
                 | with_reducible exact ⟨rfl, rfl⟩
                 | (go_simp
                    first
                      | done
                      | with_reducible exact rfl
                      | with_reducible exact ⟨rfl, rfl⟩
                      | fail)
             clear hK K)
      refine q_nil ?_
      intro V3 hV3
      subst V3
      refine rem_end (by kernel_rfl) ?_
      obtain ⟨d0, d1⟩ := HYA.out w8 H8.out.1
      have e1 : ((i : Int) + 1 != (i1 : Int)) = false := by have := HI.out; simp [this]
      have e2 : IntKind.i64.wrap ((i : Int) + 1 + 1) = (i : Int) + 1 + 1 := IntWalk.i64_in _ (by omega)
      have e3 : IntKind.i64.wrap (hh1 + 1) = hh1 + 1 := IntWalk.i64_in _ (by omega)
      have e4 : IntKind.i64.wrap ((i : Int) + 2) = (i : Int) + 1 + 1 := (IntWalk.i64_in _ (by omega)).trans (by omega)
      have hrel2 : ∃ (i' : Nat) (cs' : Array Value) (hh' : Int), Value.int .i64 ((i : Int) + 1 + 1) = .int .i64 (i' : Int) ∧ p - i' ≤ p - (i + 2) ∧ i' ≤ p + 1 ∧ 0 ≤ hh' ∧ hh' ≤ (i' : Int) ∧ Chg No W1 w8 ∧ CacheS w8 q b n2 cs' hh' (i' : Int) ∧ Good L n2 cs' := by
        have h9 := HI.out
        refine ⟨i + 2, cs2, hh2, by congr 1, by omega, by omega, by omega, by omega, H8.out.1, ?_, H8.out.2.2.1⟩
        have h8 := H8.out.2.1
        rwa [show (i : Int) + 1 + 1 = ((i + 2 : Nat) : Int) by omega] at h8
      have HRel := Lib.hid hrel2
      clear hrel2
      have hpi : p - (i + 2) < p - i := by omega
      cases hx : (hh2 != hh1 + 1)
      · go_wp2_with fail
        go_roundg (p - (i + 2))
        case measure => omega
        case rel => exact HRel.out
      · have hz : x = 0 ∧ y = 0 := Classical.byContradiction fun h => by
          have := HF2.out.2.2.2.2 HF1.out.2.2.2.1 h
          simp [this] at hx
        obtain ⟨rfl, rfl⟩ := hz
        go_wp2_with fail
        go_roundg (p - (i + 2))
        case measure => omega
        case rel => exact HRel.out
    · have t1 : decide ((i1 : Int) < (p : Int)) = false := decide_eq_false (by omega)
      have HW := Lib.hid (And.intro cW (And.intro C hGd))
      clear cW C hGd
      have tok : True := trivial
      by_cases hp1 : 1 < p
      · have t2 : decide (1 < (p : Int)) = true := decide_eq_true (by omega)
        obtain ⟨A', c', eA, -, -, -, hat⟩ := HA.out.form
        obtain ⟨ab, ao, rfl, -, hab, y0, x64⟩ := hat 0 (by rw [HP.out]; omega)
        obtain ⟨ab', ao', e', -, -, y1, y64⟩ := hat 1 (by rw [HP.out]; omega)
        obtain ⟨rfl, rfl, -⟩ : A2 = some ⟨ab, ao, none⟩ ∧ c2 = c' ∧ True := by
          obtain ⟨h1, -, h2⟩ := Value.slice.inj eA
          exact ⟨h1, h2, trivial⟩
        obtain ⟨rfl, rfl⟩ : ab = ab' ∧ ao = ao' := by simpa using e'
        clear hat eA e'
        generalize l[0]?.getD 0 = x at *
        generalize l[1]?.getD 0 = y at *
        rw [Nat.add_zero] at y0
        have YA : ∀ v, Chg No W1 v → v.cell? ⟨ab, ao, none⟩ = some (.int .i64 x) ∧ v.cell? ⟨ab, ao + 1, none⟩ = some (.int .i64 y) := fun v hv => ⟨((hsep v hv).cell (p := ⟨ab, ao, none⟩) hab (fun f => f)).trans y0, ((hsep v hv).cell (p := ⟨ab, ao + 1, none⟩) hab (fun f => f)).trans y1⟩
        have HYA := Lib.hid YA
        have l0 : (0 : Int) < (p : Int) := by omega
        have l0' : 0 < p := by omega
        have l1 : (1 : Int) < (p : Int) := by omega
        clear YA y0 y1 hi1
        go_wp2_with (first
        | (go_at_call 31
           refine (Clear_any HW.out.2.1 hn0 HW.out.2.2.1 hq hb HW.out.1).mono ?_
           rintro e w3 ⟨rfl, cs3, C3, hcl3, c3⟩
           have H3 := Lib.hid (And.intro c3 (And.intro C3 hcl3))
           clear c3 C3 hcl3)
        | (go_at_call 30
           have _t := tok
           clear tok
           refine (Hits_any H3.out.2.1).mono ?_
           rintro e w4 ⟨rfl, c4⟩
           have H4 := Lib.hid (And.intro (H3.out.1.trans c4) (And.intro (H3.out.2.1.keep c4 (fun f => f) (fun f => f)) H3.out.2.2))
           clear c4)
        | fail)
        have a0 : ∀ v, Chg No w4 v → v.cell? ⟨ab, ao, none⟩ = some (.int .i64 x) := fun v hv => (HYA.out v (H4.out.1.trans hv)).1
        have a1 : ∀ v, Chg No w4 v → v.cell? ⟨ab, ao + 1, none⟩ = some (.int .i64 y) := fun v hv => (HYA.out v (H4.out.1.trans hv)).2
        refine rem_start (by kernel_rfl) (by kernel_rfl) ?_
        refine rem_quiet 9 (C := (Chg No w4)) (by kernel_rfl) (by simp only [List.toList_toArray, List.drop_succ_cons, List.drop_zero, List.take_succ_cons, List.take_zero, Nat.reduceSub, Nat.reduceAdd]; rfl) ?_ ?_
        · exact (Chg.refl _ _).drew
        repeat
          refine q_step (fun K hK => ?_)
          go_simp
          first
            | ((with_reducible refine hK _ ?_); clear hK K)
            | (refine (if_neg (by simp [undef])).mpr ?_; (with_reducible refine hK _ ?_); clear hK K)
            | (apply Exists.intro
               with_reducible refine ⟨fun v hv => ?_, hK _ ?_⟩
               · first
                   | with_reducible exact rfl
                   | with_reducible exact ⟨rfl, rfl⟩
                   | (go_simp
                      first
                        | done
                        | with_reducible exact rfl
                        | with_reducible exact ⟨rfl, rfl⟩
                        | fail)
               clear hK K)
        refine q_nil ?_
        intro V hV
        clear a0 a1
        refine rem_one (by kernel_rfl) (by kernel_rfl) rfl (by kernel_rfl) (fun K hK => ?_)
        go_wp2_with (first
          | (go_at_call 29
             refine (Find_any HM.out (H4.out.1.trans hV) (H4.out.2.1.keep hV (fun f => f) (fun f => f)) hq hb hn0 hn1 (H4.out.2.2.good L) x y x64 y64 (by omega) (by omega) (by omega) (by omega)).mono ?_
             rintro e w5 ⟨rfl, c5, cs5, hh5, C5, -, -, -, no5⟩
             obtain rfl := no5 (Last.clean H4.out.2.2 hn0 x y)
             have H5 := Lib.hid (And.intro c5 C5)
             clear c5 C5 no5 hV)
          | fail)
        refine rem_end (by kernel_rfl) ?_
        go_wp2_with (first
          | (go_at_call 30
             refine (Hits_any H5.out.2).mono ?_
             rintro e w6 ⟨rfl, c6⟩
             have H6 := Lib.hid (H5.out.1.trans c6)
             clear c6)
          | (go_at_call 15; refine (known14_any _).mono ?_; rintro e w9 ⟨rfl, c9⟩))
        go_ret
        exact ⟨rfl, ((hsep _ H6.out).trans c9).below⟩
      · have t2 : decide (1 < (p : Int)) = false := decide_eq_false (by omega)
        go_wp2_with (first
        | (go_at_call 31
           refine (Clear_any HW.out.2.1 hn0 HW.out.2.2.1 hq hb HW.out.1).mono ?_
           rintro e w3 ⟨rfl, cs3, C3, hcl3, c3⟩
           have H3 := Lib.hid (And.intro c3 (And.intro C3 hcl3))
           clear c3 C3 hcl3)
        | (go_at_call 30
           have _t := tok
           clear tok
           refine (Hits_any H3.out.2.1).mono ?_
           rintro e w4 ⟨rfl, c4⟩
           have H4 := Lib.hid (And.intro (H3.out.1.trans c4) (And.intro (H3.out.2.1.keep c4 (fun f => f) (fun f => f)) H3.out.2.2))
           clear c4)
        | (go_at_call 30
           refine (Hits_any H4.out.2.1).mono ?_
           rintro e w6 ⟨rfl, c6⟩
           have H6 := Lib.hid (H4.out.1.trans c6)
           clear c6)
        | (go_at_call 15; refine (known14_any _).mono ?_; rintro e w9 ⟨rfl, c9⟩))
        go_ret
        exact ⟨rfl, ((hsep _ H6.out).trans c9).below⟩

end Go.Proofs.Ytjanojignaonfaa
