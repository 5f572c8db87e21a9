/- The document on classes (websterref14): Shape. -/
import Derived.Test.YtjanojignaonfaaRef14
namespace Go.Proofs.Ytjanojignaonfaa
set_option linter.unusedVariables false
set_option linter.unusedSimpArgs false
open Go.RowKit

set_option maxRecDepth 100000 in
set_option maxHeartbeats 2000000 in
theorem Shape14_any (v : Value) (S : Nat → Prop) (L : List O) (w : World) (hv : RefM w S v L) (hok : ∀ i, (ob L i).kind ≠ 0 → (ob L i).ok) (c : Int) (hc : In64 c) :
    Calls Try.prog 21 #[v, .int .i64 c] w fun e w' => e = .returned (.tuple #[.int .i64 (shapeOf L c).k, .int .i64 (shapeOf L c).n, .bool (shapeOf L c).m, .int .i64 (shapeOf L c).e]) ∧ Chg No w w' := by
  have HV := Lib.hid hv
  obtain ⟨lv, rfl, hl⟩ := hv
  obtain ⟨A, cp, rfl, hm⟩ := hl.form
  clear hl
  have cA : Chg No w (w.alloc (.cells #[.slice A L.length cp] 33)) := (Chg.refl _ _).alloc _
  have HA := Lib.hid cA
  have HOK := Lib.hid hok
  have h64 := fetch64 hok c 2
  clear cA hok
  generalize L.length = n at *
  obtain ⟨p, hp⟩ : ∃ p, placeE L c 1 2 = p := ⟨_, rfl⟩
  obtain ⟨f, hf⟩ : ∃ f, fetchV L c 2 = f := ⟨_, rfl⟩
  rw [hf] at h64
  have HPF := Lib.hid (And.intro hp hf)
  by_cases hp0 : p = 0
  · subst hp0
    have HN := fun w => Number01_any f h64 w
    have hnb := numV_bd f
    cases hn : numOk f
    · have hs : shapeOf L c = ⟨0, 0, false, 2⟩ := by unfold shapeOf; rw [hp, hf, if_neg (by simp), if_pos (by simp [shapeBad, hn])]
      rw [hs]
      rw [hn] at HN
      clear hp hf hs
      generalize numV f = N at *
      go_enter Try.func21, Try.ntmps21
      go_wp2_with (first
        | (go_at_call 60; refine (Fetch14_any _ S L _ (HV.out.keep HA.out (fun _ _ f => f)) HOK.out c 2 hc).mono ?_; rw [HPF.out.1, HPF.out.2]; rintro e w1 ⟨rfl, c1⟩)
        | (go_at_call 59; refine (HN _).mono ?_; rintro e w' ⟨rfl, rfl⟩))
      refine bodyPost_ret (v := .tuple #[.int .i64 0, .int .i64 0, .bool false, .int .i64 2]) (by simp [results, Try.results21, go_sem]) rfl ⟨rfl, HA.out.trans c1⟩
    · rw [hn] at HN
      have hbad : shapeBad f = (decide (numV f < 0) || decide (numV f % 4 = 0) || decide (numV f % 4 = 3) || (decide (numV f % 4 = 2) && decide (0 < numV f / 4 % 256))) := by simp [shapeBad, hn]
      have hs : shapeOf L c = if shapeBad f = true then ⟨0, 0, false, 2⟩ else ⟨numV f % 4, numV f / 4 % 256, (numV f / 1024 % 2 == 1), 0⟩ := by unfold shapeOf; rw [hp, hf, if_neg (by simp)]
      rw [hbad] at hs
      clear hp hf hn hbad
      generalize numV f = N at *
      by_cases h0 : N < 0
      · have t1 : decide (N < 0) = true := decide_eq_true h0
        rw [if_pos (by simp [h0])] at hs
        rw [hs]
        clear hs
        go_enter Try.func21, Try.ntmps21
        go_wp2_with (first
          | (go_at_call 60; refine (Fetch14_any _ S L _ (HV.out.keep HA.out (fun _ _ f => f)) HOK.out c 2 hc).mono ?_; rw [HPF.out.1, HPF.out.2]; rintro e w1 ⟨rfl, c1⟩)
          | (go_at_call 59; refine (HN _).mono ?_; rintro e w' ⟨rfl, rfl⟩))
        refine bodyPost_ret (v := .tuple #[.int .i64 0, .int .i64 0, .bool false, .int .i64 2]) (by simp [results, Try.results21, go_sem]) rfl ⟨rfl, HA.out.trans c1⟩
      · have t1 : decide (N < 0) = false := decide_eq_false h0
        have m1 : N.tmod 4 = N % 4 := Int.tmod_eq_emod_of_nonneg (by omega)
        have m2 : N.tdiv 4 = N / 4 := Int.tdiv_eq_ediv_of_nonneg (by omega)
        have m3 : (N / 4).tmod 256 = N / 4 % 256 := Int.tmod_eq_emod_of_nonneg (by omega)
        have m4 : N.tdiv 1024 = N / 1024 := Int.tdiv_eq_ediv_of_nonneg (by omega)
        have m5 : (N / 1024).tmod 2 = N / 1024 % 2 := Int.tmod_eq_emod_of_nonneg (by omega)
        have u2 : IntKind.i64.wrap (N / 4) = N / 4 := IntWalk.i64_in _ (by omega)
        have u4 : IntKind.i64.wrap (N / 1024) = N / 1024 := IntWalk.i64_in _ (by omega)
        have u3 : IntKind.i64.wrap (N / 4 % 256) = N / 4 % 256 := IntWalk.i64_in _ (by omega)
        have u5 : IntKind.i64.wrap (N / 1024 % 2) = N / 1024 % 2 := IntWalk.i64_in _ (by omega)
        have hq0 : 0 ≤ N / 4 % 256 := Int.emod_nonneg _ (by decide)
        generalize hq : N / 4 % 256 = q at *
        generalize hr : N / 1024 % 2 = r at *
        have hk4 : N % 4 = 0 ∨ N % 4 = 1 ∨ N % 4 = 2 ∨ N % 4 = 3 := by omega
        clear hq hr
        rcases hk4 with hk | hk | hk | hk
        · rw [if_pos (by simp [hk])] at hs
          rw [hk] at m1
          rw [hs]
          clear hs hk
          go_enter Try.func21, Try.ntmps21
          go_wp2_with (first
            | (go_at_call 60; refine (Fetch14_any _ S L _ (HV.out.keep HA.out (fun _ _ f => f)) HOK.out c 2 hc).mono ?_; rw [HPF.out.1, HPF.out.2]; rintro e w1 ⟨rfl, c1⟩)
            | (go_at_call 59; refine (HN _).mono ?_; rintro e w' ⟨rfl, rfl⟩))
          refine bodyPost_ret (v := .tuple #[.int .i64 0, .int .i64 0, .bool false, .int .i64 2]) (by simp [results, Try.results21, go_sem]) rfl ⟨rfl, HA.out.trans c1⟩
        · rw [if_neg (by simp [hk, h0]), hk] at hs
          rw [hk] at m1
          rw [hs]
          clear hs hk
          go_enter Try.func21, Try.ntmps21
          go_wp2_with (first
            | (go_at_call 60; refine (Fetch14_any _ S L _ (HV.out.keep HA.out (fun _ _ f => f)) HOK.out c 2 hc).mono ?_; rw [HPF.out.1, HPF.out.2]; rintro e w1 ⟨rfl, c1⟩)
            | (go_at_call 59; refine (HN _).mono ?_; rintro e w' ⟨rfl, rfl⟩))
          refine bodyPost_ret (v := .tuple #[.int .i64 1, .int .i64 q, .bool (r == 1), .int .i64 0]) (by simp [results, Try.results21, go_sem]) rfl ⟨rfl, HA.out.trans c1⟩
        · rw [hk] at m1
          by_cases hq : 0 < q
          · have t2 : decide (0 < q) = true := decide_eq_true hq
            rw [if_pos (by simp [hk, hq])] at hs
            rw [hs]
            clear hs hk
            go_enter Try.func21, Try.ntmps21
            go_wp2_with (first
              | (go_at_call 60; refine (Fetch14_any _ S L _ (HV.out.keep HA.out (fun _ _ f => f)) HOK.out c 2 hc).mono ?_; rw [HPF.out.1, HPF.out.2]; rintro e w1 ⟨rfl, c1⟩)
              | (go_at_call 59; refine (HN _).mono ?_; rintro e w' ⟨rfl, rfl⟩))
            refine bodyPost_ret (v := .tuple #[.int .i64 0, .int .i64 0, .bool false, .int .i64 2]) (by simp [results, Try.results21, go_sem]) rfl ⟨rfl, HA.out.trans c1⟩
          · have t2 : decide (0 < q) = false := decide_eq_false hq
            rw [if_neg (by simp [hk, hq, h0]), hk] at hs
            rw [hs]
            clear hs hk
            go_enter Try.func21, Try.ntmps21
            go_wp2_with (first
              | (go_at_call 60; refine (Fetch14_any _ S L _ (HV.out.keep HA.out (fun _ _ f => f)) HOK.out c 2 hc).mono ?_; rw [HPF.out.1, HPF.out.2]; rintro e w1 ⟨rfl, c1⟩)
              | (go_at_call 59; refine (HN _).mono ?_; rintro e w' ⟨rfl, rfl⟩))
            refine bodyPost_ret (v := .tuple #[.int .i64 2, .int .i64 q, .bool (r == 1), .int .i64 0]) (by simp [results, Try.results21, go_sem]) rfl ⟨rfl, HA.out.trans c1⟩
        · rw [if_pos (by simp [hk])] at hs
          rw [hk] at m1
          rw [hs]
          clear hs hk
          go_enter Try.func21, Try.ntmps21
          go_wp2_with (first
            | (go_at_call 60; refine (Fetch14_any _ S L _ (HV.out.keep HA.out (fun _ _ f => f)) HOK.out c 2 hc).mono ?_; rw [HPF.out.1, HPF.out.2]; rintro e w1 ⟨rfl, c1⟩)
            | (go_at_call 59; refine (HN _).mono ?_; rintro e w' ⟨rfl, rfl⟩))
          refine bodyPost_ret (v := .tuple #[.int .i64 0, .int .i64 0, .bool false, .int .i64 2]) (by simp [results, Try.results21, go_sem]) rfl ⟨rfl, HA.out.trans c1⟩
  · have hs : shapeOf L c = ⟨0, 0, false, p⟩ := by unfold shapeOf; rw [hp, if_pos hp0]
    have t0 : (p != 0) = true := by simpa using hp0
    rw [hs]
    clear hp hf hs hp0
    go_enter Try.func21, Try.ntmps21
    go_wp2_with (go_at_call 60; refine (Fetch14_any _ S L _ (HV.out.keep HA.out (fun _ _ f => f)) HOK.out c 2 hc).mono ?_; rw [HPF.out.1, HPF.out.2]; rintro e w1 ⟨rfl, c1⟩)
    refine bodyPost_ret (v := .tuple #[.int .i64 0, .int .i64 0, .bool false, .int .i64 p]) (by simp [results, Try.results21, go_sem]) rfl ⟨rfl, HA.out.trans c1⟩

end Go.Proofs.Ytjanojignaonfaa
