/- New objects of a class: what kit.Instance asks of its sizes. · New objects of a class: kit.Instance. -/
import Derived.Test.YtncoanmgifgcbaaDoorKitC
import Derived.Test.YtncoanmgifgcbaaDoorRef14
namespace Go.Proofs.YtncoanmgifgcbaaDoor
set_option linter.unusedVariables false
set_option linter.unusedSimpArgs false
open Go.RowKit

def badB (k : Int) : Bool := decide (k < 0) || decide (1000 < k)

set_option maxRecDepth 100000 in
theorem bad1_any (k : Int) (w : World) : Calls Tryd.prog 109 #[.int .i64 k] w fun e w' => e = .returned (.bool (badB k)) ∧ w' = w := by
  unfold badB
  cases h1 : decide (k < 0)
  · rw [Bool.false_or]
    go_enter Tryd.func109, Tryd.ntmps109
    go_wp2_with fail
    go_ret
    exact ⟨rfl, rfl⟩
  · rw [Bool.true_or]
    go_enter Tryd.func109, Tryd.ntmps109
    go_wp2_with fail
    go_ret
    exact ⟨rfl, rfl⟩

set_option maxRecDepth 100000 in
set_option maxHeartbeats 1000000 in
theorem index0_any (c : Nat) (A : Option Addr) (w : World) : Calls Tryd.prog 90 #[.slice A 0 c, .func (.func 109) #[] #[]] w fun e w' => e = .returned (.int .i64 (-1)) ∧ w' = w := by
  go_enter Tryd.func90, Tryd.ntmps90
  go_wp2_with fail
  refine wp_loop_rounds 1 ?_
  rw [rounds_succ]
  go_wp2_with fail
  go_ret
  exact ⟨rfl, rfl⟩

set_option maxRecDepth 100000 in
set_option maxHeartbeats 1000000 in
theorem index1_any (c b off : Nat) (k : Int) (w : World) (hc : w.cell? ⟨b, off, none⟩ = some (.int .i64 k)) : Calls Tryd.prog 90 #[.slice (some ⟨b, off, none⟩) 1 c, .func (.func 109) #[] #[]] w fun e w' => e = .returned (.int .i64 (if badB k = true then 0 else -1)) ∧ Chg No w w' := by
  have HB := fun w => bad1_any k w
  cases hb : badB k
  · rw [hb] at HB
    rw [if_neg (by simp)]
    clear hb
    go_enter Tryd.func90, Tryd.ntmps90
    go_wp2_with fail
    refine wp_loop_rounds 2 ?_
    iterate 2 (rw [rounds_succ]; go_wp2_with (go_at_call 109; refine (HB _).mono ?_; rintro e w1 ⟨rfl, rfl⟩))
    go_ret
    exact ⟨rfl, (by repeat (with_reducible first | exact Chg.refl _ _ | refine Chg.drew ?_))⟩
  · rw [hb] at HB
    rw [if_pos rfl]
    clear hb
    go_enter Tryd.func90, Tryd.ntmps90
    go_wp2_with fail
    refine wp_loop_rounds 1 ?_
    iterate 1 (rw [rounds_succ]; go_wp2_with (go_at_call 109; refine (HB _).mono ?_; rintro e w1 ⟨rfl, rfl⟩))
    go_ret
    exact ⟨rfl, (by repeat (with_reducible first | exact Chg.refl _ _ | refine Chg.drew ?_))⟩

set_option maxRecDepth 100000 in
theorem contains0_any (c : Nat) (A : Option Addr) (w : World) : Calls Tryd.prog 56 #[.slice A 0 c, .func (.func 109) #[] #[]] w fun e w' => e = .returned (.bool false) ∧ w' = w := by
  go_enter Tryd.func56, Tryd.ntmps56
  go_wp2_with (go_at_call 90; refine (index0_any _ _ _).mono ?_; rintro e w1 ⟨rfl, rfl⟩)
  go_ret
  exact ⟨rfl, rfl⟩

set_option maxRecDepth 100000 in
theorem contains1_any (c b off : Nat) (k : Int) (w : World) (hc : w.cell? ⟨b, off, none⟩ = some (.int .i64 k)) : Calls Tryd.prog 56 #[.slice (some ⟨b, off, none⟩) 1 c, .func (.func 109) #[] #[]] w fun e w' => e = .returned (.bool (badB k)) ∧ Chg No w w' := by
  have HI := index1_any c b off k w hc
  cases hb : badB k
  · rw [hb, if_neg (by simp)] at HI
    go_enter Tryd.func56, Tryd.ntmps56
    go_wp2_with (go_at_call 90; refine HI.mono ?_; rintro e w1 ⟨rfl, c1⟩)
    go_ret
    exact ⟨rfl, c1⟩
  · rw [hb, if_pos rfl] at HI
    go_enter Tryd.func56, Tryd.ntmps56
    go_wp2_with (go_at_call 90; refine HI.mono ?_; rintro e w1 ⟨rfl, c1⟩)
    go_ret
    exact ⟨rfl, c1⟩

/-- what a new object of a class is, asked for with more places or not -/
def insBad (L : List O) (c : Int) (l : List Int) : Bool := decide (1 < l.length) || l.any badB || (decide (l.length = 1) && !(shapeOf L c).m)
def insOk (L : List O) (c : Int) (l : List Int) : Bool := (shapeOf L c).e == 0 && !insBad L c l
def insN (L : List O) (c : Int) (l : List Int) : Int := if insOk L c l = true then newN L c (shapeOf L c).k ((shapeOf L c).n + l.sum) else 0
def insE (L : List O) (c : Int) (l : List Int) : Int := if (shapeOf L c).e ≠ 0 then (shapeOf L c).e else if insBad L c l = true then 2 else newE c (shapeOf L c).k ((shapeOf L c).n + l.sum)
def insL (L : List O) (c : Int) (l : List Int) : List O := if insOk L c l = true then newL L c (shapeOf L c).k ((shapeOf L c).n + l.sum) else L
theorem shape_bd (L : List O) (c : Int) : 0 ≤ (shapeOf L c).n ∧ (shapeOf L c).n ≤ 255 ∧ 0 ≤ (shapeOf L c).k ∧ (shapeOf L c).k ≤ 3 := by
  unfold shapeOf
  split
  · simp
  · split
    · simp
    · dsimp only; omega

section
variable {w0 w w' : World} {m : Nat} {L L' : List O} {K : (Nat → Prop) → World → Prop} {F F' : Nat → Prop}
set_option maxRecDepth 100000 in
set_option maxHeartbeats 2000000 in
theorem k_Instance (h : MemK w0 w m L K) (c : Int) (hc : In64 c) (l : List Int) (v : Value) (S : Nat → Prop) (hv : IntS w S v l) (hn : L.length + 1 < 1073741823) :
    Calls Tryd.prog 82 #[.iface 27 (.pointer (some ⟨m, 0, none⟩)), .int .i64 c, v] w fun e w' => e = .returned (.tuple #[.int .i64 (insN L c l), .int .i64 (insE L c l)]) ∧ MemK w0 w' m (insL L c l) K := by
  have H := Lib.hid h
  clear h
  have hbd := shape_bd L c
  obtain ⟨A, cp, rfl, hlc, hcm, -, hat⟩ := hv.form
  obtain ⟨⟨sk, sn, sm, se⟩, hs⟩ : ∃ s, shapeOf L c = s := ⟨_, rfl⟩
  rw [hs] at hbd
  dsimp only at hbd
  have HS := Lib.hid hs
  by_cases h0 : se = 0
  · subst h0
    by_cases h1 : 1 < l.length
    · have hB : insBad L c l = true := by unfold insBad; rw [decide_eq_true h1]; simp
      have r1 : insN L c l = 0 := by unfold insN insOk; rw [hB, if_neg (by simp)]
      have r2 : insE L c l = 2 := by unfold insE; rw [hs, if_neg (by simp), hB, if_pos rfl]
      have r3 : insL L c l = L := by unfold insL insOk; rw [hB, if_neg (by simp)]
      rw [r1, r2, r3]
      have t1 : decide (1 < (l.length : Int)) = true := decide_eq_true (by omega)
      have HCF : True := trivial
      clear r1 r2 r3 hB hat hs
      generalize l.length = n at *
      go_enter Tryd.func82, Tryd.ntmps82
      go_wp2_with (go_at_call 108
                   refine (k_Shape H.out c hc).mono ?_
                   rw [HS.out]
                   rintro e w1 ⟨rfl, g1, c1⟩
                   have H1 := Lib.hid (And.intro g1 c1)
                   clear g1 c1)
      go_ret2
      exact ⟨rfl, H1.out.1⟩
    · match l, hv, hlc, hat, h1 with
      | [], _, _, _, _ =>
        have hB : insBad L c [] = false := by simp [insBad]
        have r1 : insN L c [] = newN L c sk sn := by unfold insN insOk; rw [hB, hs]; simp
        have r2 : insE L c [] = newE c sk sn := by unfold insE; rw [hs, if_neg (by simp), hB, if_neg (by simp)]; simp
        have r3 : insL L c [] = newL L c sk sn := by unfold insL insOk; rw [hB, hs]; simp
        rw [r1, r2, r3]
        clear r1 r2 r3 hB hat hs
        simp only [List.length_nil]
        go_enter Tryd.func82, Tryd.ntmps82
        go_wp2_with (first
          | (go_at_call 108
             refine (k_Shape H.out c hc).mono ?_
             rw [HS.out]
             rintro e w1 ⟨rfl, g1, c1⟩
             have H1 := Lib.hid (And.intro g1 c1)
             clear g1 c1)
          | (go_at_call 56; refine (contains0_any _ _ _).mono ?_; rintro e w2 ⟨rfl, rfl⟩))
        refine wp_loop_rounds 1 ?_
        rw [rounds_succ]
        go_wp2_with (go_at_call 154; refine (k_New H1.out.1 c sk sn hc (by unfold In64; omega) (by unfold In64; omega) hn).mono ?_; rintro e w3 ⟨rfl, g3⟩)
        go_ret2
        exact ⟨rfl, g3⟩
      | [k], hv, _, hat, _ =>
        obtain ⟨b, off, rfl, -, hb, hcell⟩ := hat 0 (by simp)
        have hk64 : In64 k := hv.2 k (by simp)
        have hcw : w.cell? ⟨b, off, none⟩ = some (.int .i64 k) := by simpa using hcell.1
        have HCF : ∀ w1, Chg No w w1 → Calls Tryd.prog 56 #[.slice (some ⟨b, off, none⟩) 1 cp, .func (.func 109) #[] #[]] w1 (fun e w' => e = .returned (.bool (badB k)) ∧ Chg No w1 w') := fun w1 cw => contains1_any cp b off k w1 ((cw.cell hb (fun f => f)).trans hcw)
        have hcv : ∀ v, Chg No w v → v.cell? ⟨b, off, none⟩ = some (.int .i64 k) := fun v cw => (cw.cell hb (fun f => f)).trans hcw
        clear hat hcell hv
        have hfl : [k].length = 1 := rfl
        rw [hfl]
        cases hbk : badB k
        · rw [hbk] at HCF
          cases sm
          · have hB : insBad L c [k] = true := by simp [insBad, hs]
            have r1 : insN L c [k] = 0 := by unfold insN insOk; rw [hB, if_neg (by simp)]
            have r2 : insE L c [k] = 2 := by unfold insE; rw [hs, if_neg (by simp), hB, if_pos rfl]
            have r3 : insL L c [k] = L := by unfold insL insOk; rw [hB, if_neg (by simp)]
            rw [r1, r2, r3]
            clear r1 r2 r3 hB hs hbk
            go_enter Tryd.func82, Tryd.ntmps82
            go_wp2_with (first
              | (go_at_call 108
                 refine (k_Shape H.out c hc).mono ?_
                 rw [HS.out]
                 rintro e w1 ⟨rfl, g1, c1⟩
                 have H1 := Lib.hid (And.intro g1 c1)
                 clear g1 c1)
              | (go_at_call 56; refine (HCF _ H1.out.2).mono ?_; rintro e w2 ⟨rfl, c2⟩))
            go_ret2
            exact ⟨rfl, by first | exact H1.out.1.world c2 | exact H1.out.1⟩
          · have hB : insBad L c [k] = false := by simp [insBad, hs, hbk]
            have r1 : insN L c [k] = newN L c sk (sn + k) := by unfold insN insOk; rw [hB, hs]; simp
            have r2 : insE L c [k] = newE c sk (sn + k) := by unfold insE; rw [hs, if_neg (by simp), hB, if_neg (by simp)]; simp
            have r3 : insL L c [k] = newL L c sk (sn + k) := by unfold insL insOk; rw [hB, hs]; simp
            rw [r1, r2, r3]
            have hk : 0 ≤ k ∧ k ≤ 1000 := by
              unfold badB at hbk
              simp only [Bool.or_eq_false_iff, decide_eq_false_iff_not] at hbk
              omega
            have wk : IntKind.i64.wrap (sn + k) = sn + k := IntWalk.i64_in _ (by omega)
            clear r1 r2 r3 hB hs hbk
            go_enter Tryd.func82, Tryd.ntmps82
            go_wp2_with (first
              | (go_at_call 108
                 refine (k_Shape H.out c hc).mono ?_
                 rw [HS.out]
                 rintro e w1 ⟨rfl, g1, c1⟩
                 have H1 := Lib.hid (And.intro g1 c1)
                 clear g1 c1)
              | (go_at_call 56; refine (HCF _ H1.out.2).mono ?_; rintro e w2 ⟨rfl, c2⟩; have x2 := hcv w2 (H1.out.2.trans c2); have H2 := Lib.hid (H1.out.1.world c2); clear c2))
            refine wp_loop_rounds 2 ?_
            rw [rounds_succ]
            go_wp2_with fail
            rw [rounds_succ]
            go_wp2_with (go_at_call 154; refine (k_New H2.out c sk (sn + k) hc (by unfold In64; omega) (by unfold In64; omega) hn).mono ?_; rintro e w3 ⟨rfl, g3⟩)
            go_ret2
            exact ⟨rfl, g3⟩
        · rw [hbk] at HCF
          have hB : insBad L c [k] = true := by simp [insBad, hbk]
          have r1 : insN L c [k] = 0 := by unfold insN insOk; rw [hB, if_neg (by simp)]
          have r2 : insE L c [k] = 2 := by unfold insE; rw [hs, if_neg (by simp), hB, if_pos rfl]
          have r3 : insL L c [k] = L := by unfold insL insOk; rw [hB, if_neg (by simp)]
          rw [r1, r2, r3]
          clear r1 r2 r3 hB hs hbk
          go_enter Tryd.func82, Tryd.ntmps82
          go_wp2_with (first
            | (go_at_call 108
               refine (k_Shape H.out c hc).mono ?_
               rw [HS.out]
               rintro e w1 ⟨rfl, g1, c1⟩
               have H1 := Lib.hid (And.intro g1 c1)
               clear g1 c1)
            | (go_at_call 56; refine (HCF _ H1.out.2).mono ?_; rintro e w2 ⟨rfl, c2⟩))
          go_ret2
          exact ⟨rfl, by first | exact H1.out.1.world c2 | exact H1.out.1⟩
      | _ :: _ :: _, _, _, _, h1 => simp at h1
  · have r1 : insN L c l = 0 := by unfold insN insOk; rw [hs]; simp [h0]
    have r2 : insE L c l = se := by unfold insE; rw [hs, if_pos h0]
    have r3 : insL L c l = L := by unfold insL insOk; rw [hs]; simp [h0]
    have t0 : (se != 0) = true := by simpa using h0
    rw [r1, r2, r3]
    clear r1 r2 r3 hs hat
    go_enter Tryd.func82, Tryd.ntmps82
    go_wp2_with (go_at_call 108
                 refine (k_Shape H.out c hc).mono ?_
                 rw [HS.out]
                 rintro e w1 ⟨rfl, g1, c1⟩
                 have H1 := Lib.hid (And.intro g1 c1)
                 clear g1 c1)
    go_ret2
    exact ⟨rfl, H1.out.1⟩
end

end Go.Proofs.YtncoanmgifgcbaaDoor
