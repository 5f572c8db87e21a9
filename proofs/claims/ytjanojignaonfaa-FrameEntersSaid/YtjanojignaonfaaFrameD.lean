/- New frames over a flat memory: (*frame.writer).set, made (package frame). -/
import Derived.Test.YtjanojignaonfaaFrameC
import Derived.Test.YtjanojignaonfaaRegion
import Derived.Test.YtjanojignaonfaaLoad
namespace Go.Proofs.Ytjanojignaonfaa
set_option linter.unusedVariables false
set_option linter.unusedSimpArgs false
open Go.RowKit

/-- words set one behind the other, till something is wrong -/
def setsR (f : Int) : Int → List O → Int → List Int → List O × Int
  | _, L, e, [] => (L, e)
  | i, L, e, v :: r => if e = 0 then setsR f (i + 1) (setL L f i v) (setE L f i v) r else setsR f (i + 1) L e r
theorem setsR_step {f e : Int} {L : List O} {l : List Int} {i : Nat} (h : i < l.length) : setsR f (i : Int) L e (l.drop i) = if e = 0 then setsR f ((i + 1 : Nat) : Int) (setL L f (i : Int) (l[i]?.getD 0)) (setE L f (i : Int) (l[i]?.getD 0)) (l.drop (i + 1)) else setsR f ((i + 1 : Nat) : Int) L e (l.drop (i + 1)) := by
  rw [List.drop_eq_getElem_cons h, List.getElem?_eq_getElem h, show ((i + 1 : Nat) : Int) = (i : Int) + 1 by omega]
  rfl
theorem setsR_end {f e : Int} {L : List O} {l : List Int} {i : Nat} (h : l.length ≤ i) : setsR f (i : Int) L e (l.drop i) = (L, e) := by
  rw [List.drop_eq_nil_of_le h]
  rfl

/-- what a writer's set comes to -/
def Wrote (w : World) (m : Nat) (F : Nat → Prop) (q : Nat) (f : Int) (L' : List O) (e' : Int) (w' : World) : Prop :=
  ∃ F', Flat w' m F' L' ∧ (∀ b, F b → F' b) ∧ (∀ b, F' b → (F b ∨ w.heap.size ≤ b)) ∧ Chg (fun b => F b ∨ b = q) w w' ∧ Row w' q 148 #[.iface 30 (.pointer (some ⟨m, 0, none⟩)), .int .i64 f, .int .i64 e']
section
variable {w0 w w' : World} {m : Nat} {L L' : List O} {K : (Nat → Prop) → World → Prop} {F F' : Nat → Prop}
theorem Wrote.step {q : Nat} {f e e2 : Int} {wr w2 : World} {F2 : Nat → Prop} {L2 : List O} (h : Wrote w m F q f L e wr) (hqF : ¬ F q) (hq : q < w.heap.size)
    (hf2 : Flat w2 m F2 L2) (F1 : Nat → Prop) (h1 : ∀ b, F b → F1 b) (h3 : ∀ b, F1 b → (F b ∨ w.heap.size ≤ b)) (h2 : Turned wr F1 F2 w2) :
    Wrote w m F q f L2 e2 (w2.setCell ⟨q, 2, none⟩ (.int .i64 e2)) ∧ (∀ i, w2.frozen? ⟨q, i, none⟩ = false) ∧ (w2.cell? ⟨q, 2, none⟩ = some (.int .i64 e)) := by
  obtain ⟨-, -, -, -, hc, hr⟩ := h
  obtain ⟨g1, g2, g3⟩ := h2
  have hq1 : ¬ F1 q := fun hx => by
    rcases h3 q hx with h | h
    · exact hqF h
    · omega
  have hq2 : ¬ F2 q := fun hx => by
    rcases g2 q hx with h | h
    · exact hq1 h
    · have := hr.lt; omega
  have hr2 := hr.keep g3 hq1
  refine ⟨⟨F2, hf2.keep (G := fun b => b = q) (Chg.setCell (F := fun b => b = q) (Chg.refl _ _) (p := ⟨q, 2, none⟩) (.inl rfl) _) (fun b hb e => hq2 (e ▸ hb)), fun b hb => g1 b (h1 b hb), fun b hb => ?_, ?_, hr2.set 2 _⟩, hr2.frozen, hr2.cell 2⟩
  · rcases g2 b hb with h | h
    · exact h3 b h
    · exact .inr (Nat.le_trans hc.size h)
  · refine (hc.then g3 fun b hb hx => ?_).setCell (p := ⟨q, 2, none⟩) (.inl (.inr rfl)) _
    rcases h3 b hx with h | h
    · exact .inl h
    · omega

set_option maxRecDepth 100000 in
set_option maxHeartbeats 4000000 in
theorem set_any (q : Nat) (f e : Int) (hf64 : In64 f) (hf : Flat w m F L) (hr : Row w q 148 #[.iface 30 (.pointer (some ⟨m, 0, none⟩)), .int .i64 f, .int .i64 e]) (hqF : ¬ F q) (lv : Value) (l : List Int) (hl : IntS w (fun b => ¬ F b ∧ b ≠ q) lv l) :
    Calls Try.prog 96 #[.pointer (some ⟨q, 0, none⟩), .int .i64 0, lv] w fun e' w' => e' = .returned (.tuple #[]) ∧ Wrote w m F q f (setsR f 0 L e l).1 (setsR f 0 L e l).2 w' := by
  obtain ⟨A, c, rfl, hlc, hcm, -⟩ := hl.form
  have hmax : l.length ≤ 9223372036854775807 := by unfold maxLen at hcm; simp at hcm; omega
  have hq := hr.lt
  obtain ⟨R, hR⟩ : ∃ R, setsR f 0 L e l = R := ⟨_, rfl⟩
  obtain ⟨RL, Re⟩ := R
  rw [hR]
  have HW0 : Wrote w m F q f L e w := ⟨F, hf, fun _ h => h, fun _ h => .inl h, Chg.refl _ _, hr⟩
  have HW := Lib.hid HW0
  have HL := Lib.hid hl
  have HR := Lib.hid hR
  clear HW0 hf hr hl hR hlc hcm
  generalize hn : l.length = p at *
  have HP := Lib.hid hn
  clear hn
  have ahs := ahead_Set
  go_enter Try.func96, Try.ntmps96
  go_wp2_with fail
  go_step3
  go_wp2_with fail
  go_step3
  go_wp2_with fail
  go_loopg [10] p (fun j v10 wr => ∃ (i : Nat) (L1 : List O) (e1 : Int), v10 = .int .i64 (i : Int) ∧ p - i ≤ j ∧ i ≤ p ∧ Wrote w m F q f L1 e1 wr ∧ setsR f (i : Int) L1 e1 (l.drop i) = (RL, Re))
  case atStart => exact ⟨0, L, e, rfl, by omega, by omega, HW.out, HR.out⟩
  case round =>
    clear HW HR
    obtain ⟨i, L1, e1, rfl, hj, hi, hw, hp⟩ := hrel
    have hw0 := hw
    obtain ⟨F1, hf1, h1, h3, hc, hr⟩ := hw0
    by_cases hlt : i < p
    · have t1 : decide ((i : Int) < (p : Int)) = true := decide_eq_true (by omega)
      have l1 : (i : Int) < (p : Int) := by omega
      rw [setsR_step (by rw [HP.out]; exact hlt)] at hp
      obtain ⟨A', c', eA, -, -, -, hat⟩ := HL.out.form
      obtain ⟨b, off, rfl, hb, hbl, y0, v64⟩ := hat i (by rw [HP.out]; exact hlt)
      obtain ⟨rfl, -, -⟩ := Value.slice.inj eA
      have y1 : wr.cell? ⟨b, off + i, none⟩ = _ := (hc.cell (p := ⟨b, off + i, none⟩) hbl (by rintro (h | h); exact hb.1 h; exact hb.2 h)).trans y0
      generalize l[i]?.getD 0 = v at *
      have x2 := hr.cell 2
      simp at x2
      by_cases he : e1 = 0
      · subst he
        rw [if_pos rfl] at hp
        have x0 := hr.cell 0
        have x1 := hr.cell 1
        simp at x0 x1
        obtain ⟨s, hs⟩ : ∃ s, setE L1 f (i : Int) v = s := ⟨_, rfl⟩
        rw [hs] at hp
        have HS := Lib.hid hs
        have HW := Lib.hid hw
        have HF := Lib.hid (And.intro hf1 (And.intro h1 h3))
        have HPP := Lib.hid hp
        have wi : IntKind.i64.wrap (i : Int) = (i : Int) := IntWalk.i64_in _ (by omega)
        clear hs hw hf1 h1 h3 hc hr hp hat eA y0 hb
        go_wp2_with fail
        go_region_with (first
          | (go_at_call 54
             refine (k_Set ((HF.out.1.keep (G := No) (by repeat (with_reducible first | exact Chg.refl _ _ | refine Chg.drew ?_ | refine Chg.drewN ?_ _)) (fun _ _ f => f)).toK) f (i : Int) v hf64 v64).mono ?_
             rw [HS.out]
             rintro e w2 ⟨rfl, g2⟩
             obtain ⟨F2, hf2, -, ht⟩ := g2.opened
             have ht2 : Turned wr F1 F2 w2 := ⟨ht.1, ht.2.1, Chg.trans (by repeat (with_reducible first | exact Chg.refl _ _ | refine Chg.drew ?_ | refine Chg.drewN ?_ _)) ht.2.2⟩
             have hw2 := Wrote.step (e2 := s) HW.out hqF hq hf2 F1 HF.out.2.1 HF.out.2.2 ht2
             have z1 := hw2.2.1
             have z2 := hw2.2.2
             have HT := Lib.hid hw2.1
             clear g2 hf2 ht ht2 hw2)
          | fail)
        all_goals
          go_wp2_with fail
          go_roundg (p - (i + 1))
          case measure => omega
          case rel => exact ⟨i + 1, _, _, by go_num, by omega, by omega, HT.out, HPP.out⟩
      · have t0 : (e1 != 0) = true := by simpa using he
        rw [if_neg he] at hp
        have x2' := hr.cell 2
        have HW := Lib.hid hw
        have HPP := Lib.hid hp
        clear he hw hf1 h1 h3 hc hr hp hat eA y0 hb
        go_wp2_with fail
        go_roundg (p - (i + 1))
        case measure => omega
        case rel => exact ⟨i + 1, _, _, by go_num, by omega, by omega, HW.out, HPP.out⟩
    · have t1 : decide ((i : Int) < (p : Int)) = false := decide_eq_false (by omega)
      rw [setsR_end (by rw [HP.out]; omega)] at hp
      obtain ⟨rfl, rfl⟩ := Prod.mk.inj hp
      have HW := Lib.hid hw
      clear hp hw hf1 h1 h3 hc hr
      go_wp2_with fail
      rw [Exit.noGoto_normal]
      go_end0
      exact ⟨rfl, HW.out⟩

theorem made_set (g : MemK w0 w m L K) (lv : Value) (l : List Int) (hx : ∀ F v, K F v → IntS v (fun b => ¬ F b) lv l) (f e : Int) (hf64 : In64 f) :
    Calls Try.prog 96 #[.pointer (some ⟨w.heap.size, 0, none⟩), .int .i64 0, lv] (w.alloc (.cells #[.iface 30 (.pointer (some ⟨m, 0, none⟩)), .int .i64 f, .int .i64 e] 148)) fun e' w' => e' = .returned (.tuple #[]) ∧ MemK w0 w' m (setsR f 0 L e l).1 K ∧ w'.cell? ⟨w.heap.size, 2, none⟩ = some (.int .i64 (setsR f 0 L e l).2) := by
  obtain ⟨F, hf, hc, hF, hK⟩ := g
  have hk := hK F w (fun _ h => h) (fun _ h => .inl h) (Chg.refl _ _)
  have ca : Chg No w (w.alloc (.cells #[.iface 30 (.pointer (some ⟨m, 0, none⟩)), .int .i64 f, .int .i64 e] 148)) := (Chg.refl _ _).alloc _
  refine (set_any w.heap.size f e hf64 (hf.keep ca (fun _ _ f => f)) (Row.new w _ _) (fun h => absurd (hf.lt h) (by omega)) lv l (((hx F w hk).more (S' := fun b => ¬ F b ∧ b ≠ w.heap.size) (fun b hb h => ⟨h, by omega⟩)).keep ca (fun _ _ f => f))).mono ?_
  rintro e' w' ⟨rfl, F', hf', g1, g2, c, hr⟩
  refine ⟨rfl, MemK.go hf hc hF hK hf' (ca.no.then c fun i hi h => h.resolve_right (by omega)) (fun b hb => ?_) g1, hr.cell 2⟩
  rcases g2 b hb with h | h
  · exact .inl h
  · exact .inr (by simp at h; omega)

def madeS (L : List O) (sp : Int) (l : List Int) : List O × Int := setsR (newN L (fetchV L 8 sp) 1 32) 0 (newL L (fetchV L 8 sp) 1 32) (newE (fetchV L 8 sp) 1 32) l
def madeE (L : List O) (sp : Int) (l : List Int) : Int := if placeE L 8 1 sp = 0 then (madeS L sp l).2 else placeE L 8 1 sp
def madeV (L : List O) (sp : Int) (l : List Int) : Int := if madeE L sp l = 0 then newN L (fetchV L 8 sp) 1 32 else 0
def madeL (L : List O) (sp : Int) (l : List Int) : List O := if placeE L 8 1 sp = 0 then (madeS L sp l).1 else L

set_option maxRecDepth 100000 in
set_option maxHeartbeats 2000000 in
theorem k_made (h : MemK w0 w m L K) (sp : Int) (lv : Value) (l : List Int) (hx : ∀ F v, K F v → IntS v (fun b => ¬ F b) lv l) (hln : L.length + 1 < 1073741823) :
    Calls Try.prog 72 #[.iface 30 (.pointer (some ⟨m, 0, none⟩)), .int .i64 sp, lv] w fun e w' => e = .returned (.tuple #[.int .i64 (madeV L sp l), .int .i64 (madeE L sp l)]) ∧ MemK w0 w' m (madeL L sp l) K := by
  have c64 := h.fetch64 8 sp
  have HX := Lib.hid hx
  have HM := Lib.hid h
  clear h hx
  obtain ⟨p, hp⟩ : ∃ p, placeE L 8 1 sp = p := ⟨_, rfl⟩
  obtain ⟨c, hc⟩ : ∃ c, fetchV L 8 sp = c := ⟨_, rfl⟩
  unfold madeV madeL madeE madeS
  rw [hp, hc]
  rw [hc] at c64
  have HP := Lib.hid (And.intro hc hp)
  clear hp hc
  by_cases hp0 : p = 0
  · subst hp0
    rw [if_pos rfl, if_pos rfl]
    have f64 : In64 (newN L c 1 32) := by unfold newN; split <;> unfold In64 <;> omega
    obtain ⟨f, hf⟩ : ∃ f, newN L c 1 32 = f := ⟨_, rfl⟩
    obtain ⟨en, hen⟩ : ∃ en, newE c 1 32 = en := ⟨_, rfl⟩
    rw [hf] at f64
    rw [hf, hen]
    have HN := Lib.hid (And.intro hf hen)
    obtain ⟨s, hs⟩ : ∃ s, setsR f 0 (newL L c 1 32) en l = s := ⟨_, rfl⟩
    obtain ⟨sL, se⟩ := s
    rw [hs]
    have HS := Lib.hid hs
    clear hf hen hs
    dsimp only
    by_cases hs0 : se = 0
    · subst hs0
      rw [if_pos rfl]
      go_enter Try.func72, Try.ntmps72
      go_wp2_with (first
        | (go_at_call 57
           refine (k_Special HM.out sp).mono ?_
           rw [HP.out.1, HP.out.2]
           rintro e w1 ⟨rfl, g1, c1⟩
           have H1 := Lib.hid g1
           clear g1 c1)
          | (go_at_call 53
             refine (k_New H1.out c 1 32 c64 (by unfold In64; omega) (by unfold In64; omega) hln).mono ?_
             rw [HN.out.1, HN.out.2]
             rintro e w2 ⟨rfl, g2⟩
             have H2 := Lib.hid g2
             clear g2)
          | (go_at_call 96
             refine (made_set H2.out lv l HX.out f en f64).mono ?_
             rw [HS.out]
             rintro e w3 ⟨rfl, g3, x3⟩
             have H3 := Lib.hid g3
             clear g3)
        | fail)
      go_ret2
      exact ⟨rfl, H3.out⟩
    · rw [if_neg hs0]
      have t0 : (se != 0) = true := by simpa using hs0
      clear hs0
      go_enter Try.func72, Try.ntmps72
      go_wp2_with (first
        | (go_at_call 57
           refine (k_Special HM.out sp).mono ?_
           rw [HP.out.1, HP.out.2]
           rintro e w1 ⟨rfl, g1, c1⟩
           have H1 := Lib.hid g1
           clear g1 c1)
          | (go_at_call 53
             refine (k_New H1.out c 1 32 c64 (by unfold In64; omega) (by unfold In64; omega) hln).mono ?_
             rw [HN.out.1, HN.out.2]
             rintro e w2 ⟨rfl, g2⟩
             have H2 := Lib.hid g2
             clear g2)
          | (go_at_call 96
             refine (made_set H2.out lv l HX.out f en f64).mono ?_
             rw [HS.out]
             rintro e w3 ⟨rfl, g3, x3⟩
             have H3 := Lib.hid g3
             clear g3)
        | fail)
      go_quiet (fail)
      go_wp2_with fail
      go_ret2
      exact ⟨rfl, H3.out.world ((Chg.refl _ _).drewN _)⟩
  · rw [if_neg hp0, if_neg hp0, if_neg hp0]
    have t0 : (p != 0) = true := by simpa using hp0
    clear hp0
    go_enter Try.func72, Try.ntmps72
    go_wp2_with (first
      | (go_at_call 57
         refine (k_Special HM.out sp).mono ?_
         rw [HP.out.1, HP.out.2]
         rintro e w1 ⟨rfl, g1, c1⟩
         have H1 := Lib.hid g1
         clear g1 c1)
        | (go_at_call 53
           refine (k_New H1.out c 1 32 c64 (by unfold In64; omega) (by unfold In64; omega) hln).mono ?_
           rw [HN.out.1, HN.out.2]
           rintro e w2 ⟨rfl, g2⟩
           have H2 := Lib.hid g2
           clear g2)
        | (go_at_call 96
           refine (made_set H2.out lv l HX.out f en f64).mono ?_
           rw [HS.out]
           rintro e w3 ⟨rfl, g3, x3⟩
           have H3 := Lib.hid g3
           clear g3)
      | fail)
    go_ret2
    exact ⟨rfl, H1.out⟩
end

end Go.Proofs.Ytjanojignaonfaa
