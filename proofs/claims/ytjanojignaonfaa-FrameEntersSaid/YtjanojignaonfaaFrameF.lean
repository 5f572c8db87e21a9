/- A block's frame over a flat memory: Block (package frame). -/
import Derived.Test.YtjanojignaonfaaFrameE
namespace Go.Proofs.Ytjanojignaonfaa
set_option linter.unusedVariables false
set_option linter.unusedSimpArgs false
open Go.RowKit

def firstE : List Int → Int
  | [] => 0
  | x :: r => if x = 0 then firstE r else x
def blockEs (L : List O) (f a s : Int) : List Int := [(homeR L f).2, smallE a, smallE s, placeE L (homeR L f).1 1 3, placeE L (homeR L f).1 1 4]
def blockW (L : List O) (f a s : Int) : List Int := [2, smallV s, 1, fetchV L (homeR L f).1 3, fetchV L (homeR L f).1 4, (homeR L f).1, smallV a, smallV s]
def blockE (L : List O) (f a s : Int) : Int := if firstE (blockEs L f a s) = 0 then madeE L 3 (blockW L f a s) else firstE (blockEs L f a s)
def blockV (L : List O) (f a s : Int) : Int := if firstE (blockEs L f a s) = 0 then madeV L 3 (blockW L f a s) else 0
def blockL (L : List O) (f a s : Int) : List O := if firstE (blockEs L f a s) = 0 then madeL L 3 (blockW L f a s) else L

section
variable {w0 w w' : World} {m : Nat} {L L' : List O} {K : (Nat → Prop) → World → Prop} {F F' : Nat → Prop}
set_option maxRecDepth 100000 in
set_option maxHeartbeats 2000000 in
theorem k_Block (h : MemK w0 w m L K) (f a s : Int) (hf : In64 f) (ha : In64 a) (hs : In64 s) (hln : L.length + 1 < 1073741823) :
    Calls Try.prog 37 #[.iface 30 (.pointer (some ⟨m, 0, none⟩)), .int .i64 f, .int .i64 a, .int .i64 s] w fun e w' => e = .returned (.tuple #[.int .i64 (blockV L f a s), .int .i64 (blockE L f a s)]) ∧ MemK w0 w' m (blockL L f a s) K := by
  have hh64 := home64 h hf
  have h3 := h.fetch64 (homeR L f).1 3
  have h4 := h.fetch64 (homeR L f).1 4
  have HA := fun w => Small_any a ha.1 ha.2 w
  have HS := fun w => Small_any s hs.1 hs.2 w
  have va := smallV64 a
  have vs := smallV64 s
  have HM := Lib.hid h
  clear h
  unfold blockV blockE blockL blockEs blockW
  obtain ⟨r, hr⟩ : ∃ r, homeR L f = r := ⟨_, rfl⟩
  obtain ⟨hm, e1⟩ := r
  rw [hr] at hh64 h3 h4 ⊢
  have HH := Lib.hid hr
  clear hr
  dsimp only at hh64 h3 h4 ⊢
  obtain ⟨x3, e3⟩ : ∃ x, fetchV L hm 3 = x := ⟨_, rfl⟩
  obtain ⟨x4, e4⟩ : ∃ x, fetchV L hm 4 = x := ⟨_, rfl⟩
  obtain ⟨p3, e5⟩ : ∃ x, placeE L hm 1 3 = x := ⟨_, rfl⟩
  obtain ⟨p4, e6⟩ : ∃ x, placeE L hm 1 4 = x := ⟨_, rfl⟩
  rw [e3] at h3
  rw [e4] at h4
  rw [e3, e4, e5, e6]
  have H34 := Lib.hid (And.intro e3 (And.intro e4 (And.intro e5 e6)))
  clear e3 e4 e5 e6
  generalize smallV a = av at *
  generalize smallE a = ae at *
  generalize smallV s = sv at *
  generalize smallE s = se at *
  have tok : True := trivial
  have tok2 : True := trivial
  obtain ⟨r, hr⟩ : ∃ r, firstE [e1, ae, se, p3, p4] = r := ⟨_, rfl⟩
  rw [hr]
  have HR := Lib.hid hr
  clear hr
  go_enter Try.func37, Try.ntmps37
  go_wp2_with (first
    | (go_at_call 38
       refine (k_Home HM.out f hf).mono ?_
       rw [HH.out]
       rintro e w1 ⟨rfl, g1, -⟩
       have H1 := Lib.hid g1
       clear g1)
    | (go_at_call 52
       have _t := tok
       clear tok
       refine (HA _).mono ?_
       rintro e w' ⟨rfl, rfl⟩)
    | (go_at_call 52
       refine (HS _).mono ?_
       rintro e w' ⟨rfl, rfl⟩)
    | (go_at_call 33
       have _t2 := tok2
       clear tok2
       refine (k_FetchC H1.out hm 3 hh64).mono ?_
       rw [H34.out.1, H34.out.2.2.1]
       rintro e w2 ⟨rfl, g2, -⟩
       have H2 := Lib.hid g2
       clear g2)
    | (go_at_call 33
       refine (k_FetchC H2.out hm 4 hh64).mono ?_
       rw [H34.out.2.1, H34.out.2.2.2]
       rintro e w3 ⟨rfl, g3, -⟩
       have H3 := Lib.hid g3
       clear g3)
    | fail)
  have rW := Row.new w3 24 #[.int .i64 e1, .int .i64 ae, .int .i64 se, .int .i64 p3, .int .i64 p4]
  have gW : MemK w0 (w3.alloc (.cells #[.int .i64 e1, .int .i64 ae, .int .i64 se, .int .i64 p3, .int .i64 p4] 24)) m L K := H3.out.world ((Chg.refl _ _).alloc _)
  generalize w3.alloc (.cells #[.int .i64 e1, .int .i64 ae, .int .i64 se, .int .i64 p3, .int .i64 p4] 24) = W at *
  have HW := Lib.hid (And.intro gW rW)
  clear gW rW H1 H2 H3
  go_loopg [57] 5 (fun j v57 wr => ∃ i : Nat, v57 = .int .i64 (i : Int) ∧ 5 - i ≤ j ∧ i ≤ 5 ∧ wr = W ∧ firstE ([e1, ae, se, p3, p4].drop i) = r)
  case atStart => exact ⟨0, rfl, by omega, by omega, rfl, HR.out⟩
  case round =>
    clear HR
    obtain ⟨i, rfl, hj, hi, rfl, hp⟩ := hrel
    by_cases hlt : i < 5
    · have t1 : decide ((i : Int) < 5) = true := decide_eq_true (by omega)
      have l1 : (i : Int) < 5 := by omega
      obtain ⟨v, hv⟩ : ∃ v, [e1, ae, se, p3, p4][i]? = some v := ⟨_, List.getElem?_eq_getElem (by simpa using hlt)⟩
      have hv2 : (#[Value.int .i64 e1, .int .i64 ae, .int .i64 se, .int .i64 p3, .int .i64 p4] : Array Value)[i]? = some (.int .i64 v) := by
        have h5 : i = 0 ∨ i = 1 ∨ i = 2 ∨ i = 3 ∨ i = 4 := by omega
        rcases h5 with rfl | rfl | rfl | rfl | rfl <;> simp at hv ⊢ <;> exact hv
      have x1 := (HW.out.2.cell i).trans hv2
      have hd : [e1, ae, se, p3, p4].drop i = v :: [e1, ae, se, p3, p4].drop (i + 1) := by
        rw [List.drop_eq_getElem_cons (by simpa using hlt)]
        rw [List.getElem?_eq_getElem (by simpa using hlt)] at hv
        rw [Option.some.inj hv]
      rw [hd, firstE] at hp
      clear hv hv2 hd
      by_cases hv0 : v = 0
      · subst hv0
        rw [if_pos rfl] at hp
        have HPP := Lib.hid hp
        clear hp
        go_wp2_with fail
        go_roundg (5 - (i + 1))
        case measure => omega
        case rel => exact ⟨i + 1, by go_num, by omega, by omega, rfl, HPP.out⟩
      · rw [if_neg hv0] at hp
        obtain rfl := hp
        have t2 : (v != 0) = true := by simpa using hv0
        go_wp2_with fail
        go_ret2
        exact ⟨rfl, HW.out.1⟩
    · have t1 : decide ((i : Int) < 5) = false := decide_eq_false (by omega)
      rw [List.drop_eq_nil_of_le (by simp; omega), firstE] at hp
      obtain rfl := hp
      go_wp2_with (first
        | (go_at_call 72
           refine (k_made (HW.out.1.fresh8 3 _ rfl 2 sv 1 x3 x4 hm av sv in2 vs in1 h3 h4 hh64 va vs) 3 _ _ (fun F v hk => hk.2) hln).mono ?_
           rintro e w4 ⟨rfl, g4⟩
           have H4 := Lib.hid (g4.mono fun F v hk => hk.1)
           clear g4)
        | fail)
      go_ret2
      exact ⟨rfl, H4.out⟩
end

end Go.Proofs.Ytjanojignaonfaa
