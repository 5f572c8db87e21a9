/- Classes and methods over a flat memory: Special, ClassOf, Shape, Read, Header (package kit). · Methods over a flat memory: right, Header, Read (package kit); the document's header. -/
import Derived.Test.YtncoanmgifgcbaaDoorFlatN
import Derived.Test.YtncoanmgifgcbaaDoorMath
namespace Go.Proofs.YtncoanmgifgcbaaDoor
set_option linter.unusedVariables false
set_option linter.unusedSimpArgs false
open Go.RowKit

section
variable {w0 w w' : World} {m : Nat} {L L' : List O} {K : (Nat → Prop) → World → Prop} {F F' : Nat → Prop}
set_option maxRecDepth 100000 in
set_option maxHeartbeats 1000000 in
theorem k_Special (h : MemK w0 w m L K) (i : Int) :
    Calls Tryd.prog 76 #[.iface 27 (.pointer (some ⟨m, 0, none⟩)), .int .i64 i] w fun e w' => e = .returned (.tuple #[.int .i64 (fetchV L 8 i), .int .i64 (placeE L 8 1 i)]) ∧ MemK w0 w' m L K ∧ Chg No w w' := by
  have H := Lib.hid h
  clear h
  have h8 : In64 8 := by unfold In64; omega
  go_enter Tryd.func76, Tryd.ntmps76
  go_wp2_with (go_at_call 21; refine (k_FetchC H.out 8 i h8).mono ?_; rintro e w1 ⟨rfl, g1, c1⟩)
  go_ret2
  exact ⟨rfl, g1, c1⟩
end

def classV (L : List O) (o : Int) : Int := if numOk o = true then fetchV L 8 0 else (objV L o).cls
def classE (L : List O) (o : Int) : Int := if numOk o = true then placeE L 8 1 0 else objE L o

section
variable {w0 w w' : World} {m : Nat} {L L' : List O} {K : (Nat → Prop) → World → Prop} {F F' : Nat → Prop}
set_option maxRecDepth 100000 in
set_option maxHeartbeats 1000000 in
theorem k_ClassOf (h : MemK w0 w m L K) (o : Int) (ho : In64 o) :
    Calls Tryd.prog 84 #[.iface 27 (.pointer (some ⟨m, 0, none⟩)), .int .i64 o] w fun e w' => e = .returned (.tuple #[.int .i64 (classV L o), .int .i64 (classE L o)]) ∧ MemK w0 w' m L K ∧ Chg No w w' := by
  have H := Lib.hid h
  clear h
  have HN := fun w => Number_any o ho.1 ho.2 w
  cases hn : numOk o
  · rw [hn] at HN
    have e1 : classV L o = (objV L o).cls := by simp [classV, hn]
    have e2 : classE L o = objE L o := by simp [classE, hn]
    rw [e1, e2]
    clear e1 e2 hn
    go_enter Tryd.func84, Tryd.ntmps84
    go_wp2_with (first
      | (go_at_call 35; refine (HN _).mono ?_; rintro e w' ⟨rfl, rfl⟩)
      | (go_at_call 110; refine (k_Class H.out o ho).mono ?_; rintro e w1 ⟨rfl, g1, c1⟩))
    go_ret2
    exact ⟨rfl, g1, c1⟩
  · rw [hn] at HN
    have e1 : classV L o = fetchV L 8 0 := by simp [classV, hn]
    have e2 : classE L o = placeE L 8 1 0 := by simp [classE, hn]
    rw [e1, e2]
    clear e1 e2 hn
    go_enter Tryd.func84, Tryd.ntmps84
    go_wp2_with (first
      | (go_at_call 35; refine (HN _).mono ?_; rintro e w' ⟨rfl, rfl⟩)
      | (go_at_call 76; refine (k_Special H.out 0).mono ?_; rintro e w1 ⟨rfl, g1, c1⟩))
    go_ret2
    exact ⟨rfl, g1, c1⟩
end

/-! Shape -/
/-- what a class's third word tells -/
def shapeBad (f : Int) : Bool := !numOk f || decide (numV f < 0) || decide (numV f % 4 = 0) || decide (numV f % 4 = 3) || (decide (numV f % 4 = 2) && decide (0 < numV f / 4 % 256))
structure SH where
  k : Int
  n : Int
  m : Bool
  e : Int
def shapeOf (L : List O) (c : Int) : SH :=
  if placeE L c 1 2 ≠ 0 then ⟨0, 0, false, placeE L c 1 2⟩
  else if shapeBad (fetchV L c 2) = true then ⟨0, 0, false, 2⟩
  else ⟨numV (fetchV L c 2) % 4, numV (fetchV L c 2) / 4 % 256, (numV (fetchV L c 2) / 1024 % 2 == 1), 0⟩
theorem fetch64 {L : List O} (hok : ∀ i, (ob L i).kind ≠ 0 → (ob L i).ok) (o i : Int) : In64 (fetchV L o i) := by
  unfold fetchV
  cases hf : fnd L o with
  | none => simp only []; unfold In64; omega
  | some j =>
    simp only []
    split
    · rename_i hc
      have hj := hok j (fnd_some hf).2.1
      have hlt : i.toNat < (ob L j).W.length := by omega
      rw [List.getElem?_eq_getElem hlt]
      exact ref64 (hj.2.2.2.2.1 _ (List.getElem_mem hlt))
    · unfold In64; omega

section
variable {w0 w w' : World} {m : Nat} {L L' : List O} {K : (Nat → Prop) → World → Prop} {F F' : Nat → Prop}
set_option maxRecDepth 100000 in
set_option maxHeartbeats 2000000 in
theorem k_Shape (h : MemK w0 w m L K) (c : Int) (hc : In64 c) :
    Calls Tryd.prog 108 #[.iface 27 (.pointer (some ⟨m, 0, none⟩)), .int .i64 c] w fun e w' => e = .returned (.tuple #[.int .i64 (shapeOf L c).k, .int .i64 (shapeOf L c).n, .bool (shapeOf L c).m, .int .i64 (shapeOf L c).e]) ∧ MemK w0 w' m L K ∧ Chg No w w' := by
  have H := Lib.hid h
  have h64 := fetch64 (fun i hk => h.okAt hk) c 2
  clear h
  obtain ⟨p, hp⟩ : ∃ p, placeE L c 1 2 = p := ⟨_, rfl⟩
  obtain ⟨f, hf⟩ : ∃ f, fetchV L c 2 = f := ⟨_, rfl⟩
  rw [hf] at h64
  have HPF := Lib.hid (And.intro hp hf)
  by_cases hp0 : p = 0
  · subst hp0
    have HN := fun w => Number_any f h64.1 h64.2 w
    have hnb := numV_bd f
    cases hn : numOk f
    · have hs : shapeOf L c = ⟨0, 0, false, 2⟩ := by unfold shapeOf; rw [hp, hf, if_neg (by simp), if_pos (by simp [shapeBad, hn])]
      rw [hs]
      rw [hn] at HN
      clear hp hf hs
      generalize numV f = N at *
      go_enter Tryd.func108, Tryd.ntmps108
      go_wp2_with (first
        | (go_at_call 21; refine (k_FetchC H.out c 2 hc).mono ?_; rw [HPF.out.1, HPF.out.2]; rintro e w1 ⟨rfl, g1, c1⟩)
        | (go_at_call 35; refine (HN _).mono ?_; rintro e w' ⟨rfl, rfl⟩))
      refine bodyPost_ret (v := .tuple #[.int .i64 0, .int .i64 0, .bool false, .int .i64 2]) (by simp [results, Tryd.results108, go_sem]) rfl ⟨rfl, g1, c1⟩
    · rw [hn] at HN
      have a1 := and_3 (numV f)
      have a2 := and_255 (numV f / 4)
      have a3 := and_one (numV f / 1024)
      have hbad : shapeBad f = (decide (numV f < 0) || decide (numV f % 4 = 0) || decide (numV f % 4 = 3) || (decide (numV f % 4 = 2) && decide (0 < numV f / 4 % 256))) := by simp [shapeBad, hn]
      have hs : shapeOf L c = if shapeBad f = true then ⟨0, 0, false, 2⟩ else ⟨numV f % 4, numV f / 4 % 256, (numV f / 1024 % 2 == 1), 0⟩ := by unfold shapeOf; rw [hp, hf, if_neg (by simp)]
      rw [hbad] at hs
      clear hp hf hn hbad
      generalize numV f = N at *
      have hq0 : 0 ≤ N / 4 % 256 := Int.emod_nonneg _ (by decide)
      generalize hq : N / 4 % 256 = q at *
      generalize hr : N / 1024 % 2 = r at *
      have hk4 : N % 4 = 0 ∨ N % 4 = 1 ∨ N % 4 = 2 ∨ N % 4 = 3 := by omega
      clear hq hr
      by_cases h0 : N < 0
      · have t1 : decide (N < 0) = true := decide_eq_true h0
        rw [if_pos (by simp [h0])] at hs
        rw [hs]
        clear hs hk4
        go_enter Tryd.func108, Tryd.ntmps108
        go_wp2_with (first
          | (go_at_call 21; refine (k_FetchC H.out c 2 hc).mono ?_; rw [HPF.out.1, HPF.out.2]; rintro e w1 ⟨rfl, g1, c1⟩)
          | (go_at_call 35; refine (HN _).mono ?_; rintro e w' ⟨rfl, rfl⟩))
        refine bodyPost_ret (v := .tuple #[.int .i64 0, .int .i64 0, .bool false, .int .i64 2]) (by simp [results, Tryd.results108, go_sem]) rfl ⟨rfl, g1, c1⟩
      · have t1 : decide (N < 0) = false := decide_eq_false h0
        rcases hk4 with hk | hk | hk | hk
        · rw [if_pos (by simp [hk])] at hs
          rw [hk] at a1
          rw [hs]
          clear hs hk
          go_enter Tryd.func108, Tryd.ntmps108
          go_wp2_with (first
            | (go_at_call 21; refine (k_FetchC H.out c 2 hc).mono ?_; rw [HPF.out.1, HPF.out.2]; rintro e w1 ⟨rfl, g1, c1⟩)
            | (go_at_call 35; refine (HN _).mono ?_; rintro e w' ⟨rfl, rfl⟩))
          refine bodyPost_ret (v := .tuple #[.int .i64 0, .int .i64 0, .bool false, .int .i64 2]) (by simp [results, Tryd.results108, go_sem]) rfl ⟨rfl, g1, c1⟩
        · rw [if_neg (by simp [hk, h0]), hk] at hs
          rw [hk] at a1
          rw [hs]
          clear hs hk
          go_enter Tryd.func108, Tryd.ntmps108
          go_wp2_with (first
            | (go_at_call 21; refine (k_FetchC H.out c 2 hc).mono ?_; rw [HPF.out.1, HPF.out.2]; rintro e w1 ⟨rfl, g1, c1⟩)
            | (go_at_call 35; refine (HN _).mono ?_; rintro e w' ⟨rfl, rfl⟩))
          refine bodyPost_ret (v := .tuple #[.int .i64 1, .int .i64 q, .bool (r == 1), .int .i64 0]) (by simp [results, Tryd.results108, go_sem]) rfl ⟨rfl, g1, c1⟩
        · rw [hk] at a1
          by_cases hq : 0 < q
          · have t2 : decide (0 < q) = true := decide_eq_true hq
            rw [if_pos (by simp [hk, hq])] at hs
            rw [hs]
            clear hs hk
            go_enter Tryd.func108, Tryd.ntmps108
            go_wp2_with (first
              | (go_at_call 21; refine (k_FetchC H.out c 2 hc).mono ?_; rw [HPF.out.1, HPF.out.2]; rintro e w1 ⟨rfl, g1, c1⟩)
              | (go_at_call 35; refine (HN _).mono ?_; rintro e w' ⟨rfl, rfl⟩))
            refine bodyPost_ret (v := .tuple #[.int .i64 0, .int .i64 0, .bool false, .int .i64 2]) (by simp [results, Tryd.results108, go_sem]) rfl ⟨rfl, g1, c1⟩
          · have t2 : decide (0 < q) = false := decide_eq_false hq
            rw [if_neg (by simp [hk, hq, h0]), hk] at hs
            rw [hs]
            clear hs hk
            go_enter Tryd.func108, Tryd.ntmps108
            go_wp2_with (first
              | (go_at_call 21; refine (k_FetchC H.out c 2 hc).mono ?_; rw [HPF.out.1, HPF.out.2]; rintro e w1 ⟨rfl, g1, c1⟩)
              | (go_at_call 35; refine (HN _).mono ?_; rintro e w' ⟨rfl, rfl⟩))
            refine bodyPost_ret (v := .tuple #[.int .i64 2, .int .i64 q, .bool (r == 1), .int .i64 0]) (by simp [results, Tryd.results108, go_sem]) rfl ⟨rfl, g1, c1⟩
        · rw [if_pos (by simp [hk])] at hs
          rw [hk] at a1
          rw [hs]
          clear hs hk
          go_enter Tryd.func108, Tryd.ntmps108
          go_wp2_with (first
            | (go_at_call 21; refine (k_FetchC H.out c 2 hc).mono ?_; rw [HPF.out.1, HPF.out.2]; rintro e w1 ⟨rfl, g1, c1⟩)
            | (go_at_call 35; refine (HN _).mono ?_; rintro e w' ⟨rfl, rfl⟩))
          refine bodyPost_ret (v := .tuple #[.int .i64 0, .int .i64 0, .bool false, .int .i64 2]) (by simp [results, Tryd.results108, go_sem]) rfl ⟨rfl, g1, c1⟩
  · have hs : shapeOf L c = ⟨0, 0, false, p⟩ := by unfold shapeOf; rw [hp, if_pos hp0]
    have t0 : (p != 0) = true := by simpa using hp0
    rw [hs]
    clear hp hf hs hp0
    go_enter Tryd.func108, Tryd.ntmps108
    go_wp2_with (go_at_call 21; refine (k_FetchC H.out c 2 hc).mono ?_; rw [HPF.out.1, HPF.out.2]; rintro e w1 ⟨rfl, g1, c1⟩)
    refine bodyPost_ret (v := .tuple #[.int .i64 0, .int .i64 0, .bool false, .int .i64 p]) (by simp [results, Tryd.results108, go_sem]) rfl ⟨rfl, g1, c1⟩
end

def rightB (a t p : Int) : Bool := decide (0 ≤ a) && decide (a < 16) && decide (a ≤ t) && decide (t ≤ 20) && decide (0 ≤ p) && decide (p < 1024)
def headV (a t p : Int) : Int := if rightB a t p = true then 2 * (a + 16 * t + 512 * p) + 1 else 0
def headE (a t p : Int) : Int := if rightB a t p = true then 0 else 2

set_option maxRecDepth 100000 in
set_option maxHeartbeats 1000000 in
theorem right_any (a t p c l : Int) (w : World) : Calls Tryd.prog 91 #[.agg #[.int .i64 a, .int .i64 t, .int .i64 p, .int .i64 c, .int .i64 l]] w fun e w' => e = .returned (.bool (rightB a t p)) ∧ Chg No w w' := by
  unfold rightB
  cases h1 : decide (0 ≤ a)
  · simp only [Bool.false_and]
    go_enter Tryd.func91, Tryd.ntmps91
    go_wp2_with fail
    go_ret
    exact ⟨rfl, (by repeat (with_reducible first | exact Chg.refl _ _ | refine Chg.drew ?_ | refine Chg.alloc ?_ _))⟩
  cases h2 : decide (a < 16)
  · simp only [Bool.false_and, Bool.and_false]
    go_enter Tryd.func91, Tryd.ntmps91
    go_wp2_with fail
    go_ret
    exact ⟨rfl, (by repeat (with_reducible first | exact Chg.refl _ _ | refine Chg.drew ?_ | refine Chg.alloc ?_ _))⟩
  cases h3 : decide (a ≤ t)
  · simp only [Bool.false_and, Bool.and_false]
    go_enter Tryd.func91, Tryd.ntmps91
    go_wp2_with fail
    go_ret
    exact ⟨rfl, (by repeat (with_reducible first | exact Chg.refl _ _ | refine Chg.drew ?_ | refine Chg.alloc ?_ _))⟩
  cases h4 : decide (t ≤ 20)
  · simp only [Bool.false_and, Bool.and_false]
    go_enter Tryd.func91, Tryd.ntmps91
    go_wp2_with fail
    go_ret
    exact ⟨rfl, (by repeat (with_reducible first | exact Chg.refl _ _ | refine Chg.drew ?_ | refine Chg.alloc ?_ _))⟩
  cases h5 : decide (0 ≤ p)
  · simp only [Bool.false_and, Bool.and_false]
    go_enter Tryd.func91, Tryd.ntmps91
    go_wp2_with fail
    go_ret
    exact ⟨rfl, (by repeat (with_reducible first | exact Chg.refl _ _ | refine Chg.drew ?_ | refine Chg.alloc ?_ _))⟩
  cases h6 : decide (p < 1024)
  · simp only [Bool.and_false]
    go_enter Tryd.func91, Tryd.ntmps91
    go_wp2_with fail
    go_ret
    exact ⟨rfl, (by repeat (with_reducible first | exact Chg.refl _ _ | refine Chg.drew ?_ | refine Chg.alloc ?_ _))⟩
  simp only [Bool.true_and]
  go_enter Tryd.func91, Tryd.ntmps91
  go_wp2_with fail
  go_ret
  exact ⟨rfl, (by repeat (with_reducible first | exact Chg.refl _ _ | refine Chg.drew ?_ | refine Chg.alloc ?_ _))⟩

end Go.Proofs.YtncoanmgifgcbaaDoor
