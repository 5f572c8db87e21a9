/- A collection as the document does it: what is seen grows till it grows no more. Plain. -/
import Derived.Test.YtmpfpfemjpmbaaaCol2
import Derived.Test.YtmpfpfemjpmbaaaRef10h
namespace Go.Proofs.Ytmpfpfemjpmbaaa
set_option linter.unusedVariables false
set_option linter.unusedSimpArgs false
open Go.RowKit

def sn (V : List Bool) (k : Nat) : Bool := V[k]?.getD false
theorem sn_set (V : List Bool) (k j : Nat) (hk : k < V.length) : sn (V.set k true) j = (decide (j = k) || sn V j) := by
  unfold sn
  rw [List.getElem?_set]
  by_cases h : k = j
  · subst h; simp [hk]
  · rw [if_neg h]
    have : ¬ j = k := fun e => h e.symm
    simp [this]
def cntF (V : List Bool) : Nat := (V.filter fun b => !b).length
theorem cntF_set : ∀ (V : List Bool) (k : Nat), k < V.length → sn V k = false → cntF (V.set k true) + 1 = cntF V
  | [], _, h, _ => by simp at h
  | b :: V, 0, _, h => by
    have : b = false := by simpa [sn] using h
    subst this
    simp [cntF]
  | b :: V, k + 1, hk, h => by
    have ih := cntF_set V k (by simpa using hk) (by simpa [sn] using h)
    unfold cntF at ih ⊢
    rw [List.set_cons_succ]
    cases b <;> simp at ih ⊢ <;> omega

structure SInv (L : List O) (R : List Int) (V : List Bool) : Prop where
  len : V.length = L.length + 1
  snd : ∀ k : Nat, sn V (k + 1) = true → Reach L R ((k : Int) + 1)
/-- what the object at place k names is seen -/
def ClosAt (L : List O) (V : List Bool) (k : Nat) : Prop := sn V (k + 1) = true → ∀ j ∈ refsO (ob L k), live L j → sn V j.toNat = true
theorem SInv.start (L : List O) (R : List Int) : SInv L R (List.replicate (L.length + 1) false) := ⟨by simp, fun k h => by
  have : sn (List.replicate (L.length + 1) false) (k + 1) = false := by
    unfold sn
    rw [List.getElem?_replicate]
    split <;> rfl
  rw [this] at h; cases h⟩
theorem SInv.mark {L : List O} {R : List Int} {V : List Bool} (h : SInv L R V) {k : Nat} (hk : Reach L R ((k : Int) + 1)) : SInv L R (V.set (k + 1) true) := ⟨by rw [List.length_set]; exact h.len, fun j hj => by
  have hl : k < L.length := by
    have := ob_lt hk.there.2
    rwa [show ((k : Int) + 1 - 1).toNat = k by omega] at this
  rw [sn_set _ _ _ (by rw [h.len]; omega)] at hj
  by_cases e : j = k
  · subst e; exact hk
  · exact h.snd j (by simpa [e] using hj)⟩
theorem SInv.zero {L : List O} {R : List Int} {V : List Bool} (h : SInv L R V) : SInv L R (V.set 0 true) := ⟨by rw [List.length_set]; exact h.len, fun j hj => by
  rw [sn_set _ _ _ (by rw [h.len]; omega)] at hj
  exact h.snd j (by simpa using hj)⟩
theorem sn_mono (V : List Bool) (k j : Nat) (h : sn V j = true) : sn (V.set k true) j = true := by
  rcases Nat.lt_or_ge k V.length with hk | hk
  · rw [sn_set _ _ _ hk, h]; simp
  · rw [List.set_eq_of_length_le hk]; exact h
/-- all is seen that one comes to -/
theorem SInv.done {L : List O} {R : List Int} {V : List Bool} (h : SInv L R V) (hR : ∀ r ∈ R, live L r → sn V r.toNat = true) (hc : ∀ k, k < L.length → ClosAt L V k) (k : Nat) : Reach L R ((k : Int) + 1) ↔ sn V (k + 1) = true := by
  constructor
  · intro hr
    have key : ∀ x : Int, Reach L R x → sn V x.toNat = true := fun x hx => by
      induction hx with
      | root h1 h2 => exact hR _ h1 h2
      | @step j x h1 h2 h3 ih =>
        have hj := h1.there
        have h4 := hc (j - 1).toNat (ob_lt hj.2)
        refine h4 ?_ x h2 h3
        have := hj.1
        rw [show (j - 1).toNat + 1 = j.toNat by omega]
        exact ih
    have := key _ hr
    rwa [show ((k : Int) + 1).toNat = k + 1 by omega] at this
  · exact h.snd k
theorem find_live {L : List O} {x : Int} (h1 : 1 ≤ x) (h2 : x ≤ 1073741823) : (live L x ∧ findN L (2 * x) = x) ∨ (¬ live L x ∧ findN L (2 * x) = 0) := by
  have hn : namedOk (2 * x) = true := by simp [namedOk]; omega
  rw [findN_yes hn rfl, show (2 * x / 2 - 1).toNat = (x - 1).toNat by omega]
  by_cases hk : (ob L (x - 1).toNat).kind = 0
  · rw [if_pos hk]; exact .inr ⟨fun h => h.2 hk, rfl⟩
  · rw [if_neg hk]; exact .inl ⟨⟨h1, hk⟩, by omega⟩
theorem find_root {L : List O} {o : Int} : (live L (namedV o) ∧ findN L o = namedV o) ∨ (¬ live L (namedV o) ∧ findN L o = 0) := by
  cases hn : namedOk o
  · rw [namedV_no hn, findN_no hn]
    exact .inr ⟨fun h => by have := h.1; omega, rfl⟩
  · have h := namedV_of hn
    rw [findN_yes hn rfl, h.1]
    by_cases hk : (ob L (o / 2 - 1).toNat).kind = 0
    · rw [if_pos hk]; exact .inr ⟨fun h => h.2 hk, rfl⟩
    · rw [if_neg hk]; exact .inl ⟨⟨h.2.1, hk⟩, by have := h.2.1; omega⟩
theorem live_lt {L : List O} {x : Int} (h : live L x) : ∃ k : Nat, x = (k : Int) + 1 ∧ k < L.length := ⟨(x - 1).toNat, by have := h.1; omega, ob_lt h.2⟩
/-- a root is marked -/
theorem SInv.root {L : List O} {R : List Int} {V : List Bool} (h : SInv L R V) {o : Int} (ho : namedV o ∈ R) : SInv L R (V.set (findN L o).toNat true) ∧ (live L (namedV o) → sn (V.set (findN L o).toNat true) (namedV o).toNat = true) ∧ 0 ≤ findN L o ∧ findN L o ≤ L.length := by
  rcases find_root (L := L) (o := o) with ⟨h1, h2⟩ | ⟨h1, h2⟩
  · obtain ⟨k, hk, hl⟩ := live_lt h1
    rw [h2, hk, show ((k : Int) + 1).toNat = k + 1 by omega]
    refine ⟨h.mark (hk ▸ .root ho h1), fun _ => ?_, by omega, by omega⟩
    rw [sn_set _ _ _ (by rw [h.len]; omega)]
    simp
  · rw [h2]
    exact ⟨h.zero, fun h => absurd h h1, by omega, by omega⟩
theorem filter_split {α : Type} (p q : α → Bool) (h : ∀ x, q x = true → p x = true) : ∀ l : List α, (l.filter p).length = (l.filter q).length + (l.filter fun x => p x && !q x).length
  | [] => rfl
  | x :: l => by
    have ih := filter_split p q h l
    have hx := h x
    cases hp : p x <;> cases hq : q x <;> simp [hp, hq, List.filter_cons] at hx ih ⊢ <;> omega
/-- how many are not seen among the first i places -/
def dead (L : List O) (V : List Bool) (i : Nat) : Nat := ((List.range i).filter fun k => (ob L k).kind != 0 && !sn V (k + 1)).length
theorem dead_succ (L : List O) (V : List Bool) (i : Nat) : dead L V (i + 1) = dead L V i + if ((ob L i).kind != 0 && !sn V (i + 1)) = true then 1 else 0 := by
  unfold dead
  rw [List.range_succ, List.filter_append, List.length_append]
  cases h : ((ob L i).kind != 0 && !sn V (i + 1)) <;> simp [h]
theorem dead_le (L : List O) (V : List Bool) (i : Nat) : dead L V i ≤ i := Nat.le_trans (List.length_filter_le _ _) (by simp)
theorem dead_all {L : List O} {R : List Int} {V : List Bool} (h : ∀ k : Nat, Reach L R ((k : Int) + 1) ↔ sn V (k + 1) = true) : (liveN L : Int) - liveN (colL L R) = dead L V L.length := by
  have e : liveN (colL L R) = ((List.range L.length).filter fun k => sn V (k + 1)).length := by
    unfold liveN
    rw [colL_len]
    congr 1
    refine List.filter_congr fun k _ => ?_
    by_cases hr : Reach L R ((k : Int) + 1)
    · rw [ob_col_yes hr, (h k).1 hr]
      have := hr.there.2
      rw [show ((k : Int) + 1 - 1).toNat = k by omega] at this
      simpa using this
    · rw [ob_col_no hr]
      have : sn V (k + 1) = false := by
        cases hs : sn V (k + 1)
        · rfl
        · exact absurd ((h k).2 hs) hr
      rw [this]; rfl
  have := filter_split (fun k => (ob L k).kind != 0) (fun k => sn V (k + 1)) (fun k hk => by
    have hr := (h k).2 hk
    have := hr.there.2
    rw [show ((k : Int) + 1 - 1).toNat = k by omega] at this
    simpa using this) (List.range L.length)
  rw [e]
  unfold liveN dead
  omega
/-- the object at a place behind the collection -/
theorem ob_colV {L : List O} {R : List Int} {V : List Bool} (h : ∀ k : Nat, Reach L R ((k : Int) + 1) ↔ sn V (k + 1) = true) (hg : ∀ i, (ob L i).kind = 0 → ob L i = O.zero) (i : Nat) : ob (colL L R) i = if ((ob L i).kind != 0 && !sn V (i + 1)) = true then O.zero else ob L i := by
  by_cases hr : Reach L R ((i : Int) + 1)
  · rw [ob_col_yes hr, (h i).1 hr]
    simp
  · rw [ob_col_no hr]
    have : sn V (i + 1) = false := by
      cases hs : sn V (i + 1)
      · rfl
      · exact absurd ((h i).2 hs) hr
    rw [this]
    by_cases hk : (ob L i).kind = 0
    · rw [hg i hk]; simp [O.zero]
    · have : ((ob L i).kind != 0) = true := by simpa using hk
      simp [this]

end Go.Proofs.Ytmpfpfemjpmbaaa
