/- The last object of a list: what is set in it, and fetched. -/
import Derived.Test.YtjanojignaonfaaFrameP
import Derived.Test.YtjanojignaonfaaFrameF
namespace Go.Proofs.Ytjanojignaonfaa
set_option linter.unusedVariables false
set_option linter.unusedSimpArgs false
open Go.RowKit

section
variable {L : List O} {x : O}
theorem fndQ (hk : x.kind ≠ 0) (hl : L.length < 1073741823) : fnd (L ++ [x]) (2 * ((L.length : Int) + 1)) = some L.length := by
  have e : (2 * ((L.length : Int) + 1) / 2 - 1).toNat = L.length := by omega
  have e2 : ob (L ++ [x]) L.length = x := by unfold ob; simp
  unfold fnd
  rw [e, e2, if_pos ⟨by simp [namedOk]; omega, hk⟩]
theorem obQ : ob (L ++ [x]) L.length = x := by unfold ob; simp
theorem placeQ (hk : x.kind = 1) (hl : L.length < 1073741823) {i : Int} (hi : 0 ≤ i ∧ i < x.W.length) : placeE (L ++ [x]) (2 * ((L.length : Int) + 1)) 1 i = 0 := by
  unfold placeE
  rw [fndQ (by omega) hl]
  simp only [obQ]
  rw [if_pos hk, if_pos ⟨hi.1, by unfold szO; rw [if_pos hk]; exact hi.2⟩]
theorem fetchQ (hk : x.kind = 1) (hl : L.length < 1073741823) {i : Int} (hi : 0 ≤ i ∧ i < x.W.length) : fetchV (L ++ [x]) (2 * ((L.length : Int) + 1)) i = x.W[i.toNat]?.getD 0 := by
  unfold fetchV
  rw [fndQ (by omega) hl]
  simp only [obQ]
  rw [if_pos ⟨hk, hi.1, hi.2⟩]
theorem setQ (hk : x.kind = 1) (hl : L.length < 1073741823) {i v : Int} (hi : 0 ≤ i ∧ i < x.W.length) (hv : refOk v = true) :
    setE (L ++ [x]) (2 * ((L.length : Int) + 1)) i v = 0 ∧ setL (L ++ [x]) (2 * ((L.length : Int) + 1)) i v = L ++ [{ x with W := x.W.set i.toNat v }] := by
  obtain ⟨j, h1, h2, h3, h4, h5, h6, h7⟩ := set_ok (placeQ hk hl hi) hv
  rw [fndQ (by omega) hl] at h1
  obtain rfl := Option.some.inj h1
  refine ⟨h6, ?_⟩
  rw [h7, obQ, List.set_append_right _ _ (Nat.le_refl _), Nat.sub_self]
  rfl
def setMany : List Int → Nat → List Int → List Int
  | W, _, [] => W
  | W, i, v :: r => setMany (W.set i v) (i + 1) r
theorem setsQ (hl : L.length < 1073741823) : ∀ (l : List Int) (i : Nat) (x : O), x.kind = 1 → (∀ v ∈ l, refOk v = true) → i + l.length ≤ x.W.length →
    setsR (2 * ((L.length : Int) + 1)) (i : Int) (L ++ [x]) 0 l = (L ++ [{ x with W := setMany x.W i l }], 0)
  | [], i, x, _, _, _ => rfl
  | v :: r, i, x, hk, hr, hi => by
    simp only [List.length_cons] at hi
    obtain ⟨h1, h2⟩ := setQ hk hl (i := (i : Int)) (v := v) ⟨by omega, by omega⟩ (hr v (by simp))
    rw [setsR, if_pos rfl, h1, h2, show (i : Int) + 1 = ((i + 1 : Nat) : Int) by omega]
    rw [setsQ hl r (i + 1) _ (by exact hk) (fun u hu => hr u (by simp [hu])) (by simp; omega)]
    simp [setMany]
/-- a frame that is made -/
theorem madeQ {c : Int} (l : List Int) {sp : Int} (hp : placeE L 8 1 sp = 0) (hc : fetchV L 8 sp = c) (hn : namedOk c = true) (hl : L.length < 1073741823) (h32 : l.length ≤ 32) (hr : ∀ v ∈ l, refOk v = true) :
    madeE L sp l = 0 ∧ madeV L sp l = 2 * ((L.length : Int) + 1) ∧ madeL L sp l = L ++ [⟨c, 1, setMany (List.replicate 32 2) 0 l, []⟩] := by
  have hb : blankOk c 1 32 = true := by simp [blankOk, hn]
  have hnew : newO c 1 32 = ⟨c, 1, List.replicate 32 2, []⟩ := by simp [newO]
  have hs : madeS L sp l = (L ++ [⟨c, 1, setMany (List.replicate 32 2) 0 l, []⟩], 0) := by
    unfold madeS
    rw [hc, newN, newL, newE, if_pos hb, if_pos hb, if_pos hb, hnew]
    exact setsQ hl l 0 _ rfl hr (by simpa using h32)
  have hE : madeE L sp l = 0 := by unfold madeE; rw [if_pos hp, hs]
  refine ⟨hE, ?_, ?_⟩
  · unfold madeV
    rw [if_pos hE, hc, newN, if_pos hb]
  · unfold madeL
    rw [if_pos hp, hs]
end

end Go.Proofs.Ytjanojignaonfaa
