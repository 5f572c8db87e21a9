/- Places of objects, plainly: what prim's behind, at, get, put tell; and of a list of five. No walk here. -/
import Derived.Test.YtncoanmgifgcbaaDoorKitE
namespace Go.Proofs.YtncoanmgifgcbaaDoor
set_option linter.unusedVariables false
set_option linter.unusedSimpArgs false
open Go.RowKit

def behE (L : List O) (o : Int) : Int := if objE L o ≠ 0 then objE L o else if (shapeOf L (objV L o).cls).e ≠ 0 then (shapeOf L (objV L o).cls).e else if szO (objV L o) < (shapeOf L (objV L o).cls).n then 2 else 0
def behF (L : List O) (o : Int) : Int := if objE L o ≠ 0 then 0 else (shapeOf L (objV L o).cls).n
def behN (L : List O) (o : Int) : Int := if objE L o ≠ 0 then 0 else szO (objV L o) - (shapeOf L (objV L o).cls).n
def behK (L : List O) (o : Int) : Int := if objE L o ≠ 0 then 0 else (objV L o).kind
def plV (L : List O) (o i : Int) : Int := behF L o + numV i - 1
def plE (L : List O) (o i : Int) : Int := if behE L o ≠ 0 then behE L o else if numOk i = false ∨ numV i < 1 ∨ behN L o < numV i then 21 else 0
def getV' (L : List O) (o i : Int) : Int := if plE L o i ≠ 0 then 0 else if behK L o = 1 then fetchV L o (plV L o i) else if placeE L o 2 (plV L o i) ≠ 0 then 0 else smallV (byteV L o (plV L o i))
def getE' (L : List O) (o i : Int) : Int := if plE L o i ≠ 0 then plE L o i else if behK L o = 1 then placeE L o 1 (plV L o i) else if placeE L o 2 (plV L o i) ≠ 0 then placeE L o 2 (plV L o i) else smallE (byteV L o (plV L o i))
def putV' (L : List O) (o i v : Int) : Int := if plE L o i ≠ 0 then 0 else if behK L o = 1 then v else if numOk v = false then 0 else v
def putE' (L : List O) (o i v : Int) : Int := if plE L o i ≠ 0 then plE L o i else if behK L o = 1 then setE L o (plV L o i) v else if numOk v = false then 2 else sbyteE L o (plV L o i) (numV v)
def putL' (L : List O) (o i v : Int) : List O := if plE L o i ≠ 0 then L else if behK L o = 1 then setL L o (plV L o i) v else if numOk v = false then L else sbyteL L o (plV L o i) (numV v)

/-! the list of PrimPlaces -/
def Lp : List O := [⟨2, 1, [], []⟩, ⟨2, 1, [], []⟩, ⟨2, 1, [], []⟩, ⟨2, 1, [], []⟩, ⟨2, 1, [2, 2, 2075], []⟩]
def Lq (W : List Int) : List O := Lp ++ [⟨10, 1, W, []⟩]
theorem num_odd {i : Int} (h1 : 0 ≤ i) (h2 : i ≤ 1000) : numOk (2 * i + 1) = true ∧ numV (2 * i + 1) = i := by
  unfold numOk numV
  refine ⟨decide_eq_true (by omega), ?_⟩
  rw [if_pos (by omega)]
  omega
theorem shape_2075 {L : List O} (e1 : placeE L 10 1 2 = 0) (e2 : fetchV L 10 2 = 2075) : shapeOf L 10 = ⟨1, 3, true, 0⟩ := by
  have hb : shapeBad 2075 = false := by decide
  have hv : numV 2075 = 1037 := by decide
  unfold shapeOf
  rw [e1, e2, hb, hv, if_neg (by simp), if_neg (by simp)]
  rfl
theorem Lp_shape : shapeOf Lp 10 = ⟨1, 3, true, 0⟩ := shape_2075 (by decide) (by decide)
theorem Lq_fnd10 (W : List Int) : fnd (Lq W) 10 = some 4 := by
  unfold fnd
  rw [if_pos ⟨by decide, by simp [ob, Lq, Lp]⟩]
  rfl
theorem Lq_fnd12 (W : List Int) : fnd (Lq W) 12 = some 5 := by
  unfold fnd
  rw [if_pos ⟨by decide, by simp [ob, Lq, Lp]⟩]
  rfl
theorem Lq_ob4 (W : List Int) : ob (Lq W) 4 = ⟨2, 1, [2, 2, 2075], []⟩ := by simp [ob, Lq, Lp]
theorem Lq_ob5 (W : List Int) : ob (Lq W) 5 = ⟨10, 1, W, []⟩ := by simp [ob, Lq, Lp]
theorem Lq_shape (W : List Int) : shapeOf (Lq W) 10 = ⟨1, 3, true, 0⟩ := by
  have e1 : placeE (Lq W) 10 1 2 = 0 := by unfold placeE; rw [Lq_fnd10]; simp only [Lq_ob4]; simp [szO]
  have e2 : fetchV (Lq W) 10 2 = 2075 := by unfold fetchV; rw [Lq_fnd10]; simp only [Lq_ob4]; simp
  exact shape_2075 e1 e2
theorem ins_places {n : Int} (h1 : 0 ≤ n) (h2 : n ≤ 255) : insN Lp 10 [n] = 12 ∧ insE Lp 10 [n] = 0 ∧ insL Lp 10 [n] = Lq (List.replicate (3 + n).toNat 2) := by
  have hb : insBad Lp 10 [n] = false := by
    unfold insBad
    rw [Lp_shape]
    simp [badB]
    omega
  have ho : insOk Lp 10 [n] = true := by unfold insOk; rw [Lp_shape, hb]; rfl
  have hbl : blankOk 10 1 (3 + n) = true := by unfold blankOk; simp [namedOk]; omega
  refine ⟨?_, ?_, ?_⟩
  · unfold insN
    rw [if_pos ho, Lp_shape]
    simp only [List.sum_cons, List.sum_nil, Int.add_zero]
    unfold newN
    rw [if_pos hbl]
    rfl
  · unfold insE
    rw [Lp_shape, hb]
    simp only [List.sum_cons, List.sum_nil, Int.add_zero]
    unfold newE
    simp [hbl]
  · unfold insL
    rw [if_pos ho, Lp_shape]
    simp only [List.sum_cons, List.sum_nil, Int.add_zero]
    unfold newL
    rw [if_pos hbl]
    rfl
section
variable {W : List Int} {n i v : Int}
theorem beh_places (hW : (W.length : Int) = 3 + n) (h0 : 0 ≤ n) : behE (Lq W) 12 = 0 ∧ behF (Lq W) 12 = 3 ∧ behN (Lq W) 12 = n ∧ behK (Lq W) 12 = 1 := by
  have e1 : objE (Lq W) 12 = 0 := by unfold objE; rw [Lq_fnd12]
  have e2 : objV (Lq W) 12 = ⟨10, 1, W, []⟩ := by unfold objV; rw [Lq_fnd12]; exact Lq_ob5 W
  have e3 : szO ⟨10, 1, W, []⟩ = 3 + n := by simp [szO, hW]
  unfold behE behF behN behK
  rw [e1, e2, e3]
  simp only [Lq_shape]
  refine ⟨?_, ?_, ?_, ?_⟩ <;> simp <;> omega
theorem at_places (hW : (W.length : Int) = 3 + n) (h0 : 0 ≤ n) (hi : 0 ≤ i) (hi2 : i ≤ 255) : plE (Lq W) 12 (2 * i + 1) = (if 1 ≤ i ∧ i ≤ n then 0 else 21) ∧ plV (Lq W) 12 (2 * i + 1) = 2 + i := by
  obtain ⟨b1, b2, b3, -⟩ := beh_places hW h0
  obtain ⟨n1, n2⟩ := num_odd hi (by omega)
  unfold plE plV
  rw [b1, b2, b3, n1, n2]
  refine ⟨?_, by omega⟩
  by_cases h : 1 ≤ i ∧ i ≤ n
  · rw [if_pos h, if_neg (by simp), if_neg (by simp; omega)]
  · rw [if_neg h, if_neg (by simp), if_pos (by simp; omega)]
theorem set_places (hW : (W.length : Int) = 3 + n) (h1 : 1 ≤ i) (h2 : i ≤ n) (hv : refOk v = true) : setE (Lq W) 12 (2 + i) v = 0 ∧ setL (Lq W) 12 (2 + i) v = Lq (W.set (2 + i).toNat v) ∧ fetchV (Lq (W.set (2 + i).toNat v)) 12 (2 + i) = v ∧ placeE (Lq (W.set (2 + i).toNat v)) 12 1 (2 + i) = 0 := by
  have hp : ∀ X : List Int, (X.length : Int) = 3 + n → placeE (Lq X) 12 1 (2 + i) = 0 := fun X hX => by
    unfold placeE
    rw [Lq_fnd12]
    simp only [Lq_ob5]
    rw [if_pos trivial, if_pos ⟨by omega, by simp [szO, hX]; omega⟩]
  have he : setE (Lq W) 12 (2 + i) v = 0 := by unfold setE; rw [if_pos (hp W hW), if_pos hv]
  have hlen : ((W.set (2 + i).toNat v).length : Int) = 3 + n := by rw [List.length_set]; exact hW
  refine ⟨he, ?_, ?_, hp _ hlen⟩
  · unfold setL
    rw [Lq_fnd12]
    simp only []
    rw [if_pos he, Lq_ob5]
    rfl
  · unfold fetchV
    rw [Lq_fnd12]
    simp only [Lq_ob5]
    rw [if_pos ⟨trivial, by omega, by omega⟩, List.getElem?_set_self (by omega)]
    rfl
end

end Go.Proofs.YtncoanmgifgcbaaDoor
