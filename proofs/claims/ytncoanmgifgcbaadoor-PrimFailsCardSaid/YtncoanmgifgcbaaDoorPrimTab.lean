/- What the row's listed table gives: the cells of prim.counts. -/
import Derived.Test.YtncoanmgifgcbaaDoorCards
import Derived.Test.YtncoanmgifgcbaaDoorTie
import Derived.Test.YtncoanmgifgcbaaDoorPrimK
import Derived.ProofKit
import Derived.OpenShut
import Derived.Deep.DeepHandedRow
import Derived.Lib.LaidTab
namespace Go.Proofs.YtncoanmgifgcbaaDoor
set_option linter.unusedVariables false
set_option linter.unusedSimpArgs false
open Go.ChangeShapes Go.WideShapes Go.ChangeAt Go.RowKit

theorem own : ownKnob Tryd.prog.godebug = none := by kernel_rfl
theorem gTab : Tryd.prog.globalNamed "webster/prim.counts" = some 0 := by kernel_rfl
theorem gTabType : (Tryd.prog.globals[0]?).map (·.type) = some 91 := by kernel_rfl
theorem cellsTab : Tryd.prog.cellsOf 91 = 58 := by kernel_rfl
theorem cellsPair : Tryd.prog.cellsOf 90 = 2 := by kernel_rfl
theorem cellsInt : Tryd.prog.cellsOf 3 = 1 := by kernel_rfl

def pairData {H : Type} (z : Int × Int) : DataW H := .agg [.lit (.int .i64 z.1), .lit (.int .i64 z.2)]
theorem laid_eq : (Rows.laid_webster_prim_counts : DataW Unit) = .agg (tabL.map pairData) := rfl

theorem flat_of_pairs (f : Int × Int → List Value) : ∀ (L : List (Int × Int)) (cs : List Value), cs.length = L.length * 2 → (∀ i : Nat, i < L.length → (cs.drop (i * 2)).take 2 = f (L.getD i (0, 0))) → cs = L.flatMap f
  | [], cs, hl, _ => by
    have : cs = [] := List.eq_nil_of_length_eq_zero (by simpa using hl)
    rw [this]; rfl
  | z :: L, cs, hl, h => by
    have h0 := h 0 (by simp)
    have hr := flat_of_pairs f L (cs.drop 2) (by simp at hl ⊢; omega) (fun i hi => by
      have := h (i + 1) (by simp; omega)
      rw [List.drop_drop, show 2 + i * 2 = (i + 1) * 2 by omega]
      simpa using this)
    rw [← List.take_append_drop 2 cs, List.flatMap_cons, ← hr]
    simp at h0
    rw [h0]

theorem cells_of_pairs {H : Type} {enc : TypeId × Value → H} {w : World} {base : Nat} {sp : Nat → Bool} {held : Bool} {fuel : Nat} {cs : List Value} {p : List MemPlace}
    (h : DataW.trod enc Tryd.prog w base sp held fuel 91 cs = some (.agg (tabL.map pairData), p)) : cs = tabL.flatMap fun z => [Value.int .i64 z.1, Value.int .i64 z.2] := by
  obtain ⟨xs, m, rfl, hx, hl, hn, hi⟩ := DataW.trod_array Tryd.underlying91 h
  rw [cellsTab] at hl
  have hmap : xs.map (·.1) = tabL.map pairData := by
    have := congrArg Prod.fst hx
    simp only [DataW.agg.injEq] at this
    exact this.symm
  have hat : ∀ i : Nat, i < 29 → (cs.drop (i * 2)).take 2 = [Value.int .i64 (tabL.getD i (0, 0)).1, Value.int .i64 (tabL.getD i (0, 0)).2] := by
    intro i hi29
    have h1 := hi i hi29
    rw [cellsPair] at h1
    have hlt : i < xs.length := by omega
    rw [List.getElem?_eq_getElem hlt] at h1
    have h2 : (xs[i]).1 = pairData (tabL.getD i (0, 0)) := by
      have h3 := congrArg (·[i]?) hmap
      simp only [List.getElem?_map, List.getElem?_eq_getElem hlt, Option.map_some] at h3
      have hlt' : i < tabL.length := hi29
      rw [List.getElem?_eq_getElem hlt'] at h3
      simp only [Option.map_some, Option.some.injEq] at h3
      rw [h3, List.getD_eq_getElem?_getD, List.getElem?_eq_getElem hlt']
      rfl
    have h4 : xs[i] = (Lib.tabData .i64 [(tabL.getD i (0, 0)).1, (tabL.getD i (0, 0)).2], (xs[i]).2) := Prod.ext h2 rfl
    rw [h4] at h1
    exact Lib.cells_of_tab Tryd.underlying90 Tryd.underlying3 cellsInt cellsPair h1
  exact flat_of_pairs _ tabL cs hl hat

/-- WHAT THE ROW's LIST GIVES. -/
theorem tab_of_laid {W : World} (h : laidMetH Tryd.prog [("webster/prim.counts", Rows.laid_webster_prim_counts)] W) : Tab W := by
  obtain ⟨ps, ⟨g', t', cs, fuel, p, q, hg', ht', hvar, hd, _, _⟩, _⟩ := h
  obtain rfl := Option.some.inj (gTab.symm.trans hg')
  obtain rfl := Option.some.inj (gTabType.symm.trans ht')
  rw [laid_eq] at hd
  have hc := cells_of_pairs hd
  have hcs : cs = tabCells := by
    apply Array.toList_inj.1
    rw [hc]
    rfl
  unfold World.var? at hvar
  rw [gTab] at hvar
  simp only [Option.bind_some] at hvar
  split at hvar
  · rename_i c t fr hb
    simp only [Option.some.injEq] at hvar
    exact ⟨t, fr, by rw [hb, hvar, hcs]⟩
  · cases hvar

/-- A WORLD FOR THE WITNESS: the settled one, the table holding what its initialiser lays. -/
noncomputable def laidWorld (os : Os) : World :=
  { World.holding Tryd.prog os ⟨#[], #[], []⟩ with heap := (World.holding Tryd.prog os ⟨#[], #[], []⟩).heap.modify 0 fun
      | .cells _ t frozen => .cells tabCells t frozen
      | o => o }

end Go.Proofs.YtncoanmgifgcbaaDoor
