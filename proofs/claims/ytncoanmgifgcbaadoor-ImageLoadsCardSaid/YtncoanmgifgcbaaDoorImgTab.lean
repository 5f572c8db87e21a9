/- What the row's listed tables give: the cells of code.spans and code.stores; what an image that comes in is. -/
import Derived.Test.YtncoanmgifgcbaaDoorCards
import Derived.Test.YtncoanmgifgcbaaDoorTie
import Derived.Test.YtncoanmgifgcbaaDoorImgF
import Derived.Test.YtncoanmgifgcbaaDoorArgs
import Derived.Test.YtncoanmgifgcbaaDoorLoadA
import Derived.ProofKit
import Derived.OpenShut
import Derived.Deep.DeepHandedRow
import Derived.Lib.LaidTab
import Derived.Lib.SmallJoins
namespace Go.Proofs.YtncoanmgifgcbaaDoor
set_option linter.unusedVariables false
set_option linter.unusedSimpArgs false
open Go.ChangeShapes Go.WideShapes Go.ChangeAt Go.RowKit Go.Deep

theorem own : ownKnob Tryd.prog.godebug = none := by kernel_rfl
theorem gSpan : Tryd.prog.globalNamed "webster/code.spans" = some 1 := by kernel_rfl
theorem gStore : Tryd.prog.globalNamed "webster/code.stores" = some 2 := by kernel_rfl
theorem gSpanType : (Tryd.prog.globals[1]?).map (·.type) = some 185 := by kernel_rfl
theorem gStoreType : (Tryd.prog.globals[2]?).map (·.type) = some 187 := by kernel_rfl
theorem cellsSpans : Tryd.prog.cellsOf 185 = 24 := by kernel_rfl
theorem cellsSpan : Tryd.prog.cellsOf 184 = 3 := by kernel_rfl
theorem cellsStores : Tryd.prog.cellsOf 187 = 12 := by kernel_rfl
theorem cellsStore : Tryd.prog.cellsOf 186 = 4 := by kernel_rfl
theorem cellsInt : Tryd.prog.cellsOf 3 = 1 := by kernel_rfl

def spanData {H : Type} (z : Int × Int × Int) : DataW H := .agg [.lit (.int .i64 z.1), .lit (.int .i64 z.2.1), .lit (.int .i64 z.2.2)]
def storeRows : List (List Int) := [[1, 2, 3, 4], [5, 6, 0, 7], [8, 9, 0, 10]]
theorem span_eq : (Rows.laid_webster_code_spans : DataW Unit) = .agg (spanL.map spanData) := rfl
theorem store_eq : (Rows.laid_webster_code_stores : DataW Unit) = .agg (storeRows.map (Lib.tabData .i64)) := rfl

theorem flat_of_rows {α : Type} (k : Nat) (d : α) (f : α → List Value) (hk : ∀ x, (f x).length = k ∨ True) : ∀ (L : List α) (cs : List Value), cs.length = L.length * k → (∀ i : Nat, i < L.length → (cs.drop (i * k)).take k = f (L.getD i d)) → cs = L.flatMap f
  | [], cs, hl, _ => by
    have : cs = [] := List.eq_nil_of_length_eq_zero (by simpa using hl)
    rw [this]; rfl
  | z :: L, cs, hl, h => by
    have h0 := h 0 (by simp)
    have hr := flat_of_rows k d f hk L (cs.drop k) (by rw [List.length_drop, hl, List.length_cons, Nat.add_mul]; omega) (fun i hi => by
      have := h (i + 1) (by simp; omega)
      rw [List.drop_drop, show k + i * k = (i + 1) * k by rw [Nat.add_mul]; omega]
      simpa using this)
    rw [← List.take_append_drop k cs, List.flatMap_cons, ← hr]
    simp at h0
    rw [h0]

theorem list3 {α : Type} {cs : List α} (h : cs.length = 3) : ∃ c0 c1 c2, cs = [c0, c1, c2] := by
  match cs, h with
  | [c0, c1, c2], _ => exact ⟨_, _, _, rfl⟩
theorem span_cells {H : Type} {enc : TypeId × Value → H} {w : World} {base : Nat} {sp : Nat → Bool} {held : Bool} {fuel : Nat} {cs : List Value} {p : List MemPlace} {z : Int × Int × Int}
    (h : DataW.trod enc Tryd.prog w base sp held fuel 184 cs = some (spanData z, p)) : cs = [.int .i64 z.1, .int .i64 z.2.1, .int .i64 z.2.2] := by
  obtain ⟨y0, y1, y2, n, hx, hl, h0, h1, h2⟩ := trod_struct3 Tryd.underlying184 h
  obtain ⟨n0, g0, e0, -⟩ := DataW.trod_int Tryd.underlying3 h0
  obtain ⟨n1, g1, e1, -⟩ := DataW.trod_int Tryd.underlying3 h1
  obtain ⟨n2, g2, e2, -⟩ := DataW.trod_int Tryd.underlying3 h2
  rw [cellsSpan] at hl
  rw [cellsInt] at g0 g1 g2
  obtain ⟨c0, c1, c2, rfl⟩ := list3 hl
  have g0' : [c0] = [Value.int .i64 n0] := g0
  have g1' : [c1] = [Value.int .i64 n1] := g1
  have g2' : [c2] = [Value.int .i64 n2] := g2
  simp only [List.cons.injEq, and_true] at g0' g1' g2'
  subst g0' g1' g2' e0 e1 e2
  simp [spanData] at hx
  rw [hx.1.1, hx.1.2.1, hx.1.2.2]

theorem spans_cells {H : Type} {enc : TypeId × Value → H} {w : World} {base : Nat} {sp : Nat → Bool} {held : Bool} {fuel : Nat} {cs : List Value} {p : List MemPlace}
    (h : DataW.trod enc Tryd.prog w base sp held fuel 185 cs = some (.agg (spanL.map spanData), p)) : cs = spanL.flatMap fun z => [Value.int .i64 z.1, Value.int .i64 z.2.1, Value.int .i64 z.2.2] := by
  obtain ⟨xs, m, rfl, hx, hl, hn, hi⟩ := DataW.trod_array Tryd.underlying185 h
  rw [cellsSpans] at hl
  have hmap : xs.map (·.1) = spanL.map spanData := by
    have := congrArg Prod.fst hx
    simp only [DataW.agg.injEq] at this
    exact this.symm
  have hat : ∀ i : Nat, i < 8 → (cs.drop (i * 3)).take 3 = [Value.int .i64 (spanL.getD i (0, 0, 0)).1, Value.int .i64 (spanL.getD i (0, 0, 0)).2.1, Value.int .i64 (spanL.getD i (0, 0, 0)).2.2] := by
    intro i hi8
    have h1 := hi i hi8
    rw [cellsSpan] at h1
    have hlt : i < xs.length := by omega
    rw [List.getElem?_eq_getElem hlt] at h1
    have h2 : (xs[i]).1 = spanData (spanL.getD i (0, 0, 0)) := by
      have h3 := congrArg (·[i]?) hmap
      simp only [List.getElem?_map, List.getElem?_eq_getElem hlt, Option.map_some] at h3
      have hlt' : i < spanL.length := hi8
      rw [List.getElem?_eq_getElem hlt'] at h3
      simp only [Option.map_some, Option.some.injEq] at h3
      rw [h3, List.getD_eq_getElem?_getD, List.getElem?_eq_getElem hlt']
      rfl
    have h4 : xs[i] = (spanData (spanL.getD i (0, 0, 0)), (xs[i]).2) := Prod.ext h2 rfl
    rw [h4] at h1
    exact span_cells h1
  exact flat_of_rows 3 (0, 0, 0) _ (fun _ => .inr trivial) spanL cs hl hat
theorem stores_cells {H : Type} {enc : TypeId × Value → H} {w : World} {base : Nat} {sp : Nat → Bool} {held : Bool} {fuel : Nat} {cs : List Value} {p : List MemPlace}
    (h : DataW.trod enc Tryd.prog w base sp held fuel 187 cs = some (.agg (storeRows.map (Lib.tabData .i64)), p)) : cs = storeRows.flatMap fun z => z.map (Value.int .i64) := by
  obtain ⟨xs, m, rfl, hx, hl, hn, hi⟩ := DataW.trod_array Tryd.underlying187 h
  rw [cellsStores] at hl
  have hmap : xs.map (·.1) = storeRows.map (Lib.tabData .i64) := by
    have := congrArg Prod.fst hx
    simp only [DataW.agg.injEq] at this
    exact this.symm
  have hat : ∀ i : Nat, i < 3 → (cs.drop (i * 4)).take 4 = (storeRows.getD i []).map (Value.int .i64) := by
    intro i hi3
    have h1 := hi i hi3
    rw [cellsStore] at h1
    have hlt : i < xs.length := by omega
    rw [List.getElem?_eq_getElem hlt] at h1
    have h2 : (xs[i]).1 = Lib.tabData .i64 (storeRows.getD i []) := by
      have h3 := congrArg (·[i]?) hmap
      simp only [List.getElem?_map, List.getElem?_eq_getElem hlt, Option.map_some] at h3
      have hlt' : i < storeRows.length := hi3
      rw [List.getElem?_eq_getElem hlt'] at h3
      simp only [Option.map_some, Option.some.injEq] at h3
      rw [h3, List.getD_eq_getElem?_getD, List.getElem?_eq_getElem hlt']
      rfl
    have h4 : xs[i] = (Lib.tabData .i64 (storeRows.getD i []), (xs[i]).2) := Prod.ext h2 rfl
    rw [h4] at h1
    exact Lib.cells_of_tab Tryd.underlying186 Tryd.underlying3 cellsInt cellsStore h1
  exact flat_of_rows 4 [] _ (fun _ => .inr trivial) storeRows cs hl hat

theorem var_block {P : Program} {W : World} {n : String} {g : Nat} {cs : Array Value} (hg : P.globalNamed n = some g) (h : W.var? P n = some cs) : ∃ t fr, W.heap[g]? = some (.cells cs t fr) := by
  unfold World.var? at h
  rw [hg] at h
  simp only [Option.bind_some] at h
  split at h
  · rename_i c t fr hb
    simp only [Option.some.injEq] at h
    exact ⟨t, fr, by rw [hb, h]⟩
  · cases h
/-- WHAT THE ROW's LIST GIVES. -/
theorem tabs_of_laid {W : World} (h : laidMetH Tryd.prog [("webster/code.spans", Rows.laid_webster_code_spans), ("webster/code.stores", Rows.laid_webster_code_stores)] W) : Tabs W := by
  obtain ⟨ps, ⟨g1, t1, cs1, f1, p1, q1, hg1, ht1, hv1, hd1, ⟨g2, t2, cs2, f2, p2, q2, hg2, ht2, hv2, hd2, _, _⟩, _⟩, _⟩ := h
  obtain rfl := Option.some.inj (gSpan.symm.trans hg1)
  obtain rfl := Option.some.inj (gSpanType.symm.trans ht1)
  obtain rfl := Option.some.inj (gStore.symm.trans hg2)
  obtain rfl := Option.some.inj (gStoreType.symm.trans ht2)
  rw [span_eq] at hd1
  rw [store_eq] at hd2
  have e1 : cs1 = spanCells := by
    apply Array.toList_inj.1
    rw [spans_cells hd1]
    rfl
  have e2 : cs2 = storeCells := by
    apply Array.toList_inj.1
    rw [stores_cells hd2]
    rfl
  subst e1 e2
  exact ⟨var_block gSpan hv1, var_block gStore hv2⟩

/-- a table laid at a variable -/
def layAt (g : Nat) (cs : Array Value) (h : Array Obj) : Array Obj := h.modify g fun
  | .cells _ t frozen => .cells cs t frozen
  | o => o
/-- A WORLD FOR THE WITNESS: the settled one, the tables holding what their initialisers lay. -/
noncomputable def laidWorld (os : Os) : World :=
  { World.holding Tryd.prog os ⟨#[], #[], []⟩ with heap := layAt 2 storeCells (layAt 1 spanCells (World.holding Tryd.prog os ⟨#[], #[], []⟩).heap) }

set_option maxRecDepth 100000 in
/-- a slice of objects that reads -/
theorem open_objs_slice {H : Type} {enc : TypeId × Value → H} {W : World} {v : Value} {d : DataW H} {ps : List MemPlace} (hv : ∃ a len cap, v = .slice a len cap) (h : DataW.Trod enc Tryd.prog W 0 (fun _ => true) true 22 v d ps) :
    ∃ L, RefL W (fun _ => True) v L ∧ L.length ≤ maxLen := by
  rcases open_four Tryd.underlying22 Tryd.underlying41 (by kernel_rfl) (by kernel_rfl) hv h with rfl | ⟨a, len, cap, rfl, hl, hm, hi⟩
  · exact ⟨[], ⟨[], rfl, Slc.nil _ _ _, by simp⟩, by simp⟩
  · have key : ∀ i, ∃ t : T3, i < len → okT W (fun _ => True) t ∧ ∀ j u, (cells2 t.1 t.2.1 t.2.2)[j]? = some u → W.cell? (a.add (i * 4 + j)) = some u := by
      intro i
      by_cases hil : i < len
      · obtain ⟨c0, c1, c2, c3, n, y0, y1, y2, y3, ⟨e0, e1, e2, e3⟩, h0, h1, h2, h3⟩ := hi i hil
        obtain ⟨n0, g0, _, w0⟩ := DataW.trod_int Tryd.underlying3 h0
        obtain ⟨n1, g1, _, w1⟩ := DataW.trod_int Tryd.underlying3 h1
        obtain ⟨u2, l2, g2, s2, w2⟩ := open_intcells Tryd.underlying36 Tryd.underlying3 (by kernel_rfl) h2
        obtain ⟨u3, l3, g3, s3, w3⟩ := open_intcells Tryd.underlying39 Tryd.underlying5 (by kernel_rfl) h3
        obtain rfl : c0 = .int .i64 n0 := by simpa using g0
        obtain rfl : c1 = .int .i64 n1 := by simpa using g1
        obtain rfl : c2 = u2 := by simpa using g2
        obtain rfl : c3 = u3 := by simpa using g3
        refine ⟨(⟨n0, n1, l2, l3⟩, c2, c3), fun _ => ⟨⟨⟨s2, fun x hx => bounds_wf64 (w2 x hx)⟩, ⟨s3, fun x hx => bounds_u8 (w3 x hx)⟩, bounds_wf64 w0, bounds_wf64 w1⟩, fun j u hu => ?_⟩⟩
        match j, hu with
        | 0, hu => simp [cells2] at hu; subst hu; exact e0
        | 1, hu => simp [cells2] at hu; subst hu; exact e1
        | 2, hu => simp [cells2] at hu; subst hu; exact e2
        | 3, hu => simp [cells2] at hu; subst hu; exact e3
        | j + 4, hu => simp [cells2] at hu
      · exact ⟨(O.zero, undef, undef), fun h => absurd h hil⟩
    obtain ⟨f, hf⟩ := Classical.axiomOfChoice key
    have hs := slc_of_four hl hm f (fun t : T3 => cells2 t.1 t.2.1 t.2.2) (fun _ => rfl) (fun i hil => (hf i hil).2)
    refine ⟨((List.range len).map f).map (·.1), ⟨(List.range len).map f, rfl, by simpa [cellsT] using hs, fun t ht => ?_⟩, by simp; omega⟩
    simp only [List.mem_map, List.mem_range] at ht
    obtain ⟨i, hil, rfl⟩ := ht
    exact (hf i hil).1

set_option maxRecDepth 100000 in
/-- an image that comes in -/
theorem open_image_arg {H : Type} {enc : TypeId × Value → H} {W : World} {v : Value} {d : DataW H} {ps : List MemPlace} {base : Nat} (hv : Value.okWide Tryd.prog W .any base 24 v) (h : DataW.Trod enc Tryd.prog W 0 (fun _ => true) true 24 v d ps) :
    ∃ lv T f, v = .agg #[lv, .int .i64 f] ∧ RefT W (fun _ => True) lv T ∧ T.length ≤ maxLen ∧ In64 f := by
  obtain ⟨v0, v1, y0, y1, n, rfl, -, -, h0, h1⟩ := Go.Joins.open_agg2 Tryd.underlying24 (by kernel_rfl) (by kernel_rfl) hv h
  obtain ⟨f, g1, -, w1⟩ := DataW.trod_int Tryd.underlying3 h1
  obtain rfl : v1 = .int .i64 f := by simpa using g1
  obtain ⟨a, l, c, hs⟩ := Go.Joins.slice_form Tryd.underlying22 h0
  obtain rfl : v0 = .slice a l c := by simpa using hs
  obtain ⟨L, hL, hm⟩ := open_objs_slice (v := .slice a l c) ⟨a, l, c, rfl⟩ ⟨n, h0⟩
  obtain ⟨T, rfl, hT⟩ := hL.toT
  exact ⟨_, T, f, rfl, hT, by simpa using hm, bounds_wf64 w1⟩

set_option maxRecDepth 100000 in
/-- a slice of bytes that comes in -/
theorem open_bytes_arg {H : Type} {enc : TypeId × Value → H} {W : World} {v : Value} {d : DataW H} {ps : List MemPlace} {base : Nat} (hv : Value.okWide Tryd.prog W .any base 39 v) (h : DataW.Trod enc Tryd.prog W 0 (fun _ => true) true 39 v d ps) :
    ∃ l, ByteS W (fun _ => True) v l ∧ l.length ≤ maxLen := by
  obtain ⟨a, len, cap, rfl⟩ := okWide_slice Tryd.underlying39 hv
  obtain ⟨fuel, hf⟩ := h
  obtain ⟨u, l, hu, hs, hw⟩ := open_intcells Tryd.underlying39 Tryd.underlying5 (by kernel_rfl) hf
  simp [Value.cells] at hu
  subst hu
  refine ⟨l, ⟨hs, fun x hx => bounds_u8 (hw x hx)⟩, ?_⟩
  obtain ⟨A, c, e, _, h1, h2, _⟩ := hs
  omega

end Go.Proofs.YtncoanmgifgcbaaDoor
