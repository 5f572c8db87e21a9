/- What comes in: slices of numbers, of objects, of things with four numbers; and that it reads again behind a call that turns nothing old. -/
import Derived.Test.YtncoanmgifgcbaaDoorFlatRep
import Derived.Test.YtncoanmgifgcbaaDoorRef10
import Derived.WideKeyArgs
import Derived.Carry
import Derived.Deep.Slices
import Derived.Deep.Fields
import Derived.Lib.SmallJoins
import Derived.ChangeSlices
import Derived.OpenShut
namespace Go.Proofs.YtncoanmgifgcbaaDoor
set_option linter.unusedVariables false
set_option linter.unusedSimpArgs false
open Go.RowKit Go.ChangeShapes Go.WideShapes Go.Deep

theorem args_again {H : Type} {enc : TypeId × Value → H} {P : Program} {W W' : World} (hl : laidOutB P = true) (hb : Below W.heap.size W W') : ∀ {ts : List TypeId} {vs : List Value} {ds : List (DataW H)} {ps : List MemPlace},
    (∀ t ∈ ts, P.readableRec t = true ∧ t < P.types.size) → DataW.TrodAll enc P W 0 (fun _ => true) true ts vs ds ps → (∀ x ∈ ps, x.block < W.heap.size) → ∀ sp : Nat → Bool, (∀ p ∈ ps, sp p.block = true) → DataW.TrodAll enc P W' 0 sp true ts vs ds ps
  | [], [], [], _, _, h, _, _, _ => h
  | t :: _, _ :: _, _ :: _, _, ht, ⟨p, q, h1, h2, e⟩, hlt, sp, hs =>
    ⟨p, q, WideElems.Trod_stays hl (ht t (List.mem_cons.2 (Or.inl rfl))).1 (ht t (List.mem_cons.2 (Or.inl rfl))).2 h1 (fun x hx => hb.same (hlt x (by rw [e]; exact List.mem_append_left _ hx))) (fun x hx => hs x (by rw [e]; exact List.mem_append_left _ hx)),
      args_again hl hb (fun t h => ht t (List.mem_cons.2 (Or.inr h))) h2 (fun x hx => hlt x (by rw [e]; exact List.mem_append_right _ hx)) sp (fun x hx => hs x (by rw [e]; exact List.mem_append_right _ hx)), e⟩

section
variable {H : Type} {enc : TypeId × Value → H} {P : Program} {W : World} {v : Value} {d : DataW H} {ps : List MemPlace}

theorem lt_of_cell {w : World} {a : Addr} {u : Value} (h : w.cell? a = some u) : a.block < w.heap.size ∧ a.spot = none := by
  unfold World.cell? at h
  cases hb : w.heap[a.block]? with
  | none => simp [hb] at h
  | some o =>
    refine ⟨lt_of_block hb, ?_⟩
    cases o <;> simp [hb] at h
    exact h.1

/-- a slice of integers reads as a list (by its cells alone) -/
theorem open_intcells {t e : TypeId} {k : IntKind} {fuel : Nat} {cs : List Value} {x : DataW H × List MemPlace} (ht : P.underlying t = some (.slice e)) (he : P.underlying e = some (.int k)) (hc : P.cellsOf e = 1)
    (h : DataW.trod enc P W 0 (fun _ => true) true fuel t cs = some x) : ∃ (v : Value) (l : List Int), cs = [v] ∧ Slc W (fun _ => True) 1 v l.length (l.map (.int k)) ∧ ∀ n ∈ l, (Lit.int k n).wf = true := by
  rcases open_ints ht he hc h with ⟨rfl, _⟩ | ⟨a, len, cap, zs, rfl, _, hl, hm, hz, _, hcell, hwf⟩
  · exact ⟨_, [], rfl, Slc.nil _ _ _, by simp⟩
  · simp only [if_true] at hz
    have hlt : (zs.take len).length = len := by simp; omega
    refine ⟨_, zs.take len, rfl, ⟨some a, cap, by rw [hlt], by simp, by rw [hlt]; exact hl, hm, (fun h => by cases h), fun hn => ?_⟩, fun n hn => hwf n (List.mem_of_mem_take hn)⟩
    rw [hlt] at hn
    have h0 := hcell 0 (by omega)
    obtain ⟨b, off, sp⟩ := a
    have hs : sp = none := (lt_of_cell (by simpa [Addr.add] using h0)).2
    subst hs
    refine ⟨b, off, rfl, trivial, (lt_of_cell (by simpa [Addr.add] using h0)).1, fun i u hu => ?_⟩
    have hi : i < len := by
      have := (List.getElem?_eq_some_iff.1 hu).1
      simp at this; omega
    have h1 := hcell i (by omega)
    rw [Addr.add_lit] at h1
    rw [h1]
    rw [List.getElem?_map, List.getElem?_take_of_lt hi] at hu
    rw [← hu, List.getD_eq_getElem?_getD, List.getElem?_eq_getElem (show i < zs.length by omega)]
    rfl

/-- a slice of structs of four cells: each element's cells, with their readings -/
theorem open_four {t e : TypeId} {f0 f1 f2 f3 : Field} (ht : P.underlying t = some (.slice e)) (he : P.underlying e = some (.struct #[f0, f1, f2, f3])) (hone : oneCellFields P #[f0, f1, f2, f3] = true) (hC : P.cellsOf e = 4)
    (hv : ∃ a len cap, v = .slice a len cap) (h : DataW.Trod enc P W 0 (fun _ => true) true t v d ps) :
    v = .slice none 0 0 ∨ ∃ a len cap, v = .slice (some a) len cap ∧ len ≤ cap ∧ cap ≤ maxLen ∧ ∀ i, i < len → ∃ c0 c1 c2 c3 n y0 y1 y2 y3,
      (W.cell? (a.add (i * 4)) = some c0 ∧ W.cell? (a.add (i * 4 + 1)) = some c1 ∧ W.cell? (a.add (i * 4 + 2)) = some c2 ∧ W.cell? (a.add (i * 4 + 3)) = some c3) ∧
      DataW.trod enc P W 0 (fun _ => true) true n f0.type [c0] = some y0 ∧ DataW.trod enc P W 0 (fun _ => true) true n f1.type [c1] = some y1 ∧ DataW.trod enc P W 0 (fun _ => true) true n f2.type [c2] = some y2 ∧ DataW.trod enc P W 0 (fun _ => true) true n f3.type [c3] = some y3 := by
  obtain ⟨fuel, hf⟩ := h
  obtain ⟨a0, len0, cap0, rfl⟩ := hv
  rcases Go.Deep.open_slice ht hf with ⟨hcs, _⟩ | ⟨a, len, cap, m, n, D, Pl, hcs, _, hl, hm, hmm, _, hi⟩
  · simp [Value.cells] at hcs
    obtain ⟨rfl, rfl, rfl⟩ := hcs
    exact .inl rfl
  · simp [Value.cells] at hcs
    obtain ⟨rfl, rfl, rfl⟩ := hcs
    simp only [if_true] at hmm
    refine .inr ⟨a, _, _, rfl, hl, hm, fun i hil => ?_⟩
    obtain ⟨cs', hc, ht'⟩ := hi i (by omega)
    rw [hC] at hc
    obtain ⟨_, hcl, hat⟩ := World.cells?_some hc
    obtain ⟨c0, c1, c2, c3, rfl⟩ : ∃ c0 c1 c2 c3, cs' = [c0, c1, c2, c3] := by
      match cs', hcl with
      | [c0, c1, c2, c3], _ => exact ⟨c0, c1, c2, c3, rfl⟩
    obtain ⟨y0, y1, y2, y3, n', _, _, h0, h1, h2, h3⟩ := Go.Joins.trod_struct4 he ht'
    have o0 := Go.Deep.hone_of hone 0 f0 rfl
    have o1 := Go.Deep.hone_of hone 1 f1 rfl
    have o2 := Go.Deep.hone_of hone 2 f2 rfl
    have o3 := Go.Deep.hone_of hone 3 f3 rfl
    rw [o0.1, o0.2] at h0
    rw [o1.1, o1.2] at h1
    rw [o2.1, o2.2] at h2
    rw [o3.1, o3.2] at h3
    refine ⟨c0, c1, c2, c3, n', y0, y1, y2, y3, ⟨?_, ?_, ?_, ?_⟩, h0, h1, h2, h3⟩
    · simpa [Go.Deep.add_add] using hat 0 (by omega)
    · simpa [Go.Deep.add_add] using hat 1 (by omega)
    · simpa [Go.Deep.add_add] using hat 2 (by omega)
    · simpa [Go.Deep.add_add] using hat 3 (by omega)
end

/-- from the elements to the row -/
theorem slc_of_four {W : World} {a : Addr} {len cap : Nat} (hl : len ≤ cap) (hm : cap ≤ maxLen) {α : Type} (f : Nat → α) (g : α → Array Value) (hg : ∀ x, (g x).size = 4)
    (h : ∀ i, i < len → ∀ j u, (g (f i))[j]? = some u → W.cell? (a.add (i * 4 + j)) = some u) : Slc W (fun _ => True) 4 (.slice (some a) len cap) len (((List.range len).map f).flatMap fun x => (g x).toList) := by
  have hlen : ∀ (T : List α), (T.flatMap fun x => (g x).toList).length = T.length * 4 := by
    intro T
    induction T with
    | nil => rfl
    | cons t T ih => simp only [List.flatMap_cons, List.length_append, ih, Array.length_toList, hg, List.length_cons]; omega
  have hat : ∀ (T : List α) (i : Nat) (t : α), T[i]? = some t → ∀ j, j < 4 → (T.flatMap fun x => (g x).toList)[4 * i + j]? = (g t)[j]? := by
    intro T
    induction T with
    | nil => intro i t h; simp at h
    | cons x T ih =>
      intro i t h j hj
      have hx : (g x).toList.length = 4 := by simp [hg]
      cases i with
      | zero =>
        simp at h
        subst h
        rw [List.flatMap_cons, List.getElem?_append_left (by omega)]
        simp
      | succ i =>
        rw [List.flatMap_cons, List.getElem?_append_right (by omega), hx, show 4 * (i + 1) + j - 4 = 4 * i + j by omega]
        exact ih i t (by simpa using h) j hj
  refine ⟨some a, cap, rfl, by rw [hlen]; simp, hl, hm, (fun h => by cases h), fun hn => ?_⟩
  have h00 := h 0 hn 0 ((g (f 0))[0]'(by rw [hg]; omega)) (by rw [Array.getElem?_eq_getElem])
  obtain ⟨b, off, sp⟩ := a
  have hs : sp = none := (lt_of_cell (by simpa [Addr.add] using h00)).2
  subst hs
  refine ⟨b, off, rfl, trivial, (lt_of_cell (by simpa [Addr.add] using h00)).1, fun k u hu => ?_⟩
  have hk : k < len * 4 := by
    have := (List.getElem?_eq_some_iff.1 hu).1
    rw [hlen] at this
    simpa using this
  have e1 : k = 4 * (k / 4) + k % 4 := by omega
  have hT : ((List.range len).map f)[k / 4]? = some (f (k / 4)) := by
    rw [List.getElem?_map, List.getElem?_range (by omega)]
    rfl
  have h3 := hat _ _ _ hT (k % 4) (by omega)
  rw [← e1, hu] at h3
  have h2 := h (k / 4) (by omega) (k % 4) u h3.symm
  rw [Addr.add_lit, show k / 4 * 4 + k % 4 = k by omega] at h2
  exact h2

theorem bounds_wf64 {n : Int} (h : (Lit.int .i64 n).wf = true) : In64 n := bounds_i64 h
theorem kids_laid : laidOutB Tryd.prog = true := by kernel_rfl

set_option maxRecDepth 100000 in
/-- a slice of integers that comes in -/
theorem open_ints_arg {H : Type} {enc : TypeId × Value → H} {W : World} {v : Value} {d : DataW H} {ps : List MemPlace} {base : Nat} (hv : Value.okWide Tryd.prog W .any base 36 v) (h : DataW.Trod enc Tryd.prog W 0 (fun _ => true) true 36 v d ps) :
    ∃ l, IntS W (fun _ => True) v l ∧ l.length ≤ maxLen := by
  obtain ⟨a, len, cap, rfl⟩ := okWide_slice Tryd.underlying36 hv
  obtain ⟨fuel, hf⟩ := h
  obtain ⟨u, l, hu, hs, hw⟩ := open_intcells Tryd.underlying36 Tryd.underlying3 (by kernel_rfl) hf
  simp [Value.cells] at hu
  subst hu
  refine ⟨l, ⟨hs, fun x hx => bounds_wf64 (hw x hx)⟩, ?_⟩
  obtain ⟨A, c, e, _, h1, h2, _⟩ := hs
  omega

set_option maxRecDepth 100000 in
/-- a slice of objects that comes in -/
theorem open_objs_arg {H : Type} {enc : TypeId × Value → H} {W : World} {v : Value} {d : DataW H} {ps : List MemPlace} {base : Nat} (hv : Value.okWide Tryd.prog W .any base 22 v) (h : DataW.Trod enc Tryd.prog W 0 (fun _ => true) true 22 v d ps) :
    ∃ L, RefL W (fun _ => True) v L ∧ L.length ≤ maxLen := by
  rcases open_four Tryd.underlying22 Tryd.underlying41 (by kernel_rfl) (by kernel_rfl) (okWide_slice Tryd.underlying22 hv) h with rfl | ⟨a, len, cap, rfl, hl, hm, hi⟩
  · exact ⟨[], ⟨[], rfl, Slc.nil _ _ _, by simp⟩, by simp⟩
  · have key : ∀ i, ∃ t : T3, i < len → okT W (fun _ => True) t ∧ ∀ j u, (cells2 t.1 t.2.1 t.2.2)[j]? = some u → W.cell? (a.add (i * 4 + j)) = some u := by
      intro i
      by_cases hil : i < len
      · obtain ⟨c0, c1, c2, c3, n, y0, y1, y2, y3, ⟨e0, e1, e2, e3⟩, h0, h1, h2, h3⟩ := hi i hil
        obtain ⟨n0, g0, _, w0⟩ := DataW.trod_int Tryd.underlying3 h0
        obtain ⟨n1, g1, _, w1⟩ := DataW.trod_int Tryd.underlying3 h1
        obtain ⟨u2, l2, g2, s2, w2⟩ := open_intcells Tryd.underlying36 Tryd.underlying3 (by kernel_rfl) h2
        obtain ⟨u3, l3, g3, s3, w3⟩ := open_intcells Tryd.underlying39 Tryd.underlying5 (by kernel_rfl) h3
        obtain rfl : c0 = .int .i64 n0 := by simpa using g0
        obtain rfl : c1 = .int .i64 n1 := by simpa using g1
        obtain rfl : c2 = u2 := by simpa using g2
        obtain rfl : c3 = u3 := by simpa using g3
        refine ⟨(⟨n0, n1, l2, l3⟩, c2, c3), fun _ => ⟨⟨⟨s2, fun x hx => bounds_wf64 (w2 x hx)⟩, ⟨s3, fun x hx => bounds_u8 (w3 x hx)⟩, bounds_wf64 w0, bounds_wf64 w1⟩, fun j u hu => ?_⟩⟩
        match j, hu with
        | 0, hu => simp [cells2] at hu; subst hu; exact e0
        | 1, hu => simp [cells2] at hu; subst hu; exact e1
        | 2, hu => simp [cells2] at hu; subst hu; exact e2
        | 3, hu => simp [cells2] at hu; subst hu; exact e3
        | j + 4, hu => simp [cells2] at hu
      · exact ⟨(O.zero, undef, undef), fun h => absurd h hil⟩
    obtain ⟨f, hf⟩ := Classical.axiomOfChoice key
    have hs := slc_of_four hl hm f (fun t : T3 => cells2 t.1 t.2.1 t.2.2) (fun _ => rfl) (fun i hil => (hf i hil).2)
    refine ⟨((List.range len).map f).map (·.1), ⟨(List.range len).map f, rfl, by simpa [cellsT] using hs, fun t ht => ?_⟩, by simp; omega⟩
    simp only [List.mem_map, List.mem_range] at ht
    obtain ⟨i, hil, rfl⟩ := ht
    exact (hf i hil).1

/-- a slice of fours of numbers that reads as D -/
def DoS (w : World) (S : Nat → Prop) (v : Value) (D : List D4) : Prop := Slc w S 4 v D.length (D.flatMap fun x => x.cells.toList) ∧ ∀ x ∈ D, x.in64

end Go.Proofs.YtncoanmgifgcbaaDoor
