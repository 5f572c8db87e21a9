/- What comes in: an object by value; a slice of things done to a space (a kind, a number, an object); and that websterlaw06.long answers. -/
import Derived.Test.YtdpmmafkomchaaaGreatSecW
import Derived.Deep.Strs
import Derived.Lib.SmallJoins
namespace Go.Proofs.YtdpmmafkomchaaaGreat
set_option linter.unusedVariables false
set_option linter.unusedSimpArgs false
open Go.RowKit Go.ChangeShapes Go.WideShapes Go.Deep

set_option maxRecDepth 100000 in
/-- an object that comes in -/
theorem open_obj_arg {H : Type} {enc : TypeId × Value → H} {W : World} {v : Value} {d : DataW H} {ps : List MemPlace} {base : Nat} (hv : Value.okWide Tryz.prog W .any base 35 v) (h : DataW.Trod enc Tryz.prog W 0 (fun _ => true) true 35 v d ps) :
    ∃ o, ObjR W (fun _ => True) v o := by
  obtain ⟨v0, v1, v2, v3, y0, y1, y2, y3, n, rfl, -, -, h0, h1, h2, h3⟩ := Go.Joins.open_agg4 Tryz.underlying35 (by kernel_rfl) (by kernel_rfl) hv h
  obtain ⟨n0, g0, _, w0⟩ := DataW.trod_int Tryz.underlying3 h0
  obtain ⟨n1, g1, _, w1⟩ := DataW.trod_int Tryz.underlying3 h1
  obtain ⟨u2, l2, g2, s2, w2⟩ := open_intcells Tryz.underlying23 Tryz.underlying3 (by kernel_rfl) h2
  obtain ⟨u3, l3, g3, s3, w3⟩ := open_intcells Tryz.underlying33 Tryz.underlying5 (by kernel_rfl) h3
  obtain rfl : v0 = .int .i64 n0 := by simpa using g0
  obtain rfl : v1 = .int .i64 n1 := by simpa using g1
  obtain rfl : v2 = u2 := by simpa using g2
  obtain rfl : v3 = u3 := by simpa using g3
  exact ⟨⟨n0, n1, l2, l3⟩, _, _, rfl, ⟨s2, fun x hx => bounds_wf64 (w2 x hx)⟩, ⟨s3, fun x hx => bounds_u8 (w3 x hx)⟩, bounds_wf64 w0, bounds_wf64 w1⟩

/-- a thing done: its kind, its number, its object -/
abbrev D6 := Int × Int × T3
def cells6 (x : D6) : Array Value := #[.int .i64 x.1, .int .i64 x.2.1, .int .i64 x.2.2.1.cls, .int .i64 x.2.2.1.kind, x.2.2.2.1, x.2.2.2.2]
def cellsD (D : List D6) : List Value := D.flatMap fun x => (cells6 x).toList
def DoR (w : World) (S : Nat → Prop) (v : Value) (D : List D6) : Prop := Slc w S 6 v D.length (cellsD D) ∧ ∀ x ∈ D, In64 x.1 ∧ In64 x.2.1 ∧ okT w S x.2.2
theorem DoR.keep {w w' : World} {S F : Nat → Prop} {v : Value} {D : List D6} (h : DoR w S v D) (c : Chg F w w') (hS : ∀ b, S b → ¬ F b) : DoR w' S v D :=
  ⟨h.1.keep c hS, fun x hx => ⟨(h.2 x hx).1, (h.2 x hx).2.1, (h.2 x hx).2.2.keep c hS⟩⟩
theorem DoR.more {w : World} {S S' : Nat → Prop} {v : Value} {D : List D6} (h : DoR w S v D) (hS : ∀ b, b < w.heap.size → S b → S' b) : DoR w S' v D :=
  ⟨h.1.more hS, fun x hx => ⟨(h.2 x hx).1, (h.2 x hx).2.1, (h.2 x hx).2.2.more hS⟩⟩
theorem cellsD_at : ∀ (D : List D6) (i : Nat) (x : D6), D[i]? = some x → ∀ j, j < 6 → (cellsD D)[6 * i + j]? = (cells6 x)[j]?
  | [], i, x, h, _, _ => by simp at h
  | y :: D, 0, x, h, j, hj => by
    simp at h
    subst h
    have hx : (cells6 y).toList.length = 6 := by simp [cells6]
    rw [cellsD, List.flatMap_cons, List.getElem?_append_left (by omega)]
    simp
  | y :: D, i + 1, x, h, j, hj => by
    have hx : (cells6 y).toList.length = 6 := by simp [cells6]
    have ih := cellsD_at D i x (by simpa using h) j hj
    rw [cellsD, List.flatMap_cons, List.getElem?_append_right (by omega), hx, show 6 * (i + 1) + j - 6 = 6 * i + j by omega]
    exact ih
theorem DoR.at {w : World} {S : Nat → Prop} {A : Option Addr} {n c : Nat} {D : List D6} (h : DoR w S (.slice A n c) D) {i : Nat} {x : D6} (hi : D[i]? = some x) : ∃ b off, A = some ⟨b, off, none⟩ ∧ n = D.length ∧ b < w.heap.size ∧ In64 x.1 ∧ In64 x.2.1 ∧ okT w S x.2.2 ∧
    w.cell? ⟨b, off + i * 6, none⟩ = some (.int .i64 x.1) ∧ w.cell? ⟨b, off + i * 6 + 1, none⟩ = some (.int .i64 x.2.1) ∧ w.cell? ⟨b, off + i * 6 + 2, none⟩ = some (.int .i64 x.2.2.1.cls) ∧ w.cell? ⟨b, off + i * 6 + 2 + 1, none⟩ = some (.int .i64 x.2.2.1.kind) ∧
    w.cell? ⟨b, off + i * 6 + 2 + 2, none⟩ = some x.2.2.2.1 ∧ w.cell? ⟨b, off + i * 6 + 2 + 3, none⟩ = some x.2.2.2.2 := by
  obtain ⟨⟨A', c', e, hl, h1, h2, h0, h3⟩, hok⟩ := h
  obtain ⟨rfl, rfl, rfl⟩ := Value.slice.inj e
  have hil : i < D.length := (List.getElem?_eq_some_iff.1 hi).1
  obtain ⟨b, off, rfl, hS, hb, hc⟩ := h3 (by omega)
  have hcell := fun j hj u hu => hc (6 * i + j) u ((cellsD_at D i _ hi j hj).trans hu)
  have hx := hok x (List.mem_of_getElem? hi)
  refine ⟨b, off, rfl, rfl, hb, hx.1, hx.2.1, hx.2.2, ?_, ?_, ?_, ?_, ?_, ?_⟩
  · rw [Nat.mul_comm]; exact hcell 0 (by omega) _ rfl
  · rw [Nat.mul_comm, Nat.add_assoc]; exact hcell 1 (by omega) _ rfl
  · rw [Nat.mul_comm, Nat.add_assoc]; exact hcell 2 (by omega) _ rfl
  · rw [Nat.mul_comm, Nat.add_assoc, Nat.add_assoc]; exact hcell 3 (by omega) _ rfl
  · rw [Nat.mul_comm, Nat.add_assoc, Nat.add_assoc]; exact hcell 4 (by omega) _ rfl
  · rw [Nat.mul_comm, Nat.add_assoc, Nat.add_assoc]; exact hcell 5 (by omega) _ rfl

/-- from the elements to the row -/
theorem slc_of_six {W : World} {a : Addr} {len cap : Nat} (hl : len ≤ cap) (hm : cap ≤ maxLen) (f : Nat → D6)
    (h : ∀ i, i < len → ∀ j u, (cells6 (f i))[j]? = some u → W.cell? (a.add (i * 6 + j)) = some u) : Slc W (fun _ => True) 6 (.slice (some a) len cap) len (cellsD ((List.range len).map f)) := by
  have hlen : ∀ (T : List D6), (cellsD T).length = T.length * 6 := by
    intro T
    induction T with
    | nil => rfl
    | cons t T ih =>
      have hx : (cells6 t).toList.length = 6 := by simp [cells6]
      unfold cellsD at ih ⊢
      simp only [List.flatMap_cons, List.length_append, ih, hx, List.length_cons]
      omega
  refine ⟨some a, cap, rfl, by rw [hlen]; simp, hl, hm, (fun h => by cases h), fun hn => ?_⟩
  have h00 := h 0 hn 0 (.int .i64 (f 0).1) rfl
  obtain ⟨b, off, sp⟩ := a
  have hs : sp = none := (lt_of_cell (by simpa [Addr.add] using h00)).2
  subst hs
  refine ⟨b, off, rfl, trivial, (lt_of_cell (by simpa [Addr.add] using h00)).1, fun k u hu => ?_⟩
  have hk : k < len * 6 := by
    have := (List.getElem?_eq_some_iff.1 hu).1
    rw [hlen] at this
    simpa using this
  have e1 : k = 6 * (k / 6) + k % 6 := by omega
  have hT : ((List.range len).map f)[k / 6]? = some (f (k / 6)) := by
    rw [List.getElem?_map, List.getElem?_range (by omega)]
    rfl
  have h3 := cellsD_at _ _ _ hT (k % 6) (by omega)
  rw [← e1, hu] at h3
  have h2 := h (k / 6) (by omega) (k % 6) u h3.symm
  rw [Addr.add_lit, show k / 6 * 6 + k % 6 = k by omega] at h2
  exact h2
theorem list6 {α : Type} {cs : List α} (h : cs.length = 6) : ∃ c0 c1 c2 c3 c4 c5, cs = [c0, c1, c2, c3, c4, c5] := by
  match cs, h with
  | [c0, c1, c2, c3, c4, c5], _ => exact ⟨c0, c1, c2, c3, c4, c5, rfl⟩

set_option maxRecDepth 100000 in
/-- a slice of things done that comes in -/
theorem open_do6_arg {H : Type} {enc : TypeId × Value → H} {W : World} {v : Value} {d : DataW H} {ps : List MemPlace} {base : Nat} (hv : Value.okWide Tryz.prog W .any base 22 v) (h : DataW.Trod enc Tryz.prog W 0 (fun _ => true) true 22 v d ps) :
    ∃ D, DoR W (fun _ => True) v D ∧ D.length ≤ maxLen := by
  obtain ⟨a0, len0, cap0, rfl⟩ := okWide_slice Tryz.underlying22 hv
  obtain ⟨fuel, hf⟩ := h
  rcases Go.Deep.open_slice Tryz.underlying22 hf with ⟨hcs, _⟩ | ⟨a, len, cap, m, n, D, Pl, hcs, _, hl, hm, hmm, _, hi⟩
  · simp [Value.cells] at hcs
    obtain ⟨rfl, rfl, rfl⟩ := hcs
    exact ⟨[], ⟨Slc.nil _ _ _, by simp⟩, by simp⟩
  · simp [Value.cells] at hcs
    obtain ⟨rfl, rfl, rfl⟩ := hcs
    simp only [if_true] at hmm
    have hC : Tryz.prog.cellsOf 37 = 6 := by kernel_rfl
    have key : ∀ i, ∃ t : D6, i < len0 → (In64 t.1 ∧ In64 t.2.1 ∧ okT W (fun _ => True) t.2.2) ∧ ∀ j u, (cells6 t)[j]? = some u → W.cell? (a.add (i * 6 + j)) = some u := by
      intro i
      by_cases hil : i < len0
      · obtain ⟨cs', hc, ht'⟩ := hi i (by omega)
        rw [hC] at hc
        obtain ⟨_, hcl, hat⟩ := World.cells?_some hc
        obtain ⟨c0, c1, c2, c3, c4, c5, rfl⟩ := list6 hcl
        obtain ⟨y0, y1, y2, n', _, _, h0, h1, h2⟩ := trod_struct3 Tryz.underlying37 ht'
        have h0 : DataW.trod enc Tryz.prog W 0 (fun _ => true) true n' 3 [c0] = some y0 := h0
        have h1 : DataW.trod enc Tryz.prog W 0 (fun _ => true) true n' 3 [c1] = some y1 := h1
        have h2 : DataW.trod enc Tryz.prog W 0 (fun _ => true) true n' 35 [c2, c3, c4, c5] = some y2 := h2
        obtain ⟨z0, z1, z2, z3, n2, _, _, k0, k1, k2, k3⟩ := Go.Joins.trod_struct4 Tryz.underlying35 h2
        have k0 : DataW.trod enc Tryz.prog W 0 (fun _ => true) true n2 3 [c2] = some z0 := k0
        have k1 : DataW.trod enc Tryz.prog W 0 (fun _ => true) true n2 3 [c3] = some z1 := k1
        have k2 : DataW.trod enc Tryz.prog W 0 (fun _ => true) true n2 23 [c4] = some z2 := k2
        have k3 : DataW.trod enc Tryz.prog W 0 (fun _ => true) true n2 33 [c5] = some z3 := k3
        obtain ⟨m0, g0, _, w0⟩ := DataW.trod_int Tryz.underlying3 h0
        obtain ⟨m1, g1, _, w1⟩ := DataW.trod_int Tryz.underlying3 h1
        obtain ⟨m2, g2, _, w2⟩ := DataW.trod_int Tryz.underlying3 k0
        obtain ⟨m3, g3, _, w3⟩ := DataW.trod_int Tryz.underlying3 k1
        obtain ⟨u4, l4, g4, s4, w4⟩ := open_intcells Tryz.underlying23 Tryz.underlying3 (by kernel_rfl) k2
        obtain ⟨u5, l5, g5, s5, w5⟩ := open_intcells Tryz.underlying33 Tryz.underlying5 (by kernel_rfl) k3
        obtain rfl : c0 = .int .i64 m0 := by simpa using g0
        obtain rfl : c1 = .int .i64 m1 := by simpa using g1
        obtain rfl : c2 = .int .i64 m2 := by simpa using g2
        obtain rfl : c3 = .int .i64 m3 := by simpa using g3
        obtain rfl : c4 = u4 := by simpa using g4
        obtain rfl : c5 = u5 := by simpa using g5
        refine ⟨(m0, m1, ⟨m2, m3, l4, l5⟩, c4, c5), fun _ => ⟨⟨bounds_wf64 w0, bounds_wf64 w1, ⟨s4, fun x hx => bounds_wf64 (w4 x hx)⟩, ⟨s5, fun x hx => bounds_u8 (w5 x hx)⟩, bounds_wf64 w2, bounds_wf64 w3⟩, fun j u hu => ?_⟩⟩
        have e : ∀ j u, j < 6 → [Value.int .i64 m0, .int .i64 m1, .int .i64 m2, .int .i64 m3, c4, c5][j]? = some u → W.cell? (a.add (i * 6 + j)) = some u := fun j u hj hu => by
          have := hat j hj
          rw [Go.Deep.add_add] at this
          rw [this, hu]
        match j, hu with
        | 0, hu => exact e 0 u (by omega) hu
        | 1, hu => exact e 1 u (by omega) hu
        | 2, hu => exact e 2 u (by omega) hu
        | 3, hu => exact e 3 u (by omega) hu
        | 4, hu => exact e 4 u (by omega) hu
        | 5, hu => exact e 5 u (by omega) hu
        | j + 6, hu => simp [cells6] at hu
      · exact ⟨(0, 0, O.zero, undef, undef), fun h => absurd h hil⟩
    obtain ⟨f, hf⟩ := Classical.axiomOfChoice key
    have hs := slc_of_six hl hm f (fun i hil => (hf i hil).2)
    refine ⟨(List.range len0).map f, ⟨by simpa using hs, fun t ht => ?_⟩, by simp; omega⟩
    simp only [List.mem_map, List.mem_range] at ht
    obtain ⟨i, hil, rfl⟩ := ht
    exact (hf i hil).1

/-- what websterlaw06.long counts, in 64 bits -/
def longZ (z : Int) (x : D6) : Int := wrap64 (wrap64 (z + 1) + wrap64 ((wrap64 ((x.2.2.1.W.length : Int) + (x.2.2.1.B.length : Int))).tdiv 20))
def longF (D : List D6) : Int := D.foldl longZ 0
theorem longF_more {D : List D6} {i : Nat} {x : D6} (h : D[i]? = some x) : longF (D.take (i + 1)) = longZ (longF (D.take i)) x := by
  unfold longF
  rw [List.take_add_one, h, List.foldl_append]
  rfl
set_option maxRecDepth 100000 in
set_option maxHeartbeats 400000 in
/-- it answers; what, does not matter -/
theorem long06_any (v : Value) (D : List D6) (S : Nat → Prop) (w : World) (h : DoR w S v D) (hm : D.length ≤ maxLen) : Calls Tryz.prog 4 #[v] w fun e w' => e = .returned (.bool (decide (80 < longF D))) ∧ Chg No w w' := by
  obtain ⟨A, c, rfl⟩ : ∃ A c, v = .slice A D.length c := by obtain ⟨A, c, e, -⟩ := h.1; exact ⟨A, c, e⟩
  have hm2 : D.length ≤ 9223372036854775807 := by unfold maxLen at hm; simp at hm; omega
  have HX := Lib.hid h
  generalize hn : D.length = n at *
  have HLN := Lib.hid hn
  clear h hm hn
  go_enter Tryz.func4, Tryz.ntmps4
  go_wp2_with fail
  go_loopg [3, 4] n (fun j v3 v4 wr => ∃ (z : Int) (i : Nat), v3 = .int .i64 z ∧ z = longF (D.take i) ∧ v4 = .int .i64 (i : Int) ∧ i ≤ n ∧ n - i ≤ j ∧ Chg No w wr)
  case atStart => exact ⟨0, 0, rfl, rfl, rfl, by omega, by omega, Chg.refl _ _⟩
  case round =>
    obtain ⟨z, i, rfl, hz, rfl, i1, i2, cw⟩ := hrel
    have HZ := Lib.hid hz
    clear hz
    by_cases hi : i < n
    · obtain ⟨t, ht⟩ : ∃ t, D[i]? = some t := ⟨_, List.getElem?_eq_getElem (by rw [HLN.out]; exact hi)⟩
      have HT := Lib.hid ht
      have t1 : decide ((i : Int) < (n : Int)) = true := decide_eq_true (by omega)
      obtain ⟨b, off, rfl, -, -, -, -, hok, -, -, -, -, d4, d5⟩ := (HX.out.keep cw (fun _ _ f => f)).at ht
      obtain ⟨A4, c4, e4, -⟩ := hok.1.form
      obtain ⟨A5, c5, e5, -⟩ := hok.2.1.form
      rw [e4] at d4
      rw [e5] at d5
      clear hok
      go_wp2_with fail
      go_quiet (fail)
      go_wp2_with fail
      go_roundg (n - (i + 1))
      case measure => omega
      case rel => exact ⟨_, i + 1, rfl, by rw [longF_more HT.out, ← HZ.out]; rfl, by go_num, by omega, by omega, by first | exact cw | exact cw.drewN _ | exact cw.drew⟩
    · obtain rfl : i = n := by omega
      have t1 : decide ((i : Int) < (i : Int)) = false := decide_eq_false (by omega)
      have HE := Lib.hid (show longF D = z by rw [HZ.out, List.take_of_length_le (by rw [HLN.out]; exact Nat.le_refl _)])
      cases hz : decide (80 < z)
      · go_wp2_with fail
        go_ret
        exact ⟨by rw [HE.out, hz]; rfl, cw⟩
      · go_wp2_with fail
        go_ret
        exact ⟨by rw [HE.out, hz]; rfl, cw⟩

end Go.Proofs.YtdpmmafkomchaaaGreat
