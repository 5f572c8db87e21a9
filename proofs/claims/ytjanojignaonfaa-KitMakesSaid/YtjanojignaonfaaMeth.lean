/- What comes in: what a method is (five numbers). -/
import Derived.Test.YtjanojignaonfaaArgs
import Derived.Test.YtjanojignaonfaaKitC
namespace Go.Proofs.Ytjanojignaonfaa
set_option linter.unusedVariables false
set_option linter.unusedSimpArgs false
open Go.RowKit Go.ChangeShapes Go.WideShapes Go.Deep

theorem array5 {α : Type} {cs : Array α} (h : cs.size = 5) : ∃ c0 c1 c2 c3 c4, cs = #[c0, c1, c2, c3, c4] := by
  obtain ⟨l⟩ := cs
  match l, h with
  | [c0, c1, c2, c3, c4], _ => exact ⟨c0, c1, c2, c3, c4, rfl⟩
set_option maxRecDepth 100000 in
theorem cells_meth : Try.prog.cellsOf 23 = 5 := by kernel_rfl
theorem cells_int : Try.prog.cellsOf 3 = 1 := by kernel_rfl
set_option maxRecDepth 100000 in
theorem open_meth_arg {H : Type} {enc : TypeId × Value → H} {W : World} {v : Value} {d : DataW H} {ps : List MemPlace} {base : Nat} (hv : Value.okWide Try.prog W .any base 23 v) (h : DataW.Trod enc Try.prog W 0 (fun _ => true) true 23 v d ps) :
    ∃ a t p c l, v = .agg #[.int .i64 a, .int .i64 t, .int .i64 p, .int .i64 c, .int .i64 l] ∧ In64 a ∧ In64 t ∧ In64 p ∧ In64 c ∧ In64 l := by
  obtain ⟨cs, rfl, hsz⟩ := okWide_struct Try.underlying23 hv
  obtain ⟨c0, c1, c2, c3, c4, rfl⟩ := array5 (hsz.trans cells_meth)
  obtain ⟨fuel, hf⟩ := h
  obtain ⟨xs, n, _, _, hl, hlen, hx⟩ := DataW.trod_struct Try.underlying23 hf
  match xs, hlen with
  | [y0, y1, y2, y3, y4], _ =>
    have h0 := hx 0 _ rfl
    have h1 := hx 1 _ rfl
    have h2 := hx 2 _ rfl
    have h3 := hx 3 _ rfl
    have h4 := hx 4 _ rfl
    simp only [cells_int, Value.cells] at h0 h1 h2 h3 h4
    simp at h0 h1 h2 h3 h4
    obtain ⟨n0, g0, _, w0⟩ := DataW.trod_int Try.underlying3 h0
    obtain ⟨n1, g1, _, w1⟩ := DataW.trod_int Try.underlying3 h1
    obtain ⟨n2, g2, _, w2⟩ := DataW.trod_int Try.underlying3 h2
    obtain ⟨n3, g3, _, w3⟩ := DataW.trod_int Try.underlying3 h3
    obtain ⟨n4, g4, _, w4⟩ := DataW.trod_int Try.underlying3 h4
    obtain rfl : c0 = .int .i64 n0 := by simpa [cells_int] using g0
    obtain rfl : c1 = .int .i64 n1 := by simpa [cells_int] using g1
    obtain rfl : c2 = .int .i64 n2 := by simpa [cells_int] using g2
    obtain rfl : c3 = .int .i64 n3 := by simpa [cells_int] using g3
    obtain rfl : c4 = .int .i64 n4 := by simpa [cells_int] using g4
    exact ⟨n0, n1, n2, n3, n4, rfl, bounds_wf64 w0, bounds_wf64 w1, bounds_wf64 w2, bounds_wf64 w3, bounds_wf64 w4⟩

end Go.Proofs.Ytjanojignaonfaa
