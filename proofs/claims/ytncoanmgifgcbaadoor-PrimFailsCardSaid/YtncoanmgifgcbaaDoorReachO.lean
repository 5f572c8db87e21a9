/- How long an argument can be: the form's own reach, of a slice. · How long a list of objects can be, that comes in: the form's own reach. -/
import Derived.Test.YtncoanmgifgcbaaDoorFlatRep
import Derived.Test.YtncoanmgifgcbaaDoorLoadA
import Derived.SizedLaws
import Derived.Deep.Slices
namespace Go.Proofs.YtncoanmgifgcbaaDoor
set_option linter.unusedVariables false
set_option linter.unusedSimpArgs false
open Go.RowKit

section
variable {H : Type} {enc : TypeId × Value → H} {P : Program} {W : World}
theorem slice_datum {t e : TypeId} {a : Addr} {len cap : Nat} {d : DataW H} {ps : List MemPlace} (ht : P.underlying t = some (.slice e)) (h : DataW.Trod enc P W 0 (fun _ => true) true t (.slice (some a) len cap) d ps) : ∃ elems spare, d = .slice elems spare ∧ elems.length = len := by
  obtain ⟨fuel, hf⟩ := h
  rcases Go.Deep.open_slice ht hf with ⟨hcs, _⟩ | ⟨a', len', cap', m, n, D, Pl, hcs, _, hl, hm, hmm, hx, hi⟩
  · simp [Value.cells] at hcs
  · simp [Value.cells] at hcs
    obtain ⟨rfl, rfl, rfl⟩ := hcs
    exact ⟨_, _, (Prod.mk.inj hx).1, by simp⟩
/-- so many elements at the most -/
theorem slice_reach {t e : TypeId} {v : Value} {n : Nat} {ts : List TypeId} {d : DataW H} {ds : List (DataW H)} {ps : List MemPlace} {j b : Nat} (ht : P.underlying t = some (.slice e)) (h : DataW.Trod enc P W 0 (fun _ => true) true t v d ps)
    (hs : (DataW.weightsEach P ts ds).all (fun x => decide (x ≤ reachBytes)) = true) (htj : ts[j]? = some t) (hdj : ds[j]? = some d) (hb : P.bytesOf e = b) (hv : ∃ A c, v = .slice A n c ∧ (n ≠ 0 → A ≠ none)) : n * b ≤ reachBytes := by
  obtain ⟨A, c, rfl, hA⟩ := hv
  by_cases h0 : n = 0
  · simp [h0]
  cases A with
  | none => exact absurd rfl (hA h0)
  | some a =>
    obtain ⟨elems, spare, rfl, hn⟩ := slice_datum ht h
    have := sized_slice hs htj hdj ht
    rw [hb, hn] at this
    exact Nat.le_trans (Nat.mul_le_mul_right b (Nat.le_add_right n _)) this
end
theorem bytesInt8 : Tryd.prog.bytesOf 3 = 8 := by kernel_rfl
theorem IntS.reach {H : Type} {enc : TypeId × Value → H} {W : World} {S : Nat → Prop} {v : Value} {D : List Int} {ts : List TypeId} {d : DataW H} {ds : List (DataW H)} {ps : List MemPlace} {j : Nat} (hD : IntS W S v D) (h : DataW.Trod enc Tryd.prog W 0 (fun _ => true) true 36 v d ps)
    (hs : (DataW.weightsEach Tryd.prog ts ds).all (fun x => decide (x ≤ reachBytes)) = true) (htj : ts[j]? = some 36) (hdj : ds[j]? = some d) : D.length ≤ 17592186044416 := by
  have := slice_reach (n := D.length) Tryd.underlying36 h hs htj hdj bytesInt8 (by
    obtain ⟨⟨A, c, rfl, hl, h1, h2, h0, h3⟩, -⟩ := hD
    refine ⟨A, c, rfl, fun hn hA => ?_⟩
    subst hA
    obtain ⟨b, off, e, -⟩ := h3 (by omega)
    cases e)
  unfold reachBytes at this
  omega

theorem bytesObj64 : Tryd.prog.bytesOf 41 = 64 := by kernel_rfl
theorem RefL.reach {H : Type} {enc : TypeId × Value → H} {W : World} {S : Nat → Prop} {v : Value} {L : List O} {ts : List TypeId} {d : DataW H} {ds : List (DataW H)} {ps : List MemPlace} {j : Nat} (hL : RefL W S v L) (h : DataW.Trod enc Tryd.prog W 0 (fun _ => true) true 22 v d ps)
    (hs : (DataW.weightsEach Tryd.prog ts ds).all (fun x => decide (x ≤ reachBytes)) = true) (htj : ts[j]? = some 22) (hdj : ds[j]? = some d) : L.length ≤ 17592186044416 := by
  have := slice_reach (n := L.length) Tryd.underlying22 h hs htj hdj bytesObj64 (by
    obtain ⟨T, rfl, ⟨A, c, rfl, hl, h1, h2, h0, h3⟩, -⟩ := hL
    refine ⟨A, c, by simp, fun hn hA => ?_⟩
    subst hA
    obtain ⟨b, off, e, -⟩ := h3 (by simp at hn; exact List.length_pos_iff.2 hn)
    cases e)
  unfold reachBytes at this
  omega

end Go.Proofs.YtncoanmgifgcbaaDoor
