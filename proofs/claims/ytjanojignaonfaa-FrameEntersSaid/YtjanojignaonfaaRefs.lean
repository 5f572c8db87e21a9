/- What an object names: wide.Refs. -/
import Derived.Test.YtjanojignaonfaaFlatI
import Derived.Test.YtjanojignaonfaaRef10
import Derived.Test.YtjanojignaonfaaRegion
namespace Go.Proofs.Ytjanojignaonfaa
set_option linter.unusedVariables false
set_option linter.unusedSimpArgs false
open Go.RowKit

/-- the number that a word names, if it does -/
def idOf (x : Int) : Option Int := if namedOk x = true then some (x / 2) else none
def refsO (o : O) : List Int := (o.cls :: o.W).filterMap idOf
theorem idOf_yes {x : Int} (h : namedOk x = true) : idOf x = some (namedV x) := by
  rw [idOf, if_pos h, (namedV_of h).1]
theorem idOf_no {x : Int} (h : namedOk x = false) : idOf x = none := by
  rw [idOf, if_neg (by rw [h]; decide)]
theorem fm_snoc {l : List Int} {i : Nat} (hi : i < l.length) : (l.take (i + 1)).filterMap idOf = (l.take i).filterMap idOf ++ (match idOf (l[i]?.getD 0) with | some y => [y] | none => []) := by
  rw [List.take_succ_eq_append_getElem hi, List.filterMap_append, List.getElem?_eq_getElem hi]
  simp only [Option.getD_some]
  cases h : idOf l[i] <;> simp [h]
theorem fm_len (l : List Int) : (l.filterMap idOf).length ≤ l.length := List.length_filterMap_le _ _

/-- a slice of the call's own that reads as l -/
def OwnInts (w : World) (base : Nat) (v : Value) (l : List Int) : Prop := w.ownsRow base 3 1 v l.length (l.map (.int .i64))
theorem OwnInts.form {w : World} {base : Nat} {v : Value} {l : List Int} (h : OwnInts w base v l) : ∃ A c, v = .slice A l.length c := own_form h
theorem OwnInts.keep {w w' : World} {base : Nat} {v : Value} {l : List Int} {F : Nat → Prop} (h : OwnInts w base v l) (c : Chg F w w') (hF : ∀ b, base ≤ b → ¬ F b) : OwnInts w' base v l := own_keep h c fun b hb => hF b (own_ge h hb)
theorem OwnInts.at {w : World} {base : Nat} {A : Option Addr} {n c : Nat} {l : List Int} (h : OwnInts w base (.slice A n c) l) {i : Nat} (hi : i < l.length) : ∃ b, A = some ⟨b, 0, none⟩ ∧ base ≤ b ∧ b < w.heap.size ∧ n = l.length ∧ w.cell? ⟨b, 0 + i, none⟩ = some (.int .i64 (l[i]?.getD 0)) := by
  obtain ⟨g, cap, e, hg, hc, _⟩ := own_at h (by omega)
  obtain ⟨rfl, rfl, rfl⟩ := Value.slice.inj e
  refine ⟨g, rfl, own_ge h rfl, hg, rfl, ?_⟩
  rw [Nat.zero_add, hc i hi, List.getElem?_map, List.getElem?_eq_getElem hi]
  rfl
/-- append one number -/
theorem app_one {w : World} {base : Nat} {v : Value} {l : List Int} (h : OwnInts w base v l) (hl : l.length < 2000000000) (hB : base ≤ w.heap.size) (x : Int) (ty : TypeId) :
    ∃ A c w', (Builtin.append_ #[36, 36] ty #[v, .slice (some ⟨w.heap.size, 0, none⟩) 1 1]).run Try.prog (w.alloc (.cells #[.int .i64 x] 3)) = .ok (.slice A (l.length + 1) c) w' ∧ OwnInts w' base (.slice A (l.length + 1) c) (l ++ [x]) ∧ Chg (fun k => base ≤ k) w w' := by
  obtain ⟨v', w4, hr, ho, hg⟩ := run_app elem_int (by decide) (own_keep (F := No) h ((Chg.refl _ _).alloc (.cells #[.int .i64 x] 3)) (fun _ _ f => f)) (Slc.row (S := fun _ => True) (Row.new w 3 #[.int .i64 x]) 1 1 rfl (by unfold maxLen; omega) trivial) (by simp [Value.oneCell']) (by unfold maxLen; omega) (by omega) (by simp; omega) ty
  obtain ⟨A, c, rfl⟩ := own_form ho
  refine ⟨A, c, w4, hr, by simpa [OwnInts] using ho, ?_⟩
  exact ((Chg.refl _ _).alloc _).grown hg (fun k hk => .inl (own_ge h hk))

/-- what Refs gives -/
def Refd (w : World) (l : List Int) (v : Value) (w' : World) : Prop := OwnInts w' w.heap.size v l ∧ Chg No w w'

end Go.Proofs.Ytjanojignaonfaa
