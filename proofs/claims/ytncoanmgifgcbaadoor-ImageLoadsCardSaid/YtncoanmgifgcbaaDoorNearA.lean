/- image.near, over a flat memory: what one comes to, by rising numbers. -/
import Derived.Test.YtncoanmgifgcbaaDoorFlatM
import Derived.Test.YtncoanmgifgcbaaDoorApp2
import Derived.Test.YtncoanmgifgcbaaDoorKitC
import Derived.Deep.CutRange
namespace Go.Proofs.YtncoanmgifgcbaaDoor
set_option linter.unusedVariables false
set_option linter.unusedSimpArgs false
open Go.RowKit
open Go.ChangeMaps (setBlock)

open Classical in
/-- the numbers of what one comes to, rising -/
noncomputable def nearI (L : List O) (R : List Int) : List Int := ((List.range L.length).filter fun i : Nat => decide (Reach L R ((i : Int) + 1))).map fun i : Nat => (i : Int) + 1
open Classical in
theorem mem_nearI {L : List O} {R : List Int} {x : Int} : x ∈ nearI L R ↔ Reach L R x := by
  unfold nearI
  rw [List.mem_map]
  constructor
  · rintro ⟨i, hi, rfl⟩
    exact of_decide_eq_true (List.mem_filter.1 hi).2
  · intro h
    have hl := h.there
    have h1 := ob_lt hl.2
    refine ⟨(x - 1).toNat, List.mem_filter.2 ⟨List.mem_range.2 h1, ?_⟩, by have := hl.1; omega⟩
    have e : (((x - 1).toNat : Nat) : Int) + 1 = x := by have := hl.1; omega
    rw [e]
    exact decide_eq_true h
theorem nearI_rising (L : List O) (R : List Int) : (nearI L R).Pairwise (· < ·) := by
  unfold nearI
  rw [List.pairwise_map]
  refine List.Pairwise.filter _ ?_
  exact List.pairwise_lt_range.imp fun {a b} h => by omega
theorem nearI_bd {L : List O} {R : List Int} {x : Int} (h : x ∈ nearI L R) : 1 ≤ x ∧ x ≤ L.length := by
  have hl := (mem_nearI.1 h).there
  have h1 := ob_lt hl.2
  exact ⟨hl.1, by have := hl.1; omega⟩
/-- how many are not seen yet -/
def leftL (L : List O) (sb : Int → Bool) : Nat := ((List.range L.length).filter fun i : Nat => (ob L i).kind != 0 && !sb ((i : Int) + 1)).length
theorem leftL_le (L : List O) (sb : Int → Bool) : leftL L sb ≤ L.length := by
  unfold leftL
  exact Nat.le_trans (List.length_filter_le _ _) (by simp)
theorem leftL_mark {L : List O} {sb : Int → Bool} {k : Int} (hk : live L k) (hs : sb k = false) : leftL L (fun x => if x = k then true else sb x) + 1 ≤ leftL L sb := by
  have h1 := ob_lt hk.2
  have e : (((k - 1).toNat : Nat) : Int) + 1 = k := by have := hk.1; omega
  have h2 : (List.range L.length).filter (fun i : Nat => (ob L i).kind != 0 && !(if ((i : Int) + 1) = k then true else sb ((i : Int) + 1))) = ((List.range L.length).filter fun i : Nat => (ob L i).kind != 0 && !sb ((i : Int) + 1)).filter (fun i : Nat => !decide (((i : Int) + 1) = k)) := by
    rw [List.filter_filter]
    congr 1
    funext i
    by_cases hi : ((i : Int) + 1) = k
    · simp [hi]
    · simp [hi]
  unfold leftL
  rw [h2]
  refine Nat.lt_of_le_of_ne (List.length_filter_le _ _) fun he => ?_
  have := List.length_filter_eq_length_iff.1 he (k - 1).toNat (List.mem_filter.2 ⟨List.mem_range.2 h1, by rw [e, hs]; simpa using hk.2⟩)
  rw [e] at this
  simp at this
/-- a reference, and whether there is something -/
theorem fnd_live {L : List O} {o : Int} : (fnd L o = none ↔ ¬ live L (namedV o)) ∧ ∀ j, fnd L o = some j → j = (namedV o - 1).toNat := by
  have hv := namedV_of (o := o)
  have hn : namedOk o = false → namedV o = 0 := fun h => by
    unfold namedOk at h
    unfold namedV
    rw [if_neg (of_decide_eq_false h)]
  unfold fnd live
  cases h : namedOk o with
  | false => rw [hn h]; simp
  | true =>
    obtain ⟨e1, e2, e3⟩ := hv h
    rw [e1]
    constructor
    · constructor
      · intro h2 h3
        rw [if_pos ⟨rfl, h3.2⟩] at h2
        cases h2
      · intro h2
        rw [if_neg (fun h3 => h2 ⟨e2, h3.2⟩)]
    · intro j hj
      split at hj
      · exact (Option.some.inj hj).symm
      · cases hj
theorem objE_live {L : List O} {o : Int} (h : live L (namedV o)) : objE L o = 0 ∧ objV L o = ob L (namedV o - 1).toNat := by
  have h1 := fnd_live (L := L) (o := o)
  unfold objE objV
  cases hf : fnd L o with
  | none => exact absurd h (h1.1.1 hf)
  | some j =>
    have := h1.2 j hf
    subst this
    exact ⟨rfl, rfl⟩
theorem objE_gone {L : List O} {o : Int} (h : ¬ live L (namedV o)) : objE L o = 4 := by
  unfold objE
  rw [(fnd_live (L := L) (o := o)).1.2 h]
/-- append, and where it stands then -/
theorem app_own {w : World} {base : Nat} {S : Nat → Prop} {v u : Value} {l r : List Int} (h : OwnInts w base v l) (hr : Slc w S 1 u r.length (r.map (.int .i64))) (hl : l.length + r.length < 10000000000000) (hB : base ≤ w.heap.size) (ty : TypeId) :
    ∃ A c w', (Builtin.append_ #[36, 36] ty #[v, u]).run Tryd.prog w = .ok (.slice A (l.length + r.length) c) w' ∧ OwnInts w' base (.slice A (l.length + r.length) c) (l ++ r) ∧ Chg (fun k => v.ownBlock = some k) w w' ∧ ∀ k, (Value.slice A (l.length + r.length) c).ownBlock = some k → v.ownBlock = some k ∨ w.heap.size ≤ k := by
  obtain ⟨v', w4, hrun, ho, hg, hn⟩ := run_app2 elem_int (by decide) h hr (by intro x hx; simp at hx; obtain ⟨y, _, rfl⟩ := hx; rfl) (by unfold maxLen; omega) (by omega) hB ty
  obtain ⟨A, c, rfl⟩ := own_form ho
  exact ⟨A, c, w4, hrun, by simpa [OwnInts] using ho, (Chg.refl _ _).grown hg (fun k hk => .inl hk), hn⟩
theorem own_ltI {w : World} {base : Nat} {v : Value} {l : List Int} (h : OwnInts w base v l) {b : Nat} (hb : v.ownBlock = some b) : b < w.heap.size ∧ base ≤ b := by
  rcases h.2 with ⟨rfl, -⟩ | ⟨g, cap, cur, rfl, h1, hg, -⟩
  · simp [Value.ownBlock] at hb
  · simp only [Value.ownBlock, Option.some.injEq] at hb
    subst hb
    exact ⟨lt_of_block hg, h1⟩

end Go.Proofs.YtncoanmgifgcbaaDoor
