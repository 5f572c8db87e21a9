/- A flat memory's collection. -/
import Derived.Test.YtncoanmgifgcbaaDoorFlatK
namespace Go.Proofs.YtncoanmgifgcbaaDoor
set_option linter.unusedVariables false
set_option linter.unusedSimpArgs false
open Go.RowKit
open Go.ChangeMaps (setBlock)

theorem own_short {w : World} {base : Nat} {A : Option Addr} {k c : Nat} {l : List Int} {x : Int} (h : OwnInts w base (.slice A (k + 1) c) (l ++ [x])) (hk : l.length = k) : OwnInts w base (.slice A k c) l := by
  obtain ⟨h1, h2 | ⟨g, cap, cur, e, hb, hg, hn, hm, hs, ht⟩⟩ := h
  · simp at h2
  · simp only [Value.slice.injEq] at e
    obtain ⟨rfl, e2, rfl⟩ := e
    have e3 : (l ++ [x]).length = k + 1 := e2.symm
    refine ⟨by simp, .inr ⟨g, c, cur, by rw [hk], hb, hg, by rw [hk]; omega, hm, hs, ?_⟩⟩
    have h4 := congrArg (List.take (l.length * 1)) ht
    rw [List.take_take, List.map_append, List.take_append_of_le_length (by simp)] at h4
    simp only [Nat.mul_one, List.length_append, List.length_cons, List.length_nil] at h4 ⊢
    rw [Nat.min_eq_left (by omega)] at h4
    rw [h4]
    exact List.take_of_length_le (by simp)
/-- append a slice of the call's own -/
theorem app_many {w : World} {base base' : Nat} {v u : Value} {l r : List Int} (h : OwnInts w base v l) (hr : OwnInts w base' u r) (hl : l.length + r.length < 10000000000000) (hB : base ≤ w.heap.size) (ty : TypeId) :
    ∃ A c w', (Builtin.append_ #[36, 36] ty #[v, u]).run Tryd.prog w = .ok (.slice A (l.length + r.length) c) w' ∧ OwnInts w' base (.slice A (l.length + r.length) c) (l ++ r) ∧ Chg (fun k => base ≤ k) w w' := by
  obtain ⟨v', w4, hrun, ho, hg⟩ := run_app elem_int (by decide) h (Slc.of_own hr) (by intro x hx; simp at hx; obtain ⟨y, _, rfl⟩ := hx; rfl) (by unfold maxLen; omega) (by omega) hB ty
  obtain ⟨A, c, rfl⟩ := own_form ho
  exact ⟨A, c, w4, hrun, by simpa [OwnInts] using ho, (Chg.refl _ _).grown hg (fun k hk => .inl (own_ge h hk))⟩

/-- the numbers that references name -/
def numsOf (R0 : List Int) : List Int := R0.map namedV

section
variable {w w' : World} {m : Nat} {F : Nat → Prop} {L : List O} {q : Nat} {es : List (Int × Value)} {ad : Nat → Nat} {wv bv : Nat → Value}
theorem FlatI.live_keys (h : FlatI w m F L q es ad wv bv) (k : Int) : k ∈ es.map (·.1) ↔ live L k := h.keys k
theorem FlatI.len (h : FlatI w m F L q es ad wv bv) : es.length = liveN L := keys_len h.map.nodup h.live_keys
/-- what is not come to is gone -/
theorem FlatI.collected (h : FlatI w m F L q es ad wv bv) {R : List Int} {es' : List (Int × Value)} {sb : Int → Bool} (hsb : ∀ k, Reach L R k ↔ live L k ∧ sb k = true) (hq : IMap w' q es') (hget : ∀ k, mget k es' = if sb k = true then mget k es else none) (c : Chg (fun b => b = q) w w') :
    FlatI w' m F (colL L R) q es' ad wv bv := by
  have hkk : ∀ i, (ob (colL L R) i).kind ≠ 0 ↔ Reach L R ((i : Int) + 1) := fun i => by
    rw [← live_col]
    unfold live
    rw [show ((i : Int) + 1 - 1).toNat = i by omega]
    exact ⟨fun h => ⟨by omega, h⟩, fun h => h.2⟩
  have hob : ∀ i, (ob (colL L R) i).kind ≠ 0 → ob (colL L R) i = ob L i := fun i hi => ob_col_yes ((hkk i).1 hi)
  have hki : ∀ i, (ob (colL L R) i).kind ≠ 0 → (ob L i).kind ≠ 0 := fun i hi => by rw [← hob i hi]; exact hi
  have hmq := h.ne_mq
  refine ⟨?_, hq, fun k => ?_, fun i hi => ?_, fun i hi => ?_, fun i hi => ?_, fun i hi => h.inF i (hki i hi), fun i j hi hj => h.apart i j (hki i hi) (hki j hj), h.mF, h.qF, fun b hb => Nat.lt_of_lt_of_le (h.lt b hb) c.size, by rw [colL_len]; exact h.made⟩
  · rw [colL_len]
    exact h.row.keep c hmq
  · rw [hget, h.get k]
    by_cases hc : 1 ≤ k ∧ (ob (colL L R) (k - 1).toNat).kind ≠ 0
    · rw [if_pos hc]
      have hr := (hkk _).1 hc.2
      rw [show (((k - 1).toNat : Nat) : Int) + 1 = k by omega] at hr
      rw [if_pos ((hsb k).1 hr).2, if_pos ⟨hc.1, hki _ hc.2⟩]
    · rw [if_neg hc]
      by_cases hs : sb k = true
      · rw [if_pos hs, if_neg]
        rintro ⟨h1, h2⟩
        refine hc ⟨h1, (hkk _).2 ?_⟩
        rw [show (((k - 1).toNat : Nat) : Int) + 1 = k by omega]
        exact (hsb k).2 ⟨⟨h1, h2⟩, hs⟩
      · rw [if_neg hs]
  · rw [hob i hi]
    have hi' := hki i hi
    refine (h.own i hi').keep c (fun e => h.map.ne_row (h.own i hi').row e.symm) (fun b hb e => ?_) (fun b hb e => ?_)
    · obtain ⟨cs, hr⟩ := own_block (h.own i hi').ws hb
      exact h.map.ne_row hr e.symm
    · obtain ⟨cs, hr⟩ := own_block (h.own i hi').bs hb
      exact h.map.ne_row hr e.symm
  · rw [hob i hi]
    exact h.ok i (hki i hi)
  · exact ob_col_no (fun hr => (hkk i).2 hr hi)
end

end Go.Proofs.YtncoanmgifgcbaaDoor
