/- append: where it puts what; and as a step of a region that draws. -/
import Derived.Test.YtncoanmgifgcbaaDoorFlatE
import Derived.Deep.RegionHeld3
namespace Go.Proofs.YtncoanmgifgcbaaDoor
set_option linter.unusedVariables false
set_option linter.unusedSimpArgs false
open Go.RowKit

/-- append, and where it puts what -/
theorem run_app2 {P : Program} {T E : TypeId} {sz bytes B : Nat} (hE : ElemInfo P T E sz bytes) (hsz : 0 < sz) {w : World} {S : Nat → Prop} {v sv : Value} {n m : Nat} {xs news : List Value} (hown : w.ownsRow B E sz v n xs) (hsrc : Slc w S sz sv m news)
    (h1 : ∀ u ∈ news, u.oneCell' = true) (h63 : n + m ≤ maxLen) (hbytes : (n + m) * bytes ≤ 140737488355328) (hB : B ≤ w.heap.size) (ty : TypeId) :
    ∃ v' w', (Builtin.append_ #[T, T] ty #[v, sv]).run P w = .ok v' w' ∧ w'.ownsRow B E sz v' (n + m) (xs ++ news) ∧ w.grownBy w' v.ownBlock ∧ (∀ k, v'.ownBlock = some k → v.ownBlock = some k ∨ w.heap.size ≤ k) := by
  obtain ⟨v', w', hr, ho, hg⟩ := run_app hE hsz hown hsrc h1 h63 hbytes hB ty
  refine ⟨v', w', hr, ho, hg, fun k hk => ?_⟩
  rcases hown.2 with ⟨rfl, rfl⟩ | ⟨g, cap, cur, rfl, hbg, hgg, hnc, hcm, hcs, htake⟩
  · have hx : xs = [] := List.eq_nil_of_length_eq_zero (by simpa using hown.1)
    subst hx
    obtain ⟨v2, w2, hr2, ho2, -⟩ := run_app hE hsz (World.ownsRow_nil w w.heap.size E sz) hsrc h1 h63 hbytes (Nat.le_refl _) ty
    rw [hr] at hr2
    obtain ⟨rfl, rfl⟩ := Result.ok.inj hr2
    exact .inr (own_ge ho2 hk)
  · obtain ⟨hT, i, z, hi, hz, hs, hb, hzs⟩ := hE
    subst hs
    obtain ⟨A, c, rfl, hl, hc, _, h0, hA⟩ := hsrc
    cases A with
    | none =>
      obtain rfl := h0 rfl
      obtain rfl : m = 0 := by omega
      have hr2 := run_append_owned_none (P := P) w B T ty E i i.size hT hi _ n xs hown
      rw [hr] at hr2
      obtain ⟨rfl, rfl⟩ := Result.ok.inj hr2
      exact .inl hk
    | some a =>
      have hnews : ∀ j u, news[j]? = some u → w.cell? (a.add j) = some u := by
        intro j u hu
        have hlt : 0 < m := by
          have hj := (List.getElem?_eq_some_iff.1 hu).1
          rcases Nat.eq_zero_or_pos m with hm | hm
          · rw [hl, hm] at hj; omega
          · exact hm
        obtain ⟨b, off, ha, _, _, hcell⟩ := hA hlt
        cases ha
        rw [Addr.add_lit]
        exact hcell j u hu
      have hsmall : n + m ≤ 9223372036854775807 := by simp only [maxLen] at h63; omega
      by_cases hroom : n + m ≤ cap
      · have hr2 := run_append_room (P := P) w T ty E i hT hi g n cap cur hgg a m c news hl hnews h1 hroom (by rw [hl, hcs, ← Nat.add_mul]; exact Nat.mul_le_mul_right _ hroom)
        rw [hr] at hr2
        obtain ⟨rfl, rfl⟩ := Result.ok.inj hr2
        exact .inl hk
      · have hr2 := run_append_grow (P := P) w T ty E i z hT hi hz ⟨g, 0, none⟩ n cap xs hown.1 (hown.cells (g := g) rfl) a m c news hl hnews (by omega) (by omega) (growslice_fits (by omega) (by rw [hb]; exact hbytes))
        rw [hr] at hr2
        obtain ⟨rfl, rfl⟩ := Result.ok.inj hr2
        simp [Value.ownBlock] at hk
        exact .inr (by omega)

/-- append as one step of a region that draws -/
theorem step_append_run {P : Program} {ops : Array Oper} {o : Oper} {a : Act} {w w' : World} {K : Act → World → Prop} {Q : Exit → Act → World → Prop} {E : Prop} (hgd : o.guard = none) (d s : Operand) (t : TypeId)
    (ho : o.op = .call { callee := .builtin .append, args := #[d, s], argTypes := #[t, t] }) {vd vs v : Value} (hd : a.eval d = vd) (hs : a.eval s = vs)
    (hrun : (Builtin.append_ #[t, t] o.type #[vd, vs]).run P w = .ok v w') (h : K (a.put o.dst v) w') :
    if Region.wanted o (yielded ops a.tmps) = true then Oper.wp P o a w K Q else E := by
  have hw : Region.wanted o (yielded ops a.tmps) = true := by simp [Region.wanted, hgd]
  rw [if_pos hw]
  unfold Oper.wp
  simp [execOp, ho, resolve, invoke, builtin, hd, hs, hrun, Result.andThen]
  exact h

end Go.Proofs.YtncoanmgifgcbaaDoor
