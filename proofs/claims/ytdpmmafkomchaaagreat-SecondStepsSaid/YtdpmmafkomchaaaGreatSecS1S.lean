/- Objects on a disk, by the document: where so many sectors are free: its rows' law, plainly. · Objects on a disk, by the document, plainly: rows by places; what is near, by passes. -/
import Derived.Test.YtdpmmafkomchaaaGreatSecBC
import Derived.Test.YtdpmmafkomchaaaGreatSecGI
import Derived.Test.YtdpmmafkomchaaaGreatSecXY
namespace Go.Proofs.YtdpmmafkomchaaaGreat
set_option linter.unusedVariables false
set_option linter.unusedSimpArgs false
open Go.RowKit

/-- the rows' places cover what is taken -/
theorem covers_tX (X : List Xt) : Covers (tX X) (X.map fun x => (x.f, x.n)) := by
  refine ⟨fun r hr => ?_, fun i => ?_⟩
  · obtain ⟨x, _, rfl⟩ := List.mem_map.1 hr
    exact secN_pos _
  · unfold tX
    simp only [List.any_eq_true, Bool.and_eq_true, decide_eq_true_eq]
    constructor
    · rintro ⟨x, hx, h1, h2⟩
      exact ⟨(x.f, x.n), List.mem_map.2 ⟨x, hx, rfl⟩, h1, h2⟩
    · rintro ⟨r, hr, h1, h2⟩
      obtain ⟨x, hx, rfl⟩ := List.mem_map.1 hr
      exact ⟨x, hx, h1, h2⟩
/-- what the document's First tells -/
def first04 (X : List Xt) (N n : Nat) : Int := match placeX X N n with | some f => f | none => -1
theorem free_rows (X : List Xt) {f n : Nat} (hn : 1 ≤ n) : freeB (tX X) f n = X.all fun x => !(decide (f < x.f + x.n) && decide (x.f < f + n)) := by
  rw [free_apart (covers_tX X) hn]
  unfold apartB
  rw [List.all_map]
  rfl
theorem first04_hit {X : List Xt} {N n f : Nat} (h1 : f + n ≤ N) (h2 : freeB (tX X) f n = true) (h3 : ∀ g, g < f → freeB (tX X) g n = false) : first04 X N n = f := by
  unfold first04 placeX
  rw [firstB_is h1 h2 (fun g hg h => by rw [h3 g hg] at h; simp at h)]
theorem first04_miss {X : List Xt} {N n f : Nat} (h1 : N < f + n) (h3 : ∀ g, g < f → freeB (tX X) g n = false) : first04 X N n = -1 := by
  unfold first04 placeX
  rw [firstB_isnt (fun g h => ?_)]
  by_cases hg : g < f
  · rw [h3 g hg] at h; simp at h
  · omega

/-- where a number stands; below 0: nowhere -/
def posR (L : List Rw) (k : Int) : Int := match L.findIdx? (fun r => r.id == k) with | some i => (i : Int) | none => -1
theorem posR_hit {L : List Rw} {k : Int} {i : Nat} {r : Rw} (hi : L[i]? = some r) (hr : r.id = k) (hb : ∀ x ∈ L.take i, x.id ≠ k) : posR L k = i := by
  obtain ⟨hl, e⟩ := List.getElem?_eq_some_iff.1 hi
  have : L.findIdx? (fun r => r.id == k) = some i := by
    rw [List.findIdx?_eq_some_iff_getElem]
    refine ⟨hl, by rw [e]; simpa using hr, fun j hj => ?_⟩
    have hjl : j < L.length := by omega
    have := hb L[j] (by rw [List.mem_take_iff_getElem]; exact ⟨j, by omega, rfl⟩)
    simpa using this
  unfold posR
  rw [this]
theorem posR_miss {L : List Rw} {k : Int} (hb : ∀ x ∈ L, x.id ≠ k) : posR L k = -1 := by
  have : L.findIdx? (fun r => r.id == k) = none := by
    rw [List.findIdx?_eq_none_iff]
    intro x hx
    simpa using hb x hx
  unfold posR
  rw [this]
/-- a number that stands, and the rows about it -/
theorem row_split {L : List Rw} {k : Int} {r : Rw} (h : Rising L) (hr : lk L k = some r) : ∃ L1 L2, L = L1 ++ r :: L2 ∧ posR L k = L1.length ∧ delR L k = L1 ++ L2 ∧ (∀ x, setR L k x = L1 ++ x :: L2) := by
  obtain ⟨hm, hk⟩ := lk_mem hr
  obtain ⟨L1, L2, rfl⟩ := List.append_of_mem hm
  unfold Rising at h
  rw [List.pairwise_append, List.pairwise_cons] at h
  have h1 : ∀ x ∈ L1, x.id ≠ k := fun x hx => by have := h.2.2 x hx r List.mem_cons_self; omega
  have h2 : ∀ x ∈ L2, x.id ≠ k := fun x hx => by have := h.2.1.1 x hx; omega
  refine ⟨L1, L2, rfl, posR_hit (r := r) (by simp) hk (by simpa using h1), ?_, fun x => ?_⟩
  · have e1 := del_other h1
    have e2 := del_other h2
    unfold delR at e1 e2 ⊢
    rw [List.filter_append, List.filter_cons, if_neg (by simp [hk]), e1, e2]
  · have e1 := set_other (x := x) h1
    have e2 := set_other (x := x) h2
    unfold setR at e1 e2 ⊢
    rw [List.map_append, List.map_cons, if_pos (by simp [hk]), e1, e2]
theorem posR_none {L : List Rw} {k : Int} (h : lk L k = none) : posR L k = -1 := posR_miss (lk_none.1 h)
theorem posR_some {L : List Rw} {k : Int} : decide (0 ≤ posR L k) = (lk L k).isSome := by
  cases hr : lk L k with
  | none => rw [posR_none hr]; rfl
  | some r =>
    obtain ⟨hm, hk⟩ := lk_mem hr
    obtain ⟨L1, L2, e⟩ := List.append_of_mem hm
    cases hc : posR L k with
    | ofNat n => exact decide_eq_true (Int.natCast_nonneg n)
    | negSucc n =>
      exfalso
      unfold posR at hc
      split at hc
      · cases hc
      · next h1 =>
        rw [List.findIdx?_eq_none_iff] at h1
        have := h1 r hm
        simp [hk] at this

/-- what the space gives the document: rows rising, apart, in place -/
structure Good (N : Nat) (L : List Rw) (made : Nat) : Prop where
  rise : Rising L
  ok : ∀ r ∈ L, okB r.o = true
  apart : (L.map Rw.xt).Pairwise apartX
  fits : ∀ x ∈ L.map Rw.xt, x.f + x.n ≤ N
  used : usedL L ≤ N
  max : made ≤ 1048576
  len : L.length ≤ 1048576
  ids : ∀ k ∈ L.map Rw.id, In64 k
theorem SecS.good {w : World} {Q : SB} {N made : Nat} {L : List Rw} (h : SecS w Q N L made) : Good N L made := by
  obtain ⟨es, h⟩ := h
  obtain ⟨D, ws, E, HE, HV⟩ := h.ext
  refine ⟨h.rise, fun r hr => (h.ok r hr).1, HV.apart, HV.fits, ?_, h.max, h.len, h.ids64⟩
  have h1 := taken_sum HE.bits HV
  have h2 := countP_covers (L.map Rw.xt) (bitT ws) N HV.cov HV.apart HV.fits
  have h3 := List.countP_le_length (p := bitT ws) (l := List.range N)
  rw [h2, List.length_range, List.map_map] at h3
  exact h3
/-- the number of sectors of the rows up to one -/
theorem used_part {L : List Rw} (i : Nat) : usedL (L.take i) ≤ usedL L := by
  have : usedL L = usedL (L.take i) + usedL (L.drop i) := by
    conv => lhs; rw [← List.take_append_drop i L]
    unfold usedL
    rw [List.map_append, List.sum_append]
  omega
theorem used_more {L : List Rw} {i : Nat} {r : Rw} (hi : L[i]? = some r) : usedL (L.take (i + 1)) = usedL (L.take i) + r.xt.n := by
  unfold usedL
  rw [List.take_add_one, hi, List.map_append, List.sum_append]
  simp

/-! what is near, by passes -/
/-- is the number named, once s are seen? -/
def namedB (L : List Rw) (R s : List Int) (k : Int) : Bool := decide (k ∈ R) || L.any fun r => decide (r.id ∈ s) && decide (k ∈ refsO r.o)
section
variable {L : List Rw} {R s : List Int} {k : Int}
theorem named_near (h : Rising L) (hs : ∀ k ∈ s, NearR L R k) (hk : k ∈ L.map Rw.id) (hn : namedB L R s k = true) : NearR L R k := by
  obtain ⟨r, hr, rfl⟩ := List.mem_map.1 hk
  have ht : thereR L r.id := by unfold thereR; rw [lk_of_mem h hr]; rfl
  unfold namedB at hn
  simp only [Bool.or_eq_true, List.any_eq_true, Bool.and_eq_true, decide_eq_true_eq] at hn
  rcases hn with hn | ⟨q, hq, h1, h2⟩
  · exact .root hn ht
  · refine .step (hs _ h1) ?_ ht
    unfold refsR
    rw [lk_of_mem h hq]
    exact h2
/-- a pass that added nothing: all that is near is seen -/
theorem near_closed (h : Rising L) (hs : ∀ k ∈ s, NearR L R k) (hc : ∀ r ∈ L, r.id ∈ s ∨ namedB L R s r.id = false) : nearL L R = (L.map Rw.id).filter fun k => decide (k ∈ s) := by
  have key : ∀ k, NearR L R k → k ∈ s := by
    intro k hk
    have out : ∀ j, thereR L j → namedB L R s j = true → j ∈ s := fun j ht hn => by
      unfold thereR at ht
      obtain ⟨r, hr⟩ := Option.isSome_iff_exists.1 ht
      obtain ⟨h1, rfl⟩ := lk_mem hr
      rcases hc r h1 with h2 | h2
      · exact h2
      · rw [hn] at h2; cases h2
    induction hk with
    | root h1 h2 => exact out _ h2 (by unfold namedB; rw [decide_eq_true h1]; rfl)
    | @step j k h1 h2 h3 ih =>
      refine out _ h3 ?_
      unfold refsR at h2
      split at h2
      · next r hr =>
        obtain ⟨h4, rfl⟩ := lk_mem hr
        unfold namedB
        rw [Bool.or_eq_true, List.any_eq_true]
        exact .inr ⟨r, h4, by rw [decide_eq_true ih, decide_eq_true h2]; rfl⟩
      · cases h2
  classical
  unfold nearL
  refine List.filter_congr fun k _ => ?_
  rw [Bool.eq_iff_iff, decide_eq_true_eq, decide_eq_true_eq]
  exact ⟨key k, hs k⟩
/-- how many are not seen -/
def unsN (L : List Rw) (s : List Int) : Nat := unseen L fun k => decide (k ∈ s)
theorem unsN_lt {r : Rw} (hr : r ∈ L) (hs : r.id ∉ s) : unsN L (s ++ [r.id]) < unsN L s := by
  have := unseen_lt (sb := fun k => decide (k ∈ s)) hr rfl (decide_eq_false hs)
  have e : (fun x => if x = r.id then true else decide (x ∈ s)) = fun k => decide (k ∈ s ++ [r.id]) := by
    funext x
    by_cases hx : x = r.id <;> simp [hx]
  rw [e] at this
  exact this
theorem named_part {i : Nat} {r : Rw} (hi : L[i]? = some r) (b : Bool) : (b || (L.take (i + 1)).any fun r => decide (r.id ∈ s) && decide (k ∈ refsO r.o)) = ((b || (L.take i).any fun r => decide (r.id ∈ s) && decide (k ∈ refsO r.o)) || (decide (r.id ∈ s) && decide (k ∈ refsO r.o))) := by
  rw [List.take_add_one, hi, List.any_append]
  simp [Bool.or_assoc]
end

/-! Make, Store, Drop, told by the document's own steps -/
section
variable {N made : Nat} {L : List Rw} {k : Int} {o : O}
theorem dropB_one : dropB L [k] = (lk L k).isSome := by simp [dropB]
theorem dropL_one : dropL L [k] = delR L k := rfl
end

end Go.Proofs.YtdpmmafkomchaaaGreat
