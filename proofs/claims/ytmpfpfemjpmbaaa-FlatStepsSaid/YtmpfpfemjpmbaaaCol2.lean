/- What is collected twice; what stays names nothing that is gone. Plain. -/
import Derived.Test.YtmpfpfemjpmbaaaFlatM
namespace Go.Proofs.Ytmpfpfemjpmbaaa
set_option linter.unusedVariables false
set_option linter.unusedSimpArgs false
open Go.RowKit

theorem fnd_even (L : List O) (k : Nat) (hk : k < L.length) (hL : L.length < 1073741823) : fnd L (2 * ((k : Int) + 1)) = if (ob L k).kind = 0 then none else some k := by
  unfold fnd
  have e : (2 * ((k : Int) + 1) / 2 - 1).toNat = k := by omega
  rw [e]
  by_cases h : (ob L k).kind = 0
  · rw [if_pos h, if_neg (fun hn => hn.2 h)]
  · rw [if_neg h, if_pos ⟨by simp [namedOk]; omega, h⟩]
theorem objE_even (L : List O) (k : Nat) (hk : k < L.length) (hL : L.length < 1073741823) : objE L (2 * ((k : Int) + 1)) = if (ob L k).kind = 0 then 4 else 0 := by
  unfold objE
  rw [fnd_even L k hk hL]
  by_cases h : (ob L k).kind = 0
  · rw [if_pos h, if_pos h]
  · rw [if_neg h, if_neg h]
theorem next_behind (L : List O) (hL : L.length < 1073741823) : nextN L (2 * ((L.length : Int) + 1)) = 0 ∧ nextOK L (2 * ((L.length : Int) + 1)) = false := by
  have h : nxtI L (L.length + 1) = none := by
    cases hx : nxtI L (L.length + 1) with
    | none => rfl
    | some i =>
      obtain ⟨h1, h2, -⟩ := nxtI_at hx
      omega
  unfold nextN nextOK
  rw [namedV_even L.length (by omega), show ((L.length : Int) + 1).toNat = L.length + 1 by omega, h]
  exact ⟨rfl, rfl⟩
theorem allL_at {L : List O} {i : Nat} {o : Int} (h : (allL L)[i]? = some o) : ∃ k : Nat, k < L.length ∧ (ob L k).kind ≠ 0 ∧ o = 2 * ((k : Int) + 1) := by
  have := List.mem_of_getElem? h
  simp only [allL, allTo, List.mem_map, List.mem_filter, List.mem_range, bne_iff_ne, ne_eq] at this
  obtain ⟨k, ⟨h1, h2⟩, rfl⟩ := this
  exact ⟨k, h1, h2, rfl⟩
theorem allL_rise (L : List O) : (allL L).Pairwise (· < ·) := by
  unfold allL allTo
  rw [List.pairwise_map]
  exact (List.pairwise_lt_range.filter _).imp fun h => by omega
theorem allL_up {L : List O} {i : Nat} {a b : Int} (ha : (allL L)[i]? = some a) (hb : (allL L)[i + 1]? = some b) : a < b := by
  obtain ⟨h1, rfl⟩ := List.getElem?_eq_some_iff.1 ha
  obtain ⟨h2, rfl⟩ := List.getElem?_eq_some_iff.1 hb
  exact List.pairwise_iff_getElem.1 (allL_rise L) i (i + 1) h1 h2 (by omega)

theorem ob_ext {L M : List O} (hl : L.length = M.length) (h : ∀ i, ob L i = ob M i) : L = M := by
  apply List.ext_getElem hl
  intro i h1 h2
  have := h i
  unfold ob at this
  rw [List.getElem?_eq_getElem h1, List.getElem?_eq_getElem h2] at this
  exact this
theorem reach_col {L : List O} {R : List Int} {k : Int} : Reach (colL L R) R k ↔ Reach L R k := by
  constructor
  · intro h
    exact live_col.1 h.there
  · intro h
    induction h with
    | root h1 h2 => exact .root h1 (live_col.2 (.root h1 h2))
    | @step j k h1 h2 h3 ih =>
      refine .step ih ?_ (live_col.2 (.step h1 h2 h3))
      have hj := h1.there.1
      rw [ob_col_yes (i := (j - 1).toNat) (by rw [show (((j - 1).toNat : Nat) : Int) + 1 = j by omega]; exact h1)]
      exact h2
theorem colL_idem (L : List O) (R : List Int) : colL (colL L R) R = colL L R := by
  refine ob_ext (colL_len _ _) fun i => ?_
  by_cases h : Reach L R ((i : Int) + 1)
  · rw [ob_col_yes (reach_col.2 h)]
  · rw [ob_col_no (fun hn => h (reach_col.1 hn)), ob_col_no h]
theorem mem_allL (L : List O) (x : Int) : 2 * x ∈ allL L ↔ live L x := by
  simp only [allL, allTo, List.mem_map, List.mem_filter, List.mem_range, bne_iff_ne, ne_eq]
  constructor
  · rintro ⟨i, ⟨h1, h2⟩, h3⟩
    obtain rfl : x = (i : Int) + 1 := by omega
    exact ⟨by omega, by rw [show ((i : Int) + 1 - 1).toNat = i by omega]; exact h2⟩
  · rintro ⟨h1, h2⟩
    exact ⟨(x - 1).toNat, ⟨ob_lt h2, h2⟩, by omega⟩
theorem any_allL {L M : List O} {x : Int} (h : live L x ↔ live M x) : (allL L).any (fun y => y == 2 * x) = (allL M).any (fun y => y == 2 * x) := by
  rw [Bool.eq_iff_iff, List.any_eq_true, List.any_eq_true]
  have key : ∀ N : List O, (∃ y ∈ allL N, (y == 2 * x) = true) ↔ live N x := fun N => by
    rw [← mem_allL]
    constructor
    · rintro ⟨y, h1, h2⟩
      rw [beq_iff_eq] at h2
      subst h2
      exact h1
    · intro h
      exact ⟨_, h, by simp⟩
  rw [key, key, h]
theorem any_stays {L : List O} {R : List Int} {k : Nat} (hk : (ob (colL L R) k).kind ≠ 0) {x : Int} (hx : x ∈ refsO (ob (colL L R) k)) : (allL L).any (fun y => y == 2 * x) = (allL (colL L R)).any (fun y => y == 2 * x) := by
  have hr : Reach L R ((k : Int) + 1) := live_col.1 ⟨by omega, by rw [show ((k : Int) + 1 - 1).toNat = k by omega]; exact hk⟩
  rw [ob_col_yes hr] at hx
  refine any_allL ⟨fun h => live_col.2 (.step hr ?_ h), fun h => (live_col.1 h).there⟩
  rw [show ((k : Int) + 1 - 1).toNat = k by omega]
  exact hx
theorem any_snoc {l : List Int} {i : Nat} {y : Int} (h : l[i]? = some y) (x : Int) : (l.take (i + 1)).any (fun y => y == x) = ((l.take i).any (fun y => y == x) || (y == x)) := by
  rw [List.take_add_one, h]
  simp
theorem idOf_bounds {x y : Int} (h : idOf x = some y) : 1 ≤ y ∧ y ≤ 1073741823 := by
  unfold idOf at h
  split at h
  · rename_i hn
    cases h
    exact (namedV_of hn).2
  · cases h
theorem refsO_bounds {o : O} {x : Int} (h : x ∈ refsO o) : 1 ≤ x ∧ x ≤ 1073741823 := by
  unfold refsO at h
  obtain ⟨z, -, hz⟩ := List.mem_filterMap.1 h
  exact idOf_bounds hz
theorem objV_even {L : List O} {k : Nat} (hk : (ob L k).kind ≠ 0) (hL : L.length < 1073741823) : objV L (2 * ((k : Int) + 1)) = ob L k ∧ objE L (2 * ((k : Int) + 1)) = 0 := by
  have h := fnd_even L k (ob_lt hk) hL
  rw [if_neg hk] at h
  simp [objV, objE, h]
theorem allL_in64 {L : List O} (hL : L.length < 1073741823) : ∀ x ∈ allL L, In64 x := fun x hx => by
  simp only [allL, allTo, List.mem_map, List.mem_filter, List.mem_range] at hx
  obtain ⟨i, ⟨h1, -⟩, rfl⟩ := hx
  unfold In64
  omega
theorem OwnInts.ints {w : World} {base : Nat} {v : Value} {l : List Int} (h : OwnInts w base v l) (hl : ∀ x ∈ l, In64 x) : IntS w (fun _ => True) v l := ⟨(Slc.of_own h).more fun _ _ _ => trivial, hl⟩
theorem same_kinds {L M : List O} (hl : M.length = L.length) (h : ∀ i, ((ob M i).kind != 0) = ((ob L i).kind != 0)) : liveN M = liveN L ∧ allL M = allL L := by
  have e : (fun i => (ob M i).kind != 0) = fun i => (ob L i).kind != 0 := funext h
  unfold liveN allL allTo
  rw [e, hl]
  exact ⟨rfl, rfl⟩
section
variable {w0 w w' : World} {m : Nat} {L L' : List O} {K : (Nat → Prop) → World → Prop} {F F' : Nat → Prop}
theorem MemK.okAt (h : MemK w0 w m L K) {i : Nat} (hk : (ob L i).kind ≠ 0) : (ob L i).ok := by
  obtain ⟨F, ⟨q, es, ad, wv, bv, hi⟩, _⟩ := h
  exact hi.ok i hk
/-- all that are there, kept whatever the memory does -/
theorem k_AllK (h : MemK w0 w m L K) : Calls Try.prog 31 #[.iface 37 (.pointer (some ⟨m, 0, none⟩))] w (Ret fun v w' => (∃ A c, v = .slice A (allL L).length c) ∧ MemK w0 w' m L (fun F u => K F u ∧ IntS u (fun _ => True) v (allL L))) := by
  refine (k_All h).mono ?_
  rintro e w' ⟨v, rfl, ho, _, c⟩
  exact ⟨v, rfl, ho.form, h.also c fun G hG w2 c2 => (ho.keep c2 (fun b hb hg => by have := (hG b hg).1; omega)).ints (allL_in64 h.made)⟩
theorem MemK.ints {S : Nat → Prop} {v : Value} {l : List Int} (h : MemK w0 w m L (fun F u => K F u ∧ IntS u S v l)) : IntS w S v l := by
  obtain ⟨F, -, -, hk⟩ := h.opened
  exact hk.2
theorem MemK.inL {K2 : (Nat → Prop) → World → Prop} (h : MemK w0 w m L (fun F u => K F u ∧ K2 F u)) : MemK w0 w m L K := h.mono fun _ _ hk => hk.1
/-- a collection from all -/
theorem col_all (hL : L.length < 1073741823) : liveN (colL L (numsOf (allL L))) = liveN L ∧ allL (colL L (numsOf (allL L))) = allL L := by
  have key : ∀ k : Int, live L k → Reach L (numsOf (allL L)) k := fun k hk => .root (by
    refine List.mem_map.2 ⟨2 * k, (mem_allL L k).2 hk, ?_⟩
    have h1 := hk.1
    have h2 := ob_lt hk.2
    have := namedV_even (k - 1).toNat (by omega)
    rw [show ((((k - 1).toNat : Nat) : Int) + 1) = k by omega] at this
    exact this) hk
  have hob : ∀ i, ((ob (colL L (numsOf (allL L))) i).kind != 0) = ((ob L i).kind != 0) := fun i => by
    by_cases hk : (ob L i).kind = 0
    · rw [ob_col_no (fun hr => ?_), hk]
      · rfl
      · have := hr.there.2
        rw [show ((i : Int) + 1 - 1).toNat = i by omega] at this
        exact this hk
    · rw [ob_col_yes (key _ ⟨by omega, by rw [show ((i : Int) + 1 - 1).toNat = i by omega]; exact hk⟩)]
  exact same_kinds (colL_len _ _) hob
end
end Go.Proofs.Ytmpfpfemjpmbaaa
