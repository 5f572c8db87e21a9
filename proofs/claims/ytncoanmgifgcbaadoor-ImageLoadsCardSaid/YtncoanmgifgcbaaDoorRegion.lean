/- Regions that draw their order, walked once in the order of the text, in every world of a class. No program is named here. · A region that draws its order: two operations that may come in either order. -/
import Derived.Test.YtncoanmgifgcbaaDoorLibA
import Derived.Deep.QuietTactic
import Derived.BigQuiet
import Derived.Deep.RegionHeld3
import Derived.StillTail
namespace Go.Proofs.YtncoanmgifgcbaaDoor
set_option linter.unusedVariables false
set_option linter.unusedSimpArgs false
open Go.RowKit

/-- the lexical walk, shut: no unfolding runs into it -/
structure Qw (P : Program) (ops : Array Oper) (C : World → Prop) (Q : Act → Prop) (l : List Oper) (a : Act) : Prop where
  out : wpQuiet P ops C Q l a

section
variable {P : Program} {ops : Array Oper} {C : World → Prop} {Q : Act → Prop} {o : Oper} {rest : List Oper} {a : Act}
theorem q_nil (h : Q a) : Qw P ops C Q [] a := ⟨h⟩
theorem q_step (h : ∀ K : Act → Prop, (∀ a, Qw P ops C Q rest a → K a) → if Region.wanted o (yielded ops a.tmps) then o.quiet P a C K else K (a.put o.dst undef)) : Qw P ops C Q (o :: rest) a :=
  ⟨wpQuiet_step fun K hK => h K fun a ha => hK a ha.out⟩
theorem q_region {id : Nat} {Q : Exit → Act → World → Prop} {w : World} {l : List Oper} (hm : P.follows .mixedOrders = true) (hB : Region.lexB .any l.toArray = true) (hC : C w.drew)
    (h : Qw P l.toArray C (fun a' => ∀ w', C w' → Q .normal a' w') l a) : (Code.region id l.toArray true).wp P Q a w :=
  wp_region_quiet (C := C) hm hB hC (by simpa using h.out)
end

/-! A region that draws its order, walked in phases: a stretch of operations that are quiet in a class; one operation alone. -/
/-- the first k are listed -/
def fst (s k : Nat) : Array Bool := ((List.range s).map fun i => decide (i < k)).toArray
def closedB (ops : Array Oper) (k : Nat) : Bool := (List.range k).all fun j => match ops[j]? with
  | some oj => oj.after.all fun e => !Region.binds .any e || decide (e.on < k)
  | none => true
/-- each of k .. n-1 has a later one, up to n, that waits for it -/
def sinkB (ops : Array Oper) (k n : Nat) : Bool := (List.range n).all fun i => decide (i < k) || (List.range (n + 1)).any fun j => decide (i < j) && Region.waitsFor .any ops j i
/-- each behind n waits for one from n on -/
def afterB (ops : Array Oper) (n : Nat) : Bool := (List.range ops.size).all fun t => decide (t ≤ n) || (List.range t).any fun s => decide (n ≤ s) && Region.waitsFor .any ops t s
def lexB (ops : Array Oper) (n : Nat) : Nat → Nat → Array Bool → Bool
  | 0, _, m => decide (m = fst ops.size n)
  | f + 1, k, m => (Region.ready .any ops m).contains k && Region.free .any ops m k && lexB ops n f (k + 1) (m.setIfInBounds k true)
def quietB (ops : Array Oper) (k n : Nat) : Bool :=
  Region.noSelect ops && decide (k ≤ n) && decide (n ≤ ops.size) && closedB ops k && (decide (n = ops.size) || sinkB ops k n && afterB ops n) && lexB ops n (n - k) k (fst ops.size k)

theorem fst_getD {s k j : Nat} (hj : j < s) (d : Bool) : (fst s k).getD j d = decide (j < k) := by
  simp [fst, hj]
theorem fst_size (s k : Nat) : (fst s k).size = s := by simp [fst]

section
variable {P : Program} {ops : Array Oper} {C : World → Prop} {Q : Exit → Act → World → Prop} {n k0 : Nat} {L : Array Bool → Act → Prop}

theorem fst_inv (hc : closedB ops k0 = true) (hk : k0 ≤ n) (hs : k0 ≤ ops.size) : HeadInv .any ops n (fst ops.size k0) := by
  refine ⟨fst_size _ _, fun j oj hj hl e he hb => ?_, fun t ht hts => ?_⟩
  · have hjs : j < ops.size := (Array.getElem?_eq_some_iff.1 hj).1
    rw [fst_getD hjs] at hl
    have h1 := List.all_eq_true.1 hc j (List.mem_range.2 (by simpa using hl))
    rw [hj] at h1
    have h2 := Array.all_eq_true_iff_forall_mem.1 h1 e he
    rw [hb] at h2
    have h3 : e.on < k0 := by simpa using h2
    rw [fst_getD (by omega)]
    simpa using h3
  · rw [fst_getD hts]
    simp
    omega

/-- while one of k .. n-1 is left, none from n on may come up -/
theorem wait_head (hs : sinkB ops k0 n = true) (ha : afterB ops n = true) (hn : n < ops.size) {m : Array Bool} (inv : HeadInv .any ops n m) :
    ∀ (d i : Nat), n - i = d → k0 ≤ i → i < n → m.getD i true = false → ∀ t, n ≤ t → t ∉ Region.ready .any ops m := by
  intro d
  induction d using Nat.strongRecOn with
  | _ d ih =>
    intro i hd hki hi hun t ht hr
    obtain ⟨_, ot, hot, hall⟩ := mem_ready.1 hr
    have htl : t < ops.size := (Array.getElem?_eq_some_iff.1 hot).1
    by_cases htn : t = n
    · subst htn
      have h1 := List.all_eq_true.1 hs i (List.mem_range.2 hi)
      simp only [Bool.or_eq_true, decide_eq_true_eq] at h1
      obtain ⟨j, hj, hj2⟩ := List.any_eq_true.1 (h1.resolve_left (by omega))
      simp only [Bool.and_eq_true, decide_eq_true_eq] at hj2
      have hjt : j ≤ t := by have := List.mem_range.1 hj; omega
      obtain ⟨oj, hoj, e, he, hb, hon⟩ := Region.waitsFor_spec hj2.2
      have left : m.getD j true = false → False := fun hjun => by
        by_cases hjt' : j = t
        · subst hjt'
          obtain rfl : oj = ot := Option.some.inj (hoj.symm.trans hot)
          have h2 := hall e he hb
          rw [hon, getD_both hun] at h2
          cases h2
        · exact ih (t - j) (by omega) j rfl (by omega) (by omega) hjun t (Nat.le_refl _) hr
      cases hl : m.getD j false with
      | true =>
        have h2 := inv.closed j oj hoj hl e he hb
        rw [hon, getD_both hun] at h2
        cases h2
      | false => exact left (getD_in (by rw [inv.size]; omega) hl)
    · have h1 := List.all_eq_true.1 ha t (List.mem_range.2 htl)
      simp only [Bool.or_eq_true, decide_eq_true_eq] at h1
      obtain ⟨u, hu, hu2⟩ := List.any_eq_true.1 (h1.resolve_left (by omega))
      simp only [Bool.and_eq_true, decide_eq_true_eq] at hu2
      obtain ⟨o', ho', e, he, hb, hon⟩ := Region.waitsFor_spec hu2.2
      obtain rfl : o' = ot := Option.some.inj (ho'.symm.trans hot)
      have hut : u < t := List.mem_range.1 hu
      have h2 := hall e he hb
      rw [hon, getD_both (inv.tail u hu2.1 (by omega))] at h2
      cases h2

/-- a stretch's operations in whatever order, f of them left; behind them L -/
def Hd (P : Program) (ops : Array Oper) (C : World → Prop) (n : Nat) (L : Array Bool → Act → Prop) : Nat → Array Bool → Act → Prop
  | 0, m, a => L m a
  | f + 1, m, a => Region.ready .any ops m ≠ [] ∧ ∀ i ∈ Region.ready .any ops m, i < n ∧ qOp P ops C i (Hd P ops C n L f (m.setIfInBounds i true)) a

theorem Hd.any {g : Nat} (hL : ∀ m a, L m a → ∀ w, C w → wpAny P .any ops Q g m a w) : ∀ (f : Nat) (m : Array Bool) (a : Act) (w : World), C w → Hd P ops C n L f m a → wpAny P .any ops Q (f + g) m a w
  | 0, m, a, w, hC, h => by
    rw [Nat.zero_add]
    exact hL m a h w hC
  | f + 1, m, a, w, hC, h => by
    rw [show f + 1 + g = f + g + 1 from by omega]
    exact ⟨fun h0 => absurd h0 h.1, fun i hi => wpOp_of_qOp hC (fun a' w' hC' h' => Hd.any hL f _ a' w' hC' h') (h.2 i hi).2⟩

/-- an operation of the stretch that may come up now may be taken first -/
theorem Hd.first {i : Nat} {oi : Oper} {v : Value} (hi : ops[i]? = some oi) (hsel : ∀ (j : Nat) (o : Oper) cs b, ops[j]? = some o → o.op ≠ .select cs b)
    (hwait : n = ops.size ∨ sinkB ops k0 n = true ∧ afterB ops n = true ∧ n < ops.size) (hki : k0 ≤ i) (hin : i < n) (hdone : ∀ m a, L m a → ∀ j ∈ Region.ready .any ops m, n ≤ j) :
    ∀ (f : Nat) (m : Array Bool) (a : Act), HeadInv .any ops n m →
      (∀ j oj, ops[j]? = some oj → j ≠ i → m.getD j true = false → (∀ e ∈ oj.after, Region.binds .any e = true → e.on ≠ i) → oi.apart ops oj = true) →
      i ∈ Region.ready .any ops m → YieldsIn P ops C oi v a → Hd P ops C n L f (m.setIfInBounds i true) (a.put oi.dst v) → Hd P ops C n L (f + 1) m a
  | f, m, a, inv, hfree, hr, hy, H => by
    have hun := (mem_ready.1 hr).1
    refine ⟨fun h => (by rw [h] at hr; cases hr), fun j hj => ?_⟩
    obtain ⟨hjun, oj, hoj, hall⟩ := mem_ready.1 hj
    have hjn : j < n := by
      rcases hwait with h | ⟨hs, ha, hn⟩
      · rw [h]; exact (Array.getElem?_eq_some_iff.1 hoj).1
      · exact Decidable.byContradiction fun h => wait_head hs ha hn inv _ i rfl hki hin hun j (Nat.not_lt.1 h) hj
    refine ⟨hjn, ?_⟩
    by_cases hji : j = i
    · subst hji
      exact hy.qOp hi H
    have hnot : ∀ e ∈ oj.after, Region.binds .any e = true → e.on ≠ i := by
      intro e he hb heq
      have h1 := hall e he hb
      rw [heq, getD_both hun] at h1
      cases h1
    match f, H with
    | 0, H =>
      have := hdone _ _ H j (ready_mono hj hji)
      omega
    | f + 1, H =>
      refine qOp_mono (fun a' h3 => Hd.first hi hsel hwait hki hin hdone f (m.setIfInBounds j true) a' (inv.set hj hjn) ?_ (ready_mono hr (Ne.symm hji)) h3.1 (by rw [Array.setIfInBounds_comm _ _ hji]; exact h3.2))
        (qOp_put hoj (hfree j oj hoj hji hjun hnot) (fun cs b => hsel i oi cs b hi) (fun cs b => hsel j oj cs b hoj) hy (H.2 j (ready_mono hj hji)).2)
      intro k ok hk hki hunk hno
      by_cases hjk : j = k
      · subst hjk
        exact hfree j ok hk hki hjun hno
      · rw [getD_set_ne true hjk] at hunk
        exact hfree k ok hk hki hunk hno

theorem Hd.lex {T : Act → Prop} (hsel : Region.noSelect ops = true) (hwait : n = ops.size ∨ sinkB ops k0 n = true ∧ afterB ops n = true ∧ n < ops.size) :
    ∀ (l : List Oper) (k : Nat) (m : Array Bool) (a : Act), k0 ≤ k → (∀ j, j < l.length → l[j]? = ops[k + j]?) → k + l.length = n → HeadInv .any ops n m →
      lexB ops n l.length k m = true → wpQuiet P ops C T l a → Hd P ops C n (fun m' a' => m' = fst ops.size n ∧ T a') l.length m a
  | [], k, m, a, _, _, hk, _, hB, h => ⟨by simpa [lexB] using hB, h⟩
  | o :: l, k, m, a, hk0, hl, hk, inv, hB, h => by
    have h0 : ops[k]? = some o := by simpa using (hl 0 (by simp)).symm
    simp only [List.length_cons, lexB, Bool.and_eq_true] at hB
    have hkn : k < n := by simp only [List.length_cons] at hk; omega
    have hr : k ∈ Region.ready .any ops m := by simpa using hB.1.1
    have hq : qOp P ops C k (wpQuiet P ops C T l) a := by
      unfold qOp
      simp only [h0]
      exact h
    obtain ⟨v, hy, hK⟩ := yieldsIn_of_qOp h0 hq
    refine Hd.first h0 (Region.noSelect_spec hsel) hwait hk0 hkn (fun m' a' hL j hj => ?_) l.length m a inv (Region.free_spec h0 hB.1.2) hr hy ?_
    · obtain ⟨hju, oj, hoj, _⟩ := mem_ready.1 hj
      rw [hL.1, fst_getD (Array.getElem?_eq_some_iff.1 hoj).1] at hju
      simpa using hju
    · exact Hd.lex hsel hwait l (k + 1) _ _ (by omega) (fun j hj => by
        have h1 := hl (j + 1) (by simp; omega)
        simpa [Nat.add_assoc, Nat.add_comm 1 j] using h1) (by simp only [List.length_cons] at hk; omega) (inv.set hr hkn) hB.2 hK

/-- what is left of a region, the first k having come up: shut -/
structure Rem (P : Program) (ops : Array Oper) (Q : Exit → Act → World → Prop) (k : Nat) (a : Act) (w : World) : Prop where
  out : wpAny P .any ops Q (ops.size - k) (fst ops.size k) a w

theorem rem_start {id : Nat} {a : Act} {w : World} (hm : P.follows .mixedOrders = true) (h0 : Array.replicate ops.size false = fst ops.size 0) (h : Rem P ops Q 0 a w.drew) : (Code.region id ops true).wp P Q a w := by
  refine wp_region_any hm ?_
  rw [h0]
  exact h.out
theorem rem_end {a : Act} {w : World} (hr : Region.ready .any ops (fst ops.size k0) = []) (h : Q .normal a w) : Rem P ops Q k0 a w := ⟨wpAny_done hr h _⟩
theorem rem_quiet {a : Act} {w : World} {l : List Oper} (n : Nat) (hB : quietB ops k0 n = true) (hl : (ops.toList.drop k0).take (n - k0) = l) (hC : C w) (h : Qw P ops C (fun a' => ∀ w', C w' → Rem P ops Q n a' w') l a) : Rem P ops Q k0 a w := by
  subst hl
  simp only [quietB, Bool.and_eq_true, decide_eq_true_eq, Bool.or_eq_true] at hB
  obtain ⟨⟨⟨⟨⟨hsel, hkn⟩, hns⟩, hcl⟩, hw⟩, hlex⟩ := hB
  have hlen : ((ops.toList.drop k0).take (n - k0)).length = n - k0 := by simp; omega
  have hwait : n = ops.size ∨ sinkB ops k0 n = true ∧ afterB ops n = true ∧ n < ops.size := by
    rcases Nat.lt_or_ge n ops.size with h1 | h1
    · rcases hw with h2 | h2
      · omega
      · exact .inr ⟨h2.1, h2.2, h1⟩
    · exact .inl (by omega)
  have H := Hd.lex (C := C) hsel hwait _ k0 _ a (Nat.le_refl _) (fun j hj => by
    rw [hlen] at hj
    simp [List.getElem?_take_of_lt hj]) (by rw [hlen]; omega) (fst_inv hcl hkn (by omega)) (by rw [hlen]; exact hlex) h.out
  have H2 := Hd.any (Q := Q) (g := ops.size - n) (fun m a' hL w' hC' => by rw [hL.1]; exact (hL.2 w' hC').out) _ _ _ w hC H
  rw [hlen, show n - k0 + (ops.size - n) = ops.size - k0 by omega] at H2
  exact ⟨H2⟩
theorem rem_one {a : Act} {w : World} {o : Oper} (hr : Region.ready .any ops (fst ops.size k0) = [k0]) (hs : (fst ops.size k0).setIfInBounds k0 true = fst ops.size (k0 + 1)) (ho : ops[k0]? = some o) (hw : Region.wanted o (yielded ops a.tmps) = true)
    (h : ∀ K : Act → World → Prop, (∀ a' w', Rem P ops Q (k0 + 1) a' w' → K a' w') → o.wp P a w K Q) : Rem P ops Q k0 a w := by
  have hk : k0 < ops.size := (Array.getElem?_eq_some_iff.1 ho).1
  refine ⟨?_⟩
  rw [show ops.size - k0 = ops.size - (k0 + 1) + 1 by omega]
  refine ⟨fun h0 => (by rw [hr] at h0; cases h0), fun i hi => ?_⟩
  rw [hr] at hi
  obtain rfl : i = k0 := by simpa using hi
  unfold wpOp
  simp only [ho, hw, if_true]
  exact .inl (h _ fun a' w' h' => by rw [hs]; exact h'.out)
theorem rem_skip {a : Act} {w : World} {o : Oper} (hr : Region.ready .any ops (fst ops.size k0) = [k0]) (hs : (fst ops.size k0).setIfInBounds k0 true = fst ops.size (k0 + 1)) (ho : ops[k0]? = some o) (hw : Region.wanted o (yielded ops a.tmps) = false)
    (h : Rem P ops Q (k0 + 1) (a.put o.dst undef) w) : Rem P ops Q k0 a w := by
  have hk : k0 < ops.size := (Array.getElem?_eq_some_iff.1 ho).1
  refine ⟨?_⟩
  rw [show ops.size - k0 = ops.size - (k0 + 1) + 1 by omega]
  refine ⟨fun h0 => (by rw [hr] at h0; cases h0), fun i hi => ?_⟩
  rw [hr] at hi
  obtain rfl : i = k0 := by simpa using hi
  unfold wpOp
  simp only [ho, hw]
  rw [hs]
  exact h.out
end

/-- what is left of a region, those of m having come up, n being left -/
structure RemM (P : Program) (ops : Array Oper) (Q : Exit → Act → World → Prop) (m : Array Bool) (n : Nat) (a : Act) (w : World) : Prop where
  out : wpAny P .any ops Q n m a w
section
variable {P : Program} {ops : Array Oper} {Q : Exit → Act → World → Prop} {k0 n : Nat} {m : Array Bool}
theorem RemM.rem {a : Act} {w : World} (hm : m = fst ops.size k0) (hn : n = ops.size - k0) (h : Rem P ops Q k0 a w) : RemM P ops Q m n a w := by
  subst hm hn
  exact ⟨h.out⟩
theorem remM_one {a : Act} {w : World} {o : Oper} (i : Nat) (m' : Array Bool) (hr : Region.ready .any ops m = [i]) (hs : m.setIfInBounds i true = m') (ho : ops[i]? = some o) (hw : Region.wanted o (yielded ops a.tmps) = true)
    (h : ∀ K : Act → World → Prop, (∀ a' w', RemM P ops Q m' n a' w' → K a' w') → o.wp P a w K Q) : RemM P ops Q m (n + 1) a w := by
  refine ⟨⟨fun h0 => (by rw [hr] at h0; cases h0), fun j hj => ?_⟩⟩
  rw [hr] at hj
  obtain rfl : j = i := by simpa using hj
  unfold wpOp
  simp only [ho, hw, if_true]
  exact .inl (h _ fun a' w' h' => by rw [hs]; exact h'.out)
/-- the next two come in either order -/
theorem rem_two {a : Act} {w : World} {o1 o2 : Oper} (hr : Region.ready .any ops (fst ops.size k0) = [k0, k0 + 1]) (hs : (fst ops.size k0).setIfInBounds k0 true = fst ops.size (k0 + 1))
    (hr2 : Region.ready .any ops ((fst ops.size k0).setIfInBounds (k0 + 1) true) = [k0]) (hs2 : ((fst ops.size k0).setIfInBounds (k0 + 1) true).setIfInBounds k0 true = fst ops.size (k0 + 2))
    (ho1 : ops[k0]? = some o1) (ho2 : ops[k0 + 1]? = some o2) (hw1 : Region.wanted o1 (yielded ops a.tmps) = true) (hw2 : Region.wanted o2 (yielded ops a.tmps) = true)
    (h1 : ∀ K : Act → World → Prop, (∀ a' w', Rem P ops Q (k0 + 1) a' w' → K a' w') → o1.wp P a w K Q)
    (h2 : ∀ K : Act → World → Prop, (∀ a' w', (Region.wanted o1 (yielded ops a'.tmps) = true ∧ ∀ K' : Act → World → Prop, (∀ a'' w'', Rem P ops Q (k0 + 2) a'' w'' → K' a'' w'') → o1.wp P a' w' K' Q) → K a' w') → o2.wp P a w K Q) : Rem P ops Q k0 a w := by
  have hk : k0 < ops.size := (Array.getElem?_eq_some_iff.1 ho1).1
  have hk2 : k0 + 1 < ops.size := (Array.getElem?_eq_some_iff.1 ho2).1
  refine ⟨?_⟩
  rw [show ops.size - k0 = ops.size - (k0 + 1) + 1 by omega]
  refine ⟨fun h0 => (by rw [hr] at h0; cases h0), fun i hi => ?_⟩
  rw [hr] at hi
  simp only [List.mem_cons, List.not_mem_nil, or_false] at hi
  unfold wpOp
  rcases hi with rfl | rfl
  · simp only [ho1, hw1, if_true]
    exact .inl (h1 _ fun a' w' h' => by rw [hs]; exact h'.out)
  · simp only [ho2, hw2, if_true]
    refine .inl (h2 _ fun a' w' h' => ?_)
    rw [show ops.size - (k0 + 1) = ops.size - (k0 + 2) + 1 by omega]
    exact (remM_one (m := (fst ops.size k0).setIfInBounds (k0 + 1) true) k0 _ hr2 hs2 ho1 h'.1 fun K hK => h'.2 K fun a'' w'' h'' => hK _ _ ⟨h''.out⟩).out
end

end Go.Proofs.YtncoanmgifgcbaaDoor
