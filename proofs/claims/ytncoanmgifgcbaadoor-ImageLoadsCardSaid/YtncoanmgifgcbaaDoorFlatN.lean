/- A flat memory: Next, Become, all that are there. · More contracts over a flat memory: flat.Class, flat.Size, Fetch; its objects may be. -/
import Derived.Test.YtncoanmgifgcbaaDoorRefs
import Derived.Handy
namespace Go.Proofs.YtncoanmgifgcbaaDoor
set_option linter.unusedVariables false
set_option linter.unusedSimpArgs false
open Go.RowKit

def allTo (L : List O) (j : Nat) : List Int := ((List.range j).filter fun i => (ob L i).kind != 0).map fun (i : Nat) => 2 * ((i : Int) + 1)
/-- what Next tells from place j on -/
def nxN (L : List O) (j : Nat) : Int := match nxtI L j with | some i => 2 * ((i : Int) + 1) | none => 0
def nxB (L : List O) (j : Nat) : Bool := (nxtI L j).isSome
def allL (L : List O) : List Int := allTo L L.length
theorem allTo_succ (L : List O) (i : Nat) : allTo L (i + 1) = allTo L i ++ (if (ob L i).kind ≠ 0 then [2 * ((i : Int) + 1)] else []) := by
  unfold allTo
  rw [List.range_succ, List.filter_append, List.map_append]
  by_cases h : (ob L i).kind = 0 <;> simp [h]
theorem allTo_same (L : List O) {j : Nat} : ∀ {i : Nat}, j ≤ i → (∀ k, j ≤ k → k < i → (ob L k).kind = 0) → allTo L i = allTo L j
  | 0, h, _ => by rw [show j = 0 by omega]
  | i + 1, h, hk => by
    by_cases e : j = i + 1
    · rw [e]
    · rw [allTo_succ, if_neg (fun hn => hn (hk i (by omega) (by omega))), List.append_nil]
      exact allTo_same L (by omega) fun k h1 h2 => hk k h1 (by omega)
theorem nxtI_at {L : List O} {j i : Nat} (h : nxtI L j = some i) : j ≤ i ∧ i < L.length ∧ (ob L i).kind ≠ 0 ∧ ∀ k, j ≤ k → k < i → (ob L k).kind = 0 := by
  unfold nxtI at h
  rw [List.find?_range_eq_some] at h
  obtain ⟨h1, h2, h3⟩ := h
  simp only [Bool.and_eq_true, decide_eq_true_eq, bne_iff_ne, ne_eq] at h1
  refine ⟨h1.1, List.mem_range.1 h2, h1.2, fun k hk hki => ?_⟩
  have := h3 k hki
  simp only [Bool.not_eq_true', Bool.and_eq_false_iff, decide_eq_false_iff_not, bne_eq_false_iff_eq] at this
  exact this.resolve_left (fun h => h hk)
theorem nxtI_not {L : List O} {j : Nat} (h : nxtI L j = none) : ∀ k, j ≤ k → (ob L k).kind = 0 := by
  unfold nxtI at h
  rw [List.find?_eq_none] at h
  intro k hk
  by_cases hkl : k < L.length
  · have := h k (List.mem_range.2 hkl)
    simp only [Bool.and_eq_true, decide_eq_true_eq, bne_iff_ne, ne_eq, not_and, Decidable.not_not] at this
    exact this hk
  · exact Decidable.byContradiction fun hn => hkl (ob_lt hn)
theorem namedV_even (i : Nat) (h : i + 1 ≤ 1073741823) : namedV (2 * ((i : Int) + 1)) = (i : Int) + 1 := by
  rw [(namedV_of (show namedOk (2 * ((i : Int) + 1)) = true by simp [namedOk]; omega)).1]
  omega
theorem allTo_len (L : List O) (j : Nat) : (allTo L j).length ≤ j := by
  unfold allTo
  rw [List.length_map]
  exact Nat.le_trans (List.length_filter_le _ _) (by simp)
theorem allTo_step {L : List O} {j i : Nat} (h : nxtI L j = some i) : allTo L (i + 1) = allTo L j ++ [2 * ((i : Int) + 1)] := by
  obtain ⟨h1, h2, h3, h4⟩ := nxtI_at h
  rw [allTo_succ, if_pos h3, allTo_same L h1 h4]
theorem allTo_end {L : List O} {j : Nat} (hj : j ≤ L.length) (h : nxtI L j = none) : allTo L j = allL L := (allTo_same L hj fun k hk _ => nxtI_not h k hk).symm

section
variable {w0 w w' : World} {m : Nat} {L L' : List O} {K : (Nat → Prop) → World → Prop} {F F' : Nat → Prop}
theorem MemK.made (h : MemK w0 w m L K) : L.length < 1073741823 := by
  obtain ⟨F, ⟨q, es, ad, wv, bv, hi⟩, _⟩ := h
  exact hi.made
theorem k_Next (h : MemK w0 w m L K) (o : Int) (ho : In64 o) :
    Calls Tryd.prog 155 #[.pointer (some ⟨m, 0, none⟩), .int .i64 o] w fun e w' => e = .returned (.tuple #[.int .i64 (nextN L o), .bool (nextOK L o)]) ∧ MemK w0 w' m L K ∧ Chg No w w' := by
  have h0 := h
  obtain ⟨F, ⟨q, es, ad, wv, bv, hi⟩, hc0, hF, hK⟩ := h
  refine (Next_any hi o ho).mono ?_
  rintro e w' ⟨rfl, c1⟩
  exact ⟨rfl, h0.world c1, c1⟩
theorem k_Become (h : MemK w0 w m L K) (a b : Int) (ha : In64 a) (hb : In64 b) :
    Calls Tryd.prog 152 #[.pointer (some ⟨m, 0, none⟩), .int .i64 a, .int .i64 b] w fun e w' => e = .returned (.int .i64 (becomeE L a b)) ∧ MemK w0 w' m (becomeL L a b) K := by
  obtain ⟨F, ⟨q, es, ad, wv, bv, hi⟩, hc0, hF, hK⟩ := h
  have key : ∀ (L' : List O) (n : Int) e w', Becamed w m F L' n e w' → e = .returned (.int .i64 n) ∧ MemK w0 w' m L' K := by
    rintro L' n e w' ⟨h1, h2, h3⟩
    exact ⟨h1, MemK.go ⟨q, es, ad, wv, bv, hi⟩ hc0 hF hK h2 h3 (fun b hb => .inl hb) (fun _ h => h)⟩
  cases hfa : fnd L a with
  | none =>
    rw [show becomeE L a b = 4 by simp [becomeE, hfa], show becomeL L a b = L by simp [becomeL, hfa]]
    exact (Become_none hi a b ha hb (.inl hfa)).mono (key L 4)
  | some i =>
    cases hfb : fnd L b with
    | none =>
      rw [show becomeE L a b = 4 by simp [becomeE, hfa, hfb], show becomeL L a b = L by simp [becomeL, hfa, hfb]]
      exact (Become_none hi a b ha hb (.inr hfb)).mono (key L 4)
    | some j =>
      rw [show becomeE L a b = 0 by simp [becomeE, hfa, hfb], show becomeL L a b = becL L i j by simp [becomeL, hfa, hfb]]
      exact (Become_some hi a b ha hb hfa hfb).mono (key _ 0)

/-- what All gives -/
def Alled (w : World) (L : List O) (v : Value) (w' : World) : Prop := OwnInts w' w.heap.size v (allL L) ∧ Chg No w w'

set_option maxRecDepth 100000 in
set_option maxHeartbeats 1000000 in
theorem All_any {q : Nat} {es : List (Int × Value)} {ad : Nat → Nat} {wv bv : Nat → Value} (h : FlatI w m F L q es ad wv bv) : Calls Tryd.prog 15 #[.iface 27 (.pointer (some ⟨m, 0, none⟩))] w (Ret (Alled w L)) := by
  have hmade := h.made
  have H := Lib.hid h
  have i0 : In64 0 := by unfold In64; omega
  have hz : nextN L 0 = nxN L 0 ∧ nextOK L 0 = nxB L 0 := by
    unfold nextN nextOK nxN nxB
    rw [namedV_no (by decide)]
    exact ⟨rfl, rfl⟩
  have HZ := Lib.hid hz
  clear h hz
  go_enter Tryd.func15, Tryd.ntmps15
  go_wp2_with (go_at_call 155; refine (Next_any H.out 0 i0).mono ?_; rw [HZ.out.1, HZ.out.2]; rintro e w1 ⟨rfl, c1⟩)
  generalize hn : L.length = n at *
  have HN := Lib.hid hn
  clear hn
  go_loopg [3, 4, 5] n (fun k v3 v4 v5 wr => ∃ (j : Nat) (N : Int) (B : Bool), v4 = .int .i64 N ∧ v5 = .bool B ∧ N = nxN L j ∧ B = nxB L j ∧ j ≤ n ∧ n - j ≤ k ∧ OwnInts wr w.heap.size v3 (allTo L j) ∧ Chg No w wr)
  case atStart => exact ⟨0, _, _, rfl, rfl, rfl, rfl, by omega, by omega, World.ownsRow_nil _ _ _ _, c1⟩
  case round =>
    clear c1
    obtain ⟨j, N, B, rfl, rfl, hN, hB, j1, j2, own, c1⟩ := hrel
    have hal := allTo_len L j
    obtain ⟨A3, c3, rfl⟩ := own.form
    cases hx : nxtI L j with
    | none =>
      have he := allTo_end (by rw [HN.out]; exact j1) hx
      have HX := Lib.hid (And.intro own (And.intro c1 he))
      obtain rfl : B = false := hB.trans (by rw [nxB, hx]; rfl)
      clear own c1 he hx hN hB
      generalize (allTo L j).length = k at *
      go_wp2_with fail
      go_ret
      refine Ret.mk ⟨?_, HX.out.2.1⟩
      rw [← HX.out.2.2]
      exact HX.out.1
    | some i =>
      obtain ⟨h1, h2, h3, -⟩ := nxtI_at hx
      rw [HN.out] at h2
      obtain rfl : B = true := hB.trans (by rw [nxB, hx]; rfl)
      obtain rfl : N = 2 * ((i : Int) + 1) := hN.trans (by rw [nxN, hx])
      obtain ⟨A5, c5, w5, hr5, ho5, cg5⟩ := app_one own (by omega) c1.size (2 * ((i : Int) + 1)) 36
      rw [← allTo_step hx] at ho5
      have cw5 : Chg No w w5 := c1.then cg5 (fun k hk hle => by omega)
      have hnv : nextN L (2 * ((i : Int) + 1)) = nxN L (i + 1) ∧ nextOK L (2 * ((i : Int) + 1)) = nxB L (i + 1) := by
        unfold nextN nextOK nxN nxB
        rw [namedV_even i (by omega), show ((i : Int) + 1).toNat = i + 1 by omega]
        exact ⟨rfl, rfl⟩
      have HX := Lib.hid (And.intro hr5 (And.intro ho5 (And.intro cw5 hnv)))
      have i64 : In64 (2 * ((i : Int) + 1)) := by unfold In64; omega
      clear own c1 hx hr5 ho5 cg5 cw5 hnv hN hB
      generalize (allTo L j).length = k at *
      go_wp2_with (first
        | (at_builtin; refine wpList_append_run rfl _ _ _ rfl rfl rfl HX.out.1 ?_)
        | (go_at_call 155; refine (Next_any (H.out.keep HX.out.2.2.1 (fun _ _ f => f)) (2 * ((i : Int) + 1)) i64).mono ?_; rw [HX.out.2.2.2.1, HX.out.2.2.2.2]; rintro e w6 ⟨rfl, c6⟩))
      go_roundg (n - (i + 1))
      case measure => omega
      case rel => exact ⟨i + 1, _, _, rfl, rfl, rfl, rfl, by omega, by omega, HX.out.2.1.keep c6 (fun _ _ f => f), HX.out.2.2.1.trans c6⟩
theorem k_All (h : MemK w0 w m L K) : Calls Tryd.prog 15 #[.iface 27 (.pointer (some ⟨m, 0, none⟩))] w (Ret fun v w' => OwnInts w' w.heap.size v (allL L) ∧ MemK w0 w' m L K ∧ Chg No w w') := by
  have h0 := h
  obtain ⟨F, ⟨q, es, ad, wv, bv, hi⟩, hc0, hF, hK⟩ := h
  refine (All_any hi).mono ?_
  rintro e w' ⟨v, rfl, ho, c1⟩
  exact ⟨v, rfl, ho, h0.world c1, c1⟩
end

section
variable {w0 w w' : World} {m : Nat} {L L' : List O} {K : (Nat → Prop) → World → Prop} {F F' : Nat → Prop}
theorem MemK.okAt (h : MemK w0 w m L K) {i : Nat} (hk : (ob L i).kind ≠ 0) : (ob L i).ok := by
  obtain ⟨F, ⟨q, es, ad, wv, bv, hi⟩, _⟩ := h
  exact hi.ok i hk
theorem MemK.goneAt {w0 w : World} {m : Nat} {L : List O} {K : (Nat → Prop) → World → Prop} (h : MemK w0 w m L K) {i : Nat} (hk : (ob L i).kind = 0) : ob L i = O.zero := by
  obtain ⟨F, ⟨q, es, ad, wv, bv, hi⟩, _⟩ := h
  exact hi.gone i hk
end

section
variable {w0 w w' : World} {m : Nat} {L L' : List O} {K : (Nat → Prop) → World → Prop} {F F' : Nat → Prop}
theorem k_FetchC (h : MemK w0 w m L K) (o i : Int) (ho : In64 o) :
    Calls Tryd.prog 21 #[.pointer (some ⟨m, 0, none⟩), .int .i64 o, .int .i64 i] w fun e w' => e = .returned (.tuple #[.int .i64 (fetchV L o i), .int .i64 (placeE L o 1 i)]) ∧ MemK w0 w' m L K ∧ Chg No w w' := by
  have h0 := h
  obtain ⟨F, ⟨q, es, ad, wv, bv, hi⟩, hc0, hF, hK⟩ := h
  refine (Fetch_any hi o i ho).mono ?_
  rintro e w' ⟨rfl, c1⟩
  exact ⟨rfl, h0.world (Chg.of_below c1), Chg.of_below c1⟩
end

section
variable {w0 w w' : World} {m : Nat} {L L' : List O} {K : (Nat → Prop) → World → Prop} {F F' : Nat → Prop}
set_option maxRecDepth 100000 in
set_option maxHeartbeats 1000000 in
theorem k_Class (h : MemK w0 w m L K) (o : Int) (ho : In64 o) :
    Calls Tryd.prog 110 #[.iface 27 (.pointer (some ⟨m, 0, none⟩)), .int .i64 o] w fun e w' => e = .returned (.tuple #[.int .i64 (objV L o).cls, .int .i64 (objE L o)]) ∧ MemK w0 w' m L K ∧ Chg No w w' := by
  have H := Lib.hid h
  clear h
  generalize hx : objV L o = x at *
  have HX := Lib.hid hx
  clear hx
  go_enter Tryd.func110, Tryd.ntmps110
  go_wp2_with (go_at_call 156; refine (k_ObjC H.out o ho).mono ?_; rw [HX.out]; rintro e w21 ⟨r, rfl, g3, hr, c3⟩; obtain ⟨A1, c1, B1, d1, rfl⟩ := hr.shape; have HG := Lib.hid (And.intro g3 c3); clear g3 c3 hr)
  go_ret2
  exact ⟨rfl, HG.out.1.world ((Chg.refl _ _).alloc _), HG.out.2.alloc _⟩
end

section
variable {w0 w w' : World} {m : Nat} {L L' : List O} {K : (Nat → Prop) → World → Prop} {F F' : Nat → Prop}
end

section
variable {w0 w w' : World} {m : Nat} {L L' : List O} {K : (Nat → Prop) → World → Prop} {F F' : Nat → Prop}
/-- what one thing that is done turns -/
def Turned (w : World) (F : Nat → Prop) (F' : Nat → Prop) (w' : World) : Prop := (∀ b, F b → F' b) ∧ (∀ b, F' b → F b ∨ w.heap.size ≤ b) ∧ Chg F w w'
theorem Flat.toK (hf : Flat w m F L) : MemK { w with heap := #[] } w m L (Turned w F) :=
  ⟨F, hf, ⟨rfl, rfl, rfl, by simp, by simp⟩, by simp, fun F' w' h1 h2 c => ⟨h1, h2, c⟩⟩
/-- the end of each way: cells of new blocks have been written behind the call -/
theorem done_end (hf : Flat w m F L) (hc : Chg No w0 w) (hF : ∀ b, F b → w0.heap.size ≤ b) (hK : ∀ F' w', (∀ b, F b → F' b) → (∀ b, F' b → F b ∨ w.heap.size ≤ b) → Chg F w w' → K F' w')
    {w3 w4 W : World} (h3 : Chg No w w3) (hf4 : Flat w4 m F' L') (ht : Turned w3 F F' w4) {G : Nat → Prop} (hG : ∀ b, G b → w.heap.size ≤ b ∧ b < w3.heap.size) (hW : Chg G w4 W) : MemK w0 W m L' K := by
  have h3s := h3.size
  have cw4 : Chg F w w4 := h3.no.trans ht.2.2
  refine MemK.go hf hc hF hK (hf4.keep hW fun b hb hg => ?_) (cw4.then hW fun i hi hg => ?_) (fun b hb => ?_) ht.1
  · have h1 := hG b hg
    rcases ht.2.1 b hb with h | h
    · have := hf.lt h; omega
    · omega
  · have := hG i hg; omega
  · rcases ht.2.1 b hb with h | h
    · exact .inl h
    · exact .inr (by omega)
end

end Go.Proofs.YtncoanmgifgcbaaDoor
