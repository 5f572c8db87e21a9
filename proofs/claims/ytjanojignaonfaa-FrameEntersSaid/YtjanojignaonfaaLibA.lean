/- Walks of the library's functions: slices.Repeat of one number, slices.Clone. -/
import Derived.Test.YtjanojignaonfaaProg
import Derived.Test.YtjanojignaonfaaHeap
import Derived.BigQuiet
import Derived.Deep.QuietTactic
import Derived.Deep.LoopGhost
import Derived.Outline
import Derived.Laws.CopyOwn
import Derived.Deep.RegionLaw
import Derived.Deep.DeepMust
namespace Go.Proofs.Ytjanojignaonfaa
set_option linter.unusedVariables false
set_option linter.unusedSimpArgs false
open Go.RowKit

theorem u64_mask (n : Int) (h : 0 ≤ n ∧ n ≤ 4294967295) : bits .and .u64 n 4294967295 = n := by
  obtain ⟨k, rfl⟩ := Int.eq_ofNat_of_zero_le h.1
  rw [show (4294967295 : Int) = ((4294967295 : Nat) : Int) from rfl, u64_and_nat k 4294967295 (by omega) (by decide)]
  rw [show k &&& 4294967295 = k % 4294967296 from Nat.and_two_pow_sub_one_eq_mod k 32]
  omega

set_option maxHeartbeats 400000 in
theorem Mul64_one (n : Int) (h : 0 ≤ n) (h' : n ≤ 4294967295) (w : World) :
    Calls Try.prog 111 #[.int .u64 1, .int .u64 n] w fun e w' => e = .returned (.tuple #[.int .u64 0, .int .u64 n]) ∧ w = w' := by
  have h1 := u64_mask n ⟨h, h'⟩
  have h2 : bits .and .u64 1 4294967295 = 1 := by decide
  have h3 : n / 4294967296 = 0 := by omega
  have h4 : bits .and .u64 0 4294967295 = 0 := by decide
  go_enter Try.func111, Try.ntmps111
  go_wp2
  go_ret2
  exact ⟨rfl, rfl⟩

set_option maxHeartbeats 400000 in
theorem Mul_one (n : Int) (h : 0 ≤ n) (h' : n ≤ 4294967295) (w : World) :
    Calls Try.prog 108 #[.int .u64 1, .int .u64 n] w fun e w' => e = .returned (.tuple #[.int .u64 0, .int .u64 n]) ∧ w = w' := by
  go_enter Try.func108, Try.ntmps108
  go_wp2_with (go_at_call 111; refine (Mul64_one _ (by omega) (by omega) _).mono ?_; rintro e w' ⟨rfl, rfl⟩)
  go_ret2
  exact ⟨rfl, rfl⟩

theorem info_int : (Try.prog.info? 3).map (fun i => (i.zero, i.size, i.bytes)) = some (some (.int .i64 0), 1, 8) := by kernel_rfl
theorem info_u8 : (Try.prog.info? 5).map (fun i => (i.zero, i.size, i.bytes)) = some (some (.int .u8 0), 1, 1) := by kernel_rfl

theorem own_row {w : World} {base : Nat} {e : TypeId} {g n : Nat} {xs : List Value} (h : w.ownsRow base e 1 (.slice (some ⟨g, 0, none⟩) n n) n xs) : w.heap[g]? = some (.cells xs.toArray e (0, 0)) := by
  obtain ⟨hl, h | ⟨g', cap, cur, hv, _, hg, hn, _, hs, ht⟩⟩ := h
  · cases h.1
  · simp only [Value.slice.injEq, Option.some.injEq, Addr.mk.injEq, and_true, true_and] at hv
    obtain ⟨rfl, rfl⟩ := hv
    rw [hg]
    have : cur.toList = xs := by rw [← ht, List.take_of_length_le (by simp; omega)]
    rw [← this]

/-- the first k cells of block b hold v, n cells are there -/
def Filled (w : World) (b : Nat) (t : TypeId) (n k : Nat) (v : Value) : Prop := ∃ cur : List Value, w.heap[b]? = some (.cells cur.toArray t (0, 0)) ∧ cur.length = n ∧ cur.take k = List.replicate k v
theorem Filled.cell {w : World} {b : Nat} {t : TypeId} {n k : Nat} {v : Value} (h : Filled w b t n k v) (i : Nat) (hi : i < k) (hk : k ≤ n) : w.cell? ⟨b, i, none⟩ = some v := by
  obtain ⟨cur, hb, hl, ht⟩ := h
  rw [cell_of_row w b i _ t (0, 0) hb]
  have := congrArg (·[i]?) ht
  simp only [List.getElem?_take, if_pos hi, List.getElem?_replicate] at this
  simpa using this
theorem Filled.splice {w' : World} {b : Nat} {t : TypeId} {n k m : Nat} {v : Value} {cur : List Value} (hl : cur.length = n) (ht : cur.take k = List.replicate k v) (hm : k + m ≤ n)
    (h : Hid (w'.heap[b]? = some (.cells (splice cur k (List.replicate m v)).toArray t (0, 0)))) : Filled w' b t n (k + m) v := by
  refine ⟨_, h.out, ?_, ?_⟩
  · simp [Go.splice, hl]; omega
  · have hk : (cur.take k).length = k := by simp; omega
    simp only [Go.splice]
    rw [ht, ← List.append_assoc, List.take_left' (by simp), List.replicate_append_replicate]

/-- copy, at the place where the filled cells end -/
theorem run_copy_fill {P : Program} (w : World) (dT sT ty elem : TypeId) (g n k m dLen dCap : Nat) (a : Addr) (sLen sCap : Nat) (t : TypeId) (v : Value) (hv : v.oneCell' = true)
    (hu : P.underlying dT = some (.slice elem)) (hs : (P.info? elem).map (·.size) = some 1) (hF : Filled w g t n k v) (hm : m = Nat.min sLen dLen) (hk : k + m ≤ n) (hsrc : ∀ j, j < m → w.cell? (a.add j) = some v) :
    ∃ w', (Builtin.copy_ #[dT, sT] ty #[.slice (some ⟨g, k, none⟩) dLen dCap, .slice (some a) sLen sCap]).run P w = .ok (.int .i64 (m : Int)) w' ∧ Filled w' g t n (k + m) v ∧ w.grownBy w' (some g) := by
  obtain ⟨cur, hb, hl, ht⟩ := hF
  have hcp := run_copy_row (P := P) w dT sT ty elem g k dLen dCap a sLen sCap _ t (List.replicate m v) hu hs hb (by simpa using hm) (by
    intro j u hj
    rw [List.getElem?_replicate] at hj
    split at hj
    · rename_i h
      cases hj
      exact hsrc j h
    · cases hj) (by simp; omega) (by
    intro u hu
    rw [List.mem_replicate] at hu
    rw [hu.2]
    exact hv)
  have hg : (List.replicate m v).length = m := by simp
  rw [hg] at hcp
  refine ⟨_, hcp, ?_, ⟨rfl, rfl, rfl, by simp [World.setRow], fun j _ hj => setRow_other w g j _ (fun e => hj (by rw [e]))⟩⟩
  refine Filled.splice (cur := cur) hl ht hk ?_
  show _ = _
  have hr := setRow_heap w g _ (cur.toArray.toList.take k ++ List.replicate m v ++ cur.toArray.toList.drop (k + m)).toArray t _ hb
  rw [hr]
  simp [Go.splice]

/-- copy as one step of a region that draws -/
theorem step_copy_run {P : Program} {ops : Array Oper} {o : Oper} {a : Act} {w w' : World} {K : Act → World → Prop} {Q : Exit → Act → World → Prop} {E : Prop} (hgd : o.guard = none) (d s : Operand) (dT sT : TypeId)
    (ho : o.op = .call { callee := .builtin .copy, args := #[d, s], argTypes := #[dT, sT] }) {vd vs v : Value} (hd : a.eval d = vd) (hs : a.eval s = vs)
    (hrun : (Builtin.copy_ #[dT, sT] o.type #[vd, vs]).run P w = .ok v w') (h : K (a.put o.dst v) w') :
    if Region.wanted o (yielded ops a.tmps) = true then Oper.wp P o a w K Q else E := by
  have hw : Region.wanted o (yielded ops a.tmps) = true := by simp [Region.wanted, hgd]
  rw [if_pos hw]
  unfold Oper.wp
  simp [execOp, ho, resolve, invoke, builtin, hd, hs, hrun, Result.andThen]
  exact h

set_option maxRecDepth 100000 in
set_option maxHeartbeats 400000 in
theorem Repeat_any (b0 : Nat) (v : Int) (N : Nat) (hN : N ≤ 1000) (w : World) (hc : w.cell? ⟨b0, 0, none⟩ = some (.int .i64 v)) :
    Calls Try.prog 103 #[.slice (some ⟨b0, 0, none⟩) 1 1, .int .i64 N] w fun e w' => e = .returned (.slice (some ⟨w.heap.size, 0, none⟩) N N) ∧ Chg No w w' ∧ Row w' w.heap.size 3 (List.replicate N (Value.int .i64 v)).toArray := by
  obtain ⟨i0, hi, hz0, hz1, hz2⟩ := info_parts info_int
  have Hz := Lib.hid (And.intro hz0 (And.intro hz1 hz2))
  clear hz0 hz1 hz2
  have hsz1 : (Try.prog.info? 3).map (·.size) = some 1 := by kernel_rfl
  go_enter Try.func103, Try.ntmps103
  go_wp2_with (first
    | (go_at_call 108; refine (Mul_one _ (by omega) (by omega) _).mono ?_; rintro e w' ⟨rfl, rfl⟩)
    | (at_make; refine wpList_make_full _ rfl _ _ _ rfl w.heap.size 3 i0 (.int .i64 0) 1 Try.underlying36 hi Hz.out.1 Hz.out.2.1 _ _ _ _ N rfl rfl (by omega) (by omega) (by rw [Hz.out.2.2]; omega) (by unfold maxLen; omega) (Nat.le_refl _) ?_; intro w1 hown hgrow))
  have hF0 : Filled w1 w.heap.size 3 N 0 (.int .i64 v) := ⟨_, own_row hown, by simpa [Value.cells] using congrArg List.length (toList_madeCells_one (.int .i64 0) N), by simp⟩
  have hC0 : Chg No w w1 := (Chg.refl _ _).grown hgrow (by simp)
  obtain ⟨w2, hcp, hF, hG⟩ := run_copy_fill (P := Try.prog) w1 36 36 3 3 w.heap.size N 0 (min 1 N) N N ⟨b0, 0, none⟩ 1 1 3 (.int .i64 v) rfl Try.underlying36 hsz1 hF0 rfl (by omega) (fun j hj => by
    obtain rfl : j = 0 := by omega
    exact hgrow.cell (a := ⟨b0, 0, none⟩) hc (by simp))
  have hC : Chg No w w2 := hC0.grown hG (fun k hk => .inr (by cases hk; exact Nat.le_refl _))
  rw [hcp, Nat.zero_add] at *
  clear hcp hown hgrow hF0 hG hC0
  go_wp2_with fail
  go_loopg [8] N (fun k v8 wr => ∃ i : Nat, v8 = .int .i64 i ∧ i ≤ N ∧ (0 < N → 0 < i) ∧ N - i ≤ k ∧ Filled wr w.heap.size 3 N i (.int .i64 v) ∧ Chg No w wr)
  case atStart => exact ⟨min 1 N, rfl, by omega, by omega, by omega, hF, hC⟩
  case round =>
    clear hF hC
    obtain ⟨i, rfl, h1, h2, h3, hF, hC⟩ := hrel
    by_cases hi : i < N
    · have h4 : 0 < i := h2 (by omega)
      have e1 : ¬ N = i := by omega
      obtain ⟨w3, hcp, hF3, hG3⟩ := run_copy_fill (P := Try.prog) wr.drew 36 36 3 3 w.heap.size N i (min i (N - i)) (N - i) (N - i) ⟨w.heap.size, 0, none⟩ i N 3 (.int .i64 v) rfl Try.underlying36 hsz1 hF rfl (by omega) (fun j hj => by
        rw [Addr.add_lit, Nat.zero_add]
        exact hF.cell j (by omega) h1)
      have hC3 : Chg No w w3 := hC.drew.grown hG3 (fun k hk => .inr (by cases hk; exact Nat.le_refl _))
      have HC := Lib.hid hcp
      clear hcp hF hG3 hC
      have hwr : IntKind.i64.wrap ((i : Int) + ((min i (N - i) : Nat) : Int)) = ((i + min i (N - i) : Nat) : Int) := by
        rw [IntWalk.i64_in _ (by omega)]; omega
      go_wp2_with fail
      go_region_law (refine step_copy_run rfl (.tmp 41) (.tmp 44) 36 36 rfl (by simp [Act.eval, Act.put, e1]) (by simp [Act.eval, Act.put]) HC.out ?_)
      go_wp2_with fail
      go_roundg (N - (i + min i (N - i)))
      case measure => omega
      case rel => exact ⟨i + min i (N - i), by go_num, by omega, by omega, Nat.le_refl _, hF3, hC3⟩
    · obtain rfl : i = N := by omega
      go_wp2_with fail
      go_ret
      refine ⟨rfl, hC, ?_⟩
      obtain ⟨cur, hb, hl, ht⟩ := hF
      rw [List.take_of_length_le (by omega)] at ht
      rw [ht] at hb
      exact hb

theorem elem_int : ElemInfo Try.prog 36 3 1 8 := .of Try.underlying36 info_int rfl
theorem elem_u8 : ElemInfo Try.prog 37 5 1 1 := .of Try.underlying37 info_u8 rfl
theorem own_empty (w : World) (t : TypeId) : (w.alloc (.cells #[] t)).ownsRow w.heap.size t 1 (.slice (some ⟨w.heap.size, 0, none⟩) 0 0) 0 [] := World.ownsRow_lit w #[] 0 (Nat.le_refl _) (Nat.zero_le _) (by simp)
theorem one_ints (k : IntKind) (l : List Int) : ∀ u ∈ l.map (Value.int k), u.oneCell' = true := ints_oneCell k l

set_option maxRecDepth 100000 in
set_option maxHeartbeats 400000 in
theorem CloneI_any (v : Value) (l : List Int) (S : Nat → Prop) (w : World) (h : IntS w S v l) (hl : l.length ≤ 1000000000) :
    Calls Try.prog 88 #[v] w (Ret fun v' w' => Chg No w w' ∧ w'.ownsRow w.heap.size 3 1 v' l.length (l.map (.int .i64))) := by
  have hs := h.1
  obtain ⟨A, c, rfl, h1, h2, h3, h4⟩ := h.form
  have hq : ∀ w, (binOp .eql 36 (.slice A l.length c) (.slice none 0 0)).run Try.prog w = .ok (.bool A.isNone) w := fun w => Lib.run_eql_slice_nil w 36 3 A l.length c 0 0 Try.underlying36
  cases A with
  | none =>
    obtain rfl := h3 rfl
    have hn : l = [] := List.eq_nil_of_length_eq_zero (by omega)
    subst hn
    clear h1 h2 h3 h4 hs h hl hq
    have hq : ∀ w, (binOp .eql 36 (.slice none 0 0) (.slice none 0 0)).run Try.prog w = .ok (.bool true) w := fun w => Lib.run_eql_slice_nil w 36 3 none 0 0 0 0 Try.underlying36
    go_enter Try.func88, Try.ntmps88
    go_wp2_with fail
    go_ret
    exact Ret.mk ⟨Chg.refl _ _, World.ownsRow_nil _ _ _ _⟩
  | some a =>
    obtain ⟨v', w1, hr, ho, hg⟩ := run_app elem_int (by decide) (own_empty w 3) (hs.alloc (.cells #[] 3)) (one_ints _ l) (by unfold maxLen; omega) (by omega) (by simp) 36
    have Hr := Lib.hid hr
    clear hr h1 h2 h3 h4 hs h hl
    go_enter Try.func88, Try.ntmps88
    go_wp2_with (at_builtin; refine wpList_append_run rfl _ _ _ rfl rfl rfl Hr.out ?_)
    go_ret
    exact Ret.mk ⟨((Chg.refl _ _).alloc _).grown hg (fun k hk => .inr (by cases hk; exact Nat.le_refl _)), by simpa using ho⟩

set_option maxRecDepth 100000 in
set_option maxHeartbeats 400000 in
theorem CloneB_any (v : Value) (l : List Int) (S : Nat → Prop) (w : World) (h : ByteS w S v l) (hl : l.length ≤ 1000000000) :
    Calls Try.prog 89 #[v] w (Ret fun v' w' => Chg No w w' ∧ w'.ownsRow w.heap.size 5 1 v' l.length (l.map (.int .u8))) := by
  have hs := h.1
  obtain ⟨A, c, rfl, h1, h2, h3, h4⟩ := h.form
  have hq : ∀ w, (binOp .eql 37 (.slice A l.length c) (.slice none 0 0)).run Try.prog w = .ok (.bool A.isNone) w := fun w => Lib.run_eql_slice_nil w 37 5 A l.length c 0 0 Try.underlying37
  cases A with
  | none =>
    obtain rfl := h3 rfl
    have hn : l = [] := List.eq_nil_of_length_eq_zero (by omega)
    subst hn
    clear h1 h2 h3 h4 hs h hl hq
    have hq : ∀ w, (binOp .eql 37 (.slice none 0 0) (.slice none 0 0)).run Try.prog w = .ok (.bool true) w := fun w => Lib.run_eql_slice_nil w 37 5 none 0 0 0 0 Try.underlying37
    go_enter Try.func89, Try.ntmps89
    go_wp2_with fail
    go_ret
    exact Ret.mk ⟨Chg.refl _ _, World.ownsRow_nil _ _ _ _⟩
  | some a =>
    obtain ⟨v', w1, hr, ho, hg⟩ := run_app elem_u8 (by decide) (own_empty w 5) (hs.alloc (.cells #[] 5)) (one_ints _ l) (by unfold maxLen; omega) (by omega) (by simp) 37
    have Hr := Lib.hid hr
    clear hr h1 h2 h3 h4 hs h hl
    go_enter Try.func89, Try.ntmps89
    go_wp2_with (at_builtin; refine wpList_append_run rfl _ _ _ rfl rfl rfl Hr.out ?_)
    go_ret
    exact Ret.mk ⟨((Chg.refl _ _).alloc _).grown hg (fun k hk => .inr (by cases hk; exact Nat.le_refl _)), by simpa using ho⟩

end Go.Proofs.Ytjanojignaonfaa
