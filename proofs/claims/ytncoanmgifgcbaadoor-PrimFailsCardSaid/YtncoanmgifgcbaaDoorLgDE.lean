/- slices.Backward over bytes: its contract. (The shape of the proof: the kit's own text on slices.All.) · Large numbers: Int, over slices.Backward. -/
import Derived.Test.YtncoanmgifgcbaaDoorDigA
import Derived.RangeFuncNested
import Derived.RangeFuncBound
import Derived.RangeFuncCalls
import Derived.RangeFuncLeaves
import Derived.RangeFuncBox
import Derived.Shelf.Abstract
import Derived.Shelf.RegionOpen
import Derived.WalkKit
import Derived.OwnWalkIn
import Derived.TacticsInMore
import Derived.LoopNIn
import Derived.LoopIn
namespace Go.Proofs.YtncoanmgifgcbaaDoor
set_option linter.unusedVariables false
set_option linter.unusedSimpArgs false
open Go.RowKit Go.Shelf

attribute [local go_sem] Oper.semAt_some

/-- the number of a round -/
abbrev Rd (n : Nat) : Type := { j : Nat // j < n }
/-- just the first k rounds -/
def upTo {n : Nat} (pre : List (Rd n)) (k : Nat) : Prop := pre.map (fun x => x.1) = List.range k
theorem upTo_nil {n : Nat} : upTo ([] : List (Rd n)) 0 := rfl
theorem upTo_snoc {n : Nat} {pre : List (Rd n)} {x : Rd n} {k : Nat} (h : upTo pre k) (e : x.1 = k) : upTo (pre ++ [x]) (k + 1) := by
  unfold upTo at *
  rw [List.map_append, h, List.range_succ, List.map_cons, e, List.map_nil]
theorem upTo_last {n : Nat} {pre : List (Rd n)} {x : Rd n} {k : Nat} (h : upTo (pre ++ [x]) k) : ∃ m, k = m + 1 ∧ upTo pre m ∧ x.1 = m := by
  unfold upTo at *
  cases k with
  | zero => simp at h
  | succ m =>
    rw [List.map_append, List.range_succ] at h
    obtain ⟨h1, h2⟩ := List.append_inj' h rfl
    exact ⟨m, rfl, h1, by simpa using h2⟩
theorem upTo_len {n : Nat} {pre : List (Rd n)} {k : Nat} (h : upTo pre k) : pre.length = k := by
  have := congrArg List.length h
  simpa using this
/-- what comes in a round: the index and what lies there, from behind -/
def bwA (zs : List Int) (x : Rd zs.length) : Array Value := #[.int .i64 ((zs.length - 1 - x.1 : Nat) : Int), .int .u8 (zs[zs.length - 1 - x.1]?.getD 0)]

/-- what a round that goes on keeps: all below n₀, and the box of the slice -/
def KpB (n₀ Bs : Nat) (W W' : World) : Prop := Below n₀ W W' ∧ ∀ u, W.cell? ⟨Bs, 0, none⟩ = some u → W'.cell? ⟨Bs, 0, none⟩ = some u
theorem KpB.refl (n₀ Bs : Nat) (W : World) : KpB n₀ Bs W W := ⟨Below.refl _ _, fun _ h => h⟩
theorem kpB_t {n₀ Bs : Nat} {A B C : World} (h : KpB n₀ Bs A B) (k : KpB n₀ Bs B C) : KpB n₀ Bs A C := ⟨h.1.trans k.1, fun u hu => k.2 u (h.2 u hu)⟩
theorem kpB_b {n₀ Bs : Nat} {w : World} (hn : n₀ ≤ w.heap.size) (W : World) (l : Nat) (o o' : Obj) (hl : w.heap.size ≤ l) (h : W.heap[l]? = some o) (h1 : o.isCells = false) (h2 : o.isWalk = false) : KpB n₀ Bs W (W.putObj l o') :=
  ⟨belowK_b hn W l o o' hl h h1 h2, fun u hu => cell_kept hu (grownBy_putObj' W l o') (fun r e => by cases e; exact ⟨_, h, h1⟩)⟩

set_option maxRecDepth 100000 in
set_option maxHeartbeats 2000000 in
theorem backward1_in (F : Fence) (n : Nat) (h8 : F.fn 126) (hro : F.round = none) (hn : 1 ≤ n) (l Bs n₀ b off cap : Nat) (zs : List Int) (hreach : zs.length ≤ 9223372036854775807) (hb : b < n₀) (J Jx : List (Rd zs.length) → World → Prop)
    (hY : ∀ pre x W, J pre W → pre.length < zs.length → YieldAt F (n - 1) Tryd.prog l (bwA zs x) W fun e W' =>
      (e = .returned (.bool true) ∧ J (pre ++ [x]) W' ∧ KpB n₀ Bs W W') ∨ (e = .returned (.bool false) ∧ Jx (pre ++ [x]) W'))
    (W : World) (hBs : W.cell? ⟨Bs, 0, none⟩ = some (.slice (some ⟨b, off, none⟩) zs.length cap)) (hBn : Bs < W.heap.size) (hc : ∀ j, j < zs.length → W.cell? ⟨b, off + j, none⟩ = some (.int .u8 (zs[j]?.getD 0))) (h0 : J [] W) :
    CallsIn F n Tryd.prog 126 #[.func (.yield l) #[] #[], .pointer (some ⟨Bs, 0, none⟩)] W fun e W' => (∃ v, e = .returned v) ∧
      ((∃ ys, upTo ys zs.length ∧ J ys W') ∨ (∃ pre, (∃ k, k ≤ zs.length ∧ upTo pre k) ∧ Jx pre W')) := by
  refine callsIn_of_wp Tryd.func126 rfl h8 ?_ hro
  simp only [Tryd.ntmps126, List.size_toArray, List.length_cons, List.length_nil, Nat.reduceAdd, Nat.reduceSub, Array.replicate_succ, Array.replicate_zero, List.push_toArray, List.append_toArray, List.nil_append, List.cons_append]
  gi_wp2
  gi_loopw [3] (fun p wr => ∃ (k : Nat) (pre : List (Rd zs.length)), k ≤ zs.length ∧ upTo pre k ∧ p = .int .i64 ((zs.length : Int) - 1 - k) ∧ J pre wr ∧ KpB n₀ Bs W wr)
    (fun p _ => (intOf p + 1).toNat)
  case atStart => exact ⟨0, [], Nat.zero_le _, upTo_nil, by simp, h0, KpB.refl _ _ _⟩
  case round =>
    obtain ⟨k, pre, hk, hup, rfl, hJs, hnx⟩ := hrel
    have hbx := hnx.2 _ hBs
    by_cases hlt : k < zs.length
    · obtain ⟨i, hi⟩ : ∃ i : Nat, zs.length - 1 - k = i := ⟨_, rfl⟩
      have hii : (zs.length : Int) - 1 - k = (i : Int) := by omega
      have hbw : bwA zs ⟨k, hlt⟩ = #[.int .i64 (i : Int), .int .u8 (zs[i]?.getD 0)] := by unfold bwA; rw [hi]
      have hcx : wr.cell? ⟨b, off + i, none⟩ = some (.int .u8 (zs[i]?.getD 0)) := (hnx.1.cell (p := ⟨b, off + i, none⟩) hb).trans (hc i (by omega))
      have hR0 := hY pre ⟨k, hlt⟩ wr hJs (by rw [upTo_len hup]; exact hlt)
      rw [hbw] at hR0
      obtain ⟨fn, tmps, assign, body, hy, hR⟩ := hR0
      try dsimp only at hy
      have l1 : (i : Int) < (zs.length : Int) := by omega
      have t1 : decide (0 ≤ (i : Int)) = true := decide_eq_true (by omega)
      rw [hii]
      clear hi hbw
      gi_wp2
      refine hR.mono ?_
      rintro e W3 (⟨rfl, hJ3, hk3⟩ | ⟨rfl, hJx3⟩)
      · gi_wp2
        go_roundw
        case rel => exact ⟨k + 1, pre ++ [⟨k, hlt⟩], by omega, upTo_snoc hup rfl, congrArg (Value.int .i64) (by omega), hJ3, kpB_t hnx hk3⟩
        case measure => simp [intOf]
      · gi_wp2
        refine bodyPost_ret (results_none rfl _ _ _) rfl ?_
        exact ⟨⟨_, rfl⟩, .inr ⟨_, ⟨k + 1, by omega, upTo_snoc hup rfl⟩, hJx3⟩⟩
    · obtain rfl : k = zs.length := by omega
      have hii : (zs.length : Int) - 1 - zs.length = -1 := by omega
      rw [hii]
      gi_wp2
      go_end0
      exact ⟨⟨_, rfl⟩, .inl ⟨_, hup, hJs⟩⟩

set_option maxRecDepth 100000 in
set_option maxHeartbeats 1000000 in
theorem backward1_nil_in (F : Fence) (n : Nat) (h8 : F.fn 126) (hro : F.round = none) (l Bs : Nat) (A : Option Addr) (cap : Nat) (J : World → Prop) (W : World) (hBs : W.cell? ⟨Bs, 0, none⟩ = some (.slice A 0 cap)) (h0 : J W) :
    CallsIn F n Tryd.prog 126 #[.func (.yield l) #[] #[], .pointer (some ⟨Bs, 0, none⟩)] W fun e W' => (∃ v, e = .returned v) ∧ J W' := by
  refine callsIn_of_wp Tryd.func126 rfl h8 ?_ hro
  simp only [Tryd.ntmps126, List.size_toArray, List.length_cons, List.length_nil, Nat.reduceAdd, Nat.reduceSub, Array.replicate_succ, Array.replicate_zero, List.push_toArray, List.append_toArray, List.nil_append, List.cons_append]
  gi_wp2
  gi_loopw [3] (fun i wr => i = .int .i64 (-1) ∧ J wr) (fun _ _ => 0)
  case atStart => exact ⟨rfl, h0⟩
  case round =>
    obtain ⟨rfl, hJs⟩ := hrel
    gi_wp2
    go_end0
    exact ⟨⟨_, rfl⟩, hJs⟩

set_option maxHeartbeats 1000000 in
theorem backward_in (F : Fence) (n : Nat) (h6 : F.fn 106) (hro : F.round = none) (a : Option Addr) (len cap : Nat) (w : World) :
    CallsIn F n Tryd.prog 106 #[.slice a len cap] w fun e w' => e = .returned (.func (.func 126) #[] #[.pointer (some ⟨w.heap.size, 0, none⟩)]) ∧ w' = w.alloc (.cells #[.slice a len cap] 39) := by
  refine callsIn_of_wp Tryd.func106 rfl h6 ?_ hro
  simp only [Tryd.ntmps106, List.size_toArray, List.length_cons, List.length_nil, Nat.reduceAdd, Nat.reduceSub, Array.replicate_succ, Array.replicate_zero, List.push_toArray, List.append_toArray, List.nil_append, List.cons_append]
  gi_wp2
  go_ret
  exact ⟨rfl, rfl⟩

/-- slices.Backward hands back a value that tells all, from behind; or the first k of them. -/
theorem backward_stops (F : Fence) (n : Nat) (h8 : F.fn 126) (hro : F.round = none) (hn : 1 ≤ n) (Bs n₀ : Nat) (sv : Value) (zs : List Int) (hreach : zs.length ≤ 9223372036854775807) (w : World) (hBs : Bs < w.heap.size) (hn₀ : n₀ ≤ w.heap.size)
    (hc : w.cell? ⟨Bs, 0, none⟩ = some sv) (hI : ByteS w (fun b => b < n₀) sv zs) :
    SeqStopsK F n Tryd.prog 126 #[.pointer (some ⟨Bs, 0, none⟩)] (bwA zs) (KpB n₀ Bs) (fun ys => upTo ys zs.length)
      (fun pre => ∃ k, k ≤ zs.length ∧ upTo pre k) zs.length w := fun l J Jx W hW _ _ hY h0 => by
  have hc' := (hW.cell (p := ⟨Bs, 0, none⟩) hBs).trans hc
  obtain ⟨A, cap, rfl, -⟩ := hI.form
  by_cases hz : zs = []
  · subst hz
    exact (backward1_nil_in F n h8 hro l Bs A cap (J []) W hc' h0).mono fun e W' ⟨he, hj⟩ => ⟨he, .inl ⟨[], upTo_nil, hj⟩⟩
  · obtain ⟨b, off, rfl, hb, hlt, -⟩ := hI.getAt (i := 0) (List.length_pos_iff.2 hz)
    refine backward1_in F n h8 hro hn l Bs n₀ b off cap zs hreach hb J Jx hY W hc' (Nat.lt_of_lt_of_le hBs hW.size) (fun j hj => ?_) h0
    obtain ⟨b2, off2, e, -, hlt2, hcj, -⟩ := hI.getAt hj
    cases e
    exact (hW.cell (p := ⟨b, off + j, none⟩) hlt).trans hcj

attribute [local go_sem] Oper.semAt_some

/-- has it room as a number? -/
def intOk (l : List Int) : Bool := rightD l && decide (l.length ≤ 8) && !(decide (l.length = 8) && decide ((127 : Int) < l[7]?.getD 0))
theorem val_drop_le {l : List Int} (hb : By l) (i : Nat) : 0 ≤ val (l.drop i) ∧ val (l.drop i) ≤ val l := by
  have h1 := val_bd (hb.drop i)
  refine ⟨h1.1, ?_⟩
  rcases Nat.lt_or_ge i l.length with hi | hi
  · have h2 := val_append (l.take i) (l.drop i)
    rw [List.take_append_drop] at h2
    have h3 := val_bd (hb.take i)
    have h4 : val (l.drop i) * 1 ≤ val (l.drop i) * pw (l.take i).length := Int.mul_le_mul_of_nonneg_left (by have := pw_pos (l.take i).length; omega) h1.1
    rw [Int.mul_comm (val (l.drop i)) (pw _)] at h4
    omega
  · rw [List.drop_eq_nil_of_le hi]
    exact (val_bd hb).1
theorem int_small {l : List Int} (hb : By l) (h : intOk l = true) : val l < 9223372036854775808 := by
  unfold intOk at h
  simp only [Bool.and_eq_true, Bool.not_eq_true', Bool.and_eq_false_iff, decide_eq_true_eq, decide_eq_false_iff_not] at h
  have p7 : pw 7 = 72057594037927936 := by decide
  have p8 : pw 8 = 18446744073709551616 := by decide
  by_cases h8 : l.length = 8
  · have h1 := val_take_succ l 7
    rw [List.take_of_length_le (by omega)] at h1
    have h2 := val_bd (hb.take 7)
    rw [List.length_take, h8, show min 7 8 = 7 by decide, p7] at h2
    have h3 := hb.at 7
    rw [p7] at h1
    have h4 := h.2
    omega
  · have h1 := val_bd hb
    have h2 := pw_le (show l.length ≤ 7 by omega)
    omega
theorem int_step {l : List Int} (hb : By l) (hs : val l < 9223372036854775808) {i : Nat} (hi : i < l.length) : bits .or .i64 (wrap64 (val (l.drop (i + 1)) * 256)) (wrap64 (l[i]?.getD 0)) = val (l.drop i) := by
  have h1 := hb.at i
  have h2 := val_drop_le hb i
  have h3 := val_drop_le hb (i + 1)
  rw [val_drop l i hi] at h2 ⊢
  generalize l[i]?.getD 0 = x at *
  generalize val (l.drop (i + 1)) = y at *
  rw [IntWalk.wrap64_in _ (by omega), IntWalk.wrap64_in _ (by omega)]
  have h4 : bits .or .i64 (y * 256) x = bits .or .i64 x (y * 256) := by
    show IntKind.i64.wrap ((BitVec.ofInt 64 (y * 256) ||| BitVec.ofInt 64 x).toNat : Int) = IntKind.i64.wrap ((BitVec.ofInt 64 x ||| BitVec.ofInt 64 (y * 256)).toNat : Int)
    rw [BitVec.or_comm]
  rw [h4]
  have h5 := or_add x y 8 (by decide) h1.1 (by omega) h3.1 (by omega)
  exact h5.trans (by omega)
theorem ByteS.below {w w' : World} {n : Nat} {v : Value} {l : List Int} (h : ByteS w (fun b => b < n) v l) (hb : Below n w w') : ByteS w' (fun b => b < n) v l := by
  obtain ⟨⟨A, c, e, hl, h1, h2, h0, h3⟩, hw⟩ := h
  refine ⟨⟨A, c, e, hl, h1, h2, h0, fun hn => ?_⟩, hw⟩
  obtain ⟨b, off, hA, hS, hlt, hc⟩ := h3 hn
  exact ⟨b, off, hA, hS, Nat.lt_of_lt_of_le hlt hb.size, fun i u hu => (hb.cell (p := ⟨b, off + i, none⟩) hS).trans (hc i u hu)⟩

set_option maxRecDepth 100000 in
set_option maxHeartbeats 800000 in
theorem Int_good (v : Value) (l : List Int) (w : World) (h : ByteS w (fun b => b < w.heap.size) v l) (ok : intOk l = true) :
    CallsIn Fence.wide 4 Tryd.prog 75 #[v] w fun e W' => e = .returned (.tuple #[.int .i64 (val l), .bool true]) ∧ Below w.heap.size w W' := by
  have hsm := int_small h.by ok
  have hpos := fun i => val_drop_le h.by i
  have hok := ok
  unfold intOk at hok
  simp only [Bool.and_eq_true, Bool.not_eq_true', Bool.and_eq_false_iff, decide_eq_true_eq, decide_eq_false_iff_not] at hok
  obtain ⟨⟨hr, h8⟩, h7⟩ := hok
  have HB := Lib.hid h
  have HS := Lib.hid hsm
  have HP := Lib.hid hpos
  have key : ((l.length : Int) == 8) = false ∨ ∃ b off cap x, v = .slice (some ⟨b, off, none⟩) l.length cap ∧ l.length = 8 ∧ w.cell? ⟨b, off + 7, none⟩ = some (.int .u8 x) ∧ decide (127 < x) = false := by
    by_cases e8 : l.length = 8
    · obtain ⟨A, c, rfl, -⟩ := h.form
      obtain ⟨b, off, rfl, -, hlt, hc, -⟩ := h.getAt (i := 7) (by omega)
      exact .inr ⟨b, off, c, _, rfl, e8, hc, decide_eq_false (by rcases h7 with h7 | h7 <;> omega)⟩
    · exact .inl (by simp; omega)
  obtain ⟨A, c, rfl, -⟩ := h.form
  have t8 : decide (8 < (l.length : Int)) = false := decide_eq_false (by omega)
  have HR := Lib.hid hr
  clear h hr hsm hpos h7 ok
  have bN := Boxed.new w 3 (.int .i64 0)
  have bS := Boxed.new (w.alloc (.cells #[.int .i64 0] 3)) 39 (.slice A l.length c)
  rw [World.size_alloc] at bS
  have hB0 : Below w.heap.size w ((w.alloc (.cells #[.int .i64 0] 3)).alloc (.cells #[.slice A l.length c] 39)) := ((Below.refl _ w).alloc (Nat.le_refl _) _).alloc (by simp) _
  have BN := Lib.hid bN
  have BS := Lib.hid bS
  have B0 := Lib.hid hB0
  clear bN bS hB0
  refine callsIn_of_wp_marks Tryd.func75 rfl trivial ?_ rfl
  refine wpIn_wide.2 ?_
  simp only [Tryd.ntmps75, List.size_toArray, List.length_cons, List.length_nil, Nat.reduceAdd, Nat.reduceSub, Array.replicate_succ, Array.replicate_zero, List.push_toArray, List.append_toArray, List.nil_append, List.cons_append]
  generalize hn : l.length = n at *
  rcases key with t7 | ⟨b, off, cap, x, e, rfl, hx, tx⟩
  case' inr => cases e
  all_goals
    go_wp2_with (first
      | (go_at_call 97
         refine (Right_any _ l _ _ HB.out).mono ?_
         rintro e w' ⟨rfl, rfl⟩
         rw [HR.out])
      | (go_at_call 106
         refine ((callsIn_wide (n := 3)).1 (backward_in Fence.wide 3 trivial rfl _ _ _ _)).mono ?_
         rintro e w' ⟨rfl, rfl⟩)
      | fail)
    refine' wpIn_wide.1 (wpIn_rangeFunc_ownG (n := 4) (F := Fence.wide) rfl (by omega) (gf := 126) (lb := #[.pointer (some ⟨w.heap.size + 1, 0, none⟩)]) rfl trivial (enters_of Tryd.func126 (by kernel_rfl) rfl)
      (backward_stops Fence.wide 3 trivial rfl (by omega) (w.heap.size + 1) w.heap.size _ l (by omega) _ (by simp) (by simp; omega) BS.out.cell (HB.out.below B0.out)) kpB_t (kpB_b (by simp; omega)) (Below.refl _ _) (fun _ => rfl)
      (fun pre W => (∃ s, W.cell? ⟨w.heap.size, 0, none⟩ = some (.int .i64 s) ∧ W.frozen? ⟨w.heap.size, 0, none⟩ = false ∧ ∀ k, k ≤ l.length → upTo pre k → s = val (l.drop (l.length - k))) ∧ Below w.heap.size w W)
      (fun _ _ _ => False)
      (OwnFrom.and (Own.from (fun s A B row hs hg hr => (by
        obtain ⟨s, h1, h2, h3⟩ := hs
        exact ⟨s, cell_kept h1 hg hr, (frozen_kept h1 hg hr).trans h2, h3⟩)) _) (ownFrom_below (Nat.le_refl _) (by simp; omega)))
      (fun _ _ _ _ _ hs _ _ => hs)
      ⟨⟨0, (BN.out.alloc _).cell, (BN.out.alloc _).frozen, fun k hk hu => (by
        obtain rfl : 0 = k := upTo_len hu
        simp [val])⟩, B0.out⟩
      _ ?assign ?body ?done ?stop)
    case assign =>
      intro lp x W K hK
      unfold bwA
      gi_wp2
      exact hK
    case body =>
      rintro lp pre x W ⟨⟨s, hc, hf, hv⟩, hB⟩ hlen
      have HV := Lib.hid hv
      clear hv
      gi_wp2
      refine ⟨(KeepsOthers.setCell _ _ _).from _, ⟨(Below.refl w.heap.size W).setCell (p := ⟨w.heap.size, 0, none⟩) (Nat.le_refl _) _, fun u hu => (World.cell?_setCell_other W ⟨w.heap.size, 0, none⟩ ⟨w.heap.size + 1, 0, none⟩ _ (by simp)).trans hu⟩, ⟨_, World.cell?_setCell_same' _ _ _ (by rw [hc]; rfl), by rw [World.frozen?_setCell]; exact hf, fun k hk hu => ?_⟩, hB.setCell (p := ⟨w.heap.size, 0, none⟩) (Nat.le_refl _) _⟩
      obtain ⟨m, rfl, hm, hx⟩ := upTo_last hu
      rw [HV.out m (by omega) hm, hx]
      have := int_step HB.out.by HS.out (i := l.length - (m + 1)) (by omega)
      rw [show l.length - (m + 1) + 1 = l.length - m by omega] at this
      first
        | rw [show n - 1 - m = l.length - (m + 1) by omega]; exact this
        | rw [show 7 - m = l.length - (m + 1) by omega]; exact this
    case done =>
      rintro D ys W hD hup ⟨⟨s, hc, hf, hv⟩, hB⟩ hK
      have hs : s = val l := by
        have := hv l.length (Nat.le_refl _) hup
        rwa [Nat.sub_self, List.drop_zero] at this
      clear hv
      subst hs
      go_wp2_with fail
      refine ⟨by simp, .inl ⟨_, _, rfl, run_takeDeferred hK, ?_⟩⟩
      exact ⟨_, by simp [results, Tryd.results75, go_sem] <;> rfl, rfl, hB.trans (belowK_b (w := w) (Nat.le_refl _) W D _ _ (by simp at hD; omega) hK rfl rfl)⟩
    case stop =>
      rintro D c pre W _ _ h _
      exact h.elim

set_option maxRecDepth 100000 in
set_option maxHeartbeats 800000 in
theorem Int_bad (v : Value) (l : List Int) (S : Nat → Prop) (w : World) (h : ByteS w S v l) (ok : intOk l = false) :
    Calls Tryd.prog 75 #[v] w fun e w' => e = .returned (.tuple #[.int .i64 0, .bool false]) ∧ w = w' := by
  unfold intOk at ok
  have HB := Lib.hid h
  cases hr : rightD l with
  | false =>
    have HR := Lib.hid hr
    obtain ⟨A, c, rfl, -⟩ := h.form
    clear h hr ok
    generalize hn : l.length = n at *
    clear hn
    go_enter Tryd.func75, Tryd.ntmps75
    go_wp2_with (first
      | (go_at_call 97
         refine (Right_any _ l _ _ HB.out).mono ?_
         rintro e w' ⟨rfl, rfl⟩
         rw [HR.out])
      | fail)
    go_ret2
    exact ⟨rfl, rfl⟩
  | true =>
    rw [hr, Bool.true_and] at ok
    have HR := Lib.hid hr
    by_cases h8 : l.length ≤ 8
    · simp only [h8, decide_true, Bool.true_and, Bool.not_eq_false', Bool.and_eq_true, decide_eq_true_eq] at ok
      obtain ⟨e8, h7⟩ := ok
      obtain ⟨A, c, rfl, -⟩ := h.form
      obtain ⟨b, off, rfl, -, hlt, hc, -⟩ := h.getAt (i := 7) (by omega)
      have t7 : decide ((127 : Int) < l[7]?.getD 0) = true := decide_eq_true h7
      generalize l[7]?.getD 0 = x at *
      generalize l.length = n at *
      subst e8
      clear h hr h7 h8
      go_enter Tryd.func75, Tryd.ntmps75
      go_wp2_with (first
        | (go_at_call 97
           refine (Right_any _ l _ _ HB.out).mono ?_
           rintro e w' ⟨rfl, rfl⟩
           rw [HR.out])
        | fail)
      go_ret2
      exact ⟨rfl, rfl⟩
    · obtain ⟨A, c, rfl, -⟩ := h.form
      have t8 : decide (8 < (l.length : Int)) = true := decide_eq_true (by omega)
      clear h hr ok h8
      generalize hn : l.length = n at *
      clear hn
      go_enter Tryd.func75, Tryd.ntmps75
      go_wp2_with (first
        | (go_at_call 97
           refine (Right_any _ l _ _ HB.out).mono ?_
           rintro e w' ⟨rfl, rfl⟩
           rw [HR.out])
        | fail)
      go_ret2
      exact ⟨rfl, rfl⟩

theorem Int_any (v : Value) (l : List Int) (w : World) (h : ByteS w (fun b => b < w.heap.size) v l) :
    Calls Tryd.prog 75 #[v] w fun e w' => e = .returned (.tuple #[.int .i64 (if intOk l then val l else 0), .bool (intOk l)]) ∧ Below w.heap.size w w' := by
  cases ok : intOk l with
  | false => exact (Int_bad v l _ w h ok).mono fun e w' ⟨h1, h2⟩ => ⟨by rw [h1]; rfl, by rw [← h2]; exact Below.refl _ _⟩
  | true => exact ((callsIn_wide (n := 4)).1 (Int_good v l w h ok)).mono fun e w' ⟨h1, h2⟩ => ⟨by rw [h1]; rfl, h2⟩

end Go.Proofs.YtncoanmgifgcbaaDoor
