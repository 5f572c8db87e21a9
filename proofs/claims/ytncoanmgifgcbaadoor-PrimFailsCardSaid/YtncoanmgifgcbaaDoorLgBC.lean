/- Large numbers: Of, plus, minus. · Large numbers: minus, Add. -/
import Derived.Test.YtncoanmgifgcbaaDoorDigA
import Derived.Test.YtncoanmgifgcbaaDoorRegion
import Derived.Test.YtncoanmgifgcbaaDoorRefs
import Derived.Laws.OwnMore
import Derived.Deep.OwnRows
import Derived.Lib.AppendZeros
namespace Go.Proofs.YtncoanmgifgcbaaDoor
set_option linter.unusedVariables false
set_option linter.unusedSimpArgs false
open Go.RowKit

def OwnY (w : World) (base : Nat) (v : Value) (l : List Int) : Prop := w.ownsRow base 5 1 v l.length (l.map (.int .u8))
theorem OwnY.form {w : World} {base : Nat} {v : Value} {l : List Int} (h : OwnY w base v l) : ∃ A c, v = .slice A l.length c := own_form h
theorem app_oneY {w : World} {base : Nat} {v : Value} {l : List Int} (h : OwnY w base v l) (hl : l.length < 2000000000) (hB : base ≤ w.heap.size) (x : Int) (ty : TypeId) :
    ∃ A c w', (Builtin.append_ #[39, 39] ty #[v, .slice (some ⟨w.heap.size, 0, none⟩) 1 1]).run Tryd.prog (w.alloc (.cells #[.int .u8 x] 5)) = .ok (.slice A (l.length + 1) c) w' ∧ OwnY w' base (.slice A (l.length + 1) c) (l ++ [x]) ∧ Chg (fun k => base ≤ k) w w' := by
  obtain ⟨v', w4, hr, ho, hg⟩ := run_app elem_u8 (by decide) (own_keep (F := No) h ((Chg.refl _ _).alloc (.cells #[.int .u8 x] 5)) (fun _ _ f => f)) (Slc.row (S := fun _ => True) (Row.new w 5 #[.int .u8 x]) 1 1 rfl (by unfold maxLen; omega) trivial) (by simp [Value.oneCell']) (by unfold maxLen; omega) (by omega) (by simp; omega) ty
  obtain ⟨A, c, rfl⟩ := own_form ho
  refine ⟨A, c, w4, hr, by simpa [OwnY] using ho, ?_⟩
  exact ((Chg.refl _ _).alloc _).grown hg (fun k hk => .inl (own_ge h hk))
theorem dg_step {n : Nat} (h : n ≠ 0) : dg n = ((n % 256 : Nat) : Int) :: dg (n / 256) := by rw [dg, dif_neg h]

set_option maxRecDepth 100000 in
set_option maxHeartbeats 600000 in
theorem Of_any (n : Nat) (h63 : n ≤ 9223372036854775807) (w : World) :
    Calls Tryd.prog 96 #[.int .i64 (n : Int)] w fun e w' => (∃ v, e = .returned (.tuple #[v, .int .i64 0]) ∧ ByteS w' (fun b => w.heap.size ≤ b) v (dg n)) ∧ Chg No w w' := by
  have h8 : (dg n).length ≤ 8 := (dg_len n 8).2 (by have : pw 8 = 18446744073709551616 := by decide
                                                    omega)
  have t0 : decide ((n : Int) < 0) = false := decide_eq_false (by omega)
  have H8 := Lib.hid h8
  clear h8
  go_enter Tryd.func96, Tryd.ntmps96
  go_wp2_with fail
  go_loopg [0, 4] n (fun j v0 v4 wr => ∃ (k : Nat) (q : List Int), v0 = .int .i64 (k : Int) ∧ k ≤ j ∧ k ≤ n ∧ dg n = q ++ dg k ∧ OwnY wr w.heap.size v4 q ∧ Chg No w wr)
  case atStart => exact ⟨n, [], rfl, Nat.le_refl _, Nat.le_refl _, rfl, World.ownsRow_nil _ _ _ _, Chg.refl _ _⟩
  case round =>
    obtain ⟨k, q, rfl, k1, k2, hq, own, cw⟩ := hrel
    obtain ⟨A3, c3, rfl⟩ := own.form
    have hql : q.length ≤ 8 := by have := congrArg List.length hq; rw [List.length_append] at this; have := H8.out; omega
    by_cases h0 : k = 0
    · subst h0
      rw [dg_nil.2 rfl, List.append_nil] at hq
      have t1 : decide (((0 : Nat) : Int) < 0) = false := by decide
      have HQ := Lib.hid (And.intro (ByteS.of_own (l := q) own (by rw [← hq]; exact dg_by n)) (And.intro hq cw))
      clear own cw hq
      go_wp2_with fail
      go_ret2
      exact ⟨⟨_, rfl, by rw [HQ.out.2.1]; exact HQ.out.1⟩, HQ.out.2.2⟩
    · have t1 : decide (0 < (k : Int)) = true := decide_eq_true (by omega)
      rw [dg_step h0] at hq
      have u1 : IntKind.u8.wrap (k : Int) = ((k % 256 : Nat) : Int) := rfl
      obtain ⟨A5, c5, w5, hr5, ho5, cg5⟩ := app_oneY own (by omega) cw.size ((k % 256 : Nat) : Int) 39
      have cw5 : Chg No w w5 := cw.then cg5 (fun k hk hle => by omega)
      have HR := Lib.hid hr5
      have HC := Lib.hid (And.intro ho5 (And.intro cw5 hq))
      clear own cw hr5 ho5 cg5 cw5 hq
      generalize q.length = ql at *
      go_wp2_with (first
        | (at_builtin; refine wpList_append_run rfl _ _ _ rfl rfl rfl HR.out ?_)
        | fail)
      go_roundg (k / 256)
      case measure => omega
      case rel => exact ⟨k / 256, q ++ [((k % 256 : Nat) : Int)], rfl, by omega, by omega, by rw [HC.out.2.2]; simp, HC.out.1, HC.out.2.1⟩

/-- so many noughts behind q -/
def pad (n : Nat) (q : List Int) : List Int := q ++ List.replicate (n - q.length) 0
theorem pad_set {n : Nat} {q : List Int} (h : q.length < n) (x : Int) : ((pad n q).map (Value.int .u8)).toArray.setIfInBounds q.length (.int .u8 x) = ((pad n (q ++ [x])).map (Value.int .u8)).toArray := by
  have e : (pad n q).set q.length x = pad n (q ++ [x]) := by
    unfold pad
    rw [List.set_append_right _ _ (Nat.le_refl _), Nat.sub_self, show n - q.length = (n - (q ++ [x]).length) + 1 by simp; omega, List.replicate_succ, List.set_cons_zero]
    simp
  rw [← e, List.setIfInBounds_toArray, List.map_set]
theorem pad_full {n : Nat} {q : List Int} (h : q.length = n) : pad n q = q := by unfold pad; simp [h]
theorem make_u8 (n : Nat) (h : n ≤ 1000000000) (w : World) : (Instr.makeSlice 39 (.int .i64 (n : Int)) (.int .i64 (n : Int))).run Tryd.prog w = .ok (.slice (some ⟨w.heap.size, 0, none⟩) n n) (w.alloc (.cells ((pad n []).map (Value.int .u8)).toArray 5)) := by
  have hr := run_make_row' (P := Tryd.prog) 39 5 (.int .u8 0) 1 Tryd.underlying39 info_u8 rfl .i64 .i64 n (by omega) (by omega) w
  rw [hr]
  have : madeCells #[Value.int .u8 0] n = ((pad n []).map (Value.int .u8)).toArray := by
    apply Array.toList_inj.1
    rw [toList_madeCells_one]
    simp [pad]
  rw [this]
theorem row_bytes {w : World} {b n : Nat} {t : TypeId} {q : List Int} (h : Row w b t ((pad n q).map (Value.int .u8)).toArray) (hq : q.length = n) (hb : By q) (hn : n ≤ 1000000000) (S : Nat → Prop) (hS : S b) : ByteS w S (.slice (some ⟨b, 0, none⟩) n n) q := by
  rw [pad_full hq] at h
  have h2 := Slc.row (S := S) h n 1 (by simp [hq]) (by unfold maxLen; omega) hS
  refine ⟨?_, hb⟩
  rw [hq]
  simpa using h2

set_option maxRecDepth 100000 in
set_option maxHeartbeats 600000 in
theorem plus_any (va vb : Value) (a b : List Int) (S S2 : Nat → Prop) (w : World) (ha : ByteS w S va a) (hb : ByteS w S2 vb b) (la : a.length ≤ 1000) (lb : b.length ≤ 1000) :
    Calls Tryd.prog 101 #[va, vb] w fun e w' => (∃ v, e = .returned v ∧ ByteS w' (fun k => w.heap.size ≤ k) v (dg (val a + val b).toNat)) ∧ Chg No w w' := by
  obtain ⟨A, c, rfl, -⟩ := ha.form
  obtain ⟨B, d, rfl, -⟩ := hb.form
  have tok : True := trivial
  have HAB := Lib.hid (And.intro ha hb)
  have hn1 : a.length ≤ 1000 ∧ b.length ≤ 1000 := ⟨la, lb⟩
  clear ha hb la lb
  generalize hal : a.length = al at *
  generalize hbl : b.length = bl at *
  have HL := Lib.hid (And.intro hal hbl)
  clear hal hbl
  by_cases hgt : (al : Int) < bl
  · obtain ⟨n, hn⟩ : ∃ n : Nat, bl + 1 = n := ⟨_, rfl⟩
    have hnn : IntKind.i64.wrap ((bl : Int) + 1) = (n : Int) := (IntWalk.i64_in _ (by omega)).trans (by omega)
    have hmk := fun w => make_u8 n (by omega) w
    have hn2 : al < n ∧ bl < n ∧ n ≤ 1001 := by omega
    have HN := Lib.hid hn2
    clear hn hn1 hn2
    go_enter Tryd.func101, Tryd.ntmps101
    go_wp2_with fail
    go_loopg [7, 18] n (fun j v7 v18 wr => ∃ (i : Nat) (q : List Int) (cy : Int), v7 = .int .i64 cy ∧ v18 = .int .i64 (i : Int) ∧ i ≤ n ∧ n - i ≤ j ∧ q.length = i ∧ By q ∧ val q + pw i * cy = val (a.take i) + val (b.take i) ∧ 0 ≤ cy ∧ cy ≤ 1 ∧ Row wr w.heap.size 5 ((pad n q).map (Value.int .u8)).toArray ∧ Chg No w wr)
    case atStart => exact ⟨0, [], 0, rfl, rfl, by omega, by omega, rfl, By.nil, rfl, by omega, by omega, Row.new _ _ _, (Chg.refl _ _).alloc _⟩
    case round =>
      obtain ⟨i, q, cy, rfl, rfl, i1, i2, hq, hby, hv, c0, c1, hrow, cw⟩ := hrel
      have HV := Lib.hid (And.intro hv (And.intro c0 c1))
      have HQ := Lib.hid (And.intro hq hby)
      have HC := Lib.hid (And.intro hrow cw)
      clear hv c0 c1 hq hby
      by_cases hi : i < n
      · have t1 : decide ((i : Int) < (n : Int)) = true := decide_eq_true (by omega)
        have l1 : (i : Int) < (n : Int) := by omega
        have cc : wr.cell? ⟨w.heap.size, i, none⟩ = some (.int .u8 ((pad n q)[i]?.getD 0)) := by
          rw [hrow.cell i]
          have hl : i < (pad n q).length := by unfold pad; rw [List.length_append, List.length_replicate, HQ.out.1]; omega
          simp [List.getElem?_eq_getElem hl]
        have ff : wr.frozen? ⟨w.heap.size, i, none⟩ = false := hrow.frozen i
        obtain ⟨x, hx⟩ : ∃ x, a[i]?.getD 0 = x := ⟨_, rfl⟩
        obtain ⟨y, hy⟩ : ∃ y, b[i]?.getD 0 = y := ⟨_, rfl⟩
        have bx := HAB.out.1.by.at i
        have bY := HAB.out.2.by.at i
        rw [hx] at bx
        rw [hy] at bY
        obtain ⟨s, hs⟩ : ∃ s, cy + (x + y) = s := ⟨_, rfl⟩
        have hcy := HV.out.2
        have s1 : 0 ≤ s ∧ s ≤ 511 := by omega
        have w1 : IntKind.i64.wrap (x + y) = x + y := IntWalk.i64_in _ (by omega)
        have w2 : IntKind.i64.wrap (cy + (x + y)) = s := (IntWalk.i64_in _ (by omega)).trans hs
        have w3 : IntKind.u8.wrap s = s % 256 := rfl
        have w4 : IntKind.i64.wrap (s / 256) = s / 256 := IntWalk.i64_in _ (by omega)
        have w5 : IntKind.i64.wrap ((i : Int) + 1) = ((i + 1 : Nat) : Int) := (IntWalk.i64_in _ (by have := HN.out; omega)).trans (by omega)
        have HD := Lib.hid (And.intro hx hy)
        have HS := Lib.hid (And.intro hs s1)
        clear hx hy bx bY hs hcy s1 hrow cw
        go_wp2_with (first
          | (go_at_call 105
             have _t := tok
             clear tok
             refine (digit_any _ a S _ (HAB.out.1.keep HC.out.2 (fun _ _ f => f)) i).mono ?_
             rw [HD.out.1]
             rintro e w3 ⟨rfl, rfl⟩)
          | (go_at_call 105
             refine (digit_any _ b S2 _ (HAB.out.2.keep HC.out.2 (fun _ _ f => f)) i).mono ?_
             rw [HD.out.2]
             rintro e w3 ⟨rfl, rfl⟩)
          | fail)
        go_roundg (n - (i + 1))
        case measure => omega
        case rel =>
          obtain ⟨h1, h2⟩ := HQ.out
          obtain ⟨h3, h4, h5⟩ := HS.out
          refine ⟨i + 1, q ++ [s % 256], s / 256, rfl, rfl, by omega, by omega, by simp [h1], h2.append (By.cons (by omega) By.nil), ?_, by omega, by omega, ?_, ?_⟩
          · have := carry_step (x := x + y) (i := 0) (pw i) HV.out.1
            rw [h3] at this
            rw [val_append, h1, val_take_succ, val_take_succ, HD.out.1, HD.out.2, pw_succ, val, val, Int.mul_zero, Int.add_zero, this, Int.mul_add]
            omega
          · have := HC.out.1.set i (.int .u8 (s % 256))
            rw [← h1, pad_set (by omega), h1] at this
            exact this
          · exact HC.out.2.setCell (.inr (Nat.le_refl _)) _
      · obtain rfl : i = n := by omega
        have t1 : decide ((i : Int) < (i : Int)) = false := decide_eq_false (by omega)
        have hb := row_bytes hrow HQ.out.1 HQ.out.2 (by have := HN.out; omega) (fun k => w.heap.size ≤ k) (Nat.le_refl _)
        have hval : val q = val a + val b := by
          obtain ⟨e1, e2, e3⟩ := HV.out
          have hn := HN.out
          obtain ⟨l1, l2⟩ := HL.out
          rw [List.take_of_length_le (by omega), List.take_of_length_le (by omega)] at e1
          have b1 := val_bd HAB.out.1.by
          have b2 := val_bd HAB.out.2.by
          have b3 := val_bd HQ.out.2
          have p1 := pw_le (show a.length ≤ i - 1 by omega)
          have p2 := pw_le (show b.length ≤ i - 1 by omega)
          have p3 := pw_succ (i - 1)
          rw [show i - 1 + 1 = i by omega] at p3
          have hc : cy = 0 := by
            rcases (by omega : cy = 0 ∨ cy = 1) with h | h
            · exact h
            · rw [h, Int.mul_one] at e1; omega
          rw [hc, Int.mul_zero] at e1
          omega
        have hcu := cut_any _ q _ wr hb
        rw [hval] at hcu
        have HCU := Lib.hid hcu
        clear hb hval hrow cw hcu
        go_wp2_with (first
          | (go_at_call 125
             refine HCU.out.mono ?_
             rintro e w1 ⟨v', rfl, hb, c1⟩
             have HE := Lib.hid (And.intro hb (HC.out.2.trans c1))
             clear hb c1)
          | fail)
        go_ret
        exact ⟨⟨_, rfl, HE.out.1⟩, HE.out.2⟩
  · obtain ⟨n, hn⟩ : ∃ n : Nat, al + 1 = n := ⟨_, rfl⟩
    have hnn : IntKind.i64.wrap ((al : Int) + 1) = (n : Int) := (IntWalk.i64_in _ (by omega)).trans (by omega)
    have hmk := fun w => make_u8 n (by omega) w
    have hn2 : al < n ∧ bl < n ∧ n ≤ 1001 := by omega
    have HN := Lib.hid hn2
    clear hn hn1 hn2
    go_enter Tryd.func101, Tryd.ntmps101
    go_wp2_with fail
    go_loopg [7, 18] n (fun j v7 v18 wr => ∃ (i : Nat) (q : List Int) (cy : Int), v7 = .int .i64 cy ∧ v18 = .int .i64 (i : Int) ∧ i ≤ n ∧ n - i ≤ j ∧ q.length = i ∧ By q ∧ val q + pw i * cy = val (a.take i) + val (b.take i) ∧ 0 ≤ cy ∧ cy ≤ 1 ∧ Row wr w.heap.size 5 ((pad n q).map (Value.int .u8)).toArray ∧ Chg No w wr)
    case atStart => exact ⟨0, [], 0, rfl, rfl, by omega, by omega, rfl, By.nil, rfl, by omega, by omega, Row.new _ _ _, (Chg.refl _ _).alloc _⟩
    case round =>
      obtain ⟨i, q, cy, rfl, rfl, i1, i2, hq, hby, hv, c0, c1, hrow, cw⟩ := hrel
      have HV := Lib.hid (And.intro hv (And.intro c0 c1))
      have HQ := Lib.hid (And.intro hq hby)
      have HC := Lib.hid (And.intro hrow cw)
      clear hv c0 c1 hq hby
      by_cases hi : i < n
      · have t1 : decide ((i : Int) < (n : Int)) = true := decide_eq_true (by omega)
        have l1 : (i : Int) < (n : Int) := by omega
        have cc : wr.cell? ⟨w.heap.size, i, none⟩ = some (.int .u8 ((pad n q)[i]?.getD 0)) := by
          rw [hrow.cell i]
          have hl : i < (pad n q).length := by unfold pad; rw [List.length_append, List.length_replicate, HQ.out.1]; omega
          simp [List.getElem?_eq_getElem hl]
        have ff : wr.frozen? ⟨w.heap.size, i, none⟩ = false := hrow.frozen i
        obtain ⟨x, hx⟩ : ∃ x, a[i]?.getD 0 = x := ⟨_, rfl⟩
        obtain ⟨y, hy⟩ : ∃ y, b[i]?.getD 0 = y := ⟨_, rfl⟩
        have bx := HAB.out.1.by.at i
        have bY := HAB.out.2.by.at i
        rw [hx] at bx
        rw [hy] at bY
        obtain ⟨s, hs⟩ : ∃ s, cy + (x + y) = s := ⟨_, rfl⟩
        have hcy := HV.out.2
        have s1 : 0 ≤ s ∧ s ≤ 511 := by omega
        have w1 : IntKind.i64.wrap (x + y) = x + y := IntWalk.i64_in _ (by omega)
        have w2 : IntKind.i64.wrap (cy + (x + y)) = s := (IntWalk.i64_in _ (by omega)).trans hs
        have w3 : IntKind.u8.wrap s = s % 256 := rfl
        have w4 : IntKind.i64.wrap (s / 256) = s / 256 := IntWalk.i64_in _ (by omega)
        have w5 : IntKind.i64.wrap ((i : Int) + 1) = ((i + 1 : Nat) : Int) := (IntWalk.i64_in _ (by have := HN.out; omega)).trans (by omega)
        have HD := Lib.hid (And.intro hx hy)
        have HS := Lib.hid (And.intro hs s1)
        clear hx hy bx bY hs hcy s1 hrow cw
        go_wp2_with (first
          | (go_at_call 105
             have _t := tok
             clear tok
             refine (digit_any _ a S _ (HAB.out.1.keep HC.out.2 (fun _ _ f => f)) i).mono ?_
             rw [HD.out.1]
             rintro e w3 ⟨rfl, rfl⟩)
          | (go_at_call 105
             refine (digit_any _ b S2 _ (HAB.out.2.keep HC.out.2 (fun _ _ f => f)) i).mono ?_
             rw [HD.out.2]
             rintro e w3 ⟨rfl, rfl⟩)
          | fail)
        go_roundg (n - (i + 1))
        case measure => omega
        case rel =>
          obtain ⟨h1, h2⟩ := HQ.out
          obtain ⟨h3, h4, h5⟩ := HS.out
          refine ⟨i + 1, q ++ [s % 256], s / 256, rfl, rfl, by omega, by omega, by simp [h1], h2.append (By.cons (by omega) By.nil), ?_, by omega, by omega, ?_, ?_⟩
          · have := carry_step (x := x + y) (i := 0) (pw i) HV.out.1
            rw [h3] at this
            rw [val_append, h1, val_take_succ, val_take_succ, HD.out.1, HD.out.2, pw_succ, val, val, Int.mul_zero, Int.add_zero, this, Int.mul_add]
            omega
          · have := HC.out.1.set i (.int .u8 (s % 256))
            rw [← h1, pad_set (by omega), h1] at this
            exact this
          · exact HC.out.2.setCell (.inr (Nat.le_refl _)) _
      · obtain rfl : i = n := by omega
        have t1 : decide ((i : Int) < (i : Int)) = false := decide_eq_false (by omega)
        have hb := row_bytes hrow HQ.out.1 HQ.out.2 (by have := HN.out; omega) (fun k => w.heap.size ≤ k) (Nat.le_refl _)
        have hval : val q = val a + val b := by
          obtain ⟨e1, e2, e3⟩ := HV.out
          have hn := HN.out
          obtain ⟨l1, l2⟩ := HL.out
          rw [List.take_of_length_le (by omega), List.take_of_length_le (by omega)] at e1
          have b1 := val_bd HAB.out.1.by
          have b2 := val_bd HAB.out.2.by
          have b3 := val_bd HQ.out.2
          have p1 := pw_le (show a.length ≤ i - 1 by omega)
          have p2 := pw_le (show b.length ≤ i - 1 by omega)
          have p3 := pw_succ (i - 1)
          rw [show i - 1 + 1 = i by omega] at p3
          have hc : cy = 0 := by
            rcases (by omega : cy = 0 ∨ cy = 1) with h | h
            · exact h
            · rw [h, Int.mul_one] at e1; omega
          rw [hc, Int.mul_zero] at e1
          omega
        have hcu := cut_any _ q _ wr hb
        rw [hval] at hcu
        have HCU := Lib.hid hcu
        clear hb hval hrow cw hcu
        go_wp2_with (first
          | (go_at_call 125
             refine HCU.out.mono ?_
             rintro e w1 ⟨v', rfl, hb, c1⟩
             have HE := Lib.hid (And.intro hb (HC.out.2.trans c1))
             clear hb c1)
          | fail)
        go_ret
        exact ⟨⟨_, rfl, HE.out.1⟩, HE.out.2⟩

set_option maxRecDepth 100000 in
set_option maxHeartbeats 600000 in
theorem minus_any (va vb : Value) (a b : List Int) (S S2 : Nat → Prop) (w : World) (ha : ByteS w S va a) (hb : ByteS w S2 vb b) (la : a.length ≤ 1000) (lb : b.length ≤ a.length) (hle : val b ≤ val a) :
    Calls Tryd.prog 104 #[va, vb] w fun e w' => (∃ v, e = .returned v ∧ ByteS w' (fun k => w.heap.size ≤ k) v (dg (val a - val b).toNat)) ∧ Chg No w w' := by
  obtain ⟨A, c, rfl, -⟩ := ha.form
  obtain ⟨B, d, rfl, -⟩ := hb.form
  have tok : True := trivial
  have HAB := Lib.hid (And.intro ha hb)
  generalize hal : a.length = n at *
  generalize hbl : b.length = bl at *
  have HL := Lib.hid (And.intro hal (And.intro hbl hle))
  have hmk := fun w => make_u8 n (by omega) w
  have HN := Lib.hid (And.intro la lb)
  clear hal hbl la lb ha hb hle
  go_enter Tryd.func104, Tryd.ntmps104
  go_wp2_with fail
  go_loopg [6, 13] n (fun j v7 v18 wr => ∃ (i : Nat) (q : List Int) (cy : Int), v7 = .int .i64 cy ∧ v18 = .int .i64 (i : Int) ∧ i ≤ n ∧ n - i ≤ j ∧ q.length = i ∧ By q ∧ val q + pw i * cy = val (a.take i) + -(val (b.take i)) ∧ -1 ≤ cy ∧ cy ≤ 0 ∧ Row wr w.heap.size 5 ((pad n q).map (Value.int .u8)).toArray ∧ Chg No w wr)
  case atStart => exact ⟨0, [], 0, rfl, rfl, by omega, by omega, rfl, By.nil, rfl, by omega, by omega, Row.new _ _ _, (Chg.refl _ _).alloc _⟩
  case round =>
    obtain ⟨i, q, cy, rfl, rfl, i1, i2, hq, hby, hv, c0, c1, hrow, cw⟩ := hrel
    have HV := Lib.hid (And.intro hv (And.intro c0 c1))
    have HQ := Lib.hid (And.intro hq hby)
    have HC := Lib.hid (And.intro hrow cw)
    clear hv c0 c1 hq hby
    by_cases hi : i < n
    · have t1 : decide ((i : Int) < (n : Int)) = true := decide_eq_true (by omega)
      have l1 : (i : Int) < (n : Int) := by omega
      have cc : wr.cell? ⟨w.heap.size, i, none⟩ = some (.int .u8 ((pad n q)[i]?.getD 0)) := by
        rw [hrow.cell i]
        have hl : i < (pad n q).length := by unfold pad; rw [List.length_append, List.length_replicate, HQ.out.1]; omega
        simp [List.getElem?_eq_getElem hl]
      have ff : wr.frozen? ⟨w.heap.size, i, none⟩ = false := hrow.frozen i
      obtain ⟨x, hx⟩ : ∃ x, a[i]?.getD 0 = x := ⟨_, rfl⟩
      obtain ⟨y, hy⟩ : ∃ y, b[i]?.getD 0 = y := ⟨_, rfl⟩
      have bx := HAB.out.1.by.at i
      have bY := HAB.out.2.by.at i
      rw [hx] at bx
      rw [hy] at bY
      obtain ⟨s, hs⟩ : ∃ s, cy + (x - y) = s := ⟨_, rfl⟩
      have hcy := HV.out.2
      have s1 : -256 ≤ s ∧ s ≤ 255 := by omega
      have w1 : IntKind.i64.wrap (x - y) = x - y := IntWalk.i64_in _ (by omega)
      have w2 : IntKind.i64.wrap (cy + (x - y)) = s := (IntWalk.i64_in _ (by omega)).trans hs
      have w3 : IntKind.u8.wrap s = s % 256 := rfl
      have w4 : IntKind.i64.wrap (s / 256) = s / 256 := IntWalk.i64_in _ (by omega)
      have w5 : IntKind.i64.wrap ((i : Int) + 1) = ((i + 1 : Nat) : Int) := (IntWalk.i64_in _ (by have := HN.out; omega)).trans (by omega)
      have HD := Lib.hid (And.intro hx hy)
      have HS := Lib.hid (And.intro hs s1)
      clear hx hy bx bY hs hcy s1 hrow cw
      go_wp2_with (first
        | (go_at_call 105
           have _t := tok
           clear tok
           refine (digit_any _ a S _ (HAB.out.1.keep HC.out.2 (fun _ _ f => f)) i).mono ?_
           rw [HD.out.1]
           rintro e w3 ⟨rfl, rfl⟩)
        | (go_at_call 105
           refine (digit_any _ b S2 _ (HAB.out.2.keep HC.out.2 (fun _ _ f => f)) i).mono ?_
           rw [HD.out.2]
           rintro e w3 ⟨rfl, rfl⟩)
        | fail)
      go_roundg (n - (i + 1))
      case measure => omega
      case rel =>
        obtain ⟨h1, h2⟩ := HQ.out
        obtain ⟨h3, h4, h5⟩ := HS.out
        refine ⟨i + 1, q ++ [s % 256], s / 256, rfl, rfl, by omega, by omega, by simp [h1], h2.append (By.cons (by omega) By.nil), ?_, by omega, by omega, ?_, ?_⟩
        · have := carry_step (x := x - y) (i := 0) (pw i) HV.out.1
          rw [h3] at this
          rw [val_append, h1, val_take_succ, val_take_succ, HD.out.1, HD.out.2, pw_succ, val, val, Int.mul_zero, Int.add_zero, this, Int.mul_sub]
          omega
        · have := HC.out.1.set i (.int .u8 (s % 256))
          rw [← h1, pad_set (by omega), h1] at this
          exact this
        · exact HC.out.2.setCell (.inr (Nat.le_refl _)) _
    · obtain rfl : i = n := by omega
      have t1 : decide ((i : Int) < (i : Int)) = false := decide_eq_false (by omega)
      have hb := row_bytes hrow HQ.out.1 HQ.out.2 (by have := HN.out; omega) (fun k => w.heap.size ≤ k) (Nat.le_refl _)
      have hval : val q = val a - val b := by
        obtain ⟨e1, e2, e3⟩ := HV.out
        have hn := HN.out
        obtain ⟨l1, l2, l3⟩ := HL.out
        rw [List.take_of_length_le (by omega), List.take_of_length_le (by omega)] at e1
        have b3 := val_bd HQ.out.2
        rw [HQ.out.1] at b3
        have hc : cy = 0 := by
          rcases (by omega : cy = 0 ∨ cy = -1) with h | h
          · exact h
          · rw [h, show pw i * -1 = -(pw i) by omega] at e1; omega
        rw [hc, Int.mul_zero] at e1
        omega
      have hcu := cut_any _ q _ wr hb
      rw [hval] at hcu
      have HCU := Lib.hid hcu
      clear hb hval hrow cw hcu
      go_wp2_with (first
        | (go_at_call 125
           refine HCU.out.mono ?_
           rintro e w1 ⟨v', rfl, hb, c1⟩
           have HE := Lib.hid (And.intro hb (HC.out.2.trans c1))
           clear hb c1)
        | fail)
      go_ret
      exact ⟨⟨_, rfl, HE.out.1⟩, HE.out.2⟩

set_option maxRecDepth 100000 in
set_option maxHeartbeats 600000 in
theorem wrong_any (v : Value) (l : List Int) (S : Nat → Prop) (w : World) (h : ByteS w S v l) (hr : rightD l = true) :
    Calls Tryd.prog 99 #[v] w fun e w' => e = .returned (.bool false) ∧ w = w' := by
  have HR := Lib.hid (Right_any v l S w h)
  rw [hr] at HR
  go_enter Tryd.func99, Tryd.ntmps99
  go_wp2_with (first
    | (go_at_call 97
       refine HR.out.mono ?_
       rintro e w1 ⟨rfl, rfl⟩)
    | fail)
  go_ret
  exact ⟨rfl, rfl⟩
set_option maxRecDepth 100000 in
set_option maxHeartbeats 600000 in
theorem IndexWrong_any (v : Value) (l : List Int) (S : Nat → Prop) (w : World) (h : ByteS w S v l) (hr : rightD l = true) (r : Nat) (t : TypeId) (hrow : Row w r t #[v]) :
    Calls Tryd.prog 124 #[.slice (some ⟨r, 0, none⟩) 1 1, .func (.func 99) #[] #[]] w fun e w' => e = .returned (.int .i64 (-1)) ∧ w = w' := by
  obtain ⟨A, c, rfl, -⟩ := h.form
  have cc := hrow.cell 0
  simp at cc
  have HW := Lib.hid (wrong_any _ l S w h hr)
  clear h
  go_enter Tryd.func124, Tryd.ntmps124
  go_wp2_with fail
  go_loopg [5, 8] 1 (fun j v5 v8 wr => ∃ i : Nat, v8 = .int .i64 i ∧ i ≤ 1 ∧ 1 - i ≤ j ∧ w = wr)
  case atStart => exact ⟨0, rfl, by omega, by omega, rfl⟩
  case round =>
    obtain ⟨i, rfl, i1, i2, rfl⟩ := hrel
    rcases (by omega : i = 0 ∨ i = 1) with rfl | rfl
    · go_wp2_with (first
        | (go_at_call 99
           refine HW.out.mono ?_
           rintro e w1 ⟨rfl, rfl⟩)
        | fail)
      go_roundg 0
      case measure => omega
      case rel => exact ⟨1, by go_num, by omega, by omega, rfl⟩
    · go_wp2_with fail
      go_ret
      exact ⟨rfl, rfl⟩
set_option maxRecDepth 100000 in
set_option maxHeartbeats 600000 in
theorem AnyWrong_any (v : Value) (l : List Int) (S : Nat → Prop) (w : World) (h : ByteS w S v l) (hr : rightD l = true) (r : Nat) (t : TypeId) (hrow : Row w r t #[v]) :
    Calls Tryd.prog 98 #[.slice (some ⟨r, 0, none⟩) 1 1, .func (.func 99) #[] #[]] w fun e w' => e = .returned (.bool false) ∧ w = w' := by
  have HI := Lib.hid (IndexWrong_any v l S w h hr r t hrow)
  clear h
  go_enter Tryd.func98, Tryd.ntmps98
  go_wp2_with (first
    | (go_at_call 124
       refine HI.out.mono ?_
       rintro e w' ⟨rfl, rfl⟩)
    | fail)
  go_ret
  exact ⟨rfl, rfl⟩

theorem right_len {l : List Int} (h : rightD l = true) : l.length ≤ 400 := by
  unfold rightD at h
  simp at h
  exact h.1
set_option maxRecDepth 100000 in
set_option maxHeartbeats 600000 in
theorem Add_any (va vb : Value) (a b : List Int) (S S2 : Nat → Prop) (w : World) (ha : ByteS w S va a) (hb : ByteS w S2 vb b) (ra : rightD a = true) (rb : rightD b = true) (r : Nat) (t : TypeId) (hrow : Row w r t #[vb]) :
    Calls Tryd.prog 72 #[va, .slice (some ⟨r, 0, none⟩) 1 1] w fun e w' => Told w' (fun k => w.heap.size ≤ k) (val a + val b).toNat e ∧ Chg No w w' := by
  have la := right_len ra
  have lb := right_len rb
  obtain ⟨A, c, rfl, -⟩ := ha.form
  obtain ⟨B, d, rfl, -⟩ := hb.form
  have HR := Lib.hid (Right_any _ a S w ha)
  have HW := Lib.hid (AnyWrong_any _ b S2 w hb rb r t hrow)
  have HCl := Lib.hid (CloneB_any _ a S w ha (by omega))
  have HAB := Lib.hid (And.intro ha (And.intro hb hrow))
  have HL := Lib.hid (And.intro la (And.intro lb (val_bd hb.by).1))
  rw [ra] at HR
  clear ha hb ra rb hrow la lb
  generalize hal : a.length = al at *
  generalize hbl : b.length = bl at *
  have HLen := Lib.hid (And.intro hal hbl)
  clear hal hbl
  go_enter Tryd.func72, Tryd.ntmps72
  go_wp2_with (first
    | (go_at_call 97
       refine HR.out.mono ?_
       rintro e w1 ⟨rfl, rfl⟩)
    | (go_at_call 98
       refine HW.out.mono ?_
       rintro e w1 ⟨rfl, rfl⟩)
    | (go_at_call 100
       refine HCl.out.mono ?_
       rintro e w1 ⟨v1, rfl, c1, o1⟩
       obtain ⟨A5, c5, rfl⟩ := own_form o1
       have hbs : ByteS w1 (fun k => w.heap.size ≤ k) (.slice A5 al c5) a := ByteS.of_own (by rw [HLen.out.1]; exact o1) HAB.out.1.2
       have H1 := Lib.hid (And.intro hbs c1)
       clear hbs c1 o1)
    | fail)
  go_loopg [6, 20] 1 (fun j v6 v20 wr => ∃ (i : Nat) (z : List Int), v20 = .int .i64 (i : Int) ∧ i ≤ 1 ∧ 1 - i ≤ j ∧ z = (if i = 0 then a else dg (val a + val b).toNat) ∧ ByteS wr (fun k => w.heap.size ≤ k) v6 z ∧ Chg No w wr)
  case atStart => exact ⟨0, a, rfl, by omega, by omega, rfl, H1.out.1, H1.out.2⟩
  case round =>
    obtain ⟨i, z, rfl, i1, i2, hz, hbs, cw⟩ := hrel
    rcases (by omega : i = 0 ∨ i = 1) with rfl | rfl
    · rw [if_pos rfl] at hz
      subst hz
      have cc := (HAB.out.2.2.keep cw (fun f => f)).cell 0
      simp at cc
      have hpl := plus_any _ _ _ b _ S2 wr hbs (HAB.out.2.1.keep cw (fun _ _ f => f)) (by have := HLen.out; have := HL.out; omega) (by have := HLen.out; have := HL.out; omega)
      obtain ⟨A6, c6, rfl, -⟩ := hbs.form
      have HP := Lib.hid hpl
      have HC := Lib.hid cw
      clear hpl hbs cw
      go_wp2_with (first
        | (go_at_call 101
           refine HP.out.mono ?_
           rintro e w2 ⟨⟨v2, rfl, hb2⟩, c2⟩
           have H2 := Lib.hid (And.intro (hb2.more (S' := fun k => w.heap.size ≤ k) (fun k _ hk => Nat.le_trans HC.out.size hk)) (HC.out.trans c2))
           clear hb2 c2)
        | fail)
      go_roundg 0
      case measure => omega
      case rel => exact ⟨1, _, by go_num, by omega, by omega, rfl, H2.out.1, H2.out.2⟩
    · rw [if_neg (by omega)] at hz
      have ht := told_any _ z _ wr hbs
      rw [hz, val_dg, show ((((val a + val b).toNat : Nat) : Int)).toNat = (val a + val b).toNat from Int.toNat_natCast _] at ht
      have HT := Lib.hid ht
      have HC := Lib.hid cw
      clear ht hbs cw hz
      unfold Told at HT
      go_wp2_with (first
        | (go_at_call 102
           refine HT.out.mono ?_
           rintro e w2 ⟨⟨h4, v2, rfl, hb2⟩ | ⟨h4, rfl⟩, c2⟩
           rotate_left)
        | fail)
      · go_ret2
        exact ⟨.inr ⟨h4, rfl⟩, HC.out.trans c2⟩
      · go_ret2
        exact ⟨.inl ⟨h4, _, rfl, hb2⟩, HC.out.trans c2⟩

end Go.Proofs.YtncoanmgifgcbaaDoor
