/- Do jumps lead where something begins? code.Jumps. -/
import Derived.Test.YtncoanmgifgcbaaDoorImgI
import Derived.WalkMore
namespace Go.Proofs.YtncoanmgifgcbaaDoor
set_option linter.unusedVariables false
set_option linter.unusedSimpArgs false
open Go.RowKit

theorem oneP_bd {c : Int} (h : 0 ≤ c ∧ c ≤ 255) : 0 ≤ (oneP c).1.k ∧ (oneP c).1.k ≤ 50 ∧ -2000 ≤ (oneP c).1.n ∧ (oneP c).1.n ≤ 2000 := by
  have hcv : ∀ k : Int, 0 ≤ k → k ≤ 100 → -2000 ≤ constV k ∧ constV k ≤ 2000 := fun k h0 h1 => by
    unfold constV
    repeat' split
    all_goals omega
  rcases (show c ≤ 15 ∨ (16 ≤ c ∧ c ≤ 31) ∨ (32 ≤ c ∧ c ≤ 63) ∨ (64 ≤ c ∧ c ≤ 95) ∨ (96 ≤ c ∧ c ≤ 103) ∨ (104 ≤ c ∧ c ≤ 111) ∨ (112 ≤ c ∧ c ≤ 112) ∨ (113 ≤ c ∧ c ≤ 119) ∨ (120 ≤ c ∧ c ≤ 120) ∨ (121 ≤ c ∧ c ≤ 123) ∨ (124 ≤ c ∧ c ≤ 125) ∨ (126 ≤ c ∧ c ≤ 127) ∨ (128 ≤ c ∧ c ≤ 134) ∨ (135 ≤ c ∧ c ≤ 137) ∨ (138 ≤ c ∧ c ≤ 143) ∨ (144 ≤ c ∧ c ≤ 151) ∨ (152 ≤ c ∧ c ≤ 159) ∨ (160 ≤ c ∧ c ≤ 175) ∨ (176 ≤ c ∧ c ≤ 191) ∨ (192 ≤ c ∧ c ≤ 207) ∨ 208 ≤ c by omega) with q | q | q | q | q | q | q | q | q | q | q | q | q | q | q | q | q | q | q | q | q
  all_goals
    unfold oneP
    repeat (first | rw [if_pos (by omega)] | rw [if_neg (by omega)])
    dsimp only
    have v1 := hcv (c - 112)
    have v2 := hcv (c - 120)
    omega
theorem storeV_bd (c n : Int) : 0 ≤ storeV c n ∧ storeV c n ≤ 50 := by
  unfold storeV
  generalize ((c - 128) * 4 + n / 64).toNat = k
  rcases Nat.lt_or_ge k 12 with h | h
  · have : k = 0 ∨ k = 1 ∨ k = 2 ∨ k = 3 ∨ k = 4 ∨ k = 5 ∨ k = 6 ∨ k = 7 ∨ k = 8 ∨ k = 9 ∨ k = 10 ∨ k = 11 := by omega
    rcases this with rfl | rfl | rfl | rfl | rfl | rfl | rfl | rfl | rfl | rfl | rfl | rfl <;> simp [storeL]
  · rw [List.getElem?_eq_none (by simpa [storeL] using h)]
    simp
theorem moreP_bd {c n m : Int} (hc : (128 ≤ c ∧ c ≤ 134) ∨ (160 ≤ c ∧ c ≤ 175)) (hn : 0 ≤ n ∧ n ≤ 255) (hm : 0 ≤ m ∧ m ≤ 255) : 0 ≤ (moreP c n m).k ∧ (moreP c n m).k ≤ 50 ∧ -2000 ≤ (moreP c n m).n ∧ (moreP c n m).n ≤ 2000 := by
  have hs := storeV_bd c n
  unfold moreP
  repeat' split
  all_goals
    dsimp only
    omega
theorem byte_at {b : List Int} (h : ∀ x ∈ b, 0 ≤ x ∧ x ≤ 255) (k : Nat) : 0 ≤ b[k]?.getD 0 ∧ b[k]?.getD 0 ≤ 255 := by
  cases e : b[k]? with
  | none => simp
  | some x => simpa using h x (List.mem_of_getElem? e)
theorem atP_bd {b : List Int} (h : ∀ x ∈ b, 0 ≤ x ∧ x ≤ 255) (k : Nat) : 0 ≤ (atP b k).1.k ∧ (atP b k).1.k ≤ 50 ∧ -2000 ≤ (atP b k).1.n ∧ (atP b k).1.n ≤ 2000 := by
  unfold atP
  split
  · exact oneP_bd (byte_at h k)
  · rename_i h1
    split
    · simp [P4.zero]
    · exact moreP_bd (oneP_no (by simpa using h1)) (byte_at h _) (byte_at h _)
/-- they lie in so many bytes, one behind the other -/
def Fits (N : Nat) : Nat → List P4 → Prop
  | k, [] => k ≤ N
  | k, o :: r => ∃ l : Nat, o.l = l ∧ 1 ≤ l ∧ k + l ≤ N ∧ (0 ≤ o.k ∧ o.k ≤ 50 ∧ -2000 ≤ o.n ∧ o.n ≤ 2000) ∧ Fits N (k + l) r
theorem opsR_fits {b : List Int} (h : ∀ x ∈ b, 0 ≤ x ∧ x ≤ 255) : ∀ (f k : Nat), k ≤ b.length → Fits b.length k (opsR b f k).1
  | 0, k, hk => hk
  | f + 1, k, hk => by
    rw [opsR]
    split
    · exact hk
    · split
      · rename_i h1 h2
        obtain ⟨l, e, l1, l2⟩ := atP_fits (by omega) h2
        refine ⟨l, e, l1, l2, atP_bd h k, ?_⟩
        rw [e, Int.toNat_natCast]
        exact opsR_fits h f (k + l) l2
      · exact hk
theorem Fits.le {N : Nat} : ∀ {l : List P4} {k : Nat}, Fits N k l → k ≤ N
  | [], _, h => h
  | _ :: _, _, ⟨_, _, _, h, _⟩ => by omega
theorem Fits.len {N : Nat} : ∀ {l : List P4} {k : Nat}, Fits N k l → k + l.length ≤ N
  | [], _, h => h
  | _ :: r, k, ⟨l, _, h1, _, _, h2⟩ => by
    have := Fits.len h2
    rw [List.length_cons]
    omega
/-- where they begin -/
def begL : Nat → List P4 → List Nat
  | _, [] => []
  | k, o :: r => k :: begL (k + o.l.toNat) r
/-- do they lead to one of these places? -/
def jmpB (N : Nat) (B : List Nat) : Nat → List P4 → Bool
  | _, [] => true
  | k, o :: r => if o.k = 0 then false else if 22 ≤ o.k ∧ o.k ≤ 24 then (decide (0 ≤ ((k + o.l.toNat : Nat) : Int) + o.n ∧ ((k + o.l.toNat : Nat) : Int) + o.n ≤ (N : Int) ∧ (((k + o.l.toNat : Nat) : Int) + o.n).toNat ∈ B) && jmpB N B (k + o.l.toNat) r) else jmpB N B (k + o.l.toNat) r
def jumpsP (b : List Int) : Bool := if (opsR b b.length 0).2 = 0 then jmpB b.length (begL 0 (opsR b b.length 0).1 ++ [b.length]) 0 (opsR b b.length 0).1 else false

/-- a slice that reads as what bytes tell -/
def OpS (w : World) (S : Nat → Prop) (v : Value) (l : List P4) : Prop := Slc w S 4 v l.length (opCells l)
theorem OpS.at {w : World} {S : Nat → Prop} {A : Option Addr} {n c : Nat} {l : List P4} (h : OpS w S (.slice A n c) l) {i : Nat} {x : P4} (hi : l[i]? = some x) : ∃ b off, A = some ⟨b, off, none⟩ ∧ n = l.length ∧ b < w.heap.size ∧ w.cell? ⟨b, off + i * 4, none⟩ = some (.int .i64 x.k) ∧ w.cell? ⟨b, off + i * 4 + 1, none⟩ = some (.int .i64 x.n) ∧ w.cell? ⟨b, off + i * 4 + 2, none⟩ = some (.int .i64 x.m) ∧ w.cell? ⟨b, off + i * 4 + 3, none⟩ = some (.int .i64 x.l) := by
  obtain ⟨A', c', hv, hl, h1, h2, h0, h3⟩ := h
  obtain ⟨rfl, rfl, rfl⟩ := Value.slice.inj hv
  have hil := (List.getElem?_eq_some_iff.1 hi).1
  obtain ⟨b, off, e, -, hb, hc⟩ := h3 (by omega)
  obtain ⟨x0, x1, x2, x3⟩ := opCells_at l i x hi
  exact ⟨b, off, e, rfl, hb, hc _ _ x0, by rw [Nat.add_assoc]; exact hc _ _ x1, by rw [Nat.add_assoc]; exact hc _ _ x2, by rw [Nat.add_assoc]; exact hc _ _ x3⟩
theorem OwnP.ops {w : World} {base : Nat} {v : Value} {l : List P4} (h : OwnP w base v l) : OpS w (fun b => base ≤ b) v l := (Slc.of_own h).more fun _ _ hb => (h.lt _ hb).1
theorem OpS.keep {w w' : World} {S F : Nat → Prop} {v : Value} {l : List P4} (h : OpS w S v l) (c : Chg F w w') (hS : ∀ b, S b → ¬ F b) : OpS w' S v l := Slc.keep h c hS
theorem OpS.more {w : World} {S S' : Nat → Prop} {v : Value} {l : List P4} (h : OpS w S v l) (hS : ∀ b, b < w.heap.size → S b → S' b) : OpS w S' v l := Slc.more h hS
/-- a row of truths: those of these places are true -/
def BoolR (w : World) (g N : Nat) (B : List Nat) : Prop := ∃ arr : Array Value, Row w g 4 arr ∧ ∀ j, j < N → arr[j]? = some (.bool (decide (j ∈ B)))
theorem BoolR.keep {w w' : World} {g N : Nat} {B : List Nat} {F : Nat → Prop} (h : BoolR w g N B) (c : Chg F w w') (hg : ¬ F g) : BoolR w' g N B := by
  obtain ⟨arr, h1, h2⟩ := h
  exact ⟨arr, h1.keep c hg, h2⟩
theorem BoolR.set {w : World} {g N : Nat} {B : List Nat} (h : BoolR w g N B) {k : Nat} (hk : k < N) : BoolR (w.setCell ⟨g, k, none⟩ (.bool true)) g N (B ++ [k]) := by
  obtain ⟨arr, h1, h2⟩ := h
  refine ⟨_, h1.set k (.bool true), fun j hj => ?_⟩
  have hsz : k < arr.size := by
    have := h2 k hk
    exact (Array.getElem?_eq_some_iff.1 this).1
  rw [Array.getElem?_setIfInBounds]
  by_cases e : k = j
  · subst e
    simp [hsz]
  · rw [if_neg e, h2 j hj]
    simp
    intro hh
    exact absurd hh.symm e
theorem BoolR.cell {w : World} {g N : Nat} {B : List Nat} (h : BoolR w g N B) {k : Nat} (hk : k < N) : w.cell? ⟨g, k, none⟩ = some (.bool (decide (k ∈ B))) ∧ w.frozen? ⟨g, k, none⟩ = false ∧ g < w.heap.size := by
  obtain ⟨arr, h1, h2⟩ := h
  exact ⟨(h1.cell k).trans (h2 k hk), h1.frozen k, h1.lt⟩
theorem begL_len : ∀ (l : List P4) (k : Nat), (begL k l).length = l.length
  | [], _ => rfl
  | _ :: r, k => by rw [begL, List.length_cons, List.length_cons, begL_len r]
theorem begL_step {l B : List P4} {T : List Nat} {i q : Nat} {x : P4} (hx : l[i]? = some x) (h : T.drop i = begL q (l.drop i)) : T.take (i + 1) = T.take i ++ [q] ∧ T.drop (i + 1) = begL (q + x.l.toNat) (l.drop (i + 1)) := by
  have hd : l.drop i = x :: l.drop (i + 1) := by
    obtain ⟨hi, e⟩ := List.getElem?_eq_some_iff.1 hx
    rw [List.drop_eq_getElem_cons hi, e]
  rw [hd, begL] at h
  have hi : i < T.length := by
    rcases Nat.lt_or_ge i T.length with h1 | h1
    · exact h1
    · rw [List.drop_eq_nil_of_le h1] at h
      cases h
  rw [List.drop_eq_getElem_cons hi] at h
  injection h with h1 h2
  exact ⟨by rw [List.take_succ_eq_append_getElem hi, h1], h2⟩

theorem info_bool : (Tryd.prog.info? 4).map (fun i => (i.zero, i.size, i.bytes)) = some (some (.bool false), 1, 1) := by kernel_rfl
set_option maxRecDepth 100000 in
set_option maxHeartbeats 1000000 in
theorem Jumps_any (bv : Value) (l : List Int) (S : Nat → Prop) (w : World) (h : ByteS w S bv l) (hm : l.length ≤ 100000000) (ht : Tabs w) : Calls Tryd.prog 60 #[bv] w fun e w' => e = .returned (.bool (jumpsP l)) ∧ Chg No w w' := by
  obtain ⟨A, cp, rfl, -⟩ := h.form
  have HX := Lib.hid h
  have hfit := opsR_fits h.2 l.length 0 (Nat.zero_le _)
  obtain ⟨R, hR⟩ : ∃ r, jumpsP l = r := ⟨_, rfl⟩
  rw [hR]
  unfold jumpsP at hR
  obtain ⟨Q, hQ⟩ : ∃ q, opsR l l.length 0 = q := ⟨_, rfl⟩
  have hop : opsP l = if Q.2 = 0 then Q else ([], Q.2) := by unfold opsP; rw [hQ]
  rw [hQ] at hR hfit
  obtain ⟨ops, er⟩ := Q
  dsimp only at hR hfit hop
  clear h hQ
  have HRR := Lib.hid hR
  have HF := Lib.hid hfit
  have HOP := Lib.hid hop
  have HT := Lib.hid ht
  clear hR hfit hop ht
  generalize hn : l.length = N at *
  have HN := Lib.hid hn
  clear hn
  obtain ⟨i0, hi, hz0, hz1, hz2⟩ := info_parts info_bool
  have Hz := Lib.hid (And.intro hz0 (And.intro hz1 hz2))
  clear hz0 hz1 hz2
  have wN : IntKind.i64.wrap ((N : Int) + 1) = (N : Int) + 1 := IntWalk.i64_in _ (by omega)
  by_cases he : er = 0
  · subst he
    have HOP2 := Lib.hid (show opsP l = (ops, 0) by rw [HOP.out, if_pos rfl])
    have HRR2 := Lib.hid (show jmpB N (begL 0 ops ++ [N]) 0 ops = R by rw [← HRR.out, if_pos rfl])
    clear HOP HRR
    obtain ⟨m, hm2⟩ : ∃ m, ops.length = m := ⟨_, rfl⟩
    have HM := Lib.hid hm2
    clear hm2
    obtain ⟨T, hT⟩ : ∃ T, begL 0 ops = T := ⟨_, rfl⟩
    have HTT := Lib.hid hT
    have hms : m ≤ N := by have := Fits.len HF.out; rw [HM.out] at this; omega
    clear hT
    go_enter Tryd.func60, Tryd.ntmps60
    go_wp2_with fail
    go_step3
    go_wp2_with (first
      | (go_at_call 92
         refine (AllOps_any _ l S _ HX.out (by rw [HN.out]; exact hm) HT.out).mono ?_
         rw [HOP2.out]
         rintro e w1 ⟨v1, rfl, u1, rfl, ho, c1⟩
         obtain ⟨A1, d1, rfl⟩ : ∃ A c, u1 = .slice A m c := by have := ho.form; dsimp only at this; rwa [HM.out] at this
         have H1 := Lib.hid (And.intro (show OpS w1 (fun _ => True) (.slice A1 m d1) ops from ho.ops.more (fun _ _ _ => trivial)) c1)
         clear ho c1)
      | (at_make
         refine wpList_make_full _ rfl _ _ _ rfl w1.heap.size 4 i0 (.bool false) 1 Tryd.underlying136 hi Hz.out.1 Hz.out.2.1 _ _ _ _ (N + 1) rfl rfl (by omega) (by omega) (by rw [Hz.out.2.2]; omega) (by unfold maxLen; omega) (Nat.le_refl _) ?_
         intro w2 hown hgrow
         have hB : BoolR w2 w1.heap.size (N + 1) [] := by
           refine ⟨_, own_row hown, fun j hj => ?_⟩
           rw [show (Value.bool false).cells = #[Value.bool false] from rfl, toList_madeCells_one, Nat.mul_one]
           simp [hj]
         have H2 := Lib.hid (And.intro hB ((Chg.refl No _).grown hgrow (by simp)))
         clear hB hown hgrow)
      | fail)
    go_loopg [6, 24] m (fun j v6 v24 wr => ∃ i k : Nat, v24 = .int .i64 (i : Int) ∧ v6 = .int .i64 (k : Int) ∧ i ≤ m ∧ m - i ≤ j ∧ Fits N k (ops.drop i) ∧ T.drop i = begL k (ops.drop i) ∧ BoolR wr w1.heap.size (N + 1) (T.take i) ∧ Chg No w1 wr)
    case atStart => exact ⟨0, 0, rfl, rfl, by omega, by omega, HF.out, HTT.out.symm, H2.out.1, H2.out.2⟩
    case round =>
      obtain ⟨i, k, rfl, rfl, i1, i2, hfit, hT, hB, cw⟩ := hrel
      by_cases hi : i < m
      · have t1 : decide ((i : Int) < (m : Int)) = true := decide_eq_true (by omega)
        have l1 : (i : Int) < (m : Int) := by omega
        obtain ⟨⟨pk, pn, pm, pl⟩, hx⟩ : ∃ x, ops[i]? = some x := ⟨_, List.getElem?_eq_getElem (by rw [HM.out]; exact hi)⟩
        have hd : ops.drop i = ⟨pk, pn, pm, pl⟩ :: ops.drop (i + 1) := by
          obtain ⟨hi', e⟩ := List.getElem?_eq_some_iff.1 hx
          rw [List.drop_eq_getElem_cons hi', e]
        have hst := begL_step (B := ops) hx hT
        rw [hd] at hfit
        obtain ⟨q, hq, q1, q2, -, hfit2⟩ := hfit
        dsimp only at hq hst
        subst hq
        rw [Int.toNat_natCast] at hst
        obtain ⟨b, off, rfl, -, hb, y0, y1, y2, y3⟩ := (H1.out.1.keep cw (fun _ _ f => f)).at hx
        dsimp only at y0 y1 y2 y3
        have wk : IntKind.i64.wrap ((k : Int) + (q : Int)) = ((k + q : Nat) : Int) := (IntWalk.i64_in _ (by omega)).trans (by omega)
        obtain ⟨z0, z1, z2⟩ := hB.cell (k := k) (by omega)
        have lk : (k : Int) < (N : Int) + 1 := by omega
        have lk2 : k < N + 1 := by omega
        have HS := Lib.hid (And.intro hfit2 (And.intro hst.2 (And.intro hB (And.intro cw hst.1))))
        clear hx hd hT hB cw hst hfit2
        go_wp2_with fail
        go_roundg (m - (i + 1))
        case measure => omega
        case rel =>
          refine ⟨i + 1, k + q, by go_num, by go_num, by omega, by omega, HS.out.1, HS.out.2.1, ?_, ?_⟩
          · rw [HS.out.2.2.2.2]
            exact (HS.out.2.2.1.set lk2).keep (F := No) ((Chg.refl _ _).alloc _) (fun f => f)
          · exact ((HS.out.2.2.2.1).setCell (.inr (Nat.le_refl _)) _).alloc _
      · have t1 : decide ((i : Int) < (m : Int)) = false := decide_eq_false (by omega)
        obtain rfl : i = m := by omega
        have hB2 : BoolR wr w1.heap.size (N + 1) T := by
          rw [List.take_of_length_le (by rw [← HTT.out, begL_len, HM.out]; exact Nat.le_refl _)] at hB
          exact hB
        obtain ⟨z0, z1, z2⟩ := hB2.cell (k := N) (by omega)
        have HB := Lib.hid (And.intro (hB2.set (k := N) (by omega)) cw)
        clear hfit hT hB hB2 cw
        go_wp2_with fail
        generalize hV : World.setCell wr _ _ = V
        rw [hV] at HB
        have hBV := HB.out.1
        have cV : Chg No w1 V := by rw [← hV]; exact HB.out.2.setCell (.inr (Nat.le_refl _)) _
        have HV := Lib.hid (And.intro hBV cV)
        have HJ := Lib.hid (show jmpB N (T ++ [N]) 0 ops = R by rw [← HTT.out]; exact HRR2.out)
        clear HB hBV cV z0 z1 z2 hV HRR2 HTT H2
        go_step3
        go_wp2_with fail
        obtain ⟨wa, rfl⟩ : ∃ x, x = wr := ⟨_, rfl⟩
        go_loopg [6, 9, 44] i (fun j v6 v9 v44 wr => ∃ i2 k : Nat, v44 = .int .i64 (i2 : Int) ∧ v6 = .int .i64 (k : Int) ∧ v9 = .bool true ∧ i2 ≤ i ∧ i - i2 ≤ j ∧ Fits N k (ops.drop i2) ∧ jmpB N (T ++ [N]) k (ops.drop i2) = R ∧ Chg No V wr)
        case atStart => exact ⟨0, 0, rfl, rfl, rfl, by omega, by omega, HF.out, HJ.out, Chg.refl _ _⟩
        case round =>
          clear HJ
          obtain ⟨i2, k, rfl, rfl, rfl, i1, i3, hfit, hj, cw⟩ := hrel
          by_cases hi : i2 < i
          · have t1 : decide ((i2 : Int) < (i : Int)) = true := decide_eq_true (by omega)
            have l1 : (i2 : Int) < (i : Int) := by omega
            obtain ⟨⟨pk, pn, pm, pl⟩, hx⟩ : ∃ x, ops[i2]? = some x := ⟨_, List.getElem?_eq_getElem (by rw [HM.out]; exact hi)⟩
            have hd : ops.drop i2 = ⟨pk, pn, pm, pl⟩ :: ops.drop (i2 + 1) := by
              obtain ⟨hi', e⟩ := List.getElem?_eq_some_iff.1 hx
              rw [List.drop_eq_getElem_cons hi', e]
            rw [hd] at hfit hj
            obtain ⟨q, hq, q1, q2, hbd, hfit2⟩ := hfit
            dsimp only at hq hbd
            subst hq
            rw [jmpB] at hj
            dsimp only at hj
            rw [Int.toNat_natCast] at hj
            obtain ⟨b, off, rfl, -, hb, y0, y1, y2, y3⟩ := (H1.out.1.keep (HV.out.2.trans cw) (fun _ _ f => f)).at hx
            dsimp only at y0 y1 y2 y3
            have wk : IntKind.i64.wrap ((k : Int) + (q : Int)) = ((k + q : Nat) : Int) := (IntWalk.i64_in _ (by omega)).trans (by omega)
            have HC := Lib.hid (And.intro cw hfit2)
            clear hx hd cw hfit2
            obtain ⟨kq, hkq⟩ : ∃ kq, k + q = kq := ⟨_, rfl⟩
            rw [hkq] at wk hj HC q2
            by_cases hp0 : pk = 0
            · subst hp0
              rw [if_pos rfl] at hj
              obtain rfl := hj
              go_wp2_with fail
              rw [Exit.noGoto_ret]
              go_ret
              exact ⟨rfl, by repeat (with_reducible first | exact (H1.out.2.trans HV.out.2).trans HC.out.1 | refine Chg.alloc ?_ _)⟩
            · rw [if_neg hp0] at hj
              have e0 : (pk == 0) = false := beq_eq_false_iff_ne.2 hp0
              by_cases hp : 22 ≤ pk ∧ pk ≤ 24
              · rw [if_pos hp] at hj
                rcases (show (kq : Int) + pn < 0 ∨ (N : Int) < (kq : Int) + pn ∨ (0 ≤ (kq : Int) + pn ∧ (kq : Int) + pn ≤ (N : Int)) by omega) with hz | hz | hz
                · rw [decide_eq_false (by omega), Bool.false_and] at hj
                  obtain rfl := hj
                  have wz : IntKind.i64.wrap ((kq : Int) + pn) = (kq : Int) + pn := IntWalk.i64_in _ (by omega)
                  have g1 : decide (0 ≤ (kq : Int) + pn) = false := decide_eq_false (by omega)
                  rcases (show pk = 22 ∨ pk = 23 ∨ pk = 24 by omega) with rfl | rfl | rfl
                  all_goals
                    go_wp2_with fail
                    rw [Exit.noGoto_ret]
                    go_ret
                    exact ⟨rfl, by repeat (with_reducible first | exact (H1.out.2.trans HV.out.2).trans HC.out.1 | refine Chg.alloc ?_ _)⟩
                · rw [decide_eq_false (by omega), Bool.false_and] at hj
                  obtain rfl := hj
                  have wz : IntKind.i64.wrap ((kq : Int) + pn) = (kq : Int) + pn := IntWalk.i64_in _ (by omega)
                  have g1 : decide (0 ≤ (kq : Int) + pn) = true := decide_eq_true (by omega)
                  have g2 : decide ((kq : Int) + pn ≤ (N : Int)) = false := decide_eq_false (by omega)
                  rcases (show pk = 22 ∨ pk = 23 ∨ pk = 24 by omega) with rfl | rfl | rfl
                  all_goals
                    go_wp2_with fail
                    rw [Exit.noGoto_ret]
                    go_ret
                    exact ⟨rfl, by repeat (with_reducible first | exact (H1.out.2.trans HV.out.2).trans HC.out.1 | refine Chg.alloc ?_ _)⟩
                · obtain ⟨tn, htn⟩ : ∃ tn : Nat, (kq : Int) + pn = (tn : Int) := ⟨((kq : Int) + pn).toNat, by omega⟩
                  rw [htn] at hj hz
                  rw [Int.toNat_natCast] at hj
                  have wz : IntKind.i64.wrap ((kq : Int) + pn) = (tn : Int) := (IntWalk.i64_in _ (by omega)).trans htn
                  have g1 : decide (0 ≤ (tn : Int)) = true := decide_eq_true (by omega)
                  have g2 : decide ((tn : Int) ≤ (N : Int)) = true := decide_eq_true (by omega)
                  have g3 : (tn : Int) < (N : Int) + 1 := by omega
                  have g4 : tn < N + 1 := by omega
                  obtain ⟨z0, -, z2⟩ := (HV.out.1.keep HC.out.1 (fun f => f)).cell g4
                  by_cases hin : tn ∈ T ++ [N]
                  · rw [decide_eq_true (show 0 ≤ (tn : Int) ∧ (tn : Int) ≤ (N : Int) ∧ tn ∈ T ++ [N] from ⟨by omega, by omega, hin⟩), Bool.true_and] at hj
                    rw [decide_eq_true hin] at z0
                    have HJ := Lib.hid hj
                    clear hj hin htn
                    rcases (show pk = 22 ∨ pk = 23 ∨ pk = 24 by omega) with rfl | rfl | rfl
                    all_goals
                      go_wp2_with fail
                      go_roundg (i - (i2 + 1))
                      case measure => omega
                      case rel => exact ⟨i2 + 1, kq, by go_num, rfl, rfl, by omega, by omega, HC.out.2, HJ.out, HC.out.1.alloc _⟩
                  · rw [decide_eq_false (fun h => hin h.2.2), Bool.false_and] at hj
                    rw [decide_eq_false hin] at z0
                    obtain rfl := hj
                    clear hin htn
                    rcases (show pk = 22 ∨ pk = 23 ∨ pk = 24 by omega) with rfl | rfl | rfl
                    all_goals
                      go_wp2_with fail
                      rw [Exit.noGoto_ret]
                      go_ret
                      exact ⟨rfl, by repeat (with_reducible first | exact (H1.out.2.trans HV.out.2).trans HC.out.1 | refine Chg.alloc ?_ _)⟩
              · rw [if_neg hp] at hj
                have e1 : (pk == 22) = false := beq_eq_false_iff_ne.2 (by omega)
                have e2 : (pk == 23) = false := beq_eq_false_iff_ne.2 (by omega)
                have e3 : (pk == 24) = false := beq_eq_false_iff_ne.2 (by omega)
                have HJ := Lib.hid hj
                clear hj hp hp0
                go_wp2_with fail
                go_roundg (i - (i2 + 1))
                case measure => omega
                case rel => exact ⟨i2 + 1, kq, by go_num, rfl, rfl, by omega, by omega, HC.out.2, HJ.out, HC.out.1.alloc _⟩
          · have t1 : decide ((i2 : Int) < (i : Int)) = false := decide_eq_false (by omega)
            obtain rfl : i2 = i := by omega
            rw [List.drop_eq_nil_of_le (by rw [HM.out]; exact Nat.le_refl _), jmpB] at hj
            obtain rfl := hj
            have HC := Lib.hid (And.intro cw trivial)
            clear cw
            go_wp2_with fail
            rw [Exit.noGoto_ret]
            go_ret
            exact ⟨rfl, by repeat (with_reducible first | exact (H1.out.2.trans HV.out.2).trans HC.out.1 | refine Chg.alloc ?_ _)⟩
  · have HOP2 := Lib.hid (show opsP l = ([], er) by rw [HOP.out, if_neg he])
    obtain rfl : R = false := by rw [← HRR.out, if_neg he]
    have e0 : (er == 0) = false := beq_eq_false_iff_ne.2 he
    clear HOP HRR HF he
    go_enter Tryd.func60, Tryd.ntmps60
    go_wp2_with fail
    go_step3
    go_wp2_with (first
      | (go_at_call 92
         refine (AllOps_any _ l S _ HX.out (by rw [HN.out]; exact hm) HT.out).mono ?_
         rw [HOP2.out]
         rintro e w1 ⟨v1, rfl, u1, rfl, ho, c1⟩
         obtain ⟨A1, d1, rfl⟩ : ∃ A c, u1 = .slice A 0 c := ho.form
         have H1 := Lib.hid c1
         clear ho c1)
      | (at_make
         refine wpList_make_full _ rfl _ _ _ rfl w1.heap.size 4 i0 (.bool false) 1 Tryd.underlying136 hi Hz.out.1 Hz.out.2.1 _ _ _ _ (N + 1) rfl rfl (by omega) (by omega) (by rw [Hz.out.2.2]; omega) (by unfold maxLen; omega) (Nat.le_refl _) ?_
         intro w2 hown hgrow
         have hB : BoolR w2 w1.heap.size (N + 1) [] := by
           refine ⟨_, own_row hown, fun j hj => ?_⟩
           rw [show (Value.bool false).cells = #[Value.bool false] from rfl, toList_madeCells_one, Nat.mul_one]
           simp [hj]
         obtain ⟨z0, z1, z2⟩ := hB.cell (k := N) (by omega)
         have H2 := Lib.hid ((Chg.refl No w1).grown hgrow (by simp))
         clear hB hown hgrow)
      | fail)
    refine wp_loop_rounds 1 ?_
    rw [rounds_succ]
    go_wp2_with fail
    go_step3
    go_wp2_with fail
    refine wp_loop_rounds 1 ?_
    rw [rounds_succ]
    go_wp2_with fail
    rw [Exit.noGoto_ret]
    go_ret
    exact ⟨rfl, (H1.out.trans H2.out).setCell (.inr (by have := H1.out.size; simp; omega)) _⟩

end Go.Proofs.YtncoanmgifgcbaaDoor
