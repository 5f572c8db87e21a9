/- Is one among some? slices.Index, Contains over numbers and over extents. Rows of bytes: extent.Space.Free. · Rows of bytes in runs of sectors: extent.Space.Free. -/
import Derived.Test.YtdpmmafkomchaaaGreatSecJL
namespace Go.Proofs.YtdpmmafkomchaaaGreat
set_option linter.unusedVariables false
set_option linter.unusedSimpArgs false
open Go.RowKit
open Go.ChangeMaps (setBlock)


/-- a place is told, or less than 0 -/
def Idxd (b : Bool) (w : World) (e : Ending) (w' : World) : Prop := ∃ k : Int, e = .returned (.int .i64 k) ∧ decide (0 ≤ k) = b ∧ Chg No w w'

set_option maxRecDepth 100000 in
set_option maxHeartbeats 400000 in
theorem IndexI_any (v : Value) (l : List Int) (S : Nat → Prop) (x : Int) (w : World) (h : IntS w S v l) : Calls Tryz.prog 74 #[v, .int .i64 x] w (Idxd (decide (x ∈ l)) w) := by
  obtain ⟨A, c, rfl, -, hc, -⟩ := h.form
  have hm : l.length ≤ 9223372036854775807 := by
    obtain ⟨A', c', e, h1, h2, -⟩ := h.form
    unfold maxLen at h2; simp at h2; omega
  have HX := Lib.hid h
  clear h hc
  generalize hn : l.length = n at *
  have HN := Lib.hid hn
  clear hn
  obtain ⟨R, hR⟩ : ∃ R, R = decide (x ∈ l) := ⟨_, rfl⟩
  rw [← hR]
  have HR := Lib.hid hR
  clear hR
  go_enter Tryz.func74, Tryz.ntmps74
  go_wp2_with fail
  go_loopg [8] n (fun j v8 wr => ∃ i : Nat, v8 = .int .i64 (i : Int) ∧ i ≤ n ∧ n - i ≤ j ∧ x ∉ l.take i ∧ wr = w)
  case atStart => exact ⟨0, rfl, by omega, by omega, by simp, rfl⟩
  case round =>
    obtain ⟨i, rfl, i1, i2, hno, hwr⟩ := hrel
    have hwr' := hwr.symm
    subst hwr'
    by_cases hi : i < n
    · obtain ⟨g, off, rfl, hg, hcc, x64, -⟩ := HX.out.at (i := i) (by rw [HN.out]; exact hi)
      have hil : i < l.length := by rw [HN.out]; exact hi
      have hsn : l.take (i + 1) = l.take i ++ [l[i]?.getD 0] := by rw [List.take_succ_eq_append_getElem hil, List.getElem?_eq_getElem hil, Option.getD_some]
      have hmem : l[i]?.getD 0 ∈ l := by rw [List.getElem?_eq_getElem hil, Option.getD_some]; exact List.getElem_mem hil
      generalize l[i]?.getD 0 = y at *
      have t1 : decide ((i : Int) < (n : Int)) = true := decide_eq_true (by omega)
      by_cases e : x = y
      · subst e
        have t2 : (x == x) = true := beq_self_eq_true x
        obtain rfl : R = true := by rw [HR.out]; exact decide_eq_true hmem
        clear hmem hsn hno
        go_wp2_with fail
        go_ret
        exact ⟨_, rfl, decide_eq_true (by omega), Chg.refl _ _⟩
      · have t2 : (x == y) = false := beq_eq_false_iff_ne.2 e
        have HS := Lib.hid (And.intro hsn hno)
        clear hmem hsn hno
        go_wp2_with fail
        go_roundg (n - (i + 1))
        case measure => omega
        case rel =>
          refine ⟨i + 1, by go_num, by omega, by omega, ?_, rfl⟩
          rw [HS.out.1, List.mem_append, List.mem_singleton]
          rintro (h | h)
          · exact HS.out.2 h
          · exact e h
    · obtain rfl : i = n := by omega
      have t1 : decide ((i : Int) < (i : Int)) = false := decide_eq_false (by omega)
      rw [List.take_of_length_le (by rw [HN.out]; omega)] at hno
      obtain rfl : R = false := by rw [HR.out]; exact decide_eq_false hno
      clear hno
      go_wp2_with fail
      go_ret
      exact ⟨_, rfl, by decide, Chg.refl _ _⟩

set_option maxRecDepth 100000 in
set_option maxHeartbeats 400000 in
theorem ContainsI_any (v : Value) (l : List Int) (S : Nat → Prop) (x : Int) (w : World) (h : IntS w S v l) : Calls Tryz.prog 38 #[v, .int .i64 x] w fun e w' => e = .returned (.bool (decide (x ∈ l))) ∧ Chg No w w' := by
  have HQ := Lib.hid (IndexI_any v l S x w h)
  obtain ⟨A, c, rfl, -⟩ := h.form
  generalize l.length = n at *
  generalize decide (x ∈ l) = R at *
  clear h
  go_enter Tryz.func38, Tryz.ntmps38
  go_wp2_with (first
    | (go_at_call 74; refine HQ.out.mono ?_; rintro e w1 ⟨k, rfl, hk, c1⟩)
    | fail)
  go_ret
  first
    | exact ⟨rfl, c1⟩
    | exact ⟨by rw [← hk]; rfl, c1⟩

/-- a slice of extents -/
def ExL (w : World) (S : Nat → Prop) (v : Value) (L : List Ex) : Prop := Slc w S 3 v L.length (L.flatMap fun x => [Value.int .i64 x.1, .int .i64 x.2.1, .int .i64 x.2.2])
theorem ex_cells : ∀ (L : List Ex) (i : Nat) (x : Ex), L[i]? = some x → (L.flatMap fun x => [Value.int .i64 x.1, .int .i64 x.2.1, .int .i64 x.2.2])[i * 3]? = some (.int .i64 x.1) ∧ (L.flatMap fun x => [Value.int .i64 x.1, .int .i64 x.2.1, .int .i64 x.2.2])[i * 3 + 1]? = some (.int .i64 x.2.1) ∧ (L.flatMap fun x => [Value.int .i64 x.1, .int .i64 x.2.1, .int .i64 x.2.2])[i * 3 + 2]? = some (.int .i64 x.2.2)
  | [], i, x, h => by simp at h
  | y :: L, 0, x, h => by
    simp at h
    subst h
    simp [List.flatMap_cons]
  | y :: L, i + 1, x, h => by
    have ih := ex_cells L i x (by simpa using h)
    rw [List.flatMap_cons]
    rw [show (i + 1) * 3 = [Value.int .i64 y.1, .int .i64 y.2.1, .int .i64 y.2.2].length + i * 3 by simp; omega]
    rw [List.getElem?_append_right (by omega), List.getElem?_append_right (by omega), List.getElem?_append_right (by omega)]
    rw [show [Value.int .i64 y.1, .int .i64 y.2.1, .int .i64 y.2.2].length + i * 3 - [Value.int .i64 y.1, .int .i64 y.2.1, .int .i64 y.2.2].length = i * 3 by omega, show [Value.int .i64 y.1, .int .i64 y.2.1, .int .i64 y.2.2].length + i * 3 + 1 - [Value.int .i64 y.1, .int .i64 y.2.1, .int .i64 y.2.2].length = i * 3 + 1 by omega, show [Value.int .i64 y.1, .int .i64 y.2.1, .int .i64 y.2.2].length + i * 3 + 2 - [Value.int .i64 y.1, .int .i64 y.2.1, .int .i64 y.2.2].length = i * 3 + 2 by omega]
    exact ih
theorem ex_len : ∀ L : List Ex, (L.flatMap fun x => [Value.int .i64 x.1, .int .i64 x.2.1, .int .i64 x.2.2]).length = L.length * 3
  | [] => rfl
  | x :: L => by
    rw [List.flatMap_cons, List.length_append, ex_len L, List.length_cons]
    simp
    omega
theorem ExL.at {w : World} {S : Nat → Prop} {A : Option Addr} {n c : Nat} {L : List Ex} (h : ExL w S (.slice A n c) L) {i : Nat} {x : Ex} (hx : L[i]? = some x) : ∃ b off, A = some ⟨b, off, none⟩ ∧ n = L.length ∧ S b ∧ b < w.heap.size ∧ w.cell? ⟨b, off + i * 3, none⟩ = some (.int .i64 x.1) ∧ w.cell? ⟨b, off + i * 3 + 1, none⟩ = some (.int .i64 x.2.1) ∧ w.cell? ⟨b, off + i * 3 + 2, none⟩ = some (.int .i64 x.2.2) := by
  obtain ⟨A', c', e, -, -, -, -, h5⟩ := h
  obtain ⟨rfl, rfl, rfl⟩ := Value.slice.inj e
  have hi : i < L.length := by
    rcases Nat.lt_or_ge i L.length with h | h
    · exact h
    · rw [List.getElem?_eq_none h] at hx; cases hx
  obtain ⟨b, off, e1, e2, e3, e4⟩ := h5 (by omega)
  obtain ⟨c0, c1, c2⟩ := ex_cells L i x hx
  exact ⟨b, off, e1, rfl, e2, e3, e4 _ _ c0, e4 _ _ c1, e4 _ _ c2⟩
theorem ExL.keep {w w' : World} {S F : Nat → Prop} {v : Value} {L : List Ex} (h : ExL w S v L) (c : Chg F w w') (hS : ∀ b, S b → ¬ F b) : ExL w' S v L := Slc.keep h c hS
theorem ExL.form {w : World} {S : Nat → Prop} {v : Value} {L : List Ex} (h : ExL w S v L) : ∃ A c, v = .slice A L.length c ∧ L.length ≤ c ∧ c ≤ maxLen := by
  obtain ⟨A, c, h1, -, h3, h4, -⟩ := h
  exact ⟨A, c, h1, h3, h4⟩
/-- the first i of them -/
theorem ExL.take {w : World} {S : Nat → Prop} {A : Option Addr} {n c : Nat} {L : List Ex} (h : ExL w S (.slice A n c) L) (k : Nat) (hk : k ≤ L.length) : ExL w S (.slice A k c) (L.take k) := by
  obtain ⟨A', c', e, e1, e2, e3, e4, e5⟩ := h
  obtain ⟨rfl, rfl, rfl⟩ := Value.slice.inj e
  have hl : (L.take k).length = k := by rw [List.length_take]; omega
  refine ⟨A, c, by rw [hl], ?_, by rw [hl]; omega, e3, e4, fun h0 => ?_⟩
  · rw [ex_len]
  · obtain ⟨b, off, f1, f2, f3, f4⟩ := e5 (by omega)
    refine ⟨b, off, f1, f2, f3, fun i u hu => f4 i u ?_⟩
    have e9 : L.flatMap (fun x => [Value.int .i64 x.1, .int .i64 x.2.1, .int .i64 x.2.2]) = (L.take k).flatMap (fun x => [Value.int .i64 x.1, .int .i64 x.2.1, .int .i64 x.2.2]) ++ (L.drop k).flatMap (fun x => [Value.int .i64 x.1, .int .i64 x.2.1, .int .i64 x.2.2]) := by
      rw [← List.flatMap_append, List.take_append_drop]
    rw [e9]
    have hlt := (List.getElem?_eq_some_iff.1 hu).1
    rw [List.getElem?_append_left hlt]
    exact hu
theorem eqE (a b : Ex) (w : World) : (binOp .eql 47 (.agg #[.int .i64 a.1, .int .i64 a.2.1, .int .i64 a.2.2]) (.agg #[.int .i64 b.1, .int .i64 b.2.1, .int .i64 b.2.2])).run Tryz.prog w = .ok (.bool (decide (a = b))) w := by
  have h := eq3 a b w
  unfold kv3 at h
  simp only [binOp]
  simp [h]

set_option maxRecDepth 100000 in
set_option maxHeartbeats 400000 in
theorem IndexE_any (v : Value) (L : List Ex) (S : Nat → Prop) (x : Ex) (w : World) (h : ExL w S v L) : Calls Tryz.prog 94 #[v, .agg #[.int .i64 x.1, .int .i64 x.2.1, .int .i64 x.2.2]] w (Idxd (decide (x ∈ L)) w) := by
  obtain ⟨A, c, rfl, hlc, hc⟩ := h.form
  have hm : L.length ≤ 9223372036854775807 := by unfold maxLen at hc; simp at hc; omega
  obtain ⟨W1, hW1⟩ : ∃ W, w.alloc (.cells #[.int .i64 x.1, .int .i64 x.2.1, .int .i64 x.2.2] 47) = W := ⟨_, rfl⟩
  have c1 : Chg No w W1 := by rw [← hW1]; exact (Chg.refl _ _).alloc _
  have rx : Row W1 w.heap.size 47 #[.int .i64 x.1, .int .i64 x.2.1, .int .i64 x.2.2] := by rw [← hW1]; exact Row.new w _ _
  have HW := Lib.hid hW1
  have HX := Lib.hid (And.intro (h.keep c1 (fun _ _ f => f)) (And.intro c1 rx))
  clear h hc hlc hW1 c1 rx
  generalize hn : L.length = n at *
  have HN := Lib.hid hn
  clear hn
  obtain ⟨R, hR⟩ : ∃ R, R = decide (x ∈ L) := ⟨_, rfl⟩
  rw [← hR]
  have HR := Lib.hid hR
  clear hR
  go_enter Tryz.func94, Tryz.ntmps94
  go_wp2_with (first | (rw [HW.out]) | fail)
  go_loopg [8] n (fun j v8 wr => ∃ i : Nat, v8 = .int .i64 (i : Int) ∧ i ≤ n ∧ n - i ≤ j ∧ x ∉ L.take i ∧ Chg No W1 wr)
  case atStart => exact ⟨0, rfl, by omega, by omega, by simp, Chg.refl _ _⟩
  case round =>
    obtain ⟨i, rfl, i1, i2, hno, cw⟩ := hrel
    by_cases hi : i < n
    · have hil : i < L.length := by rw [HN.out]; exact hi
      obtain ⟨y, hy⟩ : ∃ y, L[i]? = some y := ⟨_, List.getElem?_eq_getElem hil⟩
      obtain ⟨g, off, rfl, -⟩ := HX.out.1.at hy
      have hat : ∀ v, Chg No wr v → v.cell? ⟨g, off + i * 3, none⟩ = some (.int .i64 y.1) ∧ v.cell? ⟨g, off + i * 3 + 1, none⟩ = some (.int .i64 y.2.1) ∧ v.cell? ⟨g, off + i * 3 + 2, none⟩ = some (.int .i64 y.2.2) := fun v hv => by
        obtain ⟨g', off', e, -, -, -, h3⟩ := (HX.out.1.keep (cw.trans hv) (fun _ _ f => f)).at hy
        obtain ⟨rfl, rfl⟩ : g = g' ∧ off = off' := by simpa using Option.some.inj e
        exact h3
      have d0 := fun v hv => (hat v hv).1
      have d1 := fun v hv => (hat v hv).2.1
      have d2 := fun v hv => (hat v hv).2.2
      have hxr := fun v (hv : Chg No wr v) => IExt.cells (HX.out.2.2.keep (cw.trans hv) (fun f => f))
      have g0 := fun v hv => (hxr v hv).1
      have g1 := fun v hv => (hxr v hv).2.1
      have g2 := fun v hv => (hxr v hv).2.2.1
      have hsn : L.take (i + 1) = L.take i ++ [y] := by rw [List.take_succ_eq_append_getElem hil, (List.getElem?_eq_some_iff.1 hy).2]
      have hmem : y ∈ L := List.mem_of_getElem? hy
      have t1 : decide ((i : Int) < (n : Int)) = true := decide_eq_true (by omega)
      have hq := fun w => eqE x y w
      have HS := Lib.hid (And.intro hsn (And.intro hno (And.intro hmem cw)))
      clear hat hxr hmem hsn hno hy cw
      by_cases e : x = y
      · rw [decide_eq_true e] at hq
        obtain rfl : R = true := by rw [HR.out]; exact decide_eq_true (by rw [e]; exact HS.out.2.2.1)
        have HE := Lib.hid e
        clear e
        go_wp2_with fail
        refine q_region (C := (Chg No wr)) (by kernel_rfl) (by kernel_rfl) ?_ ?_
        · exact (Chg.refl _ _).drew
        repeat
          refine q_step (fun K hK => ?_)
          go_simp
          first
            | ((with_reducible refine hK _ ?_); clear hK K)
            | (refine (if_neg (by simp [undef])).mpr ?_; (with_reducible refine hK _ ?_); clear hK K)
            | (apply Exists.intro
               with_reducible refine ⟨fun v hv => ?_, hK _ ?_⟩
               · first
                   | with_reducible exact rfl
                   | with_reducible exact ⟨rfl, rfl⟩
                   | (go_simp
                      first
                        | done
                        | with_reducible exact rfl
                        | with_reducible exact ⟨rfl, rfl⟩
                        | fail)
               clear hK K)
        refine q_nil ?_
        intro V hV
        go_wp2_with fail
        go_ret
        exact ⟨_, rfl, decide_eq_true (by omega), HX.out.2.1.trans (HS.out.2.2.2.trans hV)⟩
      · rw [decide_eq_false e] at hq
        go_wp2_with fail
        refine q_region (C := (Chg No wr)) (by kernel_rfl) (by kernel_rfl) ?_ ?_
        · exact (Chg.refl _ _).drew
        repeat
          refine q_step (fun K hK => ?_)
          go_simp
          first
            | ((with_reducible refine hK _ ?_); clear hK K)
            | (refine (if_neg (by simp [undef])).mpr ?_; (with_reducible refine hK _ ?_); clear hK K)
            | (apply Exists.intro
               with_reducible refine ⟨fun v hv => ?_, hK _ ?_⟩
               · first
                   | with_reducible exact rfl
                   | with_reducible exact ⟨rfl, rfl⟩
                   | (go_simp
                      first
                        | done
                        | with_reducible exact rfl
                        | with_reducible exact ⟨rfl, rfl⟩
                        | fail)
               clear hK K)
        refine q_nil ?_
        intro V hV
        go_wp2_with fail
        go_roundg (n - (i + 1))
        case measure => omega
        case rel =>
          refine ⟨i + 1, by go_num, by omega, by omega, ?_, HS.out.2.2.2.trans hV⟩
          rw [HS.out.1, List.mem_append, List.mem_singleton]
          rintro (h | h)
          · exact HS.out.2.1 h
          · exact e h
    · obtain rfl : i = n := by omega
      have t1 : decide ((i : Int) < (i : Int)) = false := decide_eq_false (by omega)
      rw [List.take_of_length_le (by rw [HN.out]; omega)] at hno
      obtain rfl : R = false := by rw [HR.out]; exact decide_eq_false hno
      clear hno
      go_wp2_with fail
      go_ret
      exact ⟨_, rfl, by decide, HX.out.2.1.trans cw⟩

set_option maxRecDepth 100000 in
set_option maxHeartbeats 400000 in
theorem ContainsE_any (v : Value) (L : List Ex) (S : Nat → Prop) (x : Ex) (w : World) (h : ExL w S v L) : Calls Tryz.prog 75 #[v, .agg #[.int .i64 x.1, .int .i64 x.2.1, .int .i64 x.2.2]] w fun e w' => e = .returned (.bool (decide (x ∈ L))) ∧ Chg No w w' := by
  obtain ⟨A, c, rfl, -⟩ := h.form
  obtain ⟨W1, hW1⟩ : ∃ W, w.alloc (.cells #[.int .i64 x.1, .int .i64 x.2.1, .int .i64 x.2.2] 47) = W := ⟨_, rfl⟩
  have c1 : Chg No w W1 := by rw [← hW1]; exact (Chg.refl _ _).alloc _
  have rx : Row W1 w.heap.size 47 #[.int .i64 x.1, .int .i64 x.2.1, .int .i64 x.2.2] := by rw [← hW1]; exact Row.new w _ _
  have HQ := Lib.hid (IndexE_any _ L S x W1 (h.keep c1 (fun _ _ f => f)))
  obtain ⟨y0, y1, y2, -⟩ := IExt.cells rx
  have HW := Lib.hid hW1
  have HC := Lib.hid c1
  generalize L.length = n at *
  generalize decide (x ∈ L) = R at *
  clear h hW1 c1 rx
  go_enter Tryz.func75, Tryz.ntmps75
  go_wp2_with (first
    | (rw [HW.out])
    | (go_at_call 94; refine HQ.out.mono ?_; rintro e w2 ⟨k, rfl, hk, c2⟩)
    | fail)
  go_ret
  first
    | exact ⟨rfl, HC.out.trans c2⟩
    | exact ⟨by rw [← hk]; rfl, HC.out.trans c2⟩


set_option maxRecDepth 100000 in
set_option maxHeartbeats 1000000 in
theorem extFree_ok {w : World} {B : Blk} {N : Nat} {X Y : List Xt} (H : ExtS w B N (Y ++ X)) (v : Value) (S : Nat → Prop) (hv : ExL w S v (Y.map Xt.ex)) (hS : ∀ k, S k → ¬ B.has k) :
    Calls Tryz.prog 39 #[.pointer (some ⟨B.r, 0, none⟩), v] w fun e w' => e = .returned (.int .i64 0) ∧ ExtS w' B N X ∧ Chg B.has w w' := by
  obtain ⟨A, c, rfl, hcap, hcm⟩ := hv.form
  have hm : (Y.map Xt.ex).length ≤ 9223372036854775807 := by unfold maxLen at hcm; simp at hcm; omega
  have HLT := Lib.hid (fun k (hk : B.has k) => H.lt hk)
  have HS := Lib.hid hS
  have HX := Lib.hid (And.intro H hv)
  generalize hn : (Y.map Xt.ex).length = n at *
  have HN := Lib.hid hn
  have hYn : Y.length = n := by rw [← hn, List.length_map]
  have HYN := Lib.hid hYn
  have hcm2 : c ≤ 9223372036854775807 := by unfold maxLen at hcm; simp at hcm; omega
  clear H hv hS hn hYn hcm
  go_enter Tryz.func39, Tryz.ntmps39
  go_wp2_with fail
  go_loopg [13] n (fun j v13 wr => ∃ i : Nat, v13 = .int .i64 (i : Int) ∧ i ≤ n ∧ n - i ≤ j ∧ Chg No w wr)
  case atStart => exact ⟨0, rfl, by omega, by omega, Chg.refl _ _⟩
  case round =>
    obtain ⟨i, rfl, i1, i2, cw⟩ := hrel
    by_cases hi : i < n
    · have hil : i < Y.length := by rw [HYN.out]; exact hi
      obtain ⟨x, hx⟩ : ∃ x, Y[i]? = some x := ⟨_, List.getElem?_eq_getElem hil⟩
      have hxe : (Y.map Xt.ex)[i]? = some x.ex := by rw [List.getElem?_map, hx]; rfl
      obtain ⟨g, off, rfl, -, -, -, d0, d1, d2⟩ := (HX.out.2.keep cw (fun _ _ f => f)).at hxe
      have t1 : decide ((i : Int) < (n : Int)) = true := decide_eq_true (by omega)
      obtain ⟨W2, hW2⟩ : ∃ W, wr.alloc (.cells #[.int .i64 x.ex.1, .int .i64 x.ex.2.1, .int .i64 x.ex.2.2] 47) = W := ⟨_, rfl⟩
      have c2 : Chg No wr W2 := by rw [← hW2]; exact (Chg.refl _ _).alloc _
      have rx : Row W2 wr.heap.size 47 #[.int .i64 x.ex.1, .int .i64 x.ex.2.1, .int .i64 x.ex.2.2] := by rw [← hW2]; exact Row.new wr _ _
      have HW := Lib.hid hW2
      obtain ⟨D, ws, E, hE, hV⟩ := HX.out.1
      have hxm : x ∈ Y ++ X := List.mem_append_left _ (List.mem_of_getElem? hx)
      have hlive := hV.live x hxm
      have hnot : x.ex ∉ (Y.map Xt.ex).take i := by
        intro h
        rw [← List.map_take] at h
        obtain ⟨y, hy, he⟩ := List.mem_map.1 h
        have hp := (List.pairwise_append.1 hV.apart).1
        have hsp : Y = Y.take i ++ (x :: Y.drop (i + 1)) := by
          rw [← (List.getElem?_eq_some_iff.1 hx).2, ← List.drop_eq_getElem_cons hil, List.take_append_drop]
        rw [hsp, List.pairwise_append] at hp
        exact (hp.2.2 y hy x List.mem_cons_self).ne he
      have fr : ∀ v, Chg No W2 v → v.cell? ⟨B.r, 2, none⟩ = some (.map (some B.v)) := fun v hv => (hE.row.keep ((cw.trans c2).trans hv) (fun f => f)).cell 2
      have fl : ∀ v, Chg No W2 v → (Instr.lookup 105 (.map (some B.v)) (.agg #[.int .i64 x.ex.1, .int .i64 x.ex.2.1, .int .i64 x.ex.2.2]) false).run Tryz.prog v = .ok (.bool true) v := fun v hv => by
        have := (hE.live.keep ((cw.trans c2).trans hv) (fun f => f)).lookup (P := Tryz.prog) elem_live key3 zero_bool x.ex
        rw [hlive] at this
        exact this
      have g0 : ∀ v, Chg No W2 v → v.cell? ⟨wr.heap.size, 0, none⟩ = some (.int .i64 x.ex.1) := fun v hv => (rx.keep hv (fun f => f)).cell 0
      have g1 : ∀ v, Chg No W2 v → v.cell? ⟨wr.heap.size, 1, none⟩ = some (.int .i64 x.ex.2.1) := fun v hv => (rx.keep hv (fun f => f)).cell 1
      have g2 : ∀ v, Chg No W2 v → v.cell? ⟨wr.heap.size, 2, none⟩ = some (.int .i64 x.ex.2.2) := fun v hv => (rx.keep hv (fun f => f)).cell 2
      have HC := Lib.hid (fun v (hv : Chg No W2 v) => by
        have h := ContainsE_any _ _ S x.ex v (((HX.out.2.keep (cw.trans c2) (fun _ _ f => f)).keep hv (fun _ _ f => f)).take i (by rw [HN.out]; exact i1))
        rw [decide_eq_false hnot] at h
        exact h)
      have t2 : 0 ≤ (i : Int) ∧ (i : Int) ≤ (c : Int) := by omega
      have t3 : (i : Int) ≤ (c : Int) := by omega
      have HCW := Lib.hid (cw.trans c2)
      clear cw c2 rx hW2 hE hV hlive hnot hxm hx hxe
      go_wp2_with (first | (rw [HW.out]) | fail)
      refine q_region (C := (Chg No W2)) (by kernel_rfl) (by kernel_rfl) ?_ ?_
      · exact (Chg.refl _ _).drew
      repeat
        refine q_step (fun K hK => ?_)
        go_simp
        first
          | ((with_reducible refine hK _ ?_); clear hK K)
          | (refine (if_neg (by simp [undef])).mpr ?_; (with_reducible refine hK _ ?_); clear hK K)
          | (apply Exists.intro
             with_reducible refine ⟨fun v hv => ?_, hK _ ?_⟩
             · first
                 | with_reducible exact rfl
                 | with_reducible exact ⟨rfl, rfl⟩
                 | (go_simp
                    first
                      | done
                      | with_reducible exact rfl
                      | with_reducible exact ⟨rfl, rfl⟩
                      | (go_at_call 75; refine (HC.out _ hv).mono ?_; rintro e w' ⟨rfl, c5⟩; exact ⟨rfl, hv.trans c5⟩))
             clear hK K)
      refine q_nil ?_
      intro V hV
      go_wp2_with fail
      go_roundg (n - (i + 1))
      case measure => omega
      case rel => exact ⟨i + 1, by go_num, by omega, by omega, HCW.out.trans hV⟩
    · obtain rfl : i = n := by omega
      have t1 : decide ((i : Int) < (i : Int)) = false := decide_eq_false (by omega)
      have C1 := Lib.hid cw
      obtain ⟨wa, hwa⟩ : ∃ x, x = wr := ⟨_, rfl⟩
      subst hwa
      clear cw
      go_wp2_with fail
      go_loopg [35] i (fun j v35 wr => ∃ k : Nat, v35 = .int .i64 (k : Int) ∧ k ≤ i ∧ i - k ≤ j ∧ ExtS wr B N (Y.drop k ++ X) ∧ Chg B.has w wr)
      case atStart => exact ⟨0, rfl, by omega, by omega, HX.out.1.keep C1.out (fun _ _ f => f), C1.out.no⟩
      case round =>
        obtain ⟨k, rfl, k1, k2, hst, cw⟩ := hrel
        by_cases hk : k < i
        · have hkl : k < Y.length := by rw [HYN.out]; exact hk
          obtain ⟨x, hx⟩ : ∃ x, Y[k]? = some x := ⟨_, List.getElem?_eq_getElem hkl⟩
          have hxe : (Y.map Xt.ex)[k]? = some x.ex := by rw [List.getElem?_map, hx]; rfl
          obtain ⟨g, off, rfl, -, hSg, -, d0, d1, d2⟩ := (HX.out.2.keep cw HS.out).at hxe
          have hdr : Y.drop k = x :: Y.drop (k + 1) := by rw [List.drop_eq_getElem_cons hkl, (List.getElem?_eq_some_iff.1 hx).2]
          rw [hdr] at hst
          obtain ⟨D, ws, E, hE, hV⟩ := hst
          have t1 : decide ((k : Int) < (i : Int)) = true := decide_eq_true (by omega)
          obtain ⟨W2, hW2⟩ : ∃ W, wr.alloc (.cells #[.int .i64 x.ex.1, .int .i64 x.ex.2.1, .int .i64 x.ex.2.2] 47) = W := ⟨_, rfl⟩
          have c2 : Chg No wr W2 := by rw [← hW2]; exact (Chg.refl _ _).alloc _
          have rx : Row W2 wr.heap.size 47 #[.int .i64 x.ex.1, .int .i64 x.ex.2.1, .int .i64 x.ex.2.2] := by rw [← hW2]; exact Row.new wr _ _
          have HW := Lib.hid hW2
          have fr : ∀ v, Chg No W2 v → v.cell? ⟨B.r, 1, none⟩ = some (.pointer (some ⟨B.b, 0, none⟩)) := fun v hv => (hE.row.keep (c2.trans hv) (fun f => f)).cell 1
          have g0 : ∀ v, Chg No W2 v → v.cell? ⟨wr.heap.size, 0, none⟩ = some (.int .i64 x.ex.1) := fun v hv => (rx.keep hv (fun f => f)).cell 0
          have g1 : ∀ v, Chg No W2 v → v.cell? ⟨wr.heap.size, 1, none⟩ = some (.int .i64 x.ex.2.1) := fun v hv => (rx.keep hv (fun f => f)).cell 1
          have hfit : x.f + x.n ≤ N := hV.fits x List.mem_cons_self
          have HE := Lib.hid (And.intro hE (And.intro hV (And.intro cw (And.intro c2 rx))))
          have hlt2 := fun k (hk : B.has k) => hE.lt hk
          have HL2 := Lib.hid hlt2
          have HNE := Lib.hid hE.ne
          have hn1 : 1 ≤ x.n := secN_pos _
          have hbx : B.h < wr.heap.size := hE.lt (.inr (.inr (.inr (.inr (.inl rfl)))))
          clear cw c2 rx hW2 hE hV hx hxe hdr hlt2
          go_wp2_with (first | (rw [HW.out]) | fail)
          refine rem_start (by kernel_rfl) (by kernel_rfl) ?_
          refine rem_quiet 8 (C := (Chg No W2)) (by kernel_rfl) (by simp only [List.toList_toArray, List.drop_succ_cons, List.drop_zero, List.take_succ_cons, List.take_zero, Nat.reduceSub, Nat.reduceAdd]; rfl) ?_ ?_
          · exact (Chg.refl _ _).drew
          repeat
            refine q_step (fun K hK => ?_)
            go_simp
            first
              | ((with_reducible refine hK _ ?_); clear hK K)
              | (refine (if_neg (by simp [undef])).mpr ?_; (with_reducible refine hK _ ?_); clear hK K)
              | (apply Exists.intro
                 with_reducible refine ⟨fun v hv => ?_, hK _ ?_⟩
                 · first
                     | with_reducible exact rfl
                     | with_reducible exact ⟨rfl, rfl⟩
                     | (go_simp
                        first
                          | done
                          | with_reducible exact rfl
                          | with_reducible exact ⟨rfl, rfl⟩
                          | fail)
                 clear hK K)
          refine q_nil ?_
          intro V hV
          have hq := FreeB_ok (HE.out.1.bits.keep (HE.out.2.2.2.1.trans hV) (fun f => f) (fun f => f)) x.f x.n hn1 hfit (fun j hj => HE.out.2.1.taken List.mem_cons_self (by omega) (by omega))
          have HQ := Lib.hid hq
          clear hq
          refine rem_one (by kernel_rfl) (by kernel_rfl) rfl (by kernel_rfl) (fun K hK => ?_)
          go_wp2_with (first
            | (go_at_call 70
               refine HQ.out.mono ?_
               rintro e w3 ⟨rfl, hb3, c3⟩
               have hne := HNE.out
               have e3 : ExtI w3 B N D (flips ws x.f x.n) E := ⟨(HE.out.1.row.keep (HE.out.2.2.2.1.trans hV) (fun f => f)).keep c3 hne.1.2.2.2.1, (HE.out.1.disk.keep (HE.out.2.2.2.1.trans hV) (fun f => f) (fun f => f)).keep c3 hne.2.1.2.2.1 hne.2.2.1.2.1, hb3, (HE.out.1.live.keep (HE.out.2.2.2.1.trans hV) (fun f => f)).keep c3 hne.2.2.2.2.symm⟩
               have hwp := wipe_ok e3 x.f x.n (x.b.length : Int) hfit
               have q3 := IExt.cells ((HE.out.2.2.2.2.keep hV (fun f => f)).keep c3 (by omega))
               have H3 := Lib.hid (show Chg B.has w w3 from (HE.out.2.2.1.trans (HE.out.2.2.2.1.trans hV).no).trans (c3.mono fun k _ h => .inr (.inr (.inr (.inr (.inl h))))))
               have HWP := Lib.hid hwp
               clear hb3 c3 hne e3 hwp)
            | fail)
          refine rem_end (by kernel_rfl) ?_
          go_wp2_with (first
            | (go_at_call 71
               refine HWP.out.mono ?_
               rintro e w4 ⟨rfl, h4, c4⟩
               have H4 := Lib.hid (And.intro h4 (H3.out.trans (c4.mono fun k _ h => h.elim (fun e => .inr (.inr (.inl e))) (fun e => .inr (.inr (.inr (.inr (.inr e))))))))
               clear h4 c4)
            | fail)
          go_roundg (i - (k + 1))
          case measure => omega
          case rel =>
            refine ⟨k + 1, by go_num, by omega, by omega, ⟨_, _, _, H4.out.1, ?_⟩, H4.out.2⟩
            exact HE.out.2.1.cut HE.out.1.live.nodup (fun j => flips_eq HE.out.1.bits hfit j) (fun j hj => wipeD_out HE.out.1.disk.len x.n hfit j hj)
        · obtain rfl : k = i := by omega
          have t1 : decide ((k : Int) < (k : Int)) = false := decide_eq_false (by omega)
          rw [List.drop_of_length_le (by rw [HYN.out]; omega), List.nil_append] at hst
          have HR := Lib.hid (And.intro hst cw)
          clear hst cw
          go_wp2_with fail
          go_ret
          exact ⟨rfl, HR.out⟩

end Go.Proofs.YtdpmmafkomchaaaGreat
