/- Objects on a disk, by the document: rows of an extent and its bytes; what websterref04 does with them. · Objects on a disk, by the document: websterref04's Put and Set. · Objects on a disk, by the document: websterref04's Set. -/
import Derived.Test.YtdpmmafkomchaaaGreatSecS1S
import Derived.Test.YtdpmmafkomchaaaGreatSecMN
import Derived.Test.YtdpmmafkomchaaaGreatCopy05
import Derived.Test.YtdpmmafkomchaaaGreatApp2
import Derived.BigQuiet
import Derived.Deep.RegionHeld3
namespace Go.Proofs.YtdpmmafkomchaaaGreat
set_option linter.unusedVariables false
set_option linter.unusedSimpArgs false
open Go.RowKit

/-- an extent, and the bytes' slice -/
abbrev T4 := Xt × Value
def cells4 (t : T4) : Array Value := #[.int .i64 t.1.f, .int .i64 t.1.n, .int .i64 t.1.b.length, t.2]
def cellsR (T : List T4) : List Value := T.flatMap fun t => (cells4 t).toList
def Row4 (w : World) (S : Nat → Prop) (v : Value) (T : List T4) : Prop := Slc w S 4 v T.length (cellsR T) ∧ ∀ t ∈ T, ByteS w S t.2 t.1.b
theorem Row4.keep {w w' : World} {S F : Nat → Prop} {v : Value} {T : List T4} (h : Row4 w S v T) (c : Chg F w w') (hS : ∀ b, S b → ¬ F b) : Row4 w' S v T := ⟨h.1.keep c hS, fun t ht => (h.2 t ht).keep c hS⟩
theorem cellsR_at : ∀ (T : List T4) (i : Nat) (t : T4), T[i]? = some t → ∀ j, j < 4 → (cellsR T)[4 * i + j]? = (cells4 t)[j]?
  | [], i, t, h, _, _ => by simp at h
  | x :: T, 0, t, h, j, hj => by
    simp at h
    subst h
    have hx : (cells4 x).toList.length = 4 := by simp [cells4]
    rw [cellsR, List.flatMap_cons, List.getElem?_append_left (by omega)]
    simp
  | x :: T, i + 1, t, h, j, hj => by
    have hx : (cells4 x).toList.length = 4 := by simp [cells4]
    have ih := cellsR_at T i t (by simpa using h) j hj
    rw [cellsR, List.flatMap_cons, List.getElem?_append_right (by omega), hx, show 4 * (i + 1) + j - 4 = 4 * i + j by omega]
    exact ih
theorem Row4.at {w : World} {S : Nat → Prop} {A : Option Addr} {n c : Nat} {T : List T4} (h : Row4 w S (.slice A n c) T) {i : Nat} {t : T4} (hi : T[i]? = some t) : ∃ b off, A = some ⟨b, off, none⟩ ∧ n = T.length ∧ b < w.heap.size ∧ ByteS w S t.2 t.1.b ∧
    w.cell? ⟨b, off + i * 4, none⟩ = some (.int .i64 t.1.f) ∧ w.cell? ⟨b, off + i * 4 + 1, none⟩ = some (.int .i64 t.1.n) ∧ w.cell? ⟨b, off + i * 4 + 2, none⟩ = some (.int .i64 t.1.b.length) ∧ w.cell? ⟨b, off + i * 4 + 3, none⟩ = some t.2 := by
  obtain ⟨⟨A', c', e, hl, h1, h2, h0, h3⟩, hok⟩ := h
  obtain ⟨rfl, rfl, rfl⟩ := Value.slice.inj e
  have hil : i < T.length := (List.getElem?_eq_some_iff.1 hi).1
  obtain ⟨b, off, rfl, hS, hb, hc⟩ := h3 (by omega)
  have hcell := fun j hj u hu => hc (4 * i + j) u ((cellsR_at T i _ hi j hj).trans hu)
  refine ⟨b, off, rfl, rfl, hb, hok t (List.mem_of_getElem? hi), ?_, ?_, ?_, ?_⟩
  · rw [Nat.mul_comm]; exact hcell 0 (by omega) _ rfl
  · rw [Nat.mul_comm, Nat.add_assoc]; exact hcell 1 (by omega) _ rfl
  · rw [Nat.mul_comm, Nat.add_assoc]; exact hcell 2 (by omega) _ rfl
  · rw [Nat.mul_comm, Nat.add_assoc]; exact hcell 3 (by omega) _ rfl

theorem cellsR_len : ∀ T : List T4, (cellsR T).length = T.length * 4
  | [] => rfl
  | t :: T => by
    have ih := cellsR_len T
    unfold cellsR at ih ⊢
    rw [List.flatMap_cons, List.length_append, ih, List.length_cons]
    simp [cells4]
    omega
theorem cellsR_app (T T' : List T4) : cellsR (T ++ T') = cellsR T ++ cellsR T' := by simp [cellsR]
theorem Row4.form {w : World} {S : Nat → Prop} {v : Value} {T : List T4} (h : Row4 w S v T) : ∃ A c, v = .slice A T.length c ∧ T.length ≤ c ∧ c ≤ maxLen ∧ (A = none → c = 0) := by
  obtain ⟨A, c, rfl, -, h2, h3, h4, -⟩ := h.1
  exact ⟨A, c, rfl, h2, h3, h4⟩
theorem Row4.more {w : World} {S S' : Nat → Prop} {v : Value} {T : List T4} (h : Row4 w S v T) (hS : ∀ b, b < w.heap.size → S b → S' b) : Row4 w S' v T := ⟨h.1.more hS, fun t ht => (h.2 t ht).more hS⟩
/-- one row, read: in every world that keeps it -/
theorem Row4.elem {w : World} {S : Nat → Prop} {A : Option Addr} {n c : Nat} {T : List T4} (h : Row4 w S (.slice A n c) T) {i : Nat} {t : T4} (hi : T[i]? = some t) : ∃ b off, A = some ⟨b, off, none⟩ ∧ n = T.length ∧ ∀ W, Chg No w W → ByteS W S t.2 t.1.b ∧
    W.cell? ⟨b, off + i * 4, none⟩ = some (.int .i64 t.1.f) ∧ W.cell? ⟨b, off + i * 4 + 1, none⟩ = some (.int .i64 t.1.n) ∧ W.cell? ⟨b, off + i * 4 + 2, none⟩ = some (.int .i64 t.1.b.length) ∧ W.cell? ⟨b, off + i * 4 + 3, none⟩ = some t.2 := by
  obtain ⟨b, off, e, hn, -, -⟩ := h.at hi
  refine ⟨b, off, e, hn, fun W hW => ?_⟩
  obtain ⟨b', off', e', -, -, hc⟩ := (h.keep hW (fun _ _ f => f)).at hi
  obtain ⟨rfl, rfl⟩ : b = b' ∧ off = off' := by rw [e] at e'; simpa using e'
  exact hc
/-- rows of the call's own -/
def Own4 (w : World) (base : Nat) (v : Value) (T : List T4) : Prop := w.ownsRow base 122 4 v T.length (cellsR T)
theorem Own4.nil (w : World) (base : Nat) : Own4 w base (.slice none 0 0) [] := World.ownsRow_nil _ _ _ _
theorem elem_row4 : ElemInfo Tryz.prog 76 122 4 48 := .of Tryz.underlying76 (show (Tryz.prog.info? 122).map (fun i => (i.zero, i.size, i.bytes)) = some (some (.agg #[.int .i64 0, .int .i64 0, .int .i64 0, .slice none 0 0]), 4, 48) by kernel_rfl) rfl
/-- append one row -/
theorem Own4.app {wr : World} {base b4 : Nat} {v : Value} {T : List T4} {t : T4} (h : Own4 wr base v T) (hB : base ≤ wr.heap.size) (hl : T.length < 2000000000) (row : Row wr b4 122 (cells4 t)) {A1 : Option Addr} {n1 c1 : Nat} (h1 : t.2 = .slice A1 n1 c1) (ty : TypeId) :
    ∃ A c w', (Builtin.append_ #[76, 76] ty #[v, .slice (some ⟨b4, 0, none⟩) 1 1]).run Tryz.prog wr = .ok (.slice A (T.length + 1) c) w' ∧ Own4 w' base (.slice A (T.length + 1) c) (T ++ [t]) ∧ Chg (fun k => v.ownBlock = some k) wr w' := by
  obtain ⟨v', w4, hr, ho, hg⟩ := run_app elem_row4 (by decide) h (Slc.row (S := fun _ => True) row 1 4 rfl (by unfold maxLen; omega) trivial) (by simp [cells4, Value.oneCell', h1]) (by unfold maxLen; omega) (by omega) hB ty
  obtain ⟨A, c, rfl⟩ := own_form ho
  refine ⟨A, c, w4, hr, ?_, (Chg.refl _ _).grown hg (fun k hk => .inl hk)⟩
  show World.ownsRow _ _ _ _ _ (T ++ [t]).length (cellsR (T ++ [t]))
  rw [cellsR_app, List.length_append]
  simpa [cellsR] using ho
/-- append rows -/
theorem Own4.apps {w : World} {base : Nat} {v u : Value} {T T' : List T4} {S : Nat → Prop} (h : Own4 w base v T) (h' : Row4 w S u T') (hB : base ≤ w.heap.size) (hl : T.length + T'.length < 2000000000) (ty : TypeId) :
    ∃ A c w', (Builtin.append_ #[76, 76] ty #[v, u]).run Tryz.prog w = .ok (.slice A (T.length + T'.length) c) w' ∧ Own4 w' base (.slice A (T.length + T'.length) c) (T ++ T') ∧ Chg (fun k => v.ownBlock = some k) w w' := by
  obtain ⟨v', w4, hr, ho, hg⟩ := run_app elem_row4 (by decide) h h'.1 (by
    intro x hx
    unfold cellsR at hx
    obtain ⟨t, ht, hx⟩ := List.mem_flatMap.1 hx
    obtain ⟨A, c, e, -⟩ := (h'.2 t ht).form
    simp [cells4] at hx
    rcases hx with rfl | rfl | rfl | rfl
    · rfl
    · rfl
    · rfl
    · rw [e]; rfl) (by unfold maxLen; omega) (by omega) hB ty
  obtain ⟨A, c, rfl⟩ := own_form ho
  refine ⟨A, c, w4, hr, ?_, (Chg.refl _ _).grown hg (fun k hk => .inl hk)⟩
  show World.ownsRow _ _ _ _ _ (T ++ T').length (cellsR (T ++ T'))
  rw [cellsR_app, List.length_append]
  exact ho

set_option maxHeartbeats 400000 in
theorem Sectors4_any (k : Nat) (hk : k ≤ 1000000000) (w : World) : Calls Tryz.prog 62 #[.int .i64 k] w fun e w' => e = .returned (.int .i64 (secN k)) ∧ w = w' := by
  obtain ⟨R, hR⟩ : ∃ R, R = secN k := ⟨_, rfl⟩
  rw [← hR]
  have hr : 1 ≤ R ∧ k ≤ R * 64 ∧ (R = 1 ∨ (R - 1) * 64 < k) := by rw [hR]; unfold secN; omega
  clear hR
  go_enter Tryz.func62, Tryz.ntmps62
  go_wp2_with fail
  go_loopg [3] R (fun j v3 wr => ∃ i : Nat, v3 = .int .i64 (i : Int) ∧ 1 ≤ i ∧ i ≤ R ∧ R - i ≤ j ∧ wr = w)
  case atStart => exact ⟨1, rfl, by omega, by omega, by omega, rfl⟩
  case round =>
    obtain ⟨i, rfl, i0, i1, i2, hwr⟩ := hrel
    have hwr' := hwr.symm
    subst hwr'
    by_cases hi : i < R
    · have t1 : decide ((i : Int) * 64 < (k : Int)) = true := decide_eq_true (by omega)
      go_wp2_with fail
      go_roundg (R - (i + 1))
      case measure => omega
      case rel => exact ⟨i + 1, by go_num, by omega, by omega, by omega, rfl⟩
    · obtain rfl : i = R := by omega
      have t1 : decide ((i : Int) * 64 < (k : Int)) = false := decide_eq_false (by omega)
      go_wp2_with fail
      go_ret
      exact ⟨rfl, rfl⟩

set_option maxRecDepth 100000 in
set_option maxHeartbeats 400000 in
theorem Used04_any (v : Value) (T : List T4) (S : Nat → Prop) (w : World) (h : Row4 w S v T) (hm : T.length ≤ 1048576) (hs : (T.map fun t => t.1.n).sum ≤ 20000) :
    Calls Tryz.prog 41 #[v] w fun e w' => e = .returned (.int .i64 ((T.map fun t => t.1.n).sum : Nat)) ∧ Chg No w w' := by
  obtain ⟨A, c, rfl, -⟩ := h.form
  have hpart : ∀ i, ((T.take i).map fun t => t.1.n).sum ≤ 20000 := fun i => by
    have : (T.map fun t => t.1.n).sum = ((T.take i).map fun t => t.1.n).sum + ((T.drop i).map fun t => t.1.n).sum := by
      conv => lhs; rw [← List.take_append_drop i T]
      rw [List.map_append, List.sum_append]
    omega
  have HX := Lib.hid h
  have HP := Lib.hid (And.intro hpart hs)
  generalize hn : T.length = n at *
  have HN := Lib.hid hn
  clear h hn hs hpart
  go_enter Tryz.func41, Tryz.ntmps41
  go_wp2_with fail
  go_loopg [3, 4] n (fun j v3 v4 wr => ∃ i u : Nat, v4 = .int .i64 (i : Int) ∧ v3 = .int .i64 (u : Int) ∧ u = ((T.take i).map fun t => t.1.n).sum ∧ i ≤ n ∧ n - i ≤ j ∧ Chg No w wr)
  case atStart => exact ⟨0, 0, rfl, rfl, rfl, by omega, by omega, Chg.refl _ _⟩
  case round =>
    obtain ⟨i, u, rfl, rfl, hu, i1, i2, cw⟩ := hrel
    by_cases hi : i < n
    · have t1 : decide ((i : Int) < (n : Int)) = true := decide_eq_true (by omega)
      have t0 : (i : Int) < (n : Int) := by omega
      obtain ⟨t, ht⟩ : ∃ t, T[i]? = some t := ⟨_, List.getElem?_eq_getElem (by rw [HN.out]; omega)⟩
      obtain ⟨b, off, rfl, -, hc⟩ := HX.out.elem ht
      obtain ⟨-, d0, d1, d2, d3⟩ := hc wr cw
      have hu2 : ((T.take (i + 1)).map fun t => t.1.n).sum = u + t.1.n := by rw [List.take_add_one, ht, hu]; simp
      have hle := HP.out.1 (i + 1)
      rw [hu2] at hle
      have HC := Lib.hid (And.intro cw hu2)
      clear hc cw ht hu hu2
      generalize t.1.n = m at *
      have hw1 : IntKind.i64.wrap ((u : Int) + (m : Int)) = (u : Int) + (m : Int) := IntWalk.i64_in _ (by omega)
      go_wp2_with fail
      go_roundg (n - (i + 1))
      case measure => omega
      case rel => exact ⟨i + 1, u + m, by go_num, by go_num, HC.out.2.symm, by omega, by omega, HC.out.1⟩
    · obtain rfl : i = n := by omega
      have t1 : decide ((i : Int) < (i : Int)) = false := decide_eq_false (by omega)
      have HU := Lib.hid hu
      clear hu
      go_wp2_with fail
      go_ret
      refine ⟨?_, cw⟩
      have := HU.out
      rw [List.take_of_length_le (by rw [HN.out]; exact Nat.le_refl _)] at this
      rw [← this]
      rfl

set_option maxRecDepth 100000 in
set_option maxHeartbeats 800000 in
theorem First04_any (v : Value) (T : List T4) (S : Nat → Prop) (w : World) (h : Row4 w S v T) (hm : T.length ≤ 1048576) (N n : Nat) (hN : N ≤ 20000) (hn1 : 1 ≤ n) (hn2 : n ≤ 1000000) (hf : ∀ x ∈ T.map (·.1), x.f + x.n ≤ N) :
    Calls Tryz.prog 63 #[v, .int .i64 N, .int .i64 n] w fun e w' => e = .returned (.int .i64 (first04 (T.map (·.1)) N n)) ∧ Chg No w w' := by
  obtain ⟨A, c, rfl, -⟩ := h.form
  have HX := Lib.hid h
  have HF := Lib.hid hf
  have HFR := Lib.hid (fun f => free_rows (T.map (·.1)) (f := f) hn1)
  obtain ⟨r, hr⟩ : ∃ r, first04 (T.map (·.1)) N n = r := ⟨_, rfl⟩
  rw [hr]
  have HR := Lib.hid hr
  generalize hq : T.length = q at *
  have HQ := Lib.hid hq
  clear h hq hf hr
  go_enter Tryz.func63, Tryz.ntmps63
  go_wp2_with fail
  go_loopg [7] (N + 1) (fun j v7 wr => ∃ f : Nat, v7 = .int .i64 (f : Int) ∧ f ≤ N + 1 ∧ N + 1 - f ≤ j ∧ (∀ g, g < f → freeB (tX (T.map (·.1))) g n = false) ∧ Chg No w wr)
  case atStart => exact ⟨0, rfl, by omega, by omega, fun g hg => by omega, Chg.refl _ _⟩
  case round =>
    obtain ⟨f, rfl, f1, f2, hmiss, cw⟩ := hrel
    have hw0 : IntKind.i64.wrap ((f : Int) + (n : Int)) = (f : Int) + (n : Int) := IntWalk.i64_in _ (by omega)
    by_cases hfn : f + n ≤ N
    · have t1 : decide ((f : Int) + (n : Int) ≤ (N : Int)) = true := decide_eq_true (by omega)
      have t2 : decide (f + n ≤ N) = true := decide_eq_true hfn
      have HM := Lib.hid (And.intro hmiss cw)
      clear hmiss cw
      go_wp2_with fail
      go_loopg [8, 9] q (fun j v8 v9 wr => ∃ (i : Nat) (b : Bool), v9 = .int .i64 (i : Int) ∧ v8 = .bool b ∧ i ≤ q ∧ q - i ≤ j ∧ b = ((T.map (·.1)).take i).all (fun x => !(decide (f < x.f + x.n) && decide (x.f < f + n))) ∧ Chg No w wr)
      case atStart => exact ⟨0, true, rfl, rfl, by omega, by omega, by simp, HM.out.2⟩
      case round =>
        obtain ⟨i, b, rfl, rfl, i1, i2, hb, cw⟩ := hrel
        by_cases hi : i < q
        · have s1 : decide ((i : Int) < (q : Int)) = true := decide_eq_true (by omega)
          have s0 : (i : Int) < (q : Int) := by omega
          obtain ⟨t, ht⟩ : ∃ t, T[i]? = some t := ⟨_, List.getElem?_eq_getElem (by rw [HQ.out]; omega)⟩
          obtain ⟨bb, off, rfl, -, hc⟩ := HX.out.elem ht
          obtain ⟨-, d0, d1, d2, d3⟩ := hc wr cw
          have hfit := HF.out t.1 (List.mem_map.2 ⟨t, List.mem_of_getElem? ht, rfl⟩)
          have hb2 : ((T.map (·.1)).take (i + 1)).all (fun x => !(decide (f < x.f + x.n) && decide (x.f < f + n))) = (b && !(decide (f < t.1.f + t.1.n) && decide (t.1.f < f + n))) := by
            rw [List.take_add_one, List.all_append, hb, List.getElem?_map, ht]
            simp
          have HC := Lib.hid (And.intro cw hb2)
          clear cw hb2 hb hc ht
          generalize t.1.f = xf at *
          generalize t.1.n = xn at *
          have hw1 : IntKind.i64.wrap ((xf : Int) + (xn : Int)) = (xf : Int) + (xn : Int) := IntWalk.i64_in _ (by omega)
          by_cases c1 : f < xf + xn
          · have e1 : decide ((f : Int) < (xf : Int) + (xn : Int)) = true := decide_eq_true (by omega)
            have e2 : decide (f < xf + xn) = true := decide_eq_true c1
            by_cases c2 : xf < f + n
            · have e3 : decide ((xf : Int) < (f : Int) + (n : Int)) = true := decide_eq_true (by omega)
              have e4 : decide (xf < f + n) = true := decide_eq_true c2
              go_wp2_with fail
              go_quiet (fail)
              go_wp2_with fail
              go_roundg (q - (i + 1))
              case measure => omega
              case rel => exact ⟨i + 1, false, by go_num, rfl, by omega, by omega, by rw [HC.out.2, e2, e4]; simp, HC.out.1.drewN _⟩
            · have e3 : decide ((xf : Int) < (f : Int) + (n : Int)) = false := decide_eq_false (by omega)
              have e4 : decide (xf < f + n) = false := decide_eq_false c2
              go_wp2_with fail
              go_quiet (fail)
              go_wp2_with fail
              go_roundg (q - (i + 1))
              case measure => omega
              case rel => exact ⟨i + 1, b, by go_num, rfl, by omega, by omega, by rw [HC.out.2, e2, e4]; simp, HC.out.1.drewN _⟩
          · have e1 : decide ((f : Int) < (xf : Int) + (xn : Int)) = false := decide_eq_false (by omega)
            have e2 : decide (f < xf + xn) = false := decide_eq_false c1
            go_wp2_with fail
            go_quiet (fail)
            go_wp2_with fail
            go_roundg (q - (i + 1))
            case measure => omega
            case rel => exact ⟨i + 1, b, by go_num, rfl, by omega, by omega, by rw [HC.out.2, e2]; simp, HC.out.1.drewN _⟩
        · obtain rfl : i = q := by omega
          have s1 : decide ((i : Int) < (i : Int)) = false := decide_eq_false (by omega)
          rw [List.take_of_length_le (by rw [List.length_map, HQ.out]; exact Nat.le_refl _), ← HFR.out] at hb
          have HB := Lib.hid hb
          clear hb
          cases b with
          | true =>
            have hres := first04_hit hfn HB.out.symm HM.out.1
            rw [HR.out] at hres
            subst hres
            go_wp2_with fail
            go_ret
            exact ⟨rfl, cw⟩
          | false =>
            go_wp2_with fail
            go_roundg (N + 1 - (f + 1))
            case measure => omega
            case rel =>
              refine ⟨f + 1, by go_num, by omega, by omega, fun g hg => ?_, cw⟩
              rcases Nat.lt_or_eq_of_le (Nat.le_of_lt_succ hg) with h1 | rfl
              · exact HM.out.1 g h1
              · exact HB.out.symm
    · have t1 : decide ((f : Int) + (n : Int) ≤ (N : Int)) = false := decide_eq_false (by omega)
      have t2 : decide (f + n ≤ N) = false := decide_eq_false hfn
      have hres := first04_miss (Nat.lt_of_not_le hfn) hmiss
      rw [HR.out] at hres
      subst hres
      clear hmiss
      go_wp2_with fail
      go_ret
      exact ⟨rfl, cw⟩

set_option maxRecDepth 100000 in
set_option maxHeartbeats 400000 in
/-- the place of an extent -/
theorem Find04_hit (v : Value) (T : List T4) (S : Nat → Prop) (w : World) (h : Row4 w S v T) (hm : T.length ≤ 1048576) (k : Nat) (x : Ex) {t : T4} (hk : T[k]? = some t) (hx : t.1.ex = x) (hb : ∀ j u, j < k → T[j]? = some u → u.1.ex ≠ x) :
    Calls Tryz.prog 72 #[v, .agg #[.int .i64 x.1, .int .i64 x.2.1, .int .i64 x.2.2]] w fun e w' => e = .returned (.int .i64 k) ∧ Chg No w w' := by
  obtain ⟨A, c, rfl, -⟩ := h.form
  have hkl := (List.getElem?_eq_some_iff.1 hk).1
  have HX := Lib.hid h
  have HK := Lib.hid (And.intro hk (And.intro hx hb))
  generalize hn : T.length = n at *
  have HN := Lib.hid hn
  clear h hk hx hb hn
  obtain ⟨x0, x1, x2⟩ := x
  go_enter Tryz.func72, Tryz.ntmps72
  go_wp2_with fail
  go_loopg [5] (n + 1) (fun j v5 wr => ∃ i : Nat, v5 = .int .i64 (i : Int) ∧ i ≤ k ∧ k - i < j ∧ Row wr w.heap.size 47 #[.int .i64 x0, .int .i64 x1, .int .i64 x2] ∧ Chg No w wr)
  case atStart => exact ⟨0, rfl, by omega, by omega, Row.new w _ _, (Chg.refl _ _).alloc _⟩
  case round =>
    obtain ⟨i, rfl, i1, i2, row, cw⟩ := hrel
    have t1 : decide ((i : Int) < (n : Int)) = true := decide_eq_true (by omega)
    have t0 : (i : Int) < (n : Int) := by omega
    obtain ⟨u, hu⟩ : ∃ u, T[i]? = some u := ⟨_, List.getElem?_eq_getElem (by rw [HN.out]; omega)⟩
    obtain ⟨b, off, rfl, -, hc⟩ := HX.out.elem hu
    obtain ⟨-, d0, d1, d2, -⟩ := hc wr cw
    have y0 : wr.cell? ⟨w.heap.size, 0, none⟩ = some (.int .i64 x0) := row.cell 0
    have y1 : wr.cell? ⟨w.heap.size, 1, none⟩ = some (.int .i64 x1) := row.cell 1
    have y2 : wr.cell? ⟨w.heap.size, 2, none⟩ = some (.int .i64 x2) := row.cell 2
    have hq := fun w => eqE ((u.1.f : Int), (u.1.n : Int), (u.1.b.length : Int)) (x0, x1, x2) w
    dsimp only at hq
    have he : decide (((u.1.f : Int), (u.1.n : Int), (u.1.b.length : Int)) = (x0, x1, x2)) = decide (i = k) := by
      rw [Bool.eq_iff_iff, decide_eq_true_eq, decide_eq_true_eq]
      constructor
      · intro e
        refine Classical.byContradiction fun hne => HK.out.2.2 i u (by omega) hu e
      · rintro rfl
        have e1 := HK.out.1
        rw [hu] at e1
        obtain rfl := Option.some.inj e1
        exact HK.out.2.1
    rw [he] at hq
    have HC := Lib.hid (And.intro cw row)
    clear hc row cw hu he
    by_cases hik : i = k
    · subst hik
      rw [decide_eq_true rfl] at hq
      go_wp2_with fail
      go_quiet (fail)
      go_wp2_with fail
      go_ret
      exact ⟨rfl, HC.out.1.drewN _⟩
    · rw [decide_eq_false hik] at hq
      go_wp2_with fail
      go_quiet (fail)
      go_wp2_with fail
      go_roundg (k - i)
      case measure => omega
      case rel => exact ⟨i + 1, by go_num, by omega, by omega, HC.out.2.drewN _, HC.out.1.drewN _⟩

set_option maxRecDepth 100000 in
set_option maxHeartbeats 400000 in
theorem Without04_any (v : Value) (T : List T4) (S : Nat → Prop) (w : World) (h : Row4 w S v T) (hm : T.length ≤ 1048576) (k : Nat) (hk : k < 1048576) :
    Calls Tryz.prog 73 #[v, .int .i64 k] w (Ret fun u w' => Own4 w' w.heap.size u (T.eraseIdx k) ∧ Chg No w w') := by
  obtain ⟨A, c, rfl, -⟩ := h.form
  have HX := Lib.hid h
  generalize hn : T.length = n at *
  have HN := Lib.hid hn
  clear h hn
  go_enter Tryz.func73, Tryz.ntmps73
  go_wp2_with fail
  go_loopg [5, 6] n (fun j v5 v6 wr => ∃ i : Nat, v6 = .int .i64 (i : Int) ∧ i ≤ n ∧ n - i ≤ j ∧ Own4 wr w.heap.size v5 ((T.take i).eraseIdx k) ∧ Chg No w wr)
  case atStart => exact ⟨0, rfl, by omega, by omega, by simpa using Own4.nil w w.heap.size, Chg.refl _ _⟩
  case round =>
    obtain ⟨i, rfl, i1, i2, hown, cw⟩ := hrel
    obtain ⟨A5, c5, rfl⟩ := own_form hown
    by_cases hi : i < n
    · have t1 : decide ((i : Int) < (n : Int)) = true := decide_eq_true (by omega)
      have t0 : (i : Int) < (n : Int) := by omega
      obtain ⟨t, ht⟩ : ∃ t, T[i]? = some t := ⟨_, List.getElem?_eq_getElem (by rw [HN.out]; omega)⟩
      have htl : (T.take i).length = i := by rw [List.length_take, HN.out]; omega
      have htk : T.take (i + 1) = T.take i ++ [t] := by rw [List.take_add_one, ht]; rfl
      by_cases hik : i = k
      · subst hik
        have he : (T.take (i + 1)).eraseIdx i = (T.take i).eraseIdx i := by
          rw [htk, List.eraseIdx_append_of_length_le (by omega), htl, Nat.sub_self, List.eraseIdx_of_length_le (l := T.take i) (by omega)]
          simp
        have n1 : ((i : Int) != (i : Int)) = false := by simp
        have HC := Lib.hid (And.intro hown (And.intro cw he))
        clear hown cw he htl htk ht
        go_wp2_with fail
        go_roundg (n - (i + 1))
        case measure => omega
        case rel => exact ⟨i + 1, by go_num, by omega, by omega, by rw [HC.out.2.2]; exact HC.out.1, HC.out.2.1⟩
      · have he : (T.take (i + 1)).eraseIdx k = (T.take i).eraseIdx k ++ [t] := by
          rw [htk]
          by_cases hlt : k < i
          · rw [List.eraseIdx_append_of_lt_length (by omega)]
          · rw [List.eraseIdx_append_of_length_le (by omega), htl, List.eraseIdx_of_length_le (by simp; omega), List.eraseIdx_of_length_le (by omega)]
        have n1 : ((i : Int) != (k : Int)) = true := bne_iff_ne.2 (by omega)
        obtain ⟨b, off, rfl, -, hc⟩ := HX.out.elem ht
        obtain ⟨hbs, d0, d1, d2, d3⟩ := hc wr cw
        obtain ⟨A7, c7, e7, -⟩ := hbs.form
        rw [e7] at d3
        have hlen : ((T.take i).eraseIdx k).length ≤ i := by have := List.length_eraseIdx_le (l := T.take i) (i := k); omega
        have hBs := cw.size
        obtain ⟨A9, c9, w9, hr9, ho9, cg9⟩ := Own4.app (t := t) (h := own_keep (F := No) hown ((Chg.refl _ _).alloc (.cells (cells4 t) 122)) (fun _ _ f => f)) (by simp; omega) (by omega) (Row.new wr _ _) e7 76
        have c0 : Chg No wr (wr.alloc (.cells (cells4 t) 122)) := (Chg.refl _ _).alloc _
        have cw9 : Chg No w w9 := (cw.trans c0).then cg9 (fun k hk hv => by have := own_ge hown hv; omega)
        simp only [cells4, e7] at hr9
        have HR := Lib.hid hr9
        have HC := Lib.hid (And.intro ho9 (And.intro cw9 he))
        clear hown cw he htl htk ht hc hbs hr9 ho9 cg9 c0 cw9 e7
        generalize ((T.take i).eraseIdx k).length = m at *
        go_wp2_with (first
          | (at_builtin; refine wpList_append_run rfl _ _ _ rfl rfl rfl HR.out ?_)
          | fail)
        go_roundg (n - (i + 1))
        case measure => omega
        case rel => exact ⟨i + 1, by go_num, by omega, by omega, by rw [HC.out.2.2]; exact HC.out.1, HC.out.2.1⟩
    · obtain rfl : i = n := by omega
      have t1 : decide ((i : Int) < (i : Int)) = false := decide_eq_false (by omega)
      rw [List.take_of_length_le (by rw [HN.out]; exact Nat.le_refl _)] at hown ⊢
      have HC := Lib.hid (And.intro hown cw)
      clear hown cw
      generalize (T.eraseIdx k).length = m at *
      go_wp2_with fail
      go_ret
      exact Ret.mk HC.out

theorem Row.set3 {w : World} {b : Nat} {t : TypeId} {x0 x1 x2 : Value} (h : Row w b t #[x0, x1, x2]) (y0 y1 y2 : Value) : Row (((w.setCell ⟨b, 0, none⟩ y0).setCell ⟨b, 1, none⟩ y1).setCell ⟨b, 2, none⟩ y2) b t #[y0, y1, y2] := by
  simpa using ((h.set 0 y0).set 1 y1).set 2 y2
theorem Row.three {w : World} {b : Nat} {t : TypeId} {x0 x1 x2 : Value} (h : Row w b t #[x0, x1, x2]) : w.cell? ⟨b, 0, none⟩ = some x0 ∧ w.cell? ⟨b, 1, none⟩ = some x1 ∧ w.cell? ⟨b, 2, none⟩ = some x2 ∧ ∀ i, w.frozen? ⟨b, i, none⟩ = false := ⟨h.cell 0, h.cell 1, h.cell 2, h.frozen⟩
theorem Chg.three {w0 w : World} {b : Nat} (h : Chg No w0 w) (hb : w0.heap.size ≤ b) (y0 y1 y2 : Value) : Chg No w0 (((w.setCell ⟨b, 0, none⟩ y0).setCell ⟨b, 1, none⟩ y1).setCell ⟨b, 2, none⟩ y2) :=
  ((h.setCell (p := ⟨b, 0, none⟩) (.inr hb) y0).setCell (p := ⟨b, 1, none⟩) (.inr hb) y1).setCell (p := ⟨b, 2, none⟩) (.inr hb) y2

set_option maxRecDepth 100000 in
set_option maxHeartbeats 800000 in
theorem Put04_none (v bv : Value) (T : List T4) (l : List Int) (S S2 : Nat → Prop) (w : World) (h : Row4 w S v T) (hm : T.length ≤ 1048576) (N : Nat) (hN : N ≤ 20000) (hf : ∀ x ∈ T.map (·.1), x.f + x.n ≤ N) (hb : ByteS w S2 bv l) (hl : l.length ≤ 1000000) (hp : placeX (T.map (·.1)) N (secN l.length) = none) :
    Calls Tryz.prog 29 #[v, .int .i64 N, bv] w (Ret fun u w' => u = .tuple #[v, .agg #[.int .i64 0, .int .i64 0, .int .i64 0], .int .i64 3] ∧ Chg No w w') := by
  obtain ⟨B, cb, rfl, -⟩ := hb.form
  obtain ⟨A, c, rfl, -⟩ := h.form
  have hsn : secN l.length ≤ 1000000 := by unfold secN; omega
  have hs1 := secN_pos l.length
  have hres : first04 (T.map (·.1)) N (secN l.length) = -1 := by unfold first04; rw [hp]
  have HF := Lib.hid (First04_any _ T S (w.alloc (.cells #[.int .i64 0, .int .i64 0, .int .i64 0] 47)) (h.keep (F := No) ((Chg.refl _ _).alloc _) (fun _ _ f => f)) hm N (secN l.length) hN hs1 hsn hf)
  rw [hres] at HF
  generalize hsec : secN l.length = n at *
  have HS := Lib.hid (fun w => Sectors4_any l.length (by omega) w)
  rw [hsec] at HS
  generalize hll : l.length = k at *
  generalize hT : T.length = q at *
  clear h hb hsec hp hres hT hll
  go_enter Tryz.func29, Tryz.ntmps29
  go_wp2_with (first
    | (go_at_call 62; refine (HS.out _).mono ?_; rintro e w' ⟨rfl, rfl⟩)
    | (go_at_call 63
       refine HF.out.mono ?_
       rintro e w2 ⟨rfl, c2⟩
       have row := (Row.new w 47 #[.int .i64 0, .int .i64 0, .int .i64 0]).keep c2 (fun f => f)
       have H2 := Lib.hid (And.intro row (Chg.trans ((Chg.refl No w).alloc (.cells #[.int .i64 0, .int .i64 0, .int .i64 0] 47)) c2))
       have y0 := row.cell 0
       have y1 := row.cell 1
       have y2 := row.cell 2
       have yf := row.frozen
       simp at y0 y1 y2
       clear row c2)
    | fail)
  obtain ⟨z0, z1, z2, -⟩ := (H2.out.1.set3 (.int .i64 0) (.int .i64 0) (.int .i64 0)).three
  exact bodyPost_ret (v := .tuple #[.slice A q c, .agg #[.int .i64 0, .int .i64 0, .int .i64 0], .int .i64 3]) (by simp [results, Tryz.results29, go_sem, z0, z1, z2]) rfl (Ret.mk ⟨rfl, H2.out.2.three (Nat.le_refl _) _ _ _⟩)

set_option maxRecDepth 100000 in
set_option maxHeartbeats 800000 in
theorem Put04_some (v bv : Value) (T : List T4) (l : List Int) (S S2 : Nat → Prop) (w : World) (h : Row4 w S v T) (hm : T.length ≤ 1048576) (N : Nat) (hN : N ≤ 20000) (hf : ∀ x ∈ T.map (·.1), x.f + x.n ≤ N) (hb : ByteS w S2 bv l) (hl : l.length ≤ 1000000) {f : Nat} (hp : placeX (T.map (·.1)) N (secN l.length) = some f) :
    Calls Tryz.prog 29 #[v, .int .i64 N, bv] w (Ret fun u w' => ∃ A n c, u = .tuple #[.slice A n c, .agg #[.int .i64 f, .int .i64 (secN l.length), .int .i64 l.length], .int .i64 0] ∧ Chg No w w') := by
  obtain ⟨B, cb, rfl, -⟩ := hb.form
  obtain ⟨A, c, rfl, -⟩ := h.form
  have hsn : secN l.length ≤ 1000000 := by unfold secN; omega
  have hs1 := secN_pos l.length
  have hres : first04 (T.map (·.1)) N (secN l.length) = f := by unfold first04; rw [hp]
  have HF := Lib.hid (First04_any _ T S (w.alloc (.cells #[.int .i64 0, .int .i64 0, .int .i64 0] 47)) (h.keep (F := No) ((Chg.refl _ _).alloc _) (fun _ _ f => f)) hm N (secN l.length) hN hs1 hsn hf)
  rw [hres] at HF
  generalize hsec : secN l.length = n at *
  have HS := Lib.hid (fun w => Sectors4_any l.length (by omega) w)
  rw [hsec] at HS
  have HB := Lib.hid (And.intro (hb.more (S' := fun b => b < w.heap.size) (fun b hb _ => hb)) (h.more (S' := fun b => b < w.heap.size) (fun b hb _ => hb)))
  generalize hll : l.length = k at *
  generalize hT : T.length = q at *
  have HLL := Lib.hid (And.intro hll hT)
  have HSEC := Lib.hid hsec
  clear h hb hsec hp hres hT hll
  have t0 : decide ((f : Int) < 0) = false := decide_eq_false (by omega)
  go_enter Tryz.func29, Tryz.ntmps29
  go_wp2_with (first
    | (go_at_call 62; refine (HS.out _).mono ?_; rintro e w' ⟨rfl, rfl⟩)
    | (go_at_call 63
       refine HF.out.mono ?_
       rintro e w2 ⟨rfl, c2⟩
       have row := (Row.new w 47 #[.int .i64 0, .int .i64 0, .int .i64 0]).keep c2 (fun f => f)
       obtain ⟨W3, hW3⟩ : ∃ W, w2.alloc (.cells #[.int .i64 f, .int .i64 n, .int .i64 k] 47) = W := ⟨_, rfl⟩
       have c3 : Chg No w2 W3 := by rw [← hW3]; exact (Chg.refl _ _).alloc _
       have rowx : Row W3 w2.heap.size 47 #[.int .i64 f, .int .i64 n, .int .i64 k] := by rw [← hW3]; exact Row.new _ _ _
       have cw : Chg No w W3 := ((Chg.refl No w).alloc (.cells #[.int .i64 0, .int .i64 0, .int .i64 0] 47)).trans (c2.trans c3)
       have row3 := row.keep c3 (fun f => f)
       have hlt : w.heap.size < w2.heap.size := by have := c2.size; simp at this; omega
       have hsz := rowx.lt
       have H2 := Lib.hid (And.intro row3 (And.intro rowx cw))
       have HW3 := Lib.hid hW3
       obtain ⟨A5, c5, W5, hr5, ho5, cg5⟩ := Own4.apps (Own4.nil W3 W3.heap.size) (HB.out.2.keep cw (fun _ _ f => f)) (Nat.le_refl _) (by simp; rw [HLL.out.2]; omega) 76
       have c5 : Chg No W3 W5 := cg5.mono (fun k hk e => by simp [Value.ownBlock] at e)
       rw [HLL.out.2] at hr5 ho5
       rw [List.nil_append] at ho5
       simp only [List.length_nil, Nat.zero_add] at hr5 ho5
       have HR5 := Lib.hid hr5
       have hs35 := c5.size
       have r5 := row3.keep c5 (fun f => f)
       have x5 := rowx.keep c5 (fun f => f)
       have cw5 := cw.trans c5
       have H5 := Lib.hid (And.intro ho5 (And.intro r5 (And.intro x5 cw5)))
       clear row c2 c3 rowx cw row3 hW3 hr5 ho5 r5 x5 cw5 cg5 c5)
    | (rw [HW3.out])
    | (at_builtin; refine wpList_append_run rfl _ _ _ rfl rfl rfl HR5.out ?_)
    | fail)
  obtain ⟨x0, x1, x2, -⟩ := H5.out.2.2.1.three
  go_region_law (first
    | (refine step_append_run rfl (.tmp 32) (.tmp 37) 76 rfl rfl rfl HR8.out ?_)
    | (go_simp; go_at_call 64
       have c5d : Chg No W5 W5.drew := (Chg.refl _ _).drew
       refine (Copy00_any _ l _ _ ((HB.out.1.keep H5.out.2.2.2 (fun _ _ f => f)).keep c5d (fun _ _ f => f)) (by rw [HLL.out.1]; omega)).mono ?_
       rintro e w6 ⟨v6, rfl, ho6, c6⟩
       rw [HLL.out.1] at ho6
       obtain ⟨A6, d6, rfl⟩ := own_form ho6
       have c56 : Chg No W5 w6 := c5d.trans c6
       have r6 := H5.out.2.1.keep c56 (fun f => f)
       have x6 := H5.out.2.2.1.keep c56 (fun f => f)
       have ho5 := own_keep (F := No) H5.out.1 (c56.alloc (.cells #[.int .i64 f, .int .i64 n, .int .i64 k, .slice A6 k d6] 122)) (fun _ _ f => f)
       have hrow : Row (w6.alloc (.cells #[.int .i64 f, .int .i64 n, .int .i64 k, .slice A6 k d6] 122)) w6.heap.size 122 (cells4 (⟨f, l⟩, .slice A6 k d6)) := by
         have e1 : Xt.n ⟨f, l⟩ = n := by show secN l.length = n; rw [HLL.out.1]; exact HSEC.out
         unfold cells4
         rw [e1]
         dsimp only
         rw [HLL.out.1]
         exact Row.new _ _ _
       obtain ⟨A8, d8, W8, hr8, ho8, cg8⟩ := Own4.app (t := (⟨f, l⟩, .slice A6 k d6)) ho5 (by have h2 := c56.size; simp; omega) (by rw [HLL.out.2]; omega) hrow rfl 76
       rw [HLL.out.2] at hr8
       have c68 : Chg (fun b => (Value.slice A5 q c5).ownBlock = some b) w6 W8 := ((Chg.refl _ _).alloc _).trans cg8
       have hbo := fun b (hb : (Value.slice A5 q c5).ownBlock = some b) => own_ge H5.out.1 hb
       have r8 := r6.keep c68 (fun e => by have := hbo _ e; omega)
       have x8 := x6.keep c68 (fun e => by have := hbo _ e; omega)
       have HR8 := Lib.hid hr8
       have H8 := Lib.hid (And.intro r8 ((H5.out.2.2.2.trans c56).then c68 (fun b hb e => by have := hbo b e; omega)))
       obtain ⟨z0, z1, z2, -⟩ := x6.three
       obtain ⟨y0, y1, y2, -⟩ := (x6.alloc (.cells #[.int .i64 f, .int .i64 n, .int .i64 k, .slice A6 k d6] 122)).three
       obtain ⟨u0, u1, u2, -⟩ := x8.three
       obtain ⟨p0, p1, p2, pf⟩ := r8.three
       clear ho6 c6 c56 r6 x6 ho5 hrow hr8 ho8 cg8 c68 r8 x8)
    | fail)
  all_goals
    go_wp2_with fail
    go_region_law (fail)
  all_goals
    go_wp2_with fail
    obtain ⟨z0, z1, z2, -⟩ := (H8.out.1.set3 (.int .i64 f) (.int .i64 n) (.int .i64 k)).three
    exact bodyPost_ret (v := .tuple #[.slice A8 (q + 1) d8, .agg #[.int .i64 f, .int .i64 n, .int .i64 k], .int .i64 0]) (by simp [results, Tryz.results29, go_sem, z0, z1, z2]) rfl (Ret.mk ⟨_, _, _, rfl, (H8.out.2.three (Nat.le_refl _) _ _ _).drew⟩)

/-- what Set needs of the rows -/
structure Set4 (T : List T4) (N k : Nat) (t : T4) : Prop where
  len : T.length ≤ 1048576
  fits : ∀ x ∈ T.map (·.1), x.f + x.n ≤ N
  at_ : T[k]? = some t
  first : ∀ j u, j < k → T[j]? = some u → u.1.ex ≠ t.1.ex
set_option maxRecDepth 100000 in
set_option maxHeartbeats 800000 in
theorem Set04_same (v bv : Value) (T : List T4) (l : List Int) (S S2 : Nat → Prop) (w : World) (h : Row4 w S v T) (N : Nat) (hN : N ≤ 20000) (hb : ByteS w S2 bv l) (hl : l.length ≤ 1000000) {k : Nat} {t : T4} (H : Set4 T N k t) (hs : secN l.length = t.1.n) :
    Calls Tryz.prog 37 #[v, .int .i64 N, .agg #[.int .i64 t.1.f, .int .i64 t.1.n, .int .i64 t.1.b.length], bv] w (Ret fun u w' => ∃ A n c, u = .tuple #[.slice A n c, .agg #[.int .i64 t.1.f, .int .i64 (secN l.length), .int .i64 l.length], .int .i64 0] ∧ Chg No w w') := by
  have hle : (T.eraseIdx k).length ≤ T.length := List.length_eraseIdx_le _ _
  obtain ⟨B, cb, rfl, -⟩ := hb.form
  obtain ⟨A, c, rfl, -⟩ := h.form
  have hsn : secN l.length ≤ 1000000 := by unfold secN; omega
  obtain ⟨W, hW⟩ : ∃ W, (w.alloc (.cells #[.int .i64 t.1.f, .int .i64 t.1.n, .int .i64 t.1.b.length] 47)).alloc (.cells #[.int .i64 0, .int .i64 0, .int .i64 0] 47) = W := ⟨_, rfl⟩
  have cW : Chg No w W := by rw [← hW]; exact ((Chg.refl _ _).alloc _).alloc _
  have sW : W.heap.size = w.heap.size + 1 + 1 := by rw [← hW]; simp
  have r0 : Row W w.heap.size 47 #[.int .i64 t.1.f, .int .i64 t.1.n, .int .i64 t.1.b.length] := by rw [← hW]; exact (Row.new w _ _).alloc _
  have r1 : Row W (w.heap.size + 1) 47 #[.int .i64 0, .int .i64 0, .int .i64 0] := by rw [← hW]; simpa using Row.new (w.alloc (.cells #[.int .i64 t.1.f, .int .i64 t.1.n, .int .i64 t.1.b.length] 47)) 47 #[.int .i64 0, .int .i64 0, .int .i64 0]
  have hS := h.more (S' := fun b => b < w.heap.size) (fun b hb _ => hb)
  have hbS := hb.more (S' := fun b => b < w.heap.size) (fun b hb _ => hb)
  have HFI := Lib.hid (Find04_hit _ T _ W (hS.keep cW (fun _ _ f => f)) H.len k t.1.ex H.at_ rfl H.first)
  have HSEC := Lib.hid (fun w => Sectors4_any l.length (by omega) w)
  have hkl : k < T.length := (List.getElem?_eq_some_iff.1 H.at_).1
  have hTl := H.len
  have HW := Lib.hid hW
  have HR := Lib.hid (And.intro cW (And.intro r0 (And.intro r1 sW)))
  have HX := Lib.hid (And.intro H (And.intro hS hbS))
  have x0 : W.cell? ⟨w.heap.size, 0, none⟩ = some (.int .i64 t.1.f) := r0.cell 0
  have x1 : W.cell? ⟨w.heap.size, 1, none⟩ = some (.int .i64 t.1.n) := r0.cell 1
  have x2 : W.cell? ⟨w.heap.size, 2, none⟩ = some (.int .i64 t.1.b.length) := r0.cell 2
  clear h hb hW cW r0 r1 hS hbS H
  generalize hq : T.length = q at *
  have HQ := Lib.hid hq
  clear hq
  rw [hs] at HSEC ⊢
  have HSL := Lib.hid hs
  have HLE := Lib.hid hle
  clear hs hle
  have t0 : decide ((k : Int) < 0) = false := decide_eq_false (by omega)
  go_enter Tryz.func37, Tryz.ntmps37
  go_wp2_with (first
    | (rw [HW.out])
    | (go_at_call 72
       refine HFI.out.mono ?_
       rintro e w2 ⟨rfl, c2⟩
       have H2 := Lib.hid (And.intro (HR.out.2.1.keep c2 (fun f => f)) (And.intro (HR.out.2.2.1.keep c2 (fun f => f)) (And.intro (HR.out.1.trans c2) c2.size)))
       clear c2)
    | (go_at_call 73
       refine (Without04_any _ T _ _ (HX.out.2.1.keep H2.out.2.2.1 (fun _ _ f => f)) (by rw [HQ.out]; exact hTl) k (by omega)).mono ?_
       rintro e w3 ⟨v3, rfl, ho3, c3⟩
       obtain ⟨A3, d3, rfl⟩ := own_form ho3
       have r3 := H2.out.1.keep c3 (fun f => f)
       have H3 := Lib.hid (And.intro ho3 (And.intro r3 (And.intro (H2.out.2.1.keep c3 (fun f => f)) (And.intro (H2.out.2.2.1.trans c3) (And.intro c3.size H2.out.2.2.2)))))
       obtain ⟨x0, x1, x2, -⟩ := r3.three
       have y0 : ∀ v, Chg No w3 v → v.cell? ⟨w.heap.size, 1, none⟩ = some (.int .i64 t.1.n) := fun v hv => (H3.out.2.1.keep hv (fun f => f)).cell 1
       clear ho3 c3 r3)
    | fail)
  refine q_region (C := (Chg No w3)) (by kernel_rfl) (by kernel_rfl) ?_ ?_
  · exact (Chg.refl _ _).drew
  repeat
    refine q_step (fun K hK => ?_)
    go_simp
    first
      | ((with_reducible refine hK _ ?_); clear hK K)
      | (refine (if_neg (by simp [undef])).mpr ?_; (with_reducible refine hK _ ?_); clear hK K)
      | (apply Exists.intro
         with_reducible refine ⟨fun v hv => ?_, hK _ ?_⟩
         · first
             | with_reducible exact rfl
             | with_reducible exact ⟨rfl, rfl⟩
             | (go_simp
                first
                  | done
                  | with_reducible exact rfl
                  | with_reducible exact ⟨rfl, rfl⟩
                  | (go_at_call 62; refine (HSEC.out _).mono ?_; rintro e w' ⟨rfl, rfl⟩; exact ⟨rfl, hv⟩))
         clear hK K)
  refine q_nil ?_
  intro V hV
  have r5 := H3.out.2.1.keep hV (fun f => f)
  have q5 := H3.out.2.2.1.keep hV (fun f => f)
  obtain ⟨p0, p1, p2, -⟩ := r5.three
  obtain ⟨W5, hW5⟩ : ∃ W, V.alloc (.cells #[.int .i64 t.1.f, .int .i64 t.1.n, .int .i64 l.length] 47) = W := ⟨_, rfl⟩
  have c5 : Chg No V W5 := by rw [← hW5]; exact (Chg.refl _ _).alloc _
  have rx5 : Row W5 V.heap.size 47 #[.int .i64 t.1.f, .int .i64 t.1.n, .int .i64 l.length] := by rw [← hW5]; exact Row.new _ _ _
  have hsV := hV.size
  have hsz := rx5.lt
  have H5 := Lib.hid (And.intro (own_keep (F := No) H3.out.1 (hV.trans c5) (fun _ _ f => f)) (And.intro (q5.keep c5 (fun f => f)) (And.intro rx5 (And.intro (H3.out.2.2.2.1.trans (hV.trans c5)) (And.intro H3.out.2.2.2.2.1 H3.out.2.2.2.2.2)))))
  have HW5 := Lib.hid hW5
  obtain ⟨x0, x1, x2, -⟩ := rx5.three
  clear r5 q5 c5 rx5 hW5
  go_wp2_with (first
    | (rw [HW5.out])
    | fail)
  go_region_law (first
    | (refine step_append_run rfl (.tmp 40) (.tmp 45) 76 rfl rfl rfl HR8.out ?_)
    | (go_simp; go_at_call 64
       have c5d : Chg No W5 W5.drew := (Chg.refl _ _).drew
       refine (Copy00_any _ l _ _ ((HX.out.2.2.keep H5.out.2.2.2.1 (fun _ _ f => f)).keep c5d (fun _ _ f => f)) (by omega)).mono ?_
       rintro e w6 ⟨v6, rfl, ho6, c6⟩
       obtain ⟨A6, d6, rfl⟩ := own_form ho6
       have c56 : Chg No W5 w6 := c5d.trans c6
       have r6 := H5.out.2.1.keep c56 (fun f => f)
       have x6 := H5.out.2.2.1.keep c56 (fun f => f)
       have ho5 := own_keep (F := No) H5.out.1 (c56.alloc (.cells #[.int .i64 t.1.f, .int .i64 t.1.n, .int .i64 l.length, .slice A6 l.length d6] 122)) (fun _ _ f => f)
       have hrow : Row (w6.alloc (.cells #[.int .i64 t.1.f, .int .i64 t.1.n, .int .i64 l.length, .slice A6 l.length d6] 122)) w6.heap.size 122 (cells4 (⟨t.1.f, l⟩, .slice A6 l.length d6)) := by
         have e1 : Xt.n ⟨t.1.f, l⟩ = t.1.n := HSL.out
         unfold cells4
         rw [e1]
         exact Row.new _ _ _
       have h3 := HLE.out
       obtain ⟨A8, d8, W8, hr8, ho8, cg8⟩ := Own4.app (t := (⟨t.1.f, l⟩, .slice A6 l.length d6)) ho5 (by have h1 := H5.out.2.2.2.2; have h2 := c56.size; simp; omega) (by omega) hrow rfl 76
       have c68 : Chg (fun b => (Value.slice A3 (T.eraseIdx k).length d3).ownBlock = some b) w6 W8 := ((Chg.refl _ _).alloc _).trans cg8
       have hbo := fun b (hb : (Value.slice A3 (T.eraseIdx k).length d3).ownBlock = some b) => own_ge H5.out.1 hb
       have hlo : ∀ b, (Value.slice A3 (T.eraseIdx k).length d3).ownBlock = some b → b < w3.heap.size := fun b hb => by
         obtain ⟨cs, hrw⟩ := own_block H3.out.1 hb
         exact hrw.lt
       have h5 := H5.out.2.2.2.2
       have r8 := r6.keep c68 (fun e => by have := hbo _ e; omega)
       have x8 := x6.keep c68 (fun e => by have := hlo _ e; omega)
       have HR8 := Lib.hid hr8
       have H8 := Lib.hid (And.intro r8 ((H5.out.2.2.2.1.trans c56).then c68 (fun b hb e => by have := hbo b e; omega)))
       obtain ⟨z0, z1, z2, -⟩ := x6.three
       obtain ⟨y0, y1, y2, -⟩ := (x6.alloc (.cells #[.int .i64 t.1.f, .int .i64 t.1.n, .int .i64 l.length, .slice A6 l.length d6] 122)).three
       obtain ⟨u0, u1, u2, -⟩ := x8.three
       obtain ⟨p0, p1, p2, pf⟩ := r8.three
       clear ho6 c6 c56 r6 x6 ho5 hrow hr8 ho8 cg8 c68 r8 x8 h3 h5)
    | fail)
  all_goals
    go_wp2_with fail
    go_region_law (fail)
  all_goals
    go_wp2_with fail
    obtain ⟨z0, z1, z2, -⟩ := (H8.out.1.set3 (.int .i64 t.1.f) (.int .i64 t.1.n) (.int .i64 l.length)).three
    exact bodyPost_ret (v := .tuple #[.slice A8 ((T.eraseIdx k).length + 1) d8, .agg #[.int .i64 t.1.f, .int .i64 t.1.n, .int .i64 l.length], .int .i64 0]) (by simp [results, Tryz.results37, go_sem, z0, z1, z2]) rfl (Ret.mk ⟨_, _, _, rfl, (H8.out.2.three (Nat.le_succ _) _ _ _).drew⟩)

set_option maxRecDepth 100000 in
set_option maxHeartbeats 800000 in
theorem Set04_none (v bv : Value) (T : List T4) (l : List Int) (S S2 : Nat → Prop) (w : World) (h : Row4 w S v T) (N : Nat) (hN : N ≤ 20000) (hb : ByteS w S2 bv l) (hl : l.length ≤ 1000000) {k : Nat} {t : T4} (H : Set4 T N k t) (hs : secN l.length ≠ t.1.n) (hp : placeX ((T.eraseIdx k).map (·.1)) N (secN l.length) = none) :
    Calls Tryz.prog 37 #[v, .int .i64 N, .agg #[.int .i64 t.1.f, .int .i64 t.1.n, .int .i64 t.1.b.length], bv] w (Ret fun u w' => ∃ A n c, u = .tuple #[.slice A n c, .agg #[.int .i64 0, .int .i64 0, .int .i64 0], .int .i64 3] ∧ Chg No w w') := by
  have hle : (T.eraseIdx k).length ≤ T.length := List.length_eraseIdx_le _ _
  have hfe : ∀ x ∈ (T.eraseIdx k).map (·.1), x.f + x.n ≤ N := fun x hx => by
    obtain ⟨u, hu, rfl⟩ := List.mem_map.1 hx
    exact H.fits _ (List.mem_map.2 ⟨u, List.mem_of_mem_eraseIdx hu, rfl⟩)
  obtain ⟨B, cb, rfl, -⟩ := hb.form
  obtain ⟨A, c, rfl, -⟩ := h.form
  have hsn : secN l.length ≤ 1000000 := by unfold secN; omega
  obtain ⟨W, hW⟩ : ∃ W, (w.alloc (.cells #[.int .i64 t.1.f, .int .i64 t.1.n, .int .i64 t.1.b.length] 47)).alloc (.cells #[.int .i64 0, .int .i64 0, .int .i64 0] 47) = W := ⟨_, rfl⟩
  have cW : Chg No w W := by rw [← hW]; exact ((Chg.refl _ _).alloc _).alloc _
  have sW : W.heap.size = w.heap.size + 1 + 1 := by rw [← hW]; simp
  have r0 : Row W w.heap.size 47 #[.int .i64 t.1.f, .int .i64 t.1.n, .int .i64 t.1.b.length] := by rw [← hW]; exact (Row.new w _ _).alloc _
  have r1 : Row W (w.heap.size + 1) 47 #[.int .i64 0, .int .i64 0, .int .i64 0] := by rw [← hW]; simpa using Row.new (w.alloc (.cells #[.int .i64 t.1.f, .int .i64 t.1.n, .int .i64 t.1.b.length] 47)) 47 #[.int .i64 0, .int .i64 0, .int .i64 0]
  have hS := h.more (S' := fun b => b < w.heap.size) (fun b hb _ => hb)
  have hbS := hb.more (S' := fun b => b < w.heap.size) (fun b hb _ => hb)
  have HFI := Lib.hid (Find04_hit _ T _ W (hS.keep cW (fun _ _ f => f)) H.len k t.1.ex H.at_ rfl H.first)
  have HSEC := Lib.hid (fun w => Sectors4_any l.length (by omega) w)
  have hkl : k < T.length := (List.getElem?_eq_some_iff.1 H.at_).1
  have hTl := H.len
  have HW := Lib.hid hW
  have HR := Lib.hid (And.intro cW (And.intro r0 (And.intro r1 sW)))
  have HX := Lib.hid (And.intro H (And.intro hS hbS))
  have x0 : W.cell? ⟨w.heap.size, 0, none⟩ = some (.int .i64 t.1.f) := r0.cell 0
  have x1 : W.cell? ⟨w.heap.size, 1, none⟩ = some (.int .i64 t.1.n) := r0.cell 1
  have x2 : W.cell? ⟨w.heap.size, 2, none⟩ = some (.int .i64 t.1.b.length) := r0.cell 2
  clear h hb hW cW r0 r1 hS hbS H
  generalize hq : T.length = q at *
  have HQ := Lib.hid hq
  clear hq
  have HLE := Lib.hid (And.intro hle (And.intro hfe hp))
  have n1 : ((secN l.length : Int) == (t.1.n : Int)) = false := beq_eq_false_iff_ne.2 (by omega)
  have n2 : (secN l.length == t.1.n) = false := beq_eq_false_iff_ne.2 hs
  clear hs hle hfe hp
  have t0 : decide ((k : Int) < 0) = false := decide_eq_false (by omega)
  go_enter Tryz.func37, Tryz.ntmps37
  go_wp2_with (first
    | (rw [HW.out])
    | (go_at_call 72
       refine HFI.out.mono ?_
       rintro e w2 ⟨rfl, c2⟩
       have H2 := Lib.hid (And.intro (HR.out.2.1.keep c2 (fun f => f)) (And.intro (HR.out.2.2.1.keep c2 (fun f => f)) (And.intro (HR.out.1.trans c2) c2.size)))
       clear c2)
    | (go_at_call 73
       refine (Without04_any _ T _ _ (HX.out.2.1.keep H2.out.2.2.1 (fun _ _ f => f)) (by rw [HQ.out]; exact hTl) k (by omega)).mono ?_
       rintro e w3 ⟨v3, rfl, ho3, c3⟩
       obtain ⟨A3, d3, rfl⟩ := own_form ho3
       have r3 := H2.out.1.keep c3 (fun f => f)
       have H3 := Lib.hid (And.intro ho3 (And.intro r3 (And.intro (H2.out.2.1.keep c3 (fun f => f)) (And.intro (H2.out.2.2.1.trans c3) (And.intro c3.size H2.out.2.2.2)))))
       obtain ⟨x0, x1, x2, -⟩ := r3.three
       have y0 : ∀ v, Chg No w3 v → v.cell? ⟨w.heap.size, 1, none⟩ = some (.int .i64 t.1.n) := fun v hv => (H3.out.2.1.keep hv (fun f => f)).cell 1
       clear ho3 c3 r3)
    | fail)
  refine q_region (C := (Chg No w3)) (by kernel_rfl) (by kernel_rfl) ?_ ?_
  · exact (Chg.refl _ _).drew
  repeat
    refine q_step (fun K hK => ?_)
    go_simp
    first
      | ((with_reducible refine hK _ ?_); clear hK K)
      | (refine (if_neg (by simp [undef])).mpr ?_; (with_reducible refine hK _ ?_); clear hK K)
      | (apply Exists.intro
         with_reducible refine ⟨fun v hv => ?_, hK _ ?_⟩
         · first
             | with_reducible exact rfl
             | with_reducible exact ⟨rfl, rfl⟩
             | (go_simp
                first
                  | done
                  | with_reducible exact rfl
                  | with_reducible exact ⟨rfl, rfl⟩
                  | (go_at_call 62; refine (HSEC.out _).mono ?_; rintro e w' ⟨rfl, rfl⟩; exact ⟨rfl, hv⟩))
         clear hK K)
  refine q_nil ?_
  intro V hV
  have q5 := H3.out.2.2.1.keep hV (fun f => f)
  have hR5 : Row4 V (fun _ => True) (.slice A3 (T.eraseIdx k).length d3) (T.eraseIdx k) := ⟨(Slc.of_own (own_keep (F := No) H3.out.1 hV (fun _ _ f => f))).more (fun b _ hb => True.intro), fun u hu => ((HX.out.2.1.keep (H3.out.2.2.2.1.trans hV) (fun _ _ f => f)).2 u (List.mem_of_mem_eraseIdx hu)).more (fun b _ hb => True.intro)⟩
  go_wp2_with (first
    | (go_at_call 29
       refine (Put04_none _ _ (T.eraseIdx k) l _ _ _ hR5 (by have := HLE.out.1; omega) N hN HLE.out.2.1 (HX.out.2.2.keep (H3.out.2.2.2.1.trans hV) (fun _ _ f => f)) hl HLE.out.2.2).mono ?_
       rintro e w6 ⟨v6, rfl, rfl, c6⟩
       obtain ⟨W7, hW7⟩ : ∃ W, w6.alloc (.cells #[.int .i64 0, .int .i64 0, .int .i64 0] 47) = W := ⟨_, rfl⟩
       have c7 : Chg No w6 W7 := by rw [← hW7]; exact (Chg.refl _ _).alloc _
       have q7 := (q5.keep c6 (fun f => f)).keep c7 (fun f => f)
       have x7 : Row W7 w6.heap.size 47 #[.int .i64 0, .int .i64 0, .int .i64 0] := by rw [← hW7]; exact Row.new _ _ _
       have hs6 : w.heap.size + 1 < w6.heap.size := by have h1 := c6.size; have h2 := hV.size; have h3 := H3.out.2.2.2.2; omega
       have c07 := H3.out.2.2.2.1.trans (hV.trans (c6.trans c7))
       obtain ⟨W8, hW8⟩ : ∃ W, ((W7.setCell ⟨w6.heap.size, 0, none⟩ (.int .i64 0)).setCell ⟨w6.heap.size, 1, none⟩ (.int .i64 0)).setCell ⟨w6.heap.size, 2, none⟩ (.int .i64 0) = W := ⟨_, rfl⟩
       have q8 : Row W8 (w.heap.size + 1) 47 #[.int .i64 0, .int .i64 0, .int .i64 0] := by rw [← hW8]; exact ((q7.other (by simp; omega) _).other (by simp; omega) _).other (by simp; omega) _
       have c08 : Chg No w W8 := by rw [← hW8]; exact c07.three (by omega) _ _ _
       have H7 := Lib.hid (And.intro q8 c08)
       have HW7 := Lib.hid hW7
       have HW8 := Lib.hid hW8
       obtain ⟨p0, p1, p2, pf⟩ := q8.three
       obtain ⟨x0, x1, x2, xf⟩ := x7.three
       clear c6 hW7 c7 q7 x7 hW8 q8 c08 c07)
    | (rw [HW7.out])
    | (rw [HW8.out])
    | fail)
  obtain ⟨z0, z1, z2, -⟩ := (H7.out.1.set3 (.int .i64 0) (.int .i64 0) (.int .i64 0)).three
  exact bodyPost_ret (v := .tuple #[.slice A q c, .agg #[.int .i64 0, .int .i64 0, .int .i64 0], .int .i64 3]) (by simp [results, Tryz.results37, go_sem, z0, z1, z2]) rfl (Ret.mk ⟨_, _, _, rfl, (H7.out.2.three (Nat.le_succ _) _ _ _)⟩)

set_option maxRecDepth 100000 in
set_option maxHeartbeats 800000 in
theorem Set04_some (v bv : Value) (T : List T4) (l : List Int) (S S2 : Nat → Prop) (w : World) (h : Row4 w S v T) (N : Nat) (hN : N ≤ 20000) (hb : ByteS w S2 bv l) (hl : l.length ≤ 1000000) {k f : Nat} {t : T4} (H : Set4 T N k t) (hs : secN l.length ≠ t.1.n) (hp : placeX ((T.eraseIdx k).map (·.1)) N (secN l.length) = some f) :
    Calls Tryz.prog 37 #[v, .int .i64 N, .agg #[.int .i64 t.1.f, .int .i64 t.1.n, .int .i64 t.1.b.length], bv] w (Ret fun u w' => ∃ A n c, u = .tuple #[.slice A n c, .agg #[.int .i64 f, .int .i64 (secN l.length), .int .i64 l.length], .int .i64 0] ∧ Chg No w w') := by
  have hle : (T.eraseIdx k).length ≤ T.length := List.length_eraseIdx_le _ _
  have hfe : ∀ x ∈ (T.eraseIdx k).map (·.1), x.f + x.n ≤ N := fun x hx => by
    obtain ⟨u, hu, rfl⟩ := List.mem_map.1 hx
    exact H.fits _ (List.mem_map.2 ⟨u, List.mem_of_mem_eraseIdx hu, rfl⟩)
  obtain ⟨B, cb, rfl, -⟩ := hb.form
  obtain ⟨A, c, rfl, -⟩ := h.form
  have hsn : secN l.length ≤ 1000000 := by unfold secN; omega
  obtain ⟨W, hW⟩ : ∃ W, (w.alloc (.cells #[.int .i64 t.1.f, .int .i64 t.1.n, .int .i64 t.1.b.length] 47)).alloc (.cells #[.int .i64 0, .int .i64 0, .int .i64 0] 47) = W := ⟨_, rfl⟩
  have cW : Chg No w W := by rw [← hW]; exact ((Chg.refl _ _).alloc _).alloc _
  have sW : W.heap.size = w.heap.size + 1 + 1 := by rw [← hW]; simp
  have r0 : Row W w.heap.size 47 #[.int .i64 t.1.f, .int .i64 t.1.n, .int .i64 t.1.b.length] := by rw [← hW]; exact (Row.new w _ _).alloc _
  have r1 : Row W (w.heap.size + 1) 47 #[.int .i64 0, .int .i64 0, .int .i64 0] := by rw [← hW]; simpa using Row.new (w.alloc (.cells #[.int .i64 t.1.f, .int .i64 t.1.n, .int .i64 t.1.b.length] 47)) 47 #[.int .i64 0, .int .i64 0, .int .i64 0]
  have hS := h.more (S' := fun b => b < w.heap.size) (fun b hb _ => hb)
  have hbS := hb.more (S' := fun b => b < w.heap.size) (fun b hb _ => hb)
  have HFI := Lib.hid (Find04_hit _ T _ W (hS.keep cW (fun _ _ f => f)) H.len k t.1.ex H.at_ rfl H.first)
  have HSEC := Lib.hid (fun w => Sectors4_any l.length (by omega) w)
  have hkl : k < T.length := (List.getElem?_eq_some_iff.1 H.at_).1
  have hTl := H.len
  have HW := Lib.hid hW
  have HR := Lib.hid (And.intro cW (And.intro r0 (And.intro r1 sW)))
  have HX := Lib.hid (And.intro H (And.intro hS hbS))
  have x0 : W.cell? ⟨w.heap.size, 0, none⟩ = some (.int .i64 t.1.f) := r0.cell 0
  have x1 : W.cell? ⟨w.heap.size, 1, none⟩ = some (.int .i64 t.1.n) := r0.cell 1
  have x2 : W.cell? ⟨w.heap.size, 2, none⟩ = some (.int .i64 t.1.b.length) := r0.cell 2
  clear h hb hW cW r0 r1 hS hbS H
  generalize hq : T.length = q at *
  have HQ := Lib.hid hq
  clear hq
  have HLE := Lib.hid (And.intro hle (And.intro hfe hp))
  have n1 : ((secN l.length : Int) == (t.1.n : Int)) = false := beq_eq_false_iff_ne.2 (by omega)
  have n2 : (secN l.length == t.1.n) = false := beq_eq_false_iff_ne.2 hs
  clear hs hle hfe hp
  have t0 : decide ((k : Int) < 0) = false := decide_eq_false (by omega)
  go_enter Tryz.func37, Tryz.ntmps37
  go_wp2_with (first
    | (rw [HW.out])
    | (go_at_call 72
       refine HFI.out.mono ?_
       rintro e w2 ⟨rfl, c2⟩
       have H2 := Lib.hid (And.intro (HR.out.2.1.keep c2 (fun f => f)) (And.intro (HR.out.2.2.1.keep c2 (fun f => f)) (And.intro (HR.out.1.trans c2) c2.size)))
       clear c2)
    | (go_at_call 73
       refine (Without04_any _ T _ _ (HX.out.2.1.keep H2.out.2.2.1 (fun _ _ f => f)) (by rw [HQ.out]; exact hTl) k (by omega)).mono ?_
       rintro e w3 ⟨v3, rfl, ho3, c3⟩
       obtain ⟨A3, d3, rfl⟩ := own_form ho3
       have r3 := H2.out.1.keep c3 (fun f => f)
       have H3 := Lib.hid (And.intro ho3 (And.intro r3 (And.intro (H2.out.2.1.keep c3 (fun f => f)) (And.intro (H2.out.2.2.1.trans c3) (And.intro c3.size H2.out.2.2.2)))))
       obtain ⟨x0, x1, x2, -⟩ := r3.three
       have y0 : ∀ v, Chg No w3 v → v.cell? ⟨w.heap.size, 1, none⟩ = some (.int .i64 t.1.n) := fun v hv => (H3.out.2.1.keep hv (fun f => f)).cell 1
       clear ho3 c3 r3)
    | fail)
  refine q_region (C := (Chg No w3)) (by kernel_rfl) (by kernel_rfl) ?_ ?_
  · exact (Chg.refl _ _).drew
  repeat
    refine q_step (fun K hK => ?_)
    go_simp
    first
      | ((with_reducible refine hK _ ?_); clear hK K)
      | (refine (if_neg (by simp [undef])).mpr ?_; (with_reducible refine hK _ ?_); clear hK K)
      | (apply Exists.intro
         with_reducible refine ⟨fun v hv => ?_, hK _ ?_⟩
         · first
             | with_reducible exact rfl
             | with_reducible exact ⟨rfl, rfl⟩
             | (go_simp
                first
                  | done
                  | with_reducible exact rfl
                  | with_reducible exact ⟨rfl, rfl⟩
                  | (go_at_call 62; refine (HSEC.out _).mono ?_; rintro e w' ⟨rfl, rfl⟩; exact ⟨rfl, hv⟩))
         clear hK K)
  refine q_nil ?_
  intro V hV
  have q5 := H3.out.2.2.1.keep hV (fun f => f)
  have hR5 : Row4 V (fun _ => True) (.slice A3 (T.eraseIdx k).length d3) (T.eraseIdx k) := ⟨(Slc.of_own (own_keep (F := No) H3.out.1 hV (fun _ _ f => f))).more (fun b _ hb => True.intro), fun u hu => ((HX.out.2.1.keep (H3.out.2.2.2.1.trans hV) (fun _ _ f => f)).2 u (List.mem_of_mem_eraseIdx hu)).more (fun b _ hb => True.intro)⟩
  go_wp2_with (first
    | (go_at_call 29
       refine (Put04_some _ _ (T.eraseIdx k) l _ _ _ hR5 (by have := HLE.out.1; omega) N hN HLE.out.2.1 (HX.out.2.2.keep (H3.out.2.2.2.1.trans hV) (fun _ _ f => f)) hl HLE.out.2.2).mono ?_
       rintro e w6 ⟨v6, rfl, A6, n6, c6', rfl, c6⟩
       obtain ⟨W7, hW7⟩ : ∃ W, w6.alloc (.cells #[.int .i64 f, .int .i64 (secN l.length), .int .i64 l.length] 47) = W := ⟨_, rfl⟩
       have c7 : Chg No w6 W7 := by rw [← hW7]; exact (Chg.refl _ _).alloc _
       have q7 := (q5.keep c6 (fun f => f)).keep c7 (fun f => f)
       have x7 : Row W7 w6.heap.size 47 #[.int .i64 f, .int .i64 (secN l.length), .int .i64 l.length] := by rw [← hW7]; exact Row.new _ _ _
       have hs6 : w.heap.size + 1 < w6.heap.size := by have h1 := c6.size; have h2 := hV.size; have h3 := H3.out.2.2.2.2; omega
       have H7 := Lib.hid (And.intro q7 (H3.out.2.2.2.1.trans (hV.trans (c6.trans c7))))
       have HW7 := Lib.hid hW7
       obtain ⟨p0, p1, p2, pf⟩ := q7.three
       obtain ⟨x0, x1, x2, -⟩ := x7.three
       clear c6 hW7 c7 q7 x7)
    | (rw [HW7.out])
    | fail)
  go_region_law (fail)
  all_goals
    go_wp2_with fail
    obtain ⟨z0, z1, z2, -⟩ := (H7.out.1.set3 (.int .i64 f) (.int .i64 (secN l.length)) (.int .i64 l.length)).three
    exact bodyPost_ret (v := .tuple #[.slice A6 n6 c6', .agg #[.int .i64 f, .int .i64 (secN l.length), .int .i64 l.length], .int .i64 0]) (by simp [results, Tryz.results37, go_sem, z0, z1, z2]) rfl (Ret.mk ⟨_, _, _, rfl, (H7.out.2.three (Nat.le_succ _) _ _ _).drew⟩)

end Go.Proofs.YtdpmmafkomchaaaGreat
