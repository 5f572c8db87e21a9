/- Objects on a disk, by the document: rows of websterref06: an object, its number, where it stands. · Objects on a disk, by the document: websterref06's rows, Find, Used, Ids, in. -/
import Derived.Test.YtdpmmafkomchaaaGreatSecS1S
import Derived.Test.YtdpmmafkomchaaaGreatDo6
import Derived.Test.YtdpmmafkomchaaaGreatApp2
import Derived.Test.YtdpmmafkomchaaaGreatCopy05
import Derived.Test.YtdpmmafkomchaaaGreatSecS26
import Derived.Test.YtdpmmafkomchaaaGreatEnc05
namespace Go.Proofs.YtdpmmafkomchaaaGreat
set_option linter.unusedVariables false
set_option linter.unusedSimpArgs false
open Go.RowKit

/-- a row of the document's space: its object's slices beside it -/
abbrev T8 := Rw × Value × Value
def cells8 (t : T8) : Array Value := #[.int .i64 t.1.id, .int .i64 t.1.o.cls, .int .i64 t.1.o.kind, t.2.1, t.2.2, .int .i64 t.1.f, .int .i64 t.1.xt.n, .int .i64 (encB t.1.o).length]
def cellsS (T : List T8) : List Value := T.flatMap fun t => (cells8 t).toList
def ok8 (w : World) (S : Nat → Prop) (t : T8) : Prop := In64 t.1.id ∧ okT w S (t.1.o, t.2.1, t.2.2)
theorem ok8.keep {w w' : World} {S F : Nat → Prop} {t : T8} (h : ok8 w S t) (c : Chg F w w') (hS : ∀ b, S b → ¬ F b) : ok8 w' S t := ⟨h.1, h.2.keep c hS⟩
theorem ok8.more {w : World} {S S' : Nat → Prop} {t : T8} (h : ok8 w S t) (hS : ∀ b, b < w.heap.size → S b → S' b) : ok8 w S' t := ⟨h.1, h.2.more hS⟩
def R8 (w : World) (S : Nat → Prop) (v : Value) (T : List T8) : Prop := Slc w S 8 v T.length (cellsS T) ∧ ∀ t ∈ T, ok8 w S t
theorem R8.keep {w w' : World} {S F : Nat → Prop} {v : Value} {T : List T8} (h : R8 w S v T) (c : Chg F w w') (hS : ∀ b, S b → ¬ F b) : R8 w' S v T := ⟨h.1.keep c hS, fun t ht => (h.2 t ht).keep c hS⟩
theorem R8.more {w : World} {S S' : Nat → Prop} {v : Value} {T : List T8} (h : R8 w S v T) (hS : ∀ b, b < w.heap.size → S b → S' b) : R8 w S' v T := ⟨h.1.more hS, fun t ht => (h.2 t ht).more hS⟩
theorem R8.nil (w : World) (S : Nat → Prop) : R8 w S (.slice none 0 0) [] := ⟨Slc.nil w S 8, by simp⟩
theorem R8.form {w : World} {S : Nat → Prop} {v : Value} {T : List T8} (h : R8 w S v T) : ∃ A c, v = .slice A T.length c ∧ T.length ≤ c ∧ c ≤ maxLen ∧ (A = none → c = 0) := by
  obtain ⟨A, c, rfl, -, h2, h3, h4, -⟩ := h.1
  exact ⟨A, c, rfl, h2, h3, h4⟩
theorem cells8_len (t : T8) : (cells8 t).toList.length = 8 := by simp [cells8]
theorem cellsS_len : ∀ T : List T8, (cellsS T).length = T.length * 8
  | [] => rfl
  | t :: T => by
    have ih := cellsS_len T
    unfold cellsS at ih ⊢
    rw [List.flatMap_cons, List.length_append, ih, cells8_len, List.length_cons]
    omega
theorem cellsS_at : ∀ (T : List T8) (i : Nat) (t : T8), T[i]? = some t → ∀ j, j < 8 → (cellsS T)[8 * i + j]? = (cells8 t)[j]?
  | [], i, t, h, _, _ => by simp at h
  | x :: T, 0, t, h, j, hj => by
    simp at h
    subst h
    have hx := cells8_len x
    rw [cellsS, List.flatMap_cons, List.getElem?_append_left (by omega)]
    simp
  | x :: T, i + 1, t, h, j, hj => by
    have hx := cells8_len x
    have ih := cellsS_at T i t (by simpa using h) j hj
    rw [cellsS, List.flatMap_cons, List.getElem?_append_right (by omega), hx, show 8 * (i + 1) + j - 8 = 8 * i + j by omega]
    exact ih
theorem cellsS_app (T T' : List T8) : cellsS (T ++ T') = cellsS T ++ cellsS T' := by simp [cellsS]
theorem cellsS_take (T : List T8) (k : Nat) (hk : k ≤ T.length) : cellsS (T.take k) = (cellsS T).take (k * 8) := by
  have e : cellsS T = cellsS (T.take k) ++ cellsS (T.drop k) := by rw [← cellsS_app, List.take_append_drop]
  rw [e, List.take_left' (by rw [cellsS_len, List.length_take]; omega)]
theorem cellsS_drop (T : List T8) (k : Nat) (hk : k ≤ T.length) : cellsS (T.drop k) = (cellsS T).drop (k * 8) := by
  have e : cellsS T = cellsS (T.take k) ++ cellsS (T.drop k) := by rw [← cellsS_app, List.take_append_drop]
  rw [e, List.drop_left' (by rw [cellsS_len, List.length_take]; omega)]
theorem cellsS_set : ∀ (T : List T8) (i : Nat) (t : T8), i < T.length → cellsS (T.set i t) = ((((((((cellsS T).set (i * 8) (.int .i64 t.1.id)).set (i * 8 + 1) (.int .i64 t.1.o.cls)).set (i * 8 + 2) (.int .i64 t.1.o.kind)).set (i * 8 + 3) t.2.1).set (i * 8 + 4) t.2.2).set (i * 8 + 5) (.int .i64 t.1.f)).set (i * 8 + 6) (.int .i64 t.1.xt.n)).set (i * 8 + 7) (.int .i64 (encB t.1.o).length)
  | [], _, _, h => by simp at h
  | x :: T, 0, t, _ => by simp [cellsS, cells8]
  | x :: T, i + 1, t, h => by
    have ih := cellsS_set T i t (by simpa using h)
    rw [List.set_cons_succ, show cellsS (x :: T.set i t) = (cells8 x).toList ++ cellsS (T.set i t) from by simp [cellsS], show cellsS (x :: T) = (cells8 x).toList ++ cellsS T from by simp [cellsS], ih]
    have e0 : (i + 1) * 8 = (i * 8) + 8 := by omega
    have e1 : (i + 1) * 8 + 1 = (i * 8 + 1) + 8 := by omega
    have e2 : (i + 1) * 8 + 2 = (i * 8 + 2) + 8 := by omega
    have e3 : (i + 1) * 8 + 3 = (i * 8 + 3) + 8 := by omega
    have e4 : (i + 1) * 8 + 4 = (i * 8 + 4) + 8 := by omega
    have e5 : (i + 1) * 8 + 5 = (i * 8 + 5) + 8 := by omega
    have e6 : (i + 1) * 8 + 6 = (i * 8 + 6) + 8 := by omega
    have e7 : (i + 1) * 8 + 7 = (i * 8 + 7) + 8 := by omega
    rw [e1, e2, e3, e4, e5, e6, e7, e0]
    simp [cells8]
theorem R8.at {w : World} {S : Nat → Prop} {A : Option Addr} {n c : Nat} {T : List T8} (h : R8 w S (.slice A n c) T) {i : Nat} {t : T8} (hi : T[i]? = some t) : ∃ b off, A = some ⟨b, off, none⟩ ∧ n = T.length ∧ b < w.heap.size ∧ ok8 w S t ∧
    w.cell? ⟨b, off + i * 8, none⟩ = some (.int .i64 t.1.id) ∧ w.cell? ⟨b, off + i * 8 + 1, none⟩ = some (.int .i64 t.1.o.cls) ∧ w.cell? ⟨b, off + i * 8 + 1 + 1, none⟩ = some (.int .i64 t.1.o.kind) ∧ w.cell? ⟨b, off + i * 8 + 1 + 2, none⟩ = some t.2.1 ∧
    w.cell? ⟨b, off + i * 8 + 1 + 3, none⟩ = some t.2.2 ∧ w.cell? ⟨b, off + i * 8 + 5, none⟩ = some (.int .i64 t.1.f) ∧ w.cell? ⟨b, off + i * 8 + 5 + 1, none⟩ = some (.int .i64 t.1.xt.n) ∧ w.cell? ⟨b, off + i * 8 + 5 + 2, none⟩ = some (.int .i64 (encB t.1.o).length) := by
  obtain ⟨⟨A', c', e, hl, h1, h2, h0, h3⟩, hok⟩ := h
  obtain ⟨rfl, rfl, rfl⟩ := Value.slice.inj e
  have hil : i < T.length := (List.getElem?_eq_some_iff.1 hi).1
  obtain ⟨b, off, rfl, hS, hb, hc⟩ := h3 (by omega)
  have hcell := fun j hj u hu => hc (8 * i + j) u ((cellsS_at T i _ hi j hj).trans hu)
  refine ⟨b, off, rfl, rfl, hb, hok t (List.mem_of_getElem? hi), ?_, ?_, ?_, ?_, ?_, ?_, ?_, ?_⟩
  · rw [Nat.mul_comm]; exact hcell 0 (by omega) _ rfl
  · rw [Nat.mul_comm, Nat.add_assoc]; exact hcell 1 (by omega) _ rfl
  · rw [Nat.mul_comm, Nat.add_assoc, Nat.add_assoc]; exact hcell 2 (by omega) _ rfl
  · rw [Nat.mul_comm, Nat.add_assoc, Nat.add_assoc]; exact hcell 3 (by omega) _ rfl
  · rw [Nat.mul_comm, Nat.add_assoc, Nat.add_assoc]; exact hcell 4 (by omega) _ rfl
  · rw [Nat.mul_comm, Nat.add_assoc]; exact hcell 5 (by omega) _ rfl
  · rw [Nat.mul_comm, Nat.add_assoc, Nat.add_assoc]; exact hcell 6 (by omega) _ rfl
  · rw [Nat.mul_comm, Nat.add_assoc, Nat.add_assoc]; exact hcell 7 (by omega) _ rfl
/-- the first k rows -/
theorem Slc.takeN {w : World} {S : Nat → Prop} {sz : Nat} {A : Option Addr} {n c : Nat} {cs : List Value} (h : Slc w S sz (.slice A n c) n cs) (k : Nat) (hk : k ≤ n) : Slc w S sz (.slice A k c) k (cs.take (k * sz)) := by
  obtain ⟨A', c', e, e1, e2, e3, e4, e5⟩ := h
  obtain ⟨rfl, -, rfl⟩ := Value.slice.inj e
  refine ⟨A, c, rfl, by rw [List.length_take, e1, Nat.min_eq_left (Nat.mul_le_mul_right _ hk)], by omega, e3, e4, fun h0 => ?_⟩
  obtain ⟨b, off, e6, e7, e8, e9⟩ := e5 (by omega)
  refine ⟨b, off, e6, e7, e8, fun i u hu => e9 i u ?_⟩
  rw [List.getElem?_take] at hu
  split at hu
  · exact hu
  · cases hu
/-- the rows behind the first k -/
theorem Slc.dropN {w : World} {S : Nat → Prop} {sz : Nat} {b off n c : Nat} {cs : List Value} (h : Slc w S sz (.slice (some ⟨b, off, none⟩) n c) n cs) (k : Nat) (hk : k ≤ n) (hS : S b ∧ b < w.heap.size) : Slc w S sz (.slice (some ⟨b, off + k * sz, none⟩) (n - k) (c - k)) (n - k) (cs.drop (k * sz)) := by
  obtain ⟨A', c', e, e1, e2, e3, e4, e5⟩ := h
  obtain ⟨rfl, -, rfl⟩ := Value.slice.inj e
  refine ⟨_, _, rfl, by rw [List.length_drop, e1, Nat.sub_mul], by omega, by omega, (fun h => by cases h), fun h0 => ?_⟩
  obtain ⟨b', off', e6, e7, e8, e9⟩ := e5 (by omega)
  obtain ⟨rfl, rfl, -⟩ := Addr.mk.inj (Option.some.inj e6)
  refine ⟨b, off + k * sz, rfl, e7, e8, fun i u hu => ?_⟩
  rw [List.getElem?_drop] at hu
  rw [Nat.add_assoc]
  exact e9 _ u hu
theorem Slc.emptyN (w : World) (S : Nat → Prop) (sz : Nat) (b off : Nat) (hS : S b ∧ b < w.heap.size) : Slc w S sz (.slice (some ⟨b, off, none⟩) 0 0) 0 [] :=
  ⟨_, _, rfl, by simp, Nat.le_refl _, Nat.zero_le _, (fun h => by cases h), fun h => absurd h (by omega)⟩

/-- the document's rows L -/
def SpR (w : World) (S : Nat → Prop) (v : Value) (L : List Rw) : Prop := ∃ T : List T8, T.map (·.1) = L ∧ R8 w S v T
theorem SpR.keep {w w' : World} {S F : Nat → Prop} {v : Value} {L : List Rw} (h : SpR w S v L) (c : Chg F w w') (hS : ∀ b, S b → ¬ F b) : SpR w' S v L := by
  obtain ⟨T, e, h⟩ := h
  exact ⟨T, e, h.keep c hS⟩
theorem SpR.more {w : World} {S S' : Nat → Prop} {v : Value} {L : List Rw} (h : SpR w S v L) (hS : ∀ b, b < w.heap.size → S b → S' b) : SpR w S' v L := by
  obtain ⟨T, e, h⟩ := h
  exact ⟨T, e, h.more hS⟩
theorem SpR.nil (w : World) (S : Nat → Prop) : SpR w S (.slice none 0 0) [] := ⟨[], rfl, R8.nil w S⟩
/-- one row, read: in every world that keeps it -/
theorem R8.elem {w : World} {S : Nat → Prop} {A : Option Addr} {n c : Nat} {T : List T8} (h : R8 w S (.slice A n c) T) {i : Nat} {t : T8} (hi : T[i]? = some t) : ∃ b off A1 c1 A2 c2, A = some ⟨b, off, none⟩ ∧ n = T.length ∧ t.2.1 = .slice A1 t.1.o.W.length c1 ∧ t.2.2 = .slice A2 t.1.o.B.length c2 ∧
    ∀ W, Chg No w W → ObjR W S (.agg (cells2 t.1.o t.2.1 t.2.2)) t.1.o ∧ In64 t.1.id ∧ W.cell? ⟨b, off + i * 8, none⟩ = some (.int .i64 t.1.id) ∧ W.cell? ⟨b, off + i * 8 + 1, none⟩ = some (.int .i64 t.1.o.cls) ∧ W.cell? ⟨b, off + i * 8 + 1 + 1, none⟩ = some (.int .i64 t.1.o.kind) ∧
    W.cell? ⟨b, off + i * 8 + 1 + 2, none⟩ = some t.2.1 ∧ W.cell? ⟨b, off + i * 8 + 1 + 3, none⟩ = some t.2.2 ∧ W.cell? ⟨b, off + i * 8 + 5, none⟩ = some (.int .i64 t.1.f) ∧ W.cell? ⟨b, off + i * 8 + 5 + 1, none⟩ = some (.int .i64 t.1.xt.n) ∧ W.cell? ⟨b, off + i * 8 + 5 + 2, none⟩ = some (.int .i64 (encB t.1.o).length) := by
  obtain ⟨b, off, e, hn, -, hok, -⟩ := h.at hi
  obtain ⟨A1, c1, e1, -⟩ := hok.2.1.form
  obtain ⟨A2, c2, e2, -⟩ := hok.2.2.1.form
  refine ⟨b, off, A1, c1, A2, c2, e, hn, e1, e2, fun W hW => ?_⟩
  obtain ⟨b', off', e', -, -, hok', hc⟩ := (h.keep hW (fun _ _ f => f)).at hi
  obtain ⟨rfl, rfl⟩ : b = b' ∧ off = off' := by rw [e] at e'; simpa using e'
  exact ⟨⟨_, _, rfl, hok'.2⟩, hok'.1, hc⟩

set_option maxRecDepth 100000 in
set_option maxHeartbeats 400000 in
theorem Find06_any (v : Value) (T : List T8) (S : Nat → Prop) (w : World) (h : R8 w S v T) (hm : T.length ≤ 1048576) (a m id : Int) :
    Calls Tryz.prog 10 #[.agg #[v, .int .i64 a, .int .i64 m], .int .i64 id] w fun e w' => e = .returned (.int .i64 (posR (T.map (·.1)) id)) ∧ Chg No w w' := by
  obtain ⟨A, c, rfl, -⟩ := h.form
  have HX := Lib.hid h
  obtain ⟨r, hr⟩ : ∃ r, posR (T.map (·.1)) id = r := ⟨_, rfl⟩
  rw [hr]
  have HR := Lib.hid hr
  generalize hn : T.length = n at *
  have HN := Lib.hid hn
  clear h hn hr
  go_enter Tryz.func10, Tryz.ntmps10
  go_wp2_with fail
  go_loopg [5] n (fun j v5 wr => ∃ i : Nat, v5 = .int .i64 (i : Int) ∧ i ≤ n ∧ n - i ≤ j ∧ (∀ x ∈ (T.map (·.1)).take i, x.id ≠ id) ∧ Row wr w.heap.size 32 #[.slice A n c, .int .i64 a, .int .i64 m] ∧ Chg No w wr)
  case atStart => exact ⟨0, rfl, by omega, by omega, by simp, Row.new w _ _, (Chg.refl _ _).alloc _⟩
  case round =>
    obtain ⟨i, rfl, i1, i2, hb, row, cw⟩ := hrel
    obtain ⟨z0, z1, z2, -⟩ := row.three
    by_cases hi : i < n
    · have t1 : decide ((i : Int) < (n : Int)) = true := decide_eq_true (by omega)
      have t0 : (i : Int) < (n : Int) := by omega
      obtain ⟨t, ht⟩ : ∃ t, T[i]? = some t := ⟨_, List.getElem?_eq_getElem (by rw [HN.out]; omega)⟩
      obtain ⟨b, off, A1, c1, A2, c2, rfl, -, -, -, hc⟩ := HX.out.elem ht
      obtain ⟨-, -, d0, -⟩ := hc wr cw
      have htm : (T.map (·.1))[i]? = some t.1 := by rw [List.getElem?_map, ht]; rfl
      have HC := Lib.hid (And.intro cw (And.intro row (And.intro hb htm)))
      clear hc cw row hb ht htm
      generalize hk : t.1.id = k at *
      by_cases hkid : k = id
      · subst hkid
        have hres := posR_hit HC.out.2.2.2 hk HC.out.2.2.1
        rw [HR.out] at hres
        have HE := Lib.hid hres
        clear hres hk
        go_wp2_with fail
        go_ret
        exact ⟨by rw [HE.out]; rfl, HC.out.1⟩
      · have n1 : (k == id) = false := beq_eq_false_iff_ne.2 hkid
        have HK := Lib.hid hk
        clear hk
        go_wp2_with fail
        go_roundg (n - (i + 1))
        case measure => omega
        case rel =>
          refine ⟨i + 1, by go_num, by omega, by omega, fun x hx => ?_, HC.out.2.1, HC.out.1⟩
          rw [List.take_add_one, HC.out.2.2.2] at hx
          rcases List.mem_append.1 hx with h1 | h1
          · exact HC.out.2.2.1 x h1
          · obtain rfl : x = t.1 := by simpa using h1
            rw [HK.out]; exact hkid
    · obtain rfl : i = n := by omega
      have t1 : decide ((i : Int) < (i : Int)) = false := decide_eq_false (by omega)
      rw [List.take_of_length_le (by rw [List.length_map, HN.out]; exact Nat.le_refl _)] at hb
      have hres := posR_miss hb
      rw [HR.out] at hres
      subst hres
      clear hb
      go_wp2_with fail
      go_ret
      exact ⟨rfl, cw⟩

set_option maxRecDepth 100000 in
set_option maxHeartbeats 400000 in
theorem In06_any (v : Value) (l : List Int) (S : Nat → Prop) (w : World) (h : IntS w S v l) (hm : l.length ≤ 100000000) (k : Int) :
    Calls Tryz.prog 47 #[v, .int .i64 k] w fun e w' => e = .returned (.bool (decide (k ∈ l))) ∧ Chg No w w' := by
  obtain ⟨A, c, rfl, -⟩ := h.form
  have HX := Lib.hid h
  obtain ⟨r, hr⟩ : ∃ r, decide (k ∈ l) = r := ⟨_, rfl⟩
  rw [hr]
  have HR := Lib.hid hr
  generalize hn : l.length = n at *
  have HN := Lib.hid hn
  clear h hn hr
  go_enter Tryz.func47, Tryz.ntmps47
  go_wp2_with fail
  go_loopg [5] n (fun j v5 wr => ∃ i : Nat, v5 = .int .i64 (i : Int) ∧ i ≤ n ∧ n - i ≤ j ∧ k ∉ l.take i ∧ Chg No w wr)
  case atStart => exact ⟨0, rfl, by omega, by omega, by simp, Chg.refl _ _⟩
  case round =>
    obtain ⟨i, rfl, i1, i2, hb, cw⟩ := hrel
    by_cases hi : i < n
    · have t1 : decide ((i : Int) < (n : Int)) = true := decide_eq_true (by omega)
      have t0 : (i : Int) < (n : Int) := by omega
      obtain ⟨b, off, rfl, -, hc, -⟩ := (HX.out.keep cw (fun _ _ f => f)).at (i := i) (by rw [HN.out]; exact hi)
      obtain ⟨x, hx⟩ : ∃ x, l[i]? = some x := ⟨_, List.getElem?_eq_getElem (by rw [HN.out]; omega)⟩
      rw [hx, Option.getD_some] at hc
      have HC := Lib.hid (And.intro cw (And.intro hb hx))
      clear cw hb hx
      by_cases hk : x = k
      · subst hk
        have hres : decide (x ∈ l) = true := decide_eq_true (List.mem_of_getElem? HC.out.2.2)
        rw [HR.out] at hres
        subst hres
        go_wp2_with fail
        go_ret
        exact ⟨rfl, HC.out.1⟩
      · have n1 : (x == k) = false := beq_eq_false_iff_ne.2 hk
        go_wp2_with fail
        go_roundg (n - (i + 1))
        case measure => omega
        case rel =>
          refine ⟨i + 1, by go_num, by omega, by omega, fun hx => ?_, HC.out.1⟩
          rw [List.take_add_one, HC.out.2.2] at hx
          rcases List.mem_append.1 hx with h1 | h1
          · exact HC.out.2.1 h1
          · have e : k = x := by simpa using h1
            exact hk e.symm
    · obtain rfl : i = n := by omega
      have t1 : decide ((i : Int) < (i : Int)) = false := decide_eq_false (by omega)
      rw [List.take_of_length_le (by rw [HN.out]; exact Nat.le_refl _)] at hb
      have hres : decide (k ∈ l) = false := decide_eq_false hb
      rw [HR.out] at hres
      subst hres
      clear hb
      go_wp2_with fail
      go_ret
      exact ⟨rfl, cw⟩

set_option maxRecDepth 100000 in
set_option maxHeartbeats 400000 in
theorem Ids06_any (v : Value) (T : List T8) (S : Nat → Prop) (w : World) (h : R8 w S v T) (hm : T.length ≤ 1048576) (a m : Int) :
    Calls Tryz.prog 22 #[.agg #[v, .int .i64 a, .int .i64 m]] w (Ret fun u w' => OwnInts w' w.heap.size u ((T.map (·.1)).map Rw.id) ∧ Chg No w w') := by
  obtain ⟨A, c, rfl, -⟩ := h.form
  have HX := Lib.hid h
  generalize hn : T.length = n at *
  have HN := Lib.hid hn
  clear h hn
  go_enter Tryz.func22, Tryz.ntmps22
  go_wp2_with fail
  go_loopg [3, 4] n (fun j v3 v4 wr => ∃ i : Nat, v4 = .int .i64 (i : Int) ∧ i ≤ n ∧ n - i ≤ j ∧ OwnInts wr (w.heap.size + 1) v3 (((T.map (·.1)).take i).map Rw.id) ∧ Row wr w.heap.size 32 #[.slice A n c, .int .i64 a, .int .i64 m] ∧ Chg No w wr)
  case atStart => exact ⟨0, rfl, by omega, by omega, by rw [List.take_zero]; exact World.ownsRow_nil _ _ _ _, Row.new w _ _, (Chg.refl _ _).alloc _⟩
  case round =>
    obtain ⟨i, rfl, i1, i2, own, row, cw⟩ := hrel
    obtain ⟨z0, z1, z2, -⟩ := row.three
    obtain ⟨A3, c3, rfl⟩ := own.form
    by_cases hi : i < n
    · have t1 : decide ((i : Int) < (n : Int)) = true := decide_eq_true (by omega)
      have t0 : (i : Int) < (n : Int) := by omega
      obtain ⟨t, ht⟩ : ∃ t, T[i]? = some t := ⟨_, List.getElem?_eq_getElem (by rw [HN.out]; omega)⟩
      obtain ⟨b, off, A1, c1, A2, c2, rfl, -, -, -, hc⟩ := HX.out.elem ht
      obtain ⟨-, -, d0, -⟩ := hc wr cw
      have htm : (T.map (·.1))[i]? = some t.1 := by rw [List.getElem?_map, ht]; rfl
      have hsn : ((T.map (·.1)).take (i + 1)).map Rw.id = ((T.map (·.1)).take i).map Rw.id ++ [t.1.id] := by rw [List.take_add_one, htm]; simp
      have hlen : (((T.map (·.1)).take i).map Rw.id).length ≤ i := by simp; omega
      have hsz := row.lt
      obtain ⟨A5, c5, w5, hr5, ho5, cg5⟩ := app_one own (by omega) hsz t.1.id 23
      have row5 := row.keep cg5 (by simp)
      have cw5 : Chg No w w5 := cw.then cg5 (fun k hk hle => by omega)
      have HR := Lib.hid hr5
      have HC := Lib.hid (And.intro ho5 (And.intro row5 (And.intro cw5 hsn)))
      clear hc cw row own ht htm hr5 ho5 cg5 row5 cw5 hsn
      generalize (((T.map (·.1)).take i).map Rw.id).length = q at *
      generalize t.1.id = k at *
      go_wp2_with (first
        | (at_builtin; refine wpList_append_run rfl _ _ _ rfl rfl rfl HR.out ?_)
        | fail)
      go_roundg (n - (i + 1))
      case measure => omega
      case rel => exact ⟨i + 1, by go_num, by omega, by omega, by rw [HC.out.2.2.2]; exact HC.out.1, HC.out.2.1, HC.out.2.2.1⟩
    · obtain rfl : i = n := by omega
      have t1 : decide ((i : Int) < (i : Int)) = false := decide_eq_false (by omega)
      rw [List.take_of_length_le (by rw [List.length_map, HN.out]; exact Nat.le_refl _)] at own ⊢
      have HC := Lib.hid (And.intro (show OwnInts wr w.heap.size (.slice A3 ((T.map (·.1)).map Rw.id).length c3) ((T.map (·.1)).map Rw.id) from own_base own (Nat.le_succ _)) cw)
      clear own cw row
      generalize ((T.map (·.1)).map Rw.id).length = q at *
      go_wp2_with fail
      go_ret
      exact Ret.mk HC.out

/-- rows of extents under way: of the call's own, their bytes elsewhere -/
structure Rows4 (base : Nat) (wr : World) (v : Value) (Q : List T4) : Prop where
  own : Own4 wr base v Q
  el : ∀ q ∈ Q, ByteS wr (fun b => base ≤ b ∧ ¬ v.ownBlock = some b) q.2 q.1.b
theorem Rows4.nil (base : Nat) (wr : World) : Rows4 base wr (.slice none 0 0) [] := ⟨Own4.nil _ _, by simp⟩
theorem Rows4.keep {base : Nat} {wr w' : World} {v : Value} {Q : List T4} (h : Rows4 base wr v Q) (c : Chg No wr w') : Rows4 base w' v Q := ⟨own_keep (F := No) h.own c (fun _ _ f => f), fun q hq => (h.el q hq).keep c (fun _ _ f => f)⟩
theorem Rows4.app {base b4 : Nat} {wr : World} {v : Value} {Q : List T4} {t : T4} (h : Rows4 base wr v Q) (hB : base ≤ wr.heap.size) (hl : Q.length < 2000000000) (row : Row wr b4 122 (cells4 t)) {A1 : Option Addr} {n1 c1 : Nat} (h1 : t.2 = .slice A1 n1 c1) (hb : ByteS wr (fun b => base ≤ b ∧ ¬ v.ownBlock = some b) t.2 t.1.b) (ty : TypeId) :
    ∃ A c w', (Builtin.append_ #[76, 76] ty #[v, .slice (some ⟨b4, 0, none⟩) 1 1]).run Tryz.prog wr = .ok (.slice A (Q.length + 1) c) w' ∧ Rows4 base w' (.slice A (Q.length + 1) c) (Q ++ [t]) ∧ Chg (fun k => v.ownBlock = some k) wr w' := by
  obtain ⟨v', w5, hr, ho, hg, hn⟩ := run_app2 elem_row4 (by decide) h.own (Slc.row (S := fun _ => True) row 1 4 rfl (by unfold maxLen; omega) trivial) (by simp [cells4, Value.oneCell', h1]) (by unfold maxLen; omega) (by omega) hB ty
  obtain ⟨A, c, rfl⟩ := own_form ho
  have cg : Chg (fun b => v.ownBlock = some b) wr w5 := (Chg.refl _ _).grown hg (fun k hk => .inl hk)
  refine ⟨A, c, w5, hr, ⟨?_, fun q hq => ?_⟩, cg⟩
  · show World.ownsRow _ _ _ _ _ (Q ++ [t]).length (cellsR (Q ++ [t]))
    rw [cellsR_app, List.length_append]
    simpa [cellsR] using ho
  · have key : ByteS wr (fun b => (base ≤ b ∧ ¬ v.ownBlock = some b) ∧ b < wr.heap.size) q.2 q.1.b := by
      rcases List.mem_append.1 hq with h2 | h2
      · exact (h.el q h2).more (fun b hb hS => ⟨hS, hb⟩)
      · rw [List.mem_singleton.1 h2]
        exact hb.more (fun b hb hS => ⟨hS, hb⟩)
    refine (key.keep cg (fun b hb => hb.1.2)).more fun b _ hb => ⟨hb.1.1, fun hv => ?_⟩
    rcases hn b hv with h3 | h3
    · exact hb.1.2 h3
    · omega

set_option maxRecDepth 100000 in
set_option maxHeartbeats 800000 in
theorem Rows06_any (v : Value) (T : List T8) (S : Nat → Prop) (w : World) (h : R8 w S v T) (hm : T.length ≤ 1048576) (hok : ∀ t ∈ T, okB t.1.o = true) (a m : Int) :
    Calls Tryz.prog 30 #[.agg #[v, .int .i64 a, .int .i64 m]] w (Ret fun u w' => ∃ Q : List T4, Q.map (·.1) = (T.map (·.1)).map Rw.xt ∧ Row4 w' (fun b => w.heap.size ≤ b) u Q ∧ Chg No w w') := by
  obtain ⟨A, c, rfl, -⟩ := h.form
  have HX := Lib.hid h
  have HOK := Lib.hid hok
  generalize hn : T.length = n at *
  have HN := Lib.hid hn
  clear h hn hok
  go_enter Tryz.func30, Tryz.ntmps30
  go_wp2_with fail
  go_loopg [3, 4] n (fun j v3 v4 wr => ∃ (i : Nat) (Q : List T4), v4 = .int .i64 (i : Int) ∧ i ≤ n ∧ n - i ≤ j ∧ Q.map (·.1) = ((T.map (·.1)).take i).map Rw.xt ∧ Rows4 (w.heap.size + 1) wr v3 Q ∧ Row wr w.heap.size 32 #[.slice A n c, .int .i64 a, .int .i64 m] ∧ Chg No w wr)
  case atStart => exact ⟨0, [], rfl, by omega, by omega, by simp, Rows4.nil _ _, Row.new w _ _, (Chg.refl _ _).alloc _⟩
  case round =>
    obtain ⟨i, Q, rfl, i1, i2, hQ, own, row, cw⟩ := hrel
    obtain ⟨z0, z1, z2, -⟩ := row.three
    obtain ⟨A3, c3, rfl⟩ := own_form own.own
    have hQl : Q.length ≤ i := by
      have := congrArg List.length hQ
      rw [List.length_map, List.length_map, List.length_take] at this
      omega
    have hsz := row.lt
    by_cases hi : i < n
    · have t1 : decide ((i : Int) < (n : Int)) = true := decide_eq_true (by omega)
      have t0 : (i : Int) < (n : Int) := by omega
      obtain ⟨t, ht⟩ : ∃ t, T[i]? = some t := ⟨_, List.getElem?_eq_getElem (by rw [HN.out]; omega)⟩
      obtain ⟨b, off, A1, c1, A2, c2, rfl, -, e1, e2, hc⟩ := HX.out.elem ht
      obtain ⟨hob, h64, d0, d1, d2, d3, d4, -⟩ := hc wr cw
      rw [e1] at d3
      rw [e2] at d4
      rw [e1, e2] at hob
      have htm : (T.map (·.1))[i]? = some t.1 := by rw [List.getElem?_map, ht]; rfl
      have hQ2 : (Q ++ [(t.1.xt, undef)]).map (·.1) = ((T.map (·.1)).take (i + 1)).map Rw.xt := by rw [List.take_add_one, htm, List.map_append, hQ]; simp
      have hkB := HOK.out t (List.mem_of_getElem? ht)
      have hbB : ∀ x ∈ t.1.o.B, 0 ≤ x ∧ x ≤ 255 := by
        obtain ⟨wv, bv, -, -, hB, -⟩ := hob
        exact hB.2
      have HC := Lib.hid (And.intro cw (And.intro row (And.intro own (And.intro hQ2 (And.intro hbB (And.intro hob hc))))))
      have HKB := Lib.hid hkB
      clear hc cw row own ht htm hQ2 hkB hbB hob hQ
      generalize hql : Q.length = q at *
      have HQL := Lib.hid hql
      clear hql
      go_wp2_with (first
        | (go_at_call 28
           refine (Encode05_ok _ t.1.o _ _ HC.out.2.2.2.2.2.1 HKB.out).mono ?_
           rintro e w5 ⟨v5, rfl, u5, rfl, ho5, c5⟩
           obtain ⟨A5, k5, rfl⟩ := ho5.form
           have c05 := HC.out.1.trans c5
           obtain ⟨-, -, g0, g1, g2, g3, g4, g5, g6, g7⟩ := HC.out.2.2.2.2.2.2 w5 c05
           have row5 := HC.out.2.1.keep c5 (fun f => f)
           have own5 := HC.out.2.2.1.keep c5
           have hby : ByteS w5 (fun b => w.heap.size + 1 ≤ b ∧ ¬ (Value.slice A3 q c3).ownBlock = some b) (.slice A5 (encB t.1.o).length k5) (encB t.1.o) := (ho5.bytes (encB_bd HC.out.2.2.2.2.1)).more (fun b hb h => ⟨by omega, fun hv => by obtain ⟨cs, hrw⟩ := own_block HC.out.2.2.1.own hv; have := hrw.lt; omega⟩)
           have ca : Chg No w5 (w5.alloc (.cells (cells4 (t.1.xt, .slice A5 (encB t.1.o).length k5)) 122)) := (Chg.refl _ _).alloc _
           obtain ⟨A6, k6, w6, hr6, ho6, cg6⟩ := (own5.keep ca).app (by have := c5.size; simp; omega) (by rw [HQL.out]; omega) (Row.new w5 122 (cells4 (t.1.xt, .slice A5 (encB t.1.o).length k5))) rfl (hby.keep ca (fun _ _ f => f)) 76
           rw [HQL.out] at hr6 ho6
           simp only [cells4] at hr6
           have c56 : Chg (fun b => (Value.slice A3 q c3).ownBlock = some b) w5 w6 := (ca.no).trans cg6
           have row6 := row5.keep c56 (fun e => by have := own_ge HC.out.2.2.1.own e; omega)
           have cw6 : Chg No w w6 := c05.then c56 (fun b hb e => by have := own_ge HC.out.2.2.1.own e; omega)
           obtain ⟨y0, y1, y2, -⟩ := row5.three
           have HR6 := Lib.hid hr6
           have H6 := Lib.hid (And.intro ho6 (And.intro row6 cw6))
           clear ho5 c5 c05 row5 own5 hby ca hr6 ho6 cg6 c56 row6 cw6)
        | (at_builtin; refine wpList_append_run rfl _ _ _ rfl rfl rfl HR6.out ?_)
        | fail)
      go_roundg (n - (i + 1))
      case measure => omega
      case rel =>
        refine ⟨i + 1, Q ++ [(t.1.xt, .slice A5 (encB t.1.o).length k5)], by go_num, by omega, by omega, ?_, H6.out⟩
        have := HC.out.2.2.2.1
        rw [List.map_append] at this ⊢
        exact this
    · obtain rfl : i = n := by omega
      have t1 : decide ((i : Int) < (i : Int)) = false := decide_eq_false (by omega)
      rw [List.take_of_length_le (by rw [List.length_map, HN.out]; exact Nat.le_refl _)] at hQ
      have hR : Row4 wr (fun b => w.heap.size ≤ b) (.slice A3 Q.length c3) Q := ⟨(Slc.of_own own.own).more (fun b _ hb => by have := own_ge own.own hb; omega), fun q hq => (own.el q hq).more (fun b _ hb => by have := hb.1; omega)⟩
      have HC := Lib.hid (And.intro hQ (And.intro hR cw))
      clear own cw row hQ hR
      generalize hql : Q.length = q at *
      go_wp2_with fail
      go_ret
      exact Ret.mk ⟨Q, HC.out⟩

set_option maxRecDepth 100000 in
set_option maxHeartbeats 400000 in
theorem Used06_any (v : Value) (T : List T8) (S : Nat → Prop) (w : World) (h : R8 w S v T) (hm : T.length ≤ 1048576) (hok : ∀ t ∈ T, okB t.1.o = true) (hu : usedL (T.map (·.1)) ≤ 20000) (a m : Int) :
    Calls Tryz.prog 17 #[.agg #[v, .int .i64 a, .int .i64 m]] w fun e w' => e = .returned (.int .i64 (usedL (T.map (·.1)))) ∧ Chg No w w' := by
  obtain ⟨A, c, rfl, -⟩ := h.form
  have cw : Chg No w (w.alloc (.cells #[.slice A T.length c, .int .i64 a, .int .i64 m] 32)) := (Chg.refl _ _).alloc _
  have HQ := Lib.hid (Rows06_any _ T S _ (h.keep cw (fun _ _ f => f)) hm hok a m)
  have HU := Lib.hid (And.intro hm (And.intro hu cw))
  clear h hok cw
  go_enter Tryz.func17, Tryz.ntmps17
  go_wp2_with (first
    | (go_at_call 30
       refine HQ.out.mono ?_
       rintro e w2 ⟨v2, rfl, Q, hQ, hR, c2⟩
       have e1 : (Q.map fun t => t.1.n).sum = usedL (T.map (·.1)) := by
         have : Q.map (fun t => t.1.n) = (Q.map (·.1)).map Xt.n := by rw [List.map_map]; rfl
         rw [this, hQ, List.map_map]
         rfl
       have hl : Q.length ≤ 1048576 := by
         have h1 := congrArg List.length hQ
         rw [List.length_map, List.length_map, List.length_map] at h1
         have h2 := HU.out.1
         omega
       have HUs := Used04_any _ Q _ _ hR hl (by rw [e1]; exact HU.out.2.1)
       rw [e1] at HUs
       have H2 := Lib.hid (And.intro HUs c2)
       clear hQ hR c2 e1 hl HUs)
    | (go_at_call 41
       refine H2.out.1.mono ?_
       rintro e w3 ⟨rfl, c3⟩
       have H3 := Lib.hid c3
       clear c3)
    | fail)
  go_ret
  exact ⟨rfl, HU.out.2.2.trans (H2.out.2.trans H3.out)⟩

end Go.Proofs.YtdpmmafkomchaaaGreat
