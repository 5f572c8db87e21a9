/- websterlaw10.long: is what is to be done too long?; a memory's numbers grow by one at most. -/
import Derived.Test.YtmpfpfemjpmbaaaDone
namespace Go.Proofs.Ytmpfpfemjpmbaaa
set_option linter.unusedVariables false
set_option linter.unusedSimpArgs false
open Go.RowKit

theorem DoS.keep {w w' : World} {S F : Nat → Prop} {v : Value} {D : List D4} (h : DoS w S v D) (c : Chg F w w') (hS : ∀ b, S b → ¬ F b) : DoS w' S v D := ⟨h.1.keep c hS, h.2⟩
theorem DoS.more {w : World} {S S' : Nat → Prop} {v : Value} {D : List D4} (h : DoS w S v D) (hS : ∀ b, b < w.heap.size → S b → S' b) : DoS w S' v D := ⟨h.1.more hS, h.2⟩
theorem cells4_at : ∀ (D : List D4) (i : Nat) (d : D4), D[i]? = some d → ∀ j, j < 4 → (D.flatMap fun x => x.cells.toList)[4 * i + j]? = d.cells[j]?
  | [], i, d, h, _, _ => by simp at h
  | x :: D, 0, d, h, j, hj => by
    obtain rfl : x = d := by simpa using h
    rw [List.flatMap_cons, List.getElem?_append_left (by simp [D4.cells]; omega)]
    simp
  | x :: D, i + 1, d, h, j, hj => by
    rw [List.flatMap_cons, List.getElem?_append_right (by simp [D4.cells]; omega)]
    rw [show 4 * (i + 1) + j - x.cells.toList.length = 4 * i + j by simp [D4.cells]; omega]
    exact cells4_at D i d (by simpa using h) j hj
theorem DoS.at {w : World} {S : Nat → Prop} {A : Option Addr} {n c : Nat} {D : List D4} (h : DoS w S (.slice A n c) D) {i : Nat} {d : D4} (hi : D[i]? = some d) : ∃ b off, A = some ⟨b, off, none⟩ ∧ n = D.length ∧ b < w.heap.size ∧ d.in64 ∧
    w.cell? ⟨b, off + i * 4, none⟩ = some (.int .i64 d.k) ∧ w.cell? ⟨b, off + i * 4 + 1, none⟩ = some (.int .i64 d.a) ∧ w.cell? ⟨b, off + i * 4 + 2, none⟩ = some (.int .i64 d.b) ∧ w.cell? ⟨b, off + i * 4 + 3, none⟩ = some (.int .i64 d.c) := by
  obtain ⟨⟨A', c', e, hl, h1, h2, h0, h3⟩, hok⟩ := h
  obtain ⟨rfl, rfl, rfl⟩ := Value.slice.inj e
  have hil : i < D.length := (List.getElem?_eq_some_iff.1 hi).1
  obtain ⟨b, off, rfl, hS, hb, hc⟩ := h3 (by omega)
  have hcell := fun j hj u hu => hc (4 * i + j) u ((cells4_at D i _ hi j hj).trans hu)
  refine ⟨b, off, rfl, rfl, hb, hok d (List.mem_of_getElem? hi), ?_, ?_, ?_, ?_⟩
  · rw [Nat.mul_comm]; exact hcell 0 (by omega) _ rfl
  · rw [Nat.mul_comm, Nat.add_assoc]; exact hcell 1 (by omega) _ rfl
  · rw [Nat.mul_comm, Nat.add_assoc]; exact hcell 2 (by omega) _ rfl
  · rw [Nat.mul_comm, Nat.add_assoc]; exact hcell 3 (by omega) _ rfl

/-- how much one adds -/
def long1 (d : D4) : Int := 1 + (if d.k = 1 ∧ 0 < d.c ∧ d.c ≤ 1000 then d.c / 20 else 0)
def longN : List D4 → Int
  | [] => 0
  | d :: D => long1 d + longN D
theorem longN_snoc : ∀ (D : List D4) (d : D4), longN (D ++ [d]) = longN D + long1 d
  | [], d => by simp [longN]
  | x :: D, d => by rw [List.cons_append, longN, longN, longN_snoc D d]; omega
theorem longN_take {D : List D4} {i : Nat} {d : D4} (h : D[i]? = some d) : longN (D.take (i + 1)) = longN (D.take i) + long1 d := by
  rw [List.take_add_one, h]
  exact longN_snoc _ _
theorem long1_le (d : D4) : 1 ≤ long1 d ∧ long1 d ≤ 51 := by
  unfold long1
  split <;> omega
theorem longN_le : ∀ D : List D4, (D.length : Int) ≤ longN D ∧ longN D ≤ 51 * D.length
  | [] => by simp [longN]
  | x :: D => by
    have h1 := longN_le D
    have h2 := long1_le x
    simp only [longN, List.length_cons]
    omega

theorem doneL_len (L : List O) (d : D4) : (doneL L d).length ≤ L.length + 1 := by
  unfold doneL
  split
  · unfold newL; split <;> simp
  split
  · unfold setL; repeat' split
    all_goals simp
  split
  · unfold sbyteL; repeat' split
    all_goals simp
  split
  · unfold becomeL; repeat' split
    all_goals simp [becL]
  split
  · omega
  · unfold colL; simp
/-- the memory, when so many things have been done -/
noncomputable def runL (D : List D4) : List O := D.foldl doneL []
theorem runL_len : ∀ (D : List D4) (L : List O), (D.foldl doneL L).length ≤ L.length + D.length
  | [], L => by simp
  | d :: D, L => by
    have h1 := runL_len D (doneL L d)
    have h2 := doneL_len L d
    simp only [List.foldl_cons, List.length_cons]
    omega
theorem runL_take {D : List D4} {i : Nat} {d : D4} (h : D[i]? = some d) : runL (D.take (i + 1)) = doneL (runL (D.take i)) d := by
  rw [List.take_add_one, h]
  simp [runL]
theorem MemK.cameD {w w1 : World} {m : Nat} {L : List O} {lv : Value} {D : List D4} (g : MemK w w1 m L (fun _ _ => True)) (h : DoS w (fun _ => True) lv D) : MemK w w1 m L (fun F v => DoS v (fun b => ¬ F b) lv D) := by
  have hc := g.chg
  have h1 : DoS w (fun b => b < w.heap.size) lv D := h.more fun b hb _ => hb
  refine g.now (Chg.refl _ _) fun G hG _ G' w2 h2 h3 c2 _ => ?_
  refine (((h1.keep hc (fun _ _ f => f)).keep c2 fun b hb hg => ?_).more fun b _ hb hg => ?_)
  · have := (hG b hg).2; omega
  · rcases h3 b hg with h | h
    · have := (hG b h).2; omega
    · have := hc.size; omega

set_option maxRecDepth 100000 in
set_option maxHeartbeats 2000000 in
theorem long_any (lv : Value) (D : List D4) (S : Nat → Prop) (w : World) (h : DoS w S lv D) (hm : D.length ≤ 4398046511104) : Calls Try.prog 28 #[lv] w fun e w' => e = .returned (.bool (decide (150 < longN D))) ∧ Chg No w w' := by
  obtain ⟨A, n, c, rfl⟩ : ∃ A n c, lv = .slice A n c := by
    obtain ⟨⟨A, c, e, -⟩, -⟩ := h
    exact ⟨A, _, c, e⟩
  obtain rfl : D.length = n := by
    obtain ⟨⟨A', c', e, -⟩, -⟩ := h
    exact (Value.slice.inj e).2.1.symm
  have H := Lib.hid h
  clear h
  generalize hn : D.length = n at *
  have HN := Lib.hid hn
  clear hn
  go_enter Try.func28, Try.ntmps28
  go_wp2_with fail
  go_loopg [3, 4] n (fun j v3 v4 wr => ∃ (i : Nat) (s : Int), v3 = .int .i64 s ∧ s = longN (D.take i) ∧ v4 = .int .i64 i ∧ i ≤ n ∧ n - i ≤ j ∧ Chg No w wr)
  case atStart => exact ⟨0, 0, rfl, rfl, rfl, by omega, by omega, (by repeat (with_reducible first | exact Chg.refl _ _ | refine Chg.drew ?_))⟩
  case round =>
    obtain ⟨i, s, rfl, hs, rfl, i1, i2, c1⟩ := hrel
    by_cases hi : i < n
    · obtain ⟨⟨dk, da, db, dc⟩, hti⟩ : ∃ d, D[i]? = some d := ⟨_, List.getElem?_eq_getElem (by rw [HN.out]; exact hi)⟩
      have hle := longN_le (D.take i)
      rw [← hs, List.length_take, HN.out, Nat.min_eq_left i1] at hle
      have hsn := longN_take hti
      rw [← hs] at hsn
      obtain ⟨b, off, rfl, -, hb, hd, y0, -, -, y3⟩ := (H.out.keep c1 (fun _ _ f => f)).at hti
      have hc64 := hd.2.2.2
      dsimp only at y0 y3 hc64
      have HS := Lib.hid hsn
      have C1 := Lib.hid c1
      clear hs hsn c1 hti hd
      have fin : ∀ (t : Int) (V : World), Chg No wr V → t = s + long1 ⟨dk, da, db, dc⟩ → ∃ (i' : Nat) (s' : Int), (.int .i64 t : Value) = .int .i64 s' ∧ s' = longN (D.take i') ∧ (.int .i64 ((i : Int) + 1) : Value) = .int .i64 i' ∧ i' ≤ n ∧ n - i' ≤ n - (i + 1) ∧ Chg No w V :=
        fun t V hV ht => ⟨i + 1, t, rfl, ht.trans HS.out.symm, by go_num, by omega, by omega, C1.out.trans hV⟩
      by_cases hq : dk = 1 ∧ 0 < dc ∧ dc ≤ 1000
      · obtain ⟨rfl, q1, q2⟩ := hq
        have t1 : decide (0 < dc) = true := decide_eq_true q1
        have t2 : decide (dc ≤ 1000) = true := decide_eq_true q2
        go_wp2_with fail
        go_roundg (n - (i + 1))
        case measure => omega
        case rel => exact fin _ _ (by repeat (with_reducible first | exact Chg.refl _ _ | refine Chg.drew ?_)) (by rw [long1, if_pos ⟨rfl, q1, q2⟩]; go_num)
      · by_cases hk : dk = 1
        · have t0 : (dk == 1) = true := beq_iff_eq.2 hk
          by_cases hp : 0 < dc
          · have t1 : decide (0 < dc) = true := decide_eq_true hp
            have t2 : decide (dc ≤ 1000) = false := decide_eq_false (by omega)
            go_wp2_with fail
            go_roundg (n - (i + 1))
            case measure => omega
            case rel => exact fin _ _ (by repeat (with_reducible first | exact Chg.refl _ _ | refine Chg.drew ?_)) (by rw [long1, if_neg hq]; go_num)
          · have t1 : decide (0 < dc) = false := decide_eq_false hp
            go_wp2_with fail
            go_roundg (n - (i + 1))
            case measure => omega
            case rel => exact fin _ _ (by repeat (with_reducible first | exact Chg.refl _ _ | refine Chg.drew ?_)) (by rw [long1, if_neg hq]; go_num)
        · have t0 : (dk == 1) = false := beq_eq_false_iff_ne.2 hk
          go_wp2_with fail
          go_roundg (n - (i + 1))
          case measure => omega
          case rel => exact fin _ _ (by repeat (with_reducible first | exact Chg.refl _ _ | refine Chg.drew ?_)) (by rw [long1, if_neg hq]; go_num)
    · obtain rfl : i = n := by omega
      rw [List.take_of_length_le (by rw [HN.out]; exact Nat.le_refl _)] at hs
      subst hs
      go_wp2_with fail
      go_ret
      exact ⟨rfl, c1⟩
end Go.Proofs.Ytmpfpfemjpmbaaa
