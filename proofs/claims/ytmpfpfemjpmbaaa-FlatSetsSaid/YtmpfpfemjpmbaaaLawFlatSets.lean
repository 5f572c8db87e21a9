/- The walk of FlatSets. -/
import Derived.Test.YtmpfpfemjpmbaaaRef05
import Derived.OpenShut
namespace Go.Proofs.Ytmpfpfemjpmbaaa
open Go.RowKit

theorem blank1 {n : Nat} (hn : n ≤ 255) : blankOk 2 1 (n : Int) = true := by
  simp [blankOk, namedOk]
  omega
theorem newO1 (n : Nat) : newO 2 1 (n : Int) = ⟨2, 1, List.replicate n 2, []⟩ := by simp [newO]
theorem fnd_at (L : List O) (i : Nat) (o : O) (h : L[i]? = some o) (hk : o.kind ≠ 0) (hi : i < 1073741823) : fnd L (2 * ((i : Int) + 1)) = some i := by
  have e : (2 * ((i : Int) + 1) / 2 - 1).toNat = i := by omega
  unfold fnd
  rw [e, if_pos ⟨by simp [namedOk]; omega, by simpa [ob, h] using hk⟩]

/-- what stands behind Set -/
def setsL (n : Nat) (i v : Int) : List O := setL [newO 2 1 (n : Int), newO 2 1 (n : Int)] 2 i v
def setsW (n : Nat) (i v : Int) : List Int := if 0 ≤ i ∧ i < n ∧ refOk v = true then (List.replicate n 2).set i.toNat v else List.replicate n 2

theorem sets_E (n : Nat) (i v : Int) : setE [newO 2 1 (n : Int), newO 2 1 (n : Int)] 2 i v = if 0 ≤ i ∧ i < n then (if refOk v = true then 0 else 2) else 21 := by
  have hf := fnd_at [newO 2 1 (n : Int), newO 2 1 (n : Int)] 0 _ rfl (by simp [newO1]) (by omega)
  have hp : placeE [newO 2 1 (n : Int), newO 2 1 (n : Int)] 2 1 i = if 0 ≤ i ∧ i < n then 0 else 21 := by
    rw [newO1] at hf ⊢
    simp at hf
    simp [placeE, hf, ob, szO]
  rw [setE, hp]
  by_cases h : 0 ≤ i ∧ i < n
  · simp [h]
  · simp [h]
theorem sets_L (n : Nat) (i v : Int) : setsL n i v = [⟨2, 1, setsW n i v, []⟩, ⟨2, 1, List.replicate n 2, []⟩] := by
  have hf := fnd_at [newO 2 1 (n : Int), newO 2 1 (n : Int)] 0 _ rfl (by simp [newO1]) (by omega)
  have he := sets_E n i v
  have hf' : fnd [newO 2 1 (n : Int), newO 2 1 (n : Int)] 2 = some 0 := by simpa using hf
  unfold setsL setL
  rw [hf']
  simp only [he]
  unfold setsW
  by_cases h : 0 ≤ i ∧ i < n
  · by_cases hv : refOk v = true
    · rw [if_pos h, if_pos hv, if_pos rfl, if_pos ⟨h.1, h.2, hv⟩]
      simp [ob, newO1]
    · rw [if_pos h, if_neg hv, if_neg (by decide), if_neg (fun e => hv e.2.2)]
      simp [newO1]
  · rw [if_neg h, if_neg (by decide), if_neg (fun e => h ⟨e.1, e.2.1⟩)]
    simp [newO1]
theorem sets_obj (n : Nat) (i v : Int) : objV (setsL n i v) 2 = ⟨2, 1, setsW n i v, []⟩ ∧ objV (setsL n i v) 4 = ⟨2, 1, List.replicate n 2, []⟩ := by
  rw [sets_L]
  have h1 := fnd_at [(⟨2, 1, setsW n i v, []⟩ : O), ⟨2, 1, List.replicate n 2, []⟩] 0 _ rfl (by simp) (by omega)
  have h2 := fnd_at [(⟨2, 1, setsW n i v, []⟩ : O), ⟨2, 1, List.replicate n 2, []⟩] 1 _ rfl (by simp) (by omega)
  simp at h1 h2
  simp [objV, h1, h2, ob]
theorem setsW_len (n : Nat) (i v : Int) : (setsW n i v).length = n := by unfold setsW; split <;> simp
theorem setsW_at (n : Nat) (i v : Int) (k : Nat) (hk : k < n) : (setsW n i v)[k]?.getD 0 = if (k : Int) = i ∧ refOk v = true then v else 2 := by
  unfold setsW
  by_cases h : 0 ≤ i ∧ i < n ∧ refOk v = true
  · rw [if_pos h]
    by_cases hki : (k : Int) = i
    · rw [if_pos ⟨hki, h.2.2⟩]
      subst hki
      simp [hk]
    · rw [if_neg (fun e => hki e.1)]
      rw [List.getElem?_set_ne (by omega)]
      simp [hk]
  · rw [if_neg h, if_neg (fun e => h ⟨by omega, by omega, e.2⟩)]
    simp [hk]


set_option maxRecDepth 100000 in
set_option maxHeartbeats 4000000 in
theorem FlatSets_any (n : Nat) (i v : Int) (hn : n ≤ 255) (hi : In64 i) (hv : In64 v) (w : World) :
    Calls Try.prog 6 #[.int .u8 n, .int .i64 i, .int .i64 v] w fun e w' => e = .returned (.bool true) ∧ Below w.heap.size w w' := by
  have v64 := hv
  obtain ⟨i1', i2⟩ := hi
  obtain ⟨v1, v2⟩ := hv
  have hb := blank1 hn
  have hN1 : newN [] 2 1 (n : Int) = 2 := by simp [newN, hb]
  have hN2 : newE 2 1 (n : Int) = 0 := by simp [newE, hb]
  have hN3 : newL [] 2 1 (n : Int) = [newO 2 1 (n : Int)] := by simp [newL, hb]
  have hM1 : newN [newO 2 1 (n : Int)] 2 1 (n : Int) = 4 := by simp [newN, hb]
  have hM3 : newL [newO 2 1 (n : Int)] 2 1 (n : Int) = [newO 2 1 (n : Int), newO 2 1 (n : Int)] := by simp [newL, hb]
  have hE := sets_E n i v
  obtain ⟨hO1, hO2⟩ := sets_obj n i v
  have hwr : IntKind.i64.wrap (n : Int) = n := IntWalk.i64_in _ (by omega)
  have i64 : In64 2 := by unfold In64; omega
  have i1 : In64 1 := by unfold In64; omega
  have n64 : In64 (n : Int) := by unfold In64; omega
  have hi3 : (0 ≤ i ∧ i < n) ∨ i < 0 ∨ n ≤ i := by omega
  clear hb
  rcases hi3 with ⟨h1, h2⟩ | h1 | h1 <;> cases hR : refOk v
  · rw [if_pos ⟨h1, h2⟩, if_neg (by rw [hR]; simp)] at hE
    go_enter Try.func6, Try.ntmps6
    go_wp2_with (first
      | (go_at_call 18
         refine (m_flatNew (Chg.refl _ _)).mono ?_
         rintro e w1 ⟨m, rfl, g0⟩)
      | (go_at_call 19
         refine (m_New g0 2 1 (n : Int) i64 i1 n64 (by decide)).mono ?_
         rw [hN1, hN2, hN3]
         rintro e w2 ⟨rfl, g1⟩
         clear g0)
      | (go_at_call 19
         refine (m_New g1 2 1 (n : Int) i64 i1 n64 (by simp)).mono ?_
         rw [hM1, hN2, hM3]
         rintro e w2 ⟨rfl, g2⟩
         clear g1)
      | (go_at_call 25
         refine (m_Set g2 2 i v i64 v64).mono ?_
         rw [hE]
         rintro e w3 ⟨rfl, g3⟩
         replace g3 : Mem w w3 m (setsL n i v) _ := g3
         clear g2)
      | (go_at_call 15
         refine (Ref05_any v v64 _).mono ?_
         rw [hR]
         rintro e w4 ⟨rfl, rfl⟩)
      | (go_at_call 23
         refine (m_Obj g3 2 i64).mono ?_
         rw [hO1]
         rintro e w4 ⟨r, rfl, g4, hr⟩
         obtain ⟨xw, xb, rfl, hxw, hxb, _, _⟩ := hr
         obtain ⟨A, ca, rfl, _⟩ := hxw.form
         obtain ⟨A', ca', rfl, _⟩ := hxb.form
         simp only [cells2, setsW_len]
         have hl4 := g4.chg.size
         clear g3 hxw hxb)
      | (go_at_call 23
         refine (m_Obj (g4.also ((Chg.refl _ _).alloc _) (K2 := fun v => Row v w4.heap.size 25 _) (fun G hG w2 c2 => (Row.new _ _ _).keep c2 (fun h => by have := (hG _ h).1; omega))) 4 (by unfold In64; omega)).mono ?_
         rw [hO2]
         rintro e w5 ⟨r, rfl, g5, hr⟩
         obtain ⟨yw, yb, rfl, hyw, hyb, _, _⟩ := hr
         obtain ⟨B, cb, rfl, _⟩ := hyw.form
         obtain ⟨B', cb', rfl, _⟩ := hyb.form
         simp only [cells2, List.length_replicate]
         have hrow := g5.kept.1.2
         have c0 : w5.cell? ⟨w4.heap.size, 2, none⟩ = some (.slice A n ca) := by simpa [setsW_len] using hrow.cell 2
         have hl5 := hrow.lt
         have G5 := Lib.hid (And.intro g5.chg (And.intro g5.kept.1.1.2 hyw))
         clear g4 g5 hyw hyb hrow))
    generalize hW : World.alloc w5 _ = W
    have chW : Chg No w5 W := by
      rw [← hW]
      exact (Chg.refl _ _).alloc _
    have y0 : W.cell? ⟨w5.heap.size, 2, none⟩ = some (.slice B n cb) := by
      rw [← hW]
      exact (Row.new w5 _ _).cell 2
    have x0 : W.cell? ⟨w4.heap.size, 2, none⟩ = some (.slice A n ca) := (chW.cell (p := ⟨w4.heap.size, 2, none⟩) hl5 (fun f => f)).trans c0
    obtain ⟨cw5, hxs, hyw⟩ := G5.out
    have cW : Chg No w W := cw5.trans chW
    obtain ⟨xw', xb', hx1, hx2, _, _, _⟩ := hxs
    obtain ⟨hx3, hx4⟩ : Value.slice A n ca = xw' ∧ True := by simp [cells2, setsW_len] at hx1; exact ⟨hx1.1, trivial⟩
    subst hx3
    have hx5 := hx2.keep chW (fun _ _ f => f)
    have hy5 := hyw.keep chW (fun _ _ f => f)
    obtain ⟨A2, c2, hA2, _, _, _, hx6⟩ := hx5.form
    obtain ⟨rfl, _⟩ : A = A2 ∧ True := by simp at hA2; exact ⟨hA2.1, trivial⟩
    obtain ⟨B2, c3, hB2, _, _, _, hy6⟩ := hy5.form
    obtain ⟨rfl, _⟩ : B = B2 ∧ True := by simp at hB2; exact ⟨hB2.1, trivial⟩
    have HX := Lib.hid hx6
    have HY := Lib.hid hy6
    clear hW c0 hyw hx1 hx2 hx5 hy5 hx6 hy6 hA2 hB2 cw5 chW hx4
    go_wp2_with fail
    go_loopg [19] n (fun j v19 wr => ∃ k : Nat, v19 = .int .i64 k ∧ k ≤ n ∧ n - k ≤ j ∧ W = wr)
    case atStart => exact ⟨0, rfl, by omega, by omega, rfl⟩
    case round =>
      clear hE
      obtain ⟨k, rfl, k1, k2, rfl⟩ := hrel
      by_cases hkn : k < n
      · by_cases hki : (k : Int) = i
        · subst hki
          obtain ⟨b, off, rfl, _, _, hcx, _⟩ := HX.out k (by rw [setsW_len]; exact hkn)
          obtain ⟨b', off', rfl, _, _, hcy, _⟩ := HY.out k (by rw [List.length_replicate]; exact hkn)
          rw [setsW_at n _ v k hkn, if_neg (fun e => by simp [hR] at e)] at hcx
          rw [show (List.replicate n (2 : Int))[k]?.getD 0 = 2 by simp [hkn]] at hcy
          go_wp2_with fail
          go_roundg (n - (k + 1))
          case measure => omega
          case rel => exact ⟨k + 1, by go_num, by omega, by omega, rfl⟩
        · have e2 : ((k : Int) == i) = false := beq_eq_false_iff_ne.2 hki
          have e3 : ((k : Int) != i) = true := bne_iff_ne.2 hki
          obtain ⟨b, off, rfl, _, _, hcx, _⟩ := HX.out k (by rw [setsW_len]; exact hkn)
          obtain ⟨b', off', rfl, _, _, hcy, _⟩ := HY.out k (by rw [List.length_replicate]; exact hkn)
          rw [setsW_at n _ v k hkn, if_neg (fun e => hki e.1)] at hcx
          rw [show (List.replicate n (2 : Int))[k]?.getD 0 = 2 by simp [hkn]] at hcy
          go_wp2_with fail
          go_roundg (n - (k + 1))
          case measure => omega
          case rel => exact ⟨k + 1, by go_num, by omega, by omega, rfl⟩
      · obtain rfl : k = n := by omega
        clear HX HY
        go_wp2_with (go_at_call 16; refine (known_any _).mono ?_; rintro e w6 ⟨rfl, g6⟩)
        go_ret
        exact ⟨rfl, (cW.trans g6).below⟩
  · rw [if_pos ⟨h1, h2⟩, if_pos hR] at hE
    go_enter Try.func6, Try.ntmps6
    go_wp2_with (first
      | (go_at_call 18
         refine (m_flatNew (Chg.refl _ _)).mono ?_
         rintro e w1 ⟨m, rfl, g0⟩)
      | (go_at_call 19
         refine (m_New g0 2 1 (n : Int) i64 i1 n64 (by decide)).mono ?_
         rw [hN1, hN2, hN3]
         rintro e w2 ⟨rfl, g1⟩
         clear g0)
      | (go_at_call 19
         refine (m_New g1 2 1 (n : Int) i64 i1 n64 (by simp)).mono ?_
         rw [hM1, hN2, hM3]
         rintro e w2 ⟨rfl, g2⟩
         clear g1)
      | (go_at_call 25
         refine (m_Set g2 2 i v i64 v64).mono ?_
         rw [hE]
         rintro e w3 ⟨rfl, g3⟩
         replace g3 : Mem w w3 m (setsL n i v) _ := g3
         clear g2)
      | (go_at_call 15
         refine (Ref05_any v v64 _).mono ?_
         rw [hR]
         rintro e w4 ⟨rfl, rfl⟩)
      | (go_at_call 23
         refine (m_Obj g3 2 i64).mono ?_
         rw [hO1]
         rintro e w4 ⟨r, rfl, g4, hr⟩
         obtain ⟨xw, xb, rfl, hxw, hxb, _, _⟩ := hr
         obtain ⟨A, ca, rfl, _⟩ := hxw.form
         obtain ⟨A', ca', rfl, _⟩ := hxb.form
         simp only [cells2, setsW_len]
         have hl4 := g4.chg.size
         clear g3 hxw hxb)
      | (go_at_call 23
         refine (m_Obj (g4.also ((Chg.refl _ _).alloc _) (K2 := fun v => Row v w4.heap.size 25 _) (fun G hG w2 c2 => (Row.new _ _ _).keep c2 (fun h => by have := (hG _ h).1; omega))) 4 (by unfold In64; omega)).mono ?_
         rw [hO2]
         rintro e w5 ⟨r, rfl, g5, hr⟩
         obtain ⟨yw, yb, rfl, hyw, hyb, _, _⟩ := hr
         obtain ⟨B, cb, rfl, _⟩ := hyw.form
         obtain ⟨B', cb', rfl, _⟩ := hyb.form
         simp only [cells2, List.length_replicate]
         have hrow := g5.kept.1.2
         have c0 : w5.cell? ⟨w4.heap.size, 2, none⟩ = some (.slice A n ca) := by simpa [setsW_len] using hrow.cell 2
         have hl5 := hrow.lt
         have G5 := Lib.hid (And.intro g5.chg (And.intro g5.kept.1.1.2 hyw))
         clear g4 g5 hyw hyb hrow))
    generalize hW : World.alloc w5 _ = W
    have chW : Chg No w5 W := by
      rw [← hW]
      exact (Chg.refl _ _).alloc _
    have y0 : W.cell? ⟨w5.heap.size, 2, none⟩ = some (.slice B n cb) := by
      rw [← hW]
      exact (Row.new w5 _ _).cell 2
    have x0 : W.cell? ⟨w4.heap.size, 2, none⟩ = some (.slice A n ca) := (chW.cell (p := ⟨w4.heap.size, 2, none⟩) hl5 (fun f => f)).trans c0
    obtain ⟨cw5, hxs, hyw⟩ := G5.out
    have cW : Chg No w W := cw5.trans chW
    obtain ⟨xw', xb', hx1, hx2, _, _, _⟩ := hxs
    obtain ⟨hx3, hx4⟩ : Value.slice A n ca = xw' ∧ True := by simp [cells2, setsW_len] at hx1; exact ⟨hx1.1, trivial⟩
    subst hx3
    have hx5 := hx2.keep chW (fun _ _ f => f)
    have hy5 := hyw.keep chW (fun _ _ f => f)
    obtain ⟨A2, c2, hA2, _, _, _, hx6⟩ := hx5.form
    obtain ⟨rfl, _⟩ : A = A2 ∧ True := by simp at hA2; exact ⟨hA2.1, trivial⟩
    obtain ⟨B2, c3, hB2, _, _, _, hy6⟩ := hy5.form
    obtain ⟨rfl, _⟩ : B = B2 ∧ True := by simp at hB2; exact ⟨hB2.1, trivial⟩
    have HX := Lib.hid hx6
    have HY := Lib.hid hy6
    clear hW c0 hyw hx1 hx2 hx5 hy5 hx6 hy6 hA2 hB2 cw5 chW hx4
    go_wp2_with fail
    go_loopg [19] n (fun j v19 wr => ∃ k : Nat, v19 = .int .i64 k ∧ k ≤ n ∧ n - k ≤ j ∧ W = wr)
    case atStart => exact ⟨0, rfl, by omega, by omega, rfl⟩
    case round =>
      clear hE
      obtain ⟨k, rfl, k1, k2, rfl⟩ := hrel
      by_cases hkn : k < n
      · by_cases hki : (k : Int) = i
        · subst hki
          obtain ⟨b, off, rfl, _, _, hcx, _⟩ := HX.out k (by rw [setsW_len]; exact hkn)
          obtain ⟨b', off', rfl, _, _, hcy, _⟩ := HY.out k (by rw [List.length_replicate]; exact hkn)
          rw [setsW_at n _ v k hkn, if_pos ⟨rfl, hR⟩] at hcx
          rw [show (List.replicate n (2 : Int))[k]?.getD 0 = 2 by simp [hkn]] at hcy
          go_wp2_with fail
          go_roundg (n - (k + 1))
          case measure => omega
          case rel => exact ⟨k + 1, by go_num, by omega, by omega, rfl⟩
        · have e2 : ((k : Int) == i) = false := beq_eq_false_iff_ne.2 hki
          have e3 : ((k : Int) != i) = true := bne_iff_ne.2 hki
          obtain ⟨b, off, rfl, _, _, hcx, _⟩ := HX.out k (by rw [setsW_len]; exact hkn)
          obtain ⟨b', off', rfl, _, _, hcy, _⟩ := HY.out k (by rw [List.length_replicate]; exact hkn)
          rw [setsW_at n _ v k hkn, if_neg (fun e => hki e.1)] at hcx
          rw [show (List.replicate n (2 : Int))[k]?.getD 0 = 2 by simp [hkn]] at hcy
          go_wp2_with fail
          go_roundg (n - (k + 1))
          case measure => omega
          case rel => exact ⟨k + 1, by go_num, by omega, by omega, rfl⟩
      · obtain rfl : k = n := by omega
        clear HX HY
        go_wp2_with (go_at_call 16; refine (known_any _).mono ?_; rintro e w6 ⟨rfl, g6⟩)
        go_ret
        exact ⟨rfl, (cW.trans g6).below⟩
  · rw [if_neg (by omega)] at hE
    go_enter Try.func6, Try.ntmps6
    go_wp2_with (first
      | (go_at_call 18
         refine (m_flatNew (Chg.refl _ _)).mono ?_
         rintro e w1 ⟨m, rfl, g0⟩)
      | (go_at_call 19
         refine (m_New g0 2 1 (n : Int) i64 i1 n64 (by decide)).mono ?_
         rw [hN1, hN2, hN3]
         rintro e w2 ⟨rfl, g1⟩
         clear g0)
      | (go_at_call 19
         refine (m_New g1 2 1 (n : Int) i64 i1 n64 (by simp)).mono ?_
         rw [hM1, hN2, hM3]
         rintro e w2 ⟨rfl, g2⟩
         clear g1)
      | (go_at_call 25
         refine (m_Set g2 2 i v i64 v64).mono ?_
         rw [hE]
         rintro e w3 ⟨rfl, g3⟩
         replace g3 : Mem w w3 m (setsL n i v) _ := g3
         clear g2)
      | (go_at_call 15
         refine (Ref05_any v v64 _).mono ?_
         rw [hR]
         rintro e w4 ⟨rfl, rfl⟩)
      | (go_at_call 23
         refine (m_Obj g3 2 i64).mono ?_
         rw [hO1]
         rintro e w4 ⟨r, rfl, g4, hr⟩
         obtain ⟨xw, xb, rfl, hxw, hxb, _, _⟩ := hr
         obtain ⟨A, ca, rfl, _⟩ := hxw.form
         obtain ⟨A', ca', rfl, _⟩ := hxb.form
         simp only [cells2, setsW_len]
         have hl4 := g4.chg.size
         clear g3 hxw hxb)
      | (go_at_call 23
         refine (m_Obj (g4.also ((Chg.refl _ _).alloc _) (K2 := fun v => Row v w4.heap.size 25 _) (fun G hG w2 c2 => (Row.new _ _ _).keep c2 (fun h => by have := (hG _ h).1; omega))) 4 (by unfold In64; omega)).mono ?_
         rw [hO2]
         rintro e w5 ⟨r, rfl, g5, hr⟩
         obtain ⟨yw, yb, rfl, hyw, hyb, _, _⟩ := hr
         obtain ⟨B, cb, rfl, _⟩ := hyw.form
         obtain ⟨B', cb', rfl, _⟩ := hyb.form
         simp only [cells2, List.length_replicate]
         have hrow := g5.kept.1.2
         have c0 : w5.cell? ⟨w4.heap.size, 2, none⟩ = some (.slice A n ca) := by simpa [setsW_len] using hrow.cell 2
         have hl5 := hrow.lt
         have G5 := Lib.hid (And.intro g5.chg (And.intro g5.kept.1.1.2 hyw))
         clear g4 g5 hyw hyb hrow))
    generalize hW : World.alloc w5 _ = W
    have chW : Chg No w5 W := by
      rw [← hW]
      exact (Chg.refl _ _).alloc _
    have y0 : W.cell? ⟨w5.heap.size, 2, none⟩ = some (.slice B n cb) := by
      rw [← hW]
      exact (Row.new w5 _ _).cell 2
    have x0 : W.cell? ⟨w4.heap.size, 2, none⟩ = some (.slice A n ca) := (chW.cell (p := ⟨w4.heap.size, 2, none⟩) hl5 (fun f => f)).trans c0
    obtain ⟨cw5, hxs, hyw⟩ := G5.out
    have cW : Chg No w W := cw5.trans chW
    obtain ⟨xw', xb', hx1, hx2, _, _, _⟩ := hxs
    obtain ⟨hx3, hx4⟩ : Value.slice A n ca = xw' ∧ True := by simp [cells2, setsW_len] at hx1; exact ⟨hx1.1, trivial⟩
    subst hx3
    have hx5 := hx2.keep chW (fun _ _ f => f)
    have hy5 := hyw.keep chW (fun _ _ f => f)
    obtain ⟨A2, c2, hA2, _, _, _, hx6⟩ := hx5.form
    obtain ⟨rfl, _⟩ : A = A2 ∧ True := by simp at hA2; exact ⟨hA2.1, trivial⟩
    obtain ⟨B2, c3, hB2, _, _, _, hy6⟩ := hy5.form
    obtain ⟨rfl, _⟩ : B = B2 ∧ True := by simp at hB2; exact ⟨hB2.1, trivial⟩
    have HX := Lib.hid hx6
    have HY := Lib.hid hy6
    clear hW c0 hyw hx1 hx2 hx5 hy5 hx6 hy6 hA2 hB2 cw5 chW hx4
    go_wp2_with fail
    go_loopg [19] n (fun j v19 wr => ∃ k : Nat, v19 = .int .i64 k ∧ k ≤ n ∧ n - k ≤ j ∧ W = wr)
    case atStart => exact ⟨0, rfl, by omega, by omega, rfl⟩
    case round =>
      clear hE
      obtain ⟨k, rfl, k1, k2, rfl⟩ := hrel
      by_cases hkn : k < n
      · have hki : (k : Int) ≠ i := by omega
        have e2 : ((k : Int) == i) = false := beq_eq_false_iff_ne.2 hki
        have e3 : ((k : Int) != i) = true := bne_iff_ne.2 hki
        obtain ⟨b, off, rfl, _, _, hcx, _⟩ := HX.out k (by rw [setsW_len]; exact hkn)
        obtain ⟨b', off', rfl, _, _, hcy, _⟩ := HY.out k (by rw [List.length_replicate]; exact hkn)
        rw [setsW_at n _ v k hkn, if_neg (fun e => hki e.1)] at hcx
        rw [show (List.replicate n (2 : Int))[k]?.getD 0 = 2 by simp [hkn]] at hcy
        go_wp2_with fail
        go_roundg (n - (k + 1))
        case measure => omega
        case rel => exact ⟨k + 1, by go_num, by omega, by omega, rfl⟩
      · obtain rfl : k = n := by omega
        clear HX HY
        go_wp2_with (go_at_call 16; refine (known_any _).mono ?_; rintro e w6 ⟨rfl, g6⟩)
        go_ret
        exact ⟨rfl, (cW.trans g6).below⟩
  · rw [if_neg (by omega)] at hE
    go_enter Try.func6, Try.ntmps6
    go_wp2_with (first
      | (go_at_call 18
         refine (m_flatNew (Chg.refl _ _)).mono ?_
         rintro e w1 ⟨m, rfl, g0⟩)
      | (go_at_call 19
         refine (m_New g0 2 1 (n : Int) i64 i1 n64 (by decide)).mono ?_
         rw [hN1, hN2, hN3]
         rintro e w2 ⟨rfl, g1⟩
         clear g0)
      | (go_at_call 19
         refine (m_New g1 2 1 (n : Int) i64 i1 n64 (by simp)).mono ?_
         rw [hM1, hN2, hM3]
         rintro e w2 ⟨rfl, g2⟩
         clear g1)
      | (go_at_call 25
         refine (m_Set g2 2 i v i64 v64).mono ?_
         rw [hE]
         rintro e w3 ⟨rfl, g3⟩
         replace g3 : Mem w w3 m (setsL n i v) _ := g3
         clear g2)
      | (go_at_call 15
         refine (Ref05_any v v64 _).mono ?_
         rw [hR]
         rintro e w4 ⟨rfl, rfl⟩)
      | (go_at_call 23
         refine (m_Obj g3 2 i64).mono ?_
         rw [hO1]
         rintro e w4 ⟨r, rfl, g4, hr⟩
         obtain ⟨xw, xb, rfl, hxw, hxb, _, _⟩ := hr
         obtain ⟨A, ca, rfl, _⟩ := hxw.form
         obtain ⟨A', ca', rfl, _⟩ := hxb.form
         simp only [cells2, setsW_len]
         have hl4 := g4.chg.size
         clear g3 hxw hxb)
      | (go_at_call 23
         refine (m_Obj (g4.also ((Chg.refl _ _).alloc _) (K2 := fun v => Row v w4.heap.size 25 _) (fun G hG w2 c2 => (Row.new _ _ _).keep c2 (fun h => by have := (hG _ h).1; omega))) 4 (by unfold In64; omega)).mono ?_
         rw [hO2]
         rintro e w5 ⟨r, rfl, g5, hr⟩
         obtain ⟨yw, yb, rfl, hyw, hyb, _, _⟩ := hr
         obtain ⟨B, cb, rfl, _⟩ := hyw.form
         obtain ⟨B', cb', rfl, _⟩ := hyb.form
         simp only [cells2, List.length_replicate]
         have hrow := g5.kept.1.2
         have c0 : w5.cell? ⟨w4.heap.size, 2, none⟩ = some (.slice A n ca) := by simpa [setsW_len] using hrow.cell 2
         have hl5 := hrow.lt
         have G5 := Lib.hid (And.intro g5.chg (And.intro g5.kept.1.1.2 hyw))
         clear g4 g5 hyw hyb hrow))
    generalize hW : World.alloc w5 _ = W
    have chW : Chg No w5 W := by
      rw [← hW]
      exact (Chg.refl _ _).alloc _
    have y0 : W.cell? ⟨w5.heap.size, 2, none⟩ = some (.slice B n cb) := by
      rw [← hW]
      exact (Row.new w5 _ _).cell 2
    have x0 : W.cell? ⟨w4.heap.size, 2, none⟩ = some (.slice A n ca) := (chW.cell (p := ⟨w4.heap.size, 2, none⟩) hl5 (fun f => f)).trans c0
    obtain ⟨cw5, hxs, hyw⟩ := G5.out
    have cW : Chg No w W := cw5.trans chW
    obtain ⟨xw', xb', hx1, hx2, _, _, _⟩ := hxs
    obtain ⟨hx3, hx4⟩ : Value.slice A n ca = xw' ∧ True := by simp [cells2, setsW_len] at hx1; exact ⟨hx1.1, trivial⟩
    subst hx3
    have hx5 := hx2.keep chW (fun _ _ f => f)
    have hy5 := hyw.keep chW (fun _ _ f => f)
    obtain ⟨A2, c2, hA2, _, _, _, hx6⟩ := hx5.form
    obtain ⟨rfl, _⟩ : A = A2 ∧ True := by simp at hA2; exact ⟨hA2.1, trivial⟩
    obtain ⟨B2, c3, hB2, _, _, _, hy6⟩ := hy5.form
    obtain ⟨rfl, _⟩ : B = B2 ∧ True := by simp at hB2; exact ⟨hB2.1, trivial⟩
    have HX := Lib.hid hx6
    have HY := Lib.hid hy6
    clear hW c0 hyw hx1 hx2 hx5 hy5 hx6 hy6 hA2 hB2 cw5 chW hx4
    go_wp2_with fail
    go_loopg [19] n (fun j v19 wr => ∃ k : Nat, v19 = .int .i64 k ∧ k ≤ n ∧ n - k ≤ j ∧ W = wr)
    case atStart => exact ⟨0, rfl, by omega, by omega, rfl⟩
    case round =>
      clear hE
      obtain ⟨k, rfl, k1, k2, rfl⟩ := hrel
      by_cases hkn : k < n
      · have hki : (k : Int) ≠ i := by omega
        have e2 : ((k : Int) == i) = false := beq_eq_false_iff_ne.2 hki
        have e3 : ((k : Int) != i) = true := bne_iff_ne.2 hki
        obtain ⟨b, off, rfl, _, _, hcx, _⟩ := HX.out k (by rw [setsW_len]; exact hkn)
        obtain ⟨b', off', rfl, _, _, hcy, _⟩ := HY.out k (by rw [List.length_replicate]; exact hkn)
        rw [setsW_at n _ v k hkn, if_neg (fun e => hki e.1)] at hcx
        rw [show (List.replicate n (2 : Int))[k]?.getD 0 = 2 by simp [hkn]] at hcy
        go_wp2_with fail
        go_roundg (n - (k + 1))
        case measure => omega
        case rel => exact ⟨k + 1, by go_num, by omega, by omega, rfl⟩
      · obtain rfl : k = n := by omega
        clear HX HY
        go_wp2_with (go_at_call 16; refine (known_any _).mono ?_; rintro e w6 ⟨rfl, g6⟩)
        go_ret
        exact ⟨rfl, (cW.trans g6).below⟩
  · rw [if_neg (by omega)] at hE
    go_enter Try.func6, Try.ntmps6
    go_wp2_with (first
      | (go_at_call 18
         refine (m_flatNew (Chg.refl _ _)).mono ?_
         rintro e w1 ⟨m, rfl, g0⟩)
      | (go_at_call 19
         refine (m_New g0 2 1 (n : Int) i64 i1 n64 (by decide)).mono ?_
         rw [hN1, hN2, hN3]
         rintro e w2 ⟨rfl, g1⟩
         clear g0)
      | (go_at_call 19
         refine (m_New g1 2 1 (n : Int) i64 i1 n64 (by simp)).mono ?_
         rw [hM1, hN2, hM3]
         rintro e w2 ⟨rfl, g2⟩
         clear g1)
      | (go_at_call 25
         refine (m_Set g2 2 i v i64 v64).mono ?_
         rw [hE]
         rintro e w3 ⟨rfl, g3⟩
         replace g3 : Mem w w3 m (setsL n i v) _ := g3
         clear g2)
      | (go_at_call 15
         refine (Ref05_any v v64 _).mono ?_
         rw [hR]
         rintro e w4 ⟨rfl, rfl⟩)
      | (go_at_call 23
         refine (m_Obj g3 2 i64).mono ?_
         rw [hO1]
         rintro e w4 ⟨r, rfl, g4, hr⟩
         obtain ⟨xw, xb, rfl, hxw, hxb, _, _⟩ := hr
         obtain ⟨A, ca, rfl, _⟩ := hxw.form
         obtain ⟨A', ca', rfl, _⟩ := hxb.form
         simp only [cells2, setsW_len]
         have hl4 := g4.chg.size
         clear g3 hxw hxb)
      | (go_at_call 23
         refine (m_Obj (g4.also ((Chg.refl _ _).alloc _) (K2 := fun v => Row v w4.heap.size 25 _) (fun G hG w2 c2 => (Row.new _ _ _).keep c2 (fun h => by have := (hG _ h).1; omega))) 4 (by unfold In64; omega)).mono ?_
         rw [hO2]
         rintro e w5 ⟨r, rfl, g5, hr⟩
         obtain ⟨yw, yb, rfl, hyw, hyb, _, _⟩ := hr
         obtain ⟨B, cb, rfl, _⟩ := hyw.form
         obtain ⟨B', cb', rfl, _⟩ := hyb.form
         simp only [cells2, List.length_replicate]
         have hrow := g5.kept.1.2
         have c0 : w5.cell? ⟨w4.heap.size, 2, none⟩ = some (.slice A n ca) := by simpa [setsW_len] using hrow.cell 2
         have hl5 := hrow.lt
         have G5 := Lib.hid (And.intro g5.chg (And.intro g5.kept.1.1.2 hyw))
         clear g4 g5 hyw hyb hrow))
    generalize hW : World.alloc w5 _ = W
    have chW : Chg No w5 W := by
      rw [← hW]
      exact (Chg.refl _ _).alloc _
    have y0 : W.cell? ⟨w5.heap.size, 2, none⟩ = some (.slice B n cb) := by
      rw [← hW]
      exact (Row.new w5 _ _).cell 2
    have x0 : W.cell? ⟨w4.heap.size, 2, none⟩ = some (.slice A n ca) := (chW.cell (p := ⟨w4.heap.size, 2, none⟩) hl5 (fun f => f)).trans c0
    obtain ⟨cw5, hxs, hyw⟩ := G5.out
    have cW : Chg No w W := cw5.trans chW
    obtain ⟨xw', xb', hx1, hx2, _, _, _⟩ := hxs
    obtain ⟨hx3, hx4⟩ : Value.slice A n ca = xw' ∧ True := by simp [cells2, setsW_len] at hx1; exact ⟨hx1.1, trivial⟩
    subst hx3
    have hx5 := hx2.keep chW (fun _ _ f => f)
    have hy5 := hyw.keep chW (fun _ _ f => f)
    obtain ⟨A2, c2, hA2, _, _, _, hx6⟩ := hx5.form
    obtain ⟨rfl, _⟩ : A = A2 ∧ True := by simp at hA2; exact ⟨hA2.1, trivial⟩
    obtain ⟨B2, c3, hB2, _, _, _, hy6⟩ := hy5.form
    obtain ⟨rfl, _⟩ : B = B2 ∧ True := by simp at hB2; exact ⟨hB2.1, trivial⟩
    have HX := Lib.hid hx6
    have HY := Lib.hid hy6
    clear hW c0 hyw hx1 hx2 hx5 hy5 hx6 hy6 hA2 hB2 cw5 chW hx4
    go_wp2_with fail
    go_loopg [19] n (fun j v19 wr => ∃ k : Nat, v19 = .int .i64 k ∧ k ≤ n ∧ n - k ≤ j ∧ W = wr)
    case atStart => exact ⟨0, rfl, by omega, by omega, rfl⟩
    case round =>
      clear hE
      obtain ⟨k, rfl, k1, k2, rfl⟩ := hrel
      by_cases hkn : k < n
      · have hki : (k : Int) ≠ i := by omega
        have e2 : ((k : Int) == i) = false := beq_eq_false_iff_ne.2 hki
        have e3 : ((k : Int) != i) = true := bne_iff_ne.2 hki
        obtain ⟨b, off, rfl, _, _, hcx, _⟩ := HX.out k (by rw [setsW_len]; exact hkn)
        obtain ⟨b', off', rfl, _, _, hcy, _⟩ := HY.out k (by rw [List.length_replicate]; exact hkn)
        rw [setsW_at n _ v k hkn, if_neg (fun e => hki e.1)] at hcx
        rw [show (List.replicate n (2 : Int))[k]?.getD 0 = 2 by simp [hkn]] at hcy
        go_wp2_with fail
        go_roundg (n - (k + 1))
        case measure => omega
        case rel => exact ⟨k + 1, by go_num, by omega, by omega, rfl⟩
      · obtain rfl : k = n := by omega
        clear HX HY
        go_wp2_with (go_at_call 16; refine (known_any _).mono ?_; rintro e w6 ⟨rfl, g6⟩)
        go_ret
        exact ⟨rfl, (cW.trans g6).below⟩
  · rw [if_neg (by omega)] at hE
    go_enter Try.func6, Try.ntmps6
    go_wp2_with (first
      | (go_at_call 18
         refine (m_flatNew (Chg.refl _ _)).mono ?_
         rintro e w1 ⟨m, rfl, g0⟩)
      | (go_at_call 19
         refine (m_New g0 2 1 (n : Int) i64 i1 n64 (by decide)).mono ?_
         rw [hN1, hN2, hN3]
         rintro e w2 ⟨rfl, g1⟩
         clear g0)
      | (go_at_call 19
         refine (m_New g1 2 1 (n : Int) i64 i1 n64 (by simp)).mono ?_
         rw [hM1, hN2, hM3]
         rintro e w2 ⟨rfl, g2⟩
         clear g1)
      | (go_at_call 25
         refine (m_Set g2 2 i v i64 v64).mono ?_
         rw [hE]
         rintro e w3 ⟨rfl, g3⟩
         replace g3 : Mem w w3 m (setsL n i v) _ := g3
         clear g2)
      | (go_at_call 15
         refine (Ref05_any v v64 _).mono ?_
         rw [hR]
         rintro e w4 ⟨rfl, rfl⟩)
      | (go_at_call 23
         refine (m_Obj g3 2 i64).mono ?_
         rw [hO1]
         rintro e w4 ⟨r, rfl, g4, hr⟩
         obtain ⟨xw, xb, rfl, hxw, hxb, _, _⟩ := hr
         obtain ⟨A, ca, rfl, _⟩ := hxw.form
         obtain ⟨A', ca', rfl, _⟩ := hxb.form
         simp only [cells2, setsW_len]
         have hl4 := g4.chg.size
         clear g3 hxw hxb)
      | (go_at_call 23
         refine (m_Obj (g4.also ((Chg.refl _ _).alloc _) (K2 := fun v => Row v w4.heap.size 25 _) (fun G hG w2 c2 => (Row.new _ _ _).keep c2 (fun h => by have := (hG _ h).1; omega))) 4 (by unfold In64; omega)).mono ?_
         rw [hO2]
         rintro e w5 ⟨r, rfl, g5, hr⟩
         obtain ⟨yw, yb, rfl, hyw, hyb, _, _⟩ := hr
         obtain ⟨B, cb, rfl, _⟩ := hyw.form
         obtain ⟨B', cb', rfl, _⟩ := hyb.form
         simp only [cells2, List.length_replicate]
         have hrow := g5.kept.1.2
         have c0 : w5.cell? ⟨w4.heap.size, 2, none⟩ = some (.slice A n ca) := by simpa [setsW_len] using hrow.cell 2
         have hl5 := hrow.lt
         have G5 := Lib.hid (And.intro g5.chg (And.intro g5.kept.1.1.2 hyw))
         clear g4 g5 hyw hyb hrow))
    generalize hW : World.alloc w5 _ = W
    have chW : Chg No w5 W := by
      rw [← hW]
      exact (Chg.refl _ _).alloc _
    have y0 : W.cell? ⟨w5.heap.size, 2, none⟩ = some (.slice B n cb) := by
      rw [← hW]
      exact (Row.new w5 _ _).cell 2
    have x0 : W.cell? ⟨w4.heap.size, 2, none⟩ = some (.slice A n ca) := (chW.cell (p := ⟨w4.heap.size, 2, none⟩) hl5 (fun f => f)).trans c0
    obtain ⟨cw5, hxs, hyw⟩ := G5.out
    have cW : Chg No w W := cw5.trans chW
    obtain ⟨xw', xb', hx1, hx2, _, _, _⟩ := hxs
    obtain ⟨hx3, hx4⟩ : Value.slice A n ca = xw' ∧ True := by simp [cells2, setsW_len] at hx1; exact ⟨hx1.1, trivial⟩
    subst hx3
    have hx5 := hx2.keep chW (fun _ _ f => f)
    have hy5 := hyw.keep chW (fun _ _ f => f)
    obtain ⟨A2, c2, hA2, _, _, _, hx6⟩ := hx5.form
    obtain ⟨rfl, _⟩ : A = A2 ∧ True := by simp at hA2; exact ⟨hA2.1, trivial⟩
    obtain ⟨B2, c3, hB2, _, _, _, hy6⟩ := hy5.form
    obtain ⟨rfl, _⟩ : B = B2 ∧ True := by simp at hB2; exact ⟨hB2.1, trivial⟩
    have HX := Lib.hid hx6
    have HY := Lib.hid hy6
    clear hW c0 hyw hx1 hx2 hx5 hy5 hx6 hy6 hA2 hB2 cw5 chW hx4
    go_wp2_with fail
    go_loopg [19] n (fun j v19 wr => ∃ k : Nat, v19 = .int .i64 k ∧ k ≤ n ∧ n - k ≤ j ∧ W = wr)
    case atStart => exact ⟨0, rfl, by omega, by omega, rfl⟩
    case round =>
      clear hE
      obtain ⟨k, rfl, k1, k2, rfl⟩ := hrel
      by_cases hkn : k < n
      · have hki : (k : Int) ≠ i := by omega
        have e2 : ((k : Int) == i) = false := beq_eq_false_iff_ne.2 hki
        have e3 : ((k : Int) != i) = true := bne_iff_ne.2 hki
        obtain ⟨b, off, rfl, _, _, hcx, _⟩ := HX.out k (by rw [setsW_len]; exact hkn)
        obtain ⟨b', off', rfl, _, _, hcy, _⟩ := HY.out k (by rw [List.length_replicate]; exact hkn)
        rw [setsW_at n _ v k hkn, if_neg (fun e => hki e.1)] at hcx
        rw [show (List.replicate n (2 : Int))[k]?.getD 0 = 2 by simp [hkn]] at hcy
        go_wp2_with fail
        go_roundg (n - (k + 1))
        case measure => omega
        case rel => exact ⟨k + 1, by go_num, by omega, by omega, rfl⟩
      · obtain rfl : k = n := by omega
        clear HX HY
        go_wp2_with (go_at_call 16; refine (known_any _).mono ?_; rintro e w6 ⟨rfl, g6⟩)
        go_ret
        exact ⟨rfl, (cW.trans g6).below⟩

end Go.Proofs.Ytmpfpfemjpmbaaa
