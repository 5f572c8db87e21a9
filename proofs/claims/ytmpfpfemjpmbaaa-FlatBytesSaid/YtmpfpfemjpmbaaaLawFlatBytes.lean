/- The walk of FlatBytes. -/
import Derived.Test.YtmpfpfemjpmbaaaFlatF
import Derived.OpenShut
namespace Go.Proofs.Ytmpfpfemjpmbaaa
open Go.RowKit

theorem blank2 {n : Nat} (hn : n ≤ 255) : blankOk 2 2 (n : Int) = true := by
  simp [blankOk, namedOk]
  omega
theorem newO2 (n : Nat) : newO 2 2 (n : Int) = ⟨2, 2, [], List.replicate n 0⟩ := by simp [newO]
theorem fnd_one (o : O) (h : o.kind ≠ 0) : fnd [o] 2 = some 0 := by
  unfold fnd
  rw [if_pos ⟨by decide, by simpa [ob] using h⟩]
  rfl

/-- what stands behind SetByte -/
def bytesL (n : Nat) (i v : Int) : List O := sbyteL [newO 2 2 (n : Int)] 2 i v

theorem bytes_E (n : Nat) (i v : Int) : sbyteE [newO 2 2 (n : Int)] 2 i v = if 0 ≤ i ∧ i < n then (if 0 ≤ v ∧ v ≤ 255 then 0 else 2) else 21 := by
  have hf := fnd_one (newO 2 2 (n : Int)) (by simp [newO2])
  have hp : placeE [newO 2 2 (n : Int)] 2 2 i = if 0 ≤ i ∧ i < n then 0 else 21 := by
    rw [newO2] at hf ⊢
    simp [placeE, hf, ob, szO]
  rw [sbyteE, hp]
  by_cases h : 0 ≤ i ∧ i < n
  · simp [h]
  · simp [h]
theorem bytes_L (n : Nat) (i v : Int) : bytesL n i v = [⟨2, 2, [], if 0 ≤ i ∧ i < n ∧ 0 ≤ v ∧ v ≤ 255 then (List.replicate n 0).set i.toNat v else List.replicate n 0⟩] := by
  have hf := fnd_one (newO 2 2 (n : Int)) (by simp [newO2])
  have he := bytes_E n i v
  unfold bytesL sbyteL
  rw [hf]
  simp only [he]
  by_cases h : 0 ≤ i ∧ i < n
  · by_cases hv : 0 ≤ v ∧ v ≤ 255
    · rw [if_pos h, if_pos hv, if_pos rfl, if_pos ⟨h.1, h.2, hv⟩]
      simp [ob, newO2]
    · rw [if_pos h, if_neg hv, if_neg (by decide), if_neg (fun e => hv e.2.2)]
      simp [newO2]
  · rw [if_neg h, if_neg (by decide), if_neg (fun e => h ⟨e.1, e.2.1⟩)]
    simp [newO2]
theorem bytes_at (n : Nat) (i v : Int) (k : Nat) (hk : k < n) : byteV (bytesL n i v) 2 k = (if (k : Int) = i ∧ 0 ≤ v ∧ v ≤ 255 then v else 0) ∧ placeE (bytesL n i v) 2 2 k = 0 := by
  rw [bytes_L]
  generalize hB : (if 0 ≤ i ∧ i < n ∧ 0 ≤ v ∧ v ≤ 255 then (List.replicate n 0).set i.toNat v else List.replicate n 0) = B
  have hl : B.length = n := by rw [← hB]; split <;> simp
  have hf := fnd_one ⟨2, 2, [], B⟩ (by simp)
  have hk' : (k : Int) < (B.length : Int) := by omega
  refine ⟨?_, by simp [placeE, hf, ob, szO, hk']⟩
  simp only [byteV, hf, ob]
  simp [hk']
  rw [← hB]
  by_cases h : 0 ≤ i ∧ i < n ∧ 0 ≤ v ∧ v ≤ 255
  · rw [if_pos h]
    by_cases hki : (k : Int) = i
    · rw [if_pos ⟨hki, h.2.2⟩]
      subst hki
      simp [hk]
    · rw [if_neg (fun e => hki e.1)]
      rw [List.getElem?_set_ne (by omega)]
      simp [hk]
  · rw [if_neg h, if_neg (fun e => h ⟨by omega, by omega, e.2⟩)]
    simp [hk]
theorem bytes_kind (n : Nat) (i v : Int) : placeE (bytesL n i v) 2 1 0 = 20 := by
  rw [bytes_L]
  have hf := fnd_one ⟨2, 2, [], if 0 ≤ i ∧ i < n ∧ 0 ≤ v ∧ v ≤ 255 then (List.replicate n 0).set i.toNat v else List.replicate n 0⟩ (by simp)
  simp [placeE, hf, ob]


set_option maxRecDepth 100000 in
set_option maxHeartbeats 4000000 in
theorem FlatBytes_any (n : Nat) (i v : Int) (hn : n ≤ 255) (hi : In64 i) (hv : In64 v) (w : World) :
    Calls Try.prog 4 #[.int .u8 n, .int .i64 i, .int .i64 v] w fun e w' => e = .returned (.bool true) ∧ Below w.heap.size w w' := by
  obtain ⟨i1, i2⟩ := hi
  obtain ⟨v1, v2⟩ := hv
  have hb := blank2 hn
  have hN1 : newN [] 2 2 (n : Int) = 2 := by simp [newN, hb]
  have hN2 : newE 2 2 (n : Int) = 0 := by simp [newE, hb]
  have hN3 : newL [] 2 2 (n : Int) = [newO 2 2 (n : Int)] := by simp [newL, hb]
  have hE := bytes_E n i v
  have hA := Lib.hid (bytes_at n i v)
  have hK := bytes_kind n i v
  have hwr : IntKind.i64.wrap (n : Int) = n := IntWalk.i64_in _ (by omega)
  have i64 : In64 2 := by unfold In64; omega
  have n64 : In64 (n : Int) := by unfold In64; omega
  have hi3 : (0 ≤ i ∧ i < n) ∨ i < 0 ∨ n ≤ i := by omega
  have hv3 : (0 ≤ v ∧ v ≤ 255) ∨ v < 0 ∨ 255 < v := by omega
  clear hb
  rcases hi3 with ⟨h1, h2⟩ | h1 | h1 <;> rcases hv3 with ⟨h3, h4⟩ | h3 | h3
  · rw [if_pos ⟨h1, h2⟩, if_pos ⟨h3, h4⟩] at hE
    go_enter Try.func4, Try.ntmps4
    go_wp2_with (first
      | (go_at_call 18
         refine (m_flatNew (Chg.refl _ _)).mono ?_
         rintro e w1 ⟨m, rfl, g1⟩)
      | (go_at_call 19
         refine (m_New g1 2 2 (n : Int) i64 i64 n64 (by decide)).mono ?_
         rw [hN1, hN2, hN3]
         rintro e w2 ⟨rfl, g2⟩
         clear g1)
      | (go_at_call 20
         refine (m_SetByte g2 2 i v i64).mono ?_
         rw [hE]
         rintro e w3 ⟨rfl, g3⟩
         replace g3 : Mem w w3 m (bytesL n i v) _ := g3
         clear g2))
    go_loopg [13] n (fun j v13 wr => ∃ k : Nat, v13 = .int .i64 k ∧ k ≤ n ∧ n - k ≤ j ∧ Mem w wr m (bytesL n i v) (fun _ => True))
    case atStart => exact ⟨0, rfl, by omega, by omega, g3⟩
    case round =>
      clear g3 hE
      obtain ⟨k, rfl, k1, k2, gk⟩ := hrel
      by_cases hkn : k < n
      · obtain ⟨hb, hp⟩ := hA.out k hkn
        by_cases hki : (k : Int) = i
        · subst hki
          rw [if_pos ⟨rfl, h3, h4⟩] at hb
          go_wp2_with (go_at_call 21; refine (m_Byte gk 2 k i64).mono ?_; rw [hb, hp]; rintro e w4 ⟨rfl, g4⟩)
          go_roundg (n - (k + 1))
          case measure => omega
          case rel => exact ⟨k + 1, by go_num, by omega, by omega, g4⟩
        · have e2 : ((k : Int) == i) = false := beq_eq_false_iff_ne.2 hki
          rw [if_neg (fun e => hki e.1)] at hb
          clear hki
          go_wp2_with (go_at_call 21; refine (m_Byte gk 2 k i64).mono ?_; rw [hb, hp]; rintro e w4 ⟨rfl, g4⟩)
          go_roundg (n - (k + 1))
          case measure => omega
          case rel => exact ⟨k + 1, by go_num, by omega, by omega, g4⟩
      · obtain rfl : k = n := by omega
        go_wp2_with (first
          | (go_at_call 22
             refine (m_Fetch gk 2 0 i64).mono ?_
             rw [hK]
             rintro e w4 ⟨rfl, g4⟩)
          | (go_at_call 16
             refine (known_any _).mono ?_
             rintro e w5 ⟨rfl, g5⟩))
        go_ret
        exact ⟨rfl, (g4.chg.trans g5).below⟩
  · rw [if_pos ⟨h1, h2⟩, if_neg (by omega)] at hE
    go_enter Try.func4, Try.ntmps4
    go_wp2_with (first
      | (go_at_call 18
         refine (m_flatNew (Chg.refl _ _)).mono ?_
         rintro e w1 ⟨m, rfl, g1⟩)
      | (go_at_call 19
         refine (m_New g1 2 2 (n : Int) i64 i64 n64 (by decide)).mono ?_
         rw [hN1, hN2, hN3]
         rintro e w2 ⟨rfl, g2⟩
         clear g1)
      | (go_at_call 20
         refine (m_SetByte g2 2 i v i64).mono ?_
         rw [hE]
         rintro e w3 ⟨rfl, g3⟩
         replace g3 : Mem w w3 m (bytesL n i v) _ := g3
         clear g2))
    go_loopg [13] n (fun j v13 wr => ∃ k : Nat, v13 = .int .i64 k ∧ k ≤ n ∧ n - k ≤ j ∧ Mem w wr m (bytesL n i v) (fun _ => True))
    case atStart => exact ⟨0, rfl, by omega, by omega, g3⟩
    case round =>
      clear g3 hE
      obtain ⟨k, rfl, k1, k2, gk⟩ := hrel
      by_cases hkn : k < n
      · obtain ⟨hb, hp⟩ := hA.out k hkn
        by_cases hki : (k : Int) = i
        · subst hki
          rw [if_neg (fun e => absurd e.2 (by omega))] at hb
          go_wp2_with (go_at_call 21; refine (m_Byte gk 2 k i64).mono ?_; rw [hb, hp]; rintro e w4 ⟨rfl, g4⟩)
          go_roundg (n - (k + 1))
          case measure => omega
          case rel => exact ⟨k + 1, by go_num, by omega, by omega, g4⟩
        · have e2 : ((k : Int) == i) = false := beq_eq_false_iff_ne.2 hki
          rw [if_neg (fun e => hki e.1)] at hb
          clear hki
          go_wp2_with (go_at_call 21; refine (m_Byte gk 2 k i64).mono ?_; rw [hb, hp]; rintro e w4 ⟨rfl, g4⟩)
          go_roundg (n - (k + 1))
          case measure => omega
          case rel => exact ⟨k + 1, by go_num, by omega, by omega, g4⟩
      · obtain rfl : k = n := by omega
        go_wp2_with (first
          | (go_at_call 22
             refine (m_Fetch gk 2 0 i64).mono ?_
             rw [hK]
             rintro e w4 ⟨rfl, g4⟩)
          | (go_at_call 16
             refine (known_any _).mono ?_
             rintro e w5 ⟨rfl, g5⟩))
        go_ret
        exact ⟨rfl, (g4.chg.trans g5).below⟩
  · rw [if_pos ⟨h1, h2⟩, if_neg (by omega)] at hE
    go_enter Try.func4, Try.ntmps4
    go_wp2_with (first
      | (go_at_call 18
         refine (m_flatNew (Chg.refl _ _)).mono ?_
         rintro e w1 ⟨m, rfl, g1⟩)
      | (go_at_call 19
         refine (m_New g1 2 2 (n : Int) i64 i64 n64 (by decide)).mono ?_
         rw [hN1, hN2, hN3]
         rintro e w2 ⟨rfl, g2⟩
         clear g1)
      | (go_at_call 20
         refine (m_SetByte g2 2 i v i64).mono ?_
         rw [hE]
         rintro e w3 ⟨rfl, g3⟩
         replace g3 : Mem w w3 m (bytesL n i v) _ := g3
         clear g2))
    go_loopg [13] n (fun j v13 wr => ∃ k : Nat, v13 = .int .i64 k ∧ k ≤ n ∧ n - k ≤ j ∧ Mem w wr m (bytesL n i v) (fun _ => True))
    case atStart => exact ⟨0, rfl, by omega, by omega, g3⟩
    case round =>
      clear g3 hE
      obtain ⟨k, rfl, k1, k2, gk⟩ := hrel
      by_cases hkn : k < n
      · obtain ⟨hb, hp⟩ := hA.out k hkn
        by_cases hki : (k : Int) = i
        · subst hki
          rw [if_neg (fun e => absurd e.2 (by omega))] at hb
          go_wp2_with (go_at_call 21; refine (m_Byte gk 2 k i64).mono ?_; rw [hb, hp]; rintro e w4 ⟨rfl, g4⟩)
          go_roundg (n - (k + 1))
          case measure => omega
          case rel => exact ⟨k + 1, by go_num, by omega, by omega, g4⟩
        · have e2 : ((k : Int) == i) = false := beq_eq_false_iff_ne.2 hki
          rw [if_neg (fun e => hki e.1)] at hb
          clear hki
          go_wp2_with (go_at_call 21; refine (m_Byte gk 2 k i64).mono ?_; rw [hb, hp]; rintro e w4 ⟨rfl, g4⟩)
          go_roundg (n - (k + 1))
          case measure => omega
          case rel => exact ⟨k + 1, by go_num, by omega, by omega, g4⟩
      · obtain rfl : k = n := by omega
        go_wp2_with (first
          | (go_at_call 22
             refine (m_Fetch gk 2 0 i64).mono ?_
             rw [hK]
             rintro e w4 ⟨rfl, g4⟩)
          | (go_at_call 16
             refine (known_any _).mono ?_
             rintro e w5 ⟨rfl, g5⟩))
        go_ret
        exact ⟨rfl, (g4.chg.trans g5).below⟩
  · rw [if_neg (by omega)] at hE
    go_enter Try.func4, Try.ntmps4
    go_wp2_with (first
      | (go_at_call 18
         refine (m_flatNew (Chg.refl _ _)).mono ?_
         rintro e w1 ⟨m, rfl, g1⟩)
      | (go_at_call 19
         refine (m_New g1 2 2 (n : Int) i64 i64 n64 (by decide)).mono ?_
         rw [hN1, hN2, hN3]
         rintro e w2 ⟨rfl, g2⟩
         clear g1)
      | (go_at_call 20
         refine (m_SetByte g2 2 i v i64).mono ?_
         rw [hE]
         rintro e w3 ⟨rfl, g3⟩
         replace g3 : Mem w w3 m (bytesL n i v) _ := g3
         clear g2))
    go_loopg [13] n (fun j v13 wr => ∃ k : Nat, v13 = .int .i64 k ∧ k ≤ n ∧ n - k ≤ j ∧ Mem w wr m (bytesL n i v) (fun _ => True))
    case atStart => exact ⟨0, rfl, by omega, by omega, g3⟩
    case round =>
      clear g3 hE
      obtain ⟨k, rfl, k1, k2, gk⟩ := hrel
      by_cases hkn : k < n
      · obtain ⟨hb, hp⟩ := hA.out k hkn
        have hki : (k : Int) ≠ i := by omega
        have e2 : ((k : Int) == i) = false := beq_eq_false_iff_ne.2 hki
        rw [if_neg (fun e => hki e.1)] at hb
        clear hki
        go_wp2_with (go_at_call 21; refine (m_Byte gk 2 k i64).mono ?_; rw [hb, hp]; rintro e w4 ⟨rfl, g4⟩)
        go_roundg (n - (k + 1))
        case measure => omega
        case rel => exact ⟨k + 1, by go_num, by omega, by omega, g4⟩
      · obtain rfl : k = n := by omega
        go_wp2_with (first
          | (go_at_call 22
             refine (m_Fetch gk 2 0 i64).mono ?_
             rw [hK]
             rintro e w4 ⟨rfl, g4⟩)
          | (go_at_call 16
             refine (known_any _).mono ?_
             rintro e w5 ⟨rfl, g5⟩))
        go_ret
        exact ⟨rfl, (g4.chg.trans g5).below⟩
  · rw [if_neg (by omega)] at hE
    go_enter Try.func4, Try.ntmps4
    go_wp2_with (first
      | (go_at_call 18
         refine (m_flatNew (Chg.refl _ _)).mono ?_
         rintro e w1 ⟨m, rfl, g1⟩)
      | (go_at_call 19
         refine (m_New g1 2 2 (n : Int) i64 i64 n64 (by decide)).mono ?_
         rw [hN1, hN2, hN3]
         rintro e w2 ⟨rfl, g2⟩
         clear g1)
      | (go_at_call 20
         refine (m_SetByte g2 2 i v i64).mono ?_
         rw [hE]
         rintro e w3 ⟨rfl, g3⟩
         replace g3 : Mem w w3 m (bytesL n i v) _ := g3
         clear g2))
    go_loopg [13] n (fun j v13 wr => ∃ k : Nat, v13 = .int .i64 k ∧ k ≤ n ∧ n - k ≤ j ∧ Mem w wr m (bytesL n i v) (fun _ => True))
    case atStart => exact ⟨0, rfl, by omega, by omega, g3⟩
    case round =>
      clear g3 hE
      obtain ⟨k, rfl, k1, k2, gk⟩ := hrel
      by_cases hkn : k < n
      · obtain ⟨hb, hp⟩ := hA.out k hkn
        have hki : (k : Int) ≠ i := by omega
        have e2 : ((k : Int) == i) = false := beq_eq_false_iff_ne.2 hki
        rw [if_neg (fun e => hki e.1)] at hb
        clear hki
        go_wp2_with (go_at_call 21; refine (m_Byte gk 2 k i64).mono ?_; rw [hb, hp]; rintro e w4 ⟨rfl, g4⟩)
        go_roundg (n - (k + 1))
        case measure => omega
        case rel => exact ⟨k + 1, by go_num, by omega, by omega, g4⟩
      · obtain rfl : k = n := by omega
        go_wp2_with (first
          | (go_at_call 22
             refine (m_Fetch gk 2 0 i64).mono ?_
             rw [hK]
             rintro e w4 ⟨rfl, g4⟩)
          | (go_at_call 16
             refine (known_any _).mono ?_
             rintro e w5 ⟨rfl, g5⟩))
        go_ret
        exact ⟨rfl, (g4.chg.trans g5).below⟩
  · rw [if_neg (by omega)] at hE
    go_enter Try.func4, Try.ntmps4
    go_wp2_with (first
      | (go_at_call 18
         refine (m_flatNew (Chg.refl _ _)).mono ?_
         rintro e w1 ⟨m, rfl, g1⟩)
      | (go_at_call 19
         refine (m_New g1 2 2 (n : Int) i64 i64 n64 (by decide)).mono ?_
         rw [hN1, hN2, hN3]
         rintro e w2 ⟨rfl, g2⟩
         clear g1)
      | (go_at_call 20
         refine (m_SetByte g2 2 i v i64).mono ?_
         rw [hE]
         rintro e w3 ⟨rfl, g3⟩
         replace g3 : Mem w w3 m (bytesL n i v) _ := g3
         clear g2))
    go_loopg [13] n (fun j v13 wr => ∃ k : Nat, v13 = .int .i64 k ∧ k ≤ n ∧ n - k ≤ j ∧ Mem w wr m (bytesL n i v) (fun _ => True))
    case atStart => exact ⟨0, rfl, by omega, by omega, g3⟩
    case round =>
      clear g3 hE
      obtain ⟨k, rfl, k1, k2, gk⟩ := hrel
      by_cases hkn : k < n
      · obtain ⟨hb, hp⟩ := hA.out k hkn
        have hki : (k : Int) ≠ i := by omega
        have e2 : ((k : Int) == i) = false := beq_eq_false_iff_ne.2 hki
        rw [if_neg (fun e => hki e.1)] at hb
        clear hki
        go_wp2_with (go_at_call 21; refine (m_Byte gk 2 k i64).mono ?_; rw [hb, hp]; rintro e w4 ⟨rfl, g4⟩)
        go_roundg (n - (k + 1))
        case measure => omega
        case rel => exact ⟨k + 1, by go_num, by omega, by omega, g4⟩
      · obtain rfl : k = n := by omega
        go_wp2_with (first
          | (go_at_call 22
             refine (m_Fetch gk 2 0 i64).mono ?_
             rw [hK]
             rintro e w4 ⟨rfl, g4⟩)
          | (go_at_call 16
             refine (known_any _).mono ?_
             rintro e w5 ⟨rfl, g5⟩))
        go_ret
        exact ⟨rfl, (g4.chg.trans g5).below⟩
  · rw [if_neg (by omega)] at hE
    go_enter Try.func4, Try.ntmps4
    go_wp2_with (first
      | (go_at_call 18
         refine (m_flatNew (Chg.refl _ _)).mono ?_
         rintro e w1 ⟨m, rfl, g1⟩)
      | (go_at_call 19
         refine (m_New g1 2 2 (n : Int) i64 i64 n64 (by decide)).mono ?_
         rw [hN1, hN2, hN3]
         rintro e w2 ⟨rfl, g2⟩
         clear g1)
      | (go_at_call 20
         refine (m_SetByte g2 2 i v i64).mono ?_
         rw [hE]
         rintro e w3 ⟨rfl, g3⟩
         replace g3 : Mem w w3 m (bytesL n i v) _ := g3
         clear g2))
    go_loopg [13] n (fun j v13 wr => ∃ k : Nat, v13 = .int .i64 k ∧ k ≤ n ∧ n - k ≤ j ∧ Mem w wr m (bytesL n i v) (fun _ => True))
    case atStart => exact ⟨0, rfl, by omega, by omega, g3⟩
    case round =>
      clear g3 hE
      obtain ⟨k, rfl, k1, k2, gk⟩ := hrel
      by_cases hkn : k < n
      · obtain ⟨hb, hp⟩ := hA.out k hkn
        have hki : (k : Int) ≠ i := by omega
        have e2 : ((k : Int) == i) = false := beq_eq_false_iff_ne.2 hki
        rw [if_neg (fun e => hki e.1)] at hb
        clear hki
        go_wp2_with (go_at_call 21; refine (m_Byte gk 2 k i64).mono ?_; rw [hb, hp]; rintro e w4 ⟨rfl, g4⟩)
        go_roundg (n - (k + 1))
        case measure => omega
        case rel => exact ⟨k + 1, by go_num, by omega, by omega, g4⟩
      · obtain rfl : k = n := by omega
        go_wp2_with (first
          | (go_at_call 22
             refine (m_Fetch gk 2 0 i64).mono ?_
             rw [hK]
             rintro e w4 ⟨rfl, g4⟩)
          | (go_at_call 16
             refine (known_any _).mono ?_
             rintro e w5 ⟨rfl, g5⟩))
        go_ret
        exact ⟨rfl, (g4.chg.trans g5).below⟩
  · rw [if_neg (by omega)] at hE
    go_enter Try.func4, Try.ntmps4
    go_wp2_with (first
      | (go_at_call 18
         refine (m_flatNew (Chg.refl _ _)).mono ?_
         rintro e w1 ⟨m, rfl, g1⟩)
      | (go_at_call 19
         refine (m_New g1 2 2 (n : Int) i64 i64 n64 (by decide)).mono ?_
         rw [hN1, hN2, hN3]
         rintro e w2 ⟨rfl, g2⟩
         clear g1)
      | (go_at_call 20
         refine (m_SetByte g2 2 i v i64).mono ?_
         rw [hE]
         rintro e w3 ⟨rfl, g3⟩
         replace g3 : Mem w w3 m (bytesL n i v) _ := g3
         clear g2))
    go_loopg [13] n (fun j v13 wr => ∃ k : Nat, v13 = .int .i64 k ∧ k ≤ n ∧ n - k ≤ j ∧ Mem w wr m (bytesL n i v) (fun _ => True))
    case atStart => exact ⟨0, rfl, by omega, by omega, g3⟩
    case round =>
      clear g3 hE
      obtain ⟨k, rfl, k1, k2, gk⟩ := hrel
      by_cases hkn : k < n
      · obtain ⟨hb, hp⟩ := hA.out k hkn
        have hki : (k : Int) ≠ i := by omega
        have e2 : ((k : Int) == i) = false := beq_eq_false_iff_ne.2 hki
        rw [if_neg (fun e => hki e.1)] at hb
        clear hki
        go_wp2_with (go_at_call 21; refine (m_Byte gk 2 k i64).mono ?_; rw [hb, hp]; rintro e w4 ⟨rfl, g4⟩)
        go_roundg (n - (k + 1))
        case measure => omega
        case rel => exact ⟨k + 1, by go_num, by omega, by omega, g4⟩
      · obtain rfl : k = n := by omega
        go_wp2_with (first
          | (go_at_call 22
             refine (m_Fetch gk 2 0 i64).mono ?_
             rw [hK]
             rintro e w4 ⟨rfl, g4⟩)
          | (go_at_call 16
             refine (known_any _).mono ?_
             rintro e w5 ⟨rfl, g5⟩))
        go_ret
        exact ⟨rfl, (g4.chg.trans g5).below⟩
  · rw [if_neg (by omega)] at hE
    go_enter Try.func4, Try.ntmps4
    go_wp2_with (first
      | (go_at_call 18
         refine (m_flatNew (Chg.refl _ _)).mono ?_
         rintro e w1 ⟨m, rfl, g1⟩)
      | (go_at_call 19
         refine (m_New g1 2 2 (n : Int) i64 i64 n64 (by decide)).mono ?_
         rw [hN1, hN2, hN3]
         rintro e w2 ⟨rfl, g2⟩
         clear g1)
      | (go_at_call 20
         refine (m_SetByte g2 2 i v i64).mono ?_
         rw [hE]
         rintro e w3 ⟨rfl, g3⟩
         replace g3 : Mem w w3 m (bytesL n i v) _ := g3
         clear g2))
    go_loopg [13] n (fun j v13 wr => ∃ k : Nat, v13 = .int .i64 k ∧ k ≤ n ∧ n - k ≤ j ∧ Mem w wr m (bytesL n i v) (fun _ => True))
    case atStart => exact ⟨0, rfl, by omega, by omega, g3⟩
    case round =>
      clear g3 hE
      obtain ⟨k, rfl, k1, k2, gk⟩ := hrel
      by_cases hkn : k < n
      · obtain ⟨hb, hp⟩ := hA.out k hkn
        have hki : (k : Int) ≠ i := by omega
        have e2 : ((k : Int) == i) = false := beq_eq_false_iff_ne.2 hki
        rw [if_neg (fun e => hki e.1)] at hb
        clear hki
        go_wp2_with (go_at_call 21; refine (m_Byte gk 2 k i64).mono ?_; rw [hb, hp]; rintro e w4 ⟨rfl, g4⟩)
        go_roundg (n - (k + 1))
        case measure => omega
        case rel => exact ⟨k + 1, by go_num, by omega, by omega, g4⟩
      · obtain rfl : k = n := by omega
        go_wp2_with (first
          | (go_at_call 22
             refine (m_Fetch gk 2 0 i64).mono ?_
             rw [hK]
             rintro e w4 ⟨rfl, g4⟩)
          | (go_at_call 16
             refine (known_any _).mono ?_
             rintro e w5 ⟨rfl, g5⟩))
        go_ret
        exact ⟨rfl, (g4.chg.trans g5).below⟩

end Go.Proofs.Ytmpfpfemjpmbaaa
