/- The walk of FrameHomes. -/
import Derived.Test.YtjanojignaonfaaLawFrameTemps
import Derived.Test.YtjanojignaonfaaFrameQ
namespace Go.Proofs.Ytjanojignaonfaa
set_option linter.unusedVariables false
set_option linter.unusedSimpArgs false
open Go.RowKit

/-- a block's frame -/
def blkO (a s : Int) : O := ⟨10, 1, [2, 2 * s + 1, 1, 14, 4, 16, 2 * a + 1, 2 * s + 1] ++ List.replicate 24 2, []⟩
def homL (a s : Int) (i : Nat) : List O := frameL ++ List.replicate i (blkO a s)
theorem homL_len (a s : Int) (i : Nat) : (homL a s i).length = 8 + i := by simp [homL, frameL, worldL]; omega
theorem homL_succ (a s : Int) (i : Nat) : homL a s (i + 1) = homL a s i ++ [blkO a s] := by
  unfold homL
  rw [List.replicate_succ', List.append_assoc]
theorem old8 (X : List O) : placeE (frameL ++ X) 8 1 3 = 0 ∧ fetchV (frameL ++ X) 8 3 = 10 := ⟨by kernel_rfl, by kernel_rfl⟩
theorem old16 (X : List O) : placeE (frameL ++ X) 16 1 3 = 0 ∧ fetchV (frameL ++ X) 16 3 = 14 ∧ placeE (frameL ++ X) 16 1 4 = 0 ∧ fetchV (frameL ++ X) 16 4 = 4 ∧ homeR (frameL ++ X) 16 = (16, 0) := ⟨by kernel_rfl, by kernel_rfl, by kernel_rfl, by kernel_rfl, by kernel_rfl⟩
theorem blk_at {a s : Int} {i : Nat} (hi : i < 1000) (j : Nat) (hj : j < 8) : placeE (homL a s (i + 1)) (2 * ((8 + i : Nat) : Int) + 2) 1 (j : Int) = 0 ∧ fetchV (homL a s (i + 1)) (2 * ((8 + i : Nat) : Int) + 2) (j : Int) = [2, 2 * s + 1, 1, 14, 4, 16, 2 * a + 1, 2 * s + 1][j]?.getD 0 := by
  have hl := homL_len a s i
  have hlt : (homL a s i).length < 1073741823 := by omega
  have hb : (blkO a s).W.length = 32 := by simp [blkO]
  have e : 2 * ((8 + i : Nat) : Int) + 2 = 2 * (((homL a s i).length : Int) + 1) := by rw [hl]; omega
  rw [homL_succ, e]
  refine ⟨placeQ rfl hlt ⟨by omega, by rw [hb]; omega⟩, ?_⟩
  rw [fetchQ rfl hlt ⟨by omega, by rw [hb]; omega⟩, Int.toNat_natCast]
  unfold blkO
  simp only []
  rw [List.getElem?_append_left (by simpa using hj)]
theorem homs_home {a s : Int} {i : Nat} (hi : i < 1000) : homeR (homL a s i) (2 * ((7 + i : Nat) : Int) + 2) = (16, 0) := by
  cases i with
  | zero => exact (old16 _).2.2.2.2
  | succ i =>
    obtain ⟨h1, h2⟩ := blk_at (a := a) (s := s) (i := i) (by omega) 5 (by omega)
    rw [show 7 + (i + 1) = 8 + i by omega]
    unfold homeR
    rw [if_pos (show placeE (homL a s (i + 1)) (2 * ((8 + i : Nat) : Int) + 2) 1 5 = 0 from h1)]
    rw [show fetchV (homL a s (i + 1)) (2 * ((8 + i : Nat) : Int) + 2) 5 = 16 from h2]
    rfl
theorem homs_block {a s : Int} {i : Nat} (hi : i < 900) (ha : 0 ≤ a ∧ a ≤ 255) (hs : 0 ≤ s ∧ s ≤ 65535) :
    blockE (homL a s i) (2 * ((7 + i : Nat) : Int) + 2) a s = 0 ∧ blockV (homL a s i) (2 * ((7 + i : Nat) : Int) + 2) a s = 2 * ((8 + i : Nat) : Int) + 2 ∧ blockL (homL a s i) (2 * ((7 + i : Nat) : Int) + 2) a s = homL a s (i + 1) := by
  have sa : smallE a = 0 := if_pos (by omega)
  have va : smallV a = 2 * a + 1 := if_pos (by omega)
  have ss : smallE s = 0 := if_pos (by omega)
  have vs : smallV s = 2 * s + 1 := if_pos (by omega)
  have hh := homs_home (a := a) (s := s) (i := i) (by omega)
  have hl := homL_len a s i
  obtain ⟨o1, o2, o3, o4, -⟩ := old16 (List.replicate i (blkO a s))
  have hE : blockEs (homL a s i) (2 * ((7 + i : Nat) : Int) + 2) a s = [0, 0, 0, 0, 0] := by
    unfold blockEs
    rw [hh, sa, ss]
    simp only []
    rw [show homL a s i = frameL ++ List.replicate i (blkO a s) from rfl, o1, o3]
  have hW : blockW (homL a s i) (2 * ((7 + i : Nat) : Int) + 2) a s = [2, 2 * s + 1, 1, 14, 4, 16, 2 * a + 1, 2 * s + 1] := by
    unfold blockW
    rw [hh, va, vs]
    simp only []
    rw [show homL a s i = frameL ++ List.replicate i (blkO a s) from rfl, o2, o4]
  have hr : ∀ v ∈ [2, 2 * s + 1, 1, 14, 4, 16, 2 * a + 1, 2 * s + 1], refOk v = true := by
    have h1 : refOk (2 * s + 1) = true := by
      have : numOk (2 * s + 1) = true := by unfold numOk; rw [decide_eq_true_eq]; omega
      simp [refOk, this]
    have h2 : refOk (2 * a + 1) = true := by
      have : numOk (2 * a + 1) = true := by unfold numOk; rw [decide_eq_true_eq]; omega
      simp [refOk, this]
    intro v hv
    simp only [List.mem_cons, List.not_mem_nil, or_false] at hv
    rcases hv with rfl | rfl | rfl | rfl | rfl | rfl | rfl | rfl <;> first | exact h1 | exact h2 | rfl
  obtain ⟨m1, m2, m3⟩ := madeQ (L := homL a s i) [2, 2 * s + 1, 1, 14, 4, 16, 2 * a + 1, 2 * s + 1] (sp := 3) (c := 10) (old8 _).1 (old8 _).2 (by rfl) (by omega) (by simp) hr
  have hz : firstE [0, 0, 0, 0, 0] = 0 := rfl
  refine ⟨?_, ?_, ?_⟩
  · unfold blockE
    rw [hE, hW, hz, if_pos rfl, m1]
  · unfold blockV
    rw [hE, hW, hz, if_pos rfl, m2, hl]
    omega
  · unfold blockL
    rw [hE, hW, hz, if_pos rfl, m3, homL_succ]
    rfl
theorem homs_num {a s : Int} {i : Nat} (hi : i < 900) (ha : 0 ≤ a ∧ a ≤ 255) (hs : 0 ≤ s ∧ s ≤ 65535) :
    numR (homL a s (i + 1)) (2 * ((8 + i : Nat) : Int) + 2) 6 = (a, 0) ∧ numR (homL a s (i + 1)) (2 * ((8 + i : Nat) : Int) + 2) 7 = (s, 0) ∧ numR (homL a s (i + 1)) (2 * ((8 + i : Nat) : Int) + 2) 1 = (s, 0) := by
  have key : ∀ (j : Nat) (v : Int), j < 8 → [2, 2 * s + 1, 1, 14, 4, 16, 2 * a + 1, 2 * s + 1][j]?.getD 0 = 2 * v + 1 → 0 ≤ v ∧ v ≤ 65535 → numR (homL a s (i + 1)) (2 * ((8 + i : Nat) : Int) + 2) (j : Int) = (v, 0) := by
    intro j v hj hv hb
    obtain ⟨h1, h2⟩ := blk_at (a := a) (s := s) (i := i) (by omega) j hj
    unfold numR
    rw [if_pos h1, h2, hv]
    have h3 : numOk (2 * v + 1) = true := by unfold numOk; rw [decide_eq_true_eq]; omega
    have h4 : numV (2 * v + 1) = v := by unfold numV; rw [if_pos (by omega)]; omega
    rw [if_pos h3, h4]
  exact ⟨key 6 a (by omega) rfl (by omega), key 7 s (by omega) rfl hs, key 1 s (by omega) rfl hs⟩

set_option maxRecDepth 100000 in
set_option maxHeartbeats 4000000 in
theorem FrameHomes_any (n a s : Int) (hn0 : 0 ≤ n) (hn1 : n ≤ 255) (ha : 0 ≤ a ∧ a ≤ 255) (hs : 0 ≤ s ∧ s ≤ 65535) (w : World) :
    Calls Try.prog 9 #[.int .u8 n, .int .u8 a, .int .u16 s] w fun e w' => e = .returned (.bool true) ∧ Below w.heap.size w w' := by
  obtain ⟨k, hk⟩ : ∃ k : Nat, n.tmod 9 = (k : Int) := ⟨(n.tmod 9).toNat, by rw [Int.tmod_eq_emod_of_nonneg hn0]; omega⟩
  have hk9 : k < 9 := by rw [Int.tmod_eq_emod_of_nonneg hn0] at hk; omega
  have wk : IntKind.i64.wrap (k : Int) = (k : Int) := IntWalk.i64_in _ (by omega)
  have wa : IntKind.i64.wrap a = a := IntWalk.i64_in _ (by omega)
  have ws : IntKind.i64.wrap s = s := IntWalk.i64_in _ (by omega)
  go_enter Try.func9, Try.ntmps9
  go_wp2_with (first
    | (go_at_call 32; refine (made15_any _).mono ?_; rintro e w1 ⟨m, rfl, g1⟩; have H1 := Lib.hid g1; clear g1)
    | fail)
  go_loopg [9, 10] 9 (fun j v9 v10 wr => ∃ (i : Nat) (b : Int), v10 = .int .i64 (i : Int) ∧ v9 = .int .i64 b ∧ b = 2 * ((7 + i : Nat) : Int) + 2 ∧ 9 - i ≤ j ∧ i ≤ k + 1 ∧ MemK w wr m (homL a s i) (fun _ _ => True))
  case atStart => exact ⟨0, 16, rfl, rfl, by omega, by omega, by omega, by rw [show homL a s 0 = frameL by simp [homL]]; exact H1.out⟩
  case round =>
    clear H1
    obtain ⟨i, b, rfl, rfl, hb, hj, hi, g⟩ := hrel
    have HG := Lib.hid g
    clear g
    by_cases hlt : i ≤ k
    · have t1 : decide ((i : Int) ≤ (k : Int)) = true := decide_eq_true (by omega)
      obtain ⟨c, hc⟩ : ∃ c : Int, 2 * ((8 + i : Nat) : Int) + 2 = c := ⟨_, rfl⟩
      have HB := homs_block (a := a) (s := s) (i := i) (by omega) ha hs
      have HN := homs_num (a := a) (s := s) (i := i) (by omega) ha hs
      have HH := homs_home (a := a) (s := s) (i := i + 1) (by omega)
      have H3 := (blk_at (a := a) (s := s) (i := i) (by omega) 3 (by omega))
      have H4 := (blk_at (a := a) (s := s) (i := i) (by omega) 4 (by omega))
      rw [show 7 + (i + 1) = 8 + i by omega] at HH
      rw [hc] at HB HN HH H3 H4
      rw [← hb] at HB
      have b64 : In64 b := ⟨by omega, by omega⟩
      have c64 : In64 c := ⟨by omega, by omega⟩
      have a64 : In64 a := ⟨by omega, by omega⟩
      have s64 : In64 s := ⟨by omega, by omega⟩
      have wb : IntKind.i64.wrap (b + 2) = c := (IntWalk.i64_in _ (by omega)).trans (by omega)
      have hB := Lib.hid HB
      have hN := Lib.hid HN
      have hH := Lib.hid HH
      have h34 := Lib.hid (And.intro (show placeE (homL a s (i + 1)) c 1 3 = 0 from H3.1) (And.intro (show fetchV (homL a s (i + 1)) c 3 = 14 from H3.2) (And.intro (show placeE (homL a s (i + 1)) c 1 4 = 0 from H4.1) (show fetchV (homL a s (i + 1)) c 4 = 4 from H4.2))))
      have hBC := Lib.hid (And.intro hb hc)
      have hl := homL_len a s i
      have hln : (homL a s i).length + 1 < 1073741823 := by omega
      clear HB HN HH H3 H4 hb hc hl
      have tok : True := trivial
      have tok2 : True := trivial
      have tok3 : True := trivial
      go_wp2_with (first
        | (go_at_call 37
           refine (k_Block HG.out b a s b64 a64 s64 hln).mono ?_
           rw [hB.out.1, hB.out.2.1, hB.out.2.2]
           rintro e w2 ⟨rfl, g2⟩
           have G2 := Lib.hid g2
           clear g2)
        | (go_at_call 38
           refine (k_Home G2.out c c64).mono ?_
           rw [hH.out]
           rintro e w3 ⟨rfl, g3, -⟩
           have G3 := Lib.hid g3
           clear g3)
        | (go_at_call 33
           have _t := tok
           clear tok
           refine (k_FetchC G3.out c 3 c64).mono ?_
           rw [h34.out.1, h34.out.2.1]
           rintro e w4 ⟨rfl, g4, -⟩
           have G4 := Lib.hid g4
           clear g4)
        | (go_at_call 33
           refine (k_FetchC G4.out c 4 c64).mono ?_
           rw [h34.out.2.2.1, h34.out.2.2.2]
           rintro e w5 ⟨rfl, g5, -⟩
           have G5 := Lib.hid g5
           clear g5)
        | (go_at_call 35
           have _t := tok2
           clear tok2
           refine (k_Num G5.out c 6 c64).mono ?_
           rw [hN.out.1]
           rintro e w6 ⟨rfl, g6, -⟩
           have G6 := Lib.hid g6
           clear g6)
        | (go_at_call 35
           have _t := tok3
           clear tok3
           refine (k_Num G6.out c 7 c64).mono ?_
           rw [hN.out.2.1]
           rintro e w7 ⟨rfl, g7, -⟩
           have G7 := Lib.hid g7
           clear g7)
        | (go_at_call 35
           refine (k_Num G7.out c 1 c64).mono ?_
           rw [hN.out.2.2]
           rintro e w8 ⟨rfl, g8, -⟩
           have G8 := Lib.hid g8
           clear g8)
        | fail)
      go_roundg (9 - (i + 1))
      case measure => omega
      case rel => exact ⟨i + 1, c, by go_num, rfl, by have := hBC.out.2; omega, by omega, by omega, G8.out⟩
    · have t1 : decide ((i : Int) ≤ (k : Int)) = false := decide_eq_false (by omega)
      go_wp2_with (go_at_call 36; refine (known15_any _).mono ?_; rintro e w9 ⟨rfl, c9⟩)
      go_ret
      exact ⟨rfl, (HG.out.chg.trans c9).below⟩

end Go.Proofs.Ytjanojignaonfaa
