/- The walk of FrameTemps. -/
import Derived.Test.YtjanojignaonfaaFrameH
import Derived.Test.YtjanojignaonfaaFrameP
namespace Go.Proofs.Ytjanojignaonfaa
set_option linter.unusedVariables false
set_option linter.unusedSimpArgs false
open Go.RowKit

def ftB : List O := blockL frameL 16 0 3
def ftC : List O := blockL ftB 18 0 4
theorem ft_1 : blockV frameL 16 0 3 = 18 ∧ blockE frameL 16 0 3 = 0 := ⟨by kernel_rfl, by kernel_rfl⟩
theorem ft_2 : blockV ftB 18 0 4 = 20 ∧ blockE ftB 18 0 4 = 0 := ⟨by kernel_rfl, by kernel_rfl⟩
theorem ft_home : homeR ftC 16 = (16, 0) ∧ homeR ftC 18 = (16, 0) ∧ homeR ftC 20 = (16, 0) := ⟨by kernel_rfl, by kernel_rfl, by kernel_rfl⟩
theorem ft_place (k : Int) (h : 0 ≤ k ∧ k < 24) : placeE ftC 16 1 (8 + k) = 0 := by
  have hf : fnd ftC 16 = some 7 := by kernel_rfl
  unfold placeE
  rw [hf]
  simp only []
  rw [if_pos (by kernel_rfl), if_pos ⟨by omega, by rw [show szO (ob ftC 7) = 32 by kernel_rfl]; omega⟩]
theorem ft_fetch (j : Nat) (h : j < 24) : fetchV ftC 16 (8 + (j : Int)) = cond ((j : Int) == 1) 9 (cond ((j : Int) == 0) 7 2) := by
  have h1 : (List.range 24).all (fun j => decide (fetchV ftC 16 (8 + (j : Int)) = cond ((j : Int) == 1) 9 (cond ((j : Int) == 0) 7 2))) = true := by kernel_rfl
  exact of_decide_eq_true (List.all_eq_true.1 h1 j (List.mem_range.2 h))
theorem home_setL {L : List O} {o i v : Int} (hp : placeE L o 1 i = 0) (hv : refOk v = true) (hi : ¬ i = 5) (f : Int) : homeR (setL L o i v) f = homeR L f := by
  have hF : fetchV (setL L o i v) f 5 = fetchV L f 5 := by rw [fetch_setL hp hv]; exact if_neg (fun e => hi e.2.symm)
  unfold homeR
  rw [place_setL, hF]
theorem temp_home {L : List O} {f h i : Int} (hh : homeR L f = (h, 0)) (hi : 0 ≤ i ∧ i < 24) : tempR L f i = (h, 0) := by
  unfold tempR
  rw [hh, if_neg (fun e => e.2 hi)]
theorem ft_set {a k v : Int} (ha : a = 16 ∨ a = 18 ∨ a = 20) (hk : 0 ≤ k ∧ k < 24) (hv : refOk v = true) : setTempE ftC a k v = 0 ∧ setTempL ftC a k v = setL ftC 16 (8 + k) v := by
  have ht : tempR ftC a k = (16, 0) := by
    rcases ha with rfl | rfl | rfl
    · exact temp_home ft_home.1 hk
    · exact temp_home ft_home.2.1 hk
    · exact temp_home ft_home.2.2 hk
  unfold setTempE setTempL
  rw [ht]
  refine ⟨?_, by simp⟩
  simp only [if_true]
  unfold setE
  rw [if_pos (ft_place k hk), if_pos hv]
theorem ft_temp {a k v : Int} (ha : a = 16 ∨ a = 18 ∨ a = 20) (hk : 0 ≤ k ∧ k < 24) (hv : refOk v = true) (j : Nat) (hj : j < 24) : tempV (setL ftC 16 (8 + k) v) a (j : Int) = (cond ((j : Int) == k) v (cond ((j : Int) == 1) 9 (cond ((j : Int) == 0) 7 2)), 0) := by
  have hp := ft_place k hk
  have ht : tempR (setL ftC 16 (8 + k) v) a (j : Int) = (16, 0) := by
    refine temp_home ?_ (by omega)
    rw [home_setL hp hv (by omega)]
    rcases ha with rfl | rfl | rfl
    · exact ft_home.1
    · exact ft_home.2.1
    · exact ft_home.2.2
  unfold tempV
  rw [ht]
  simp only [if_true]
  rw [place_setL, ft_place (j : Int) (by omega), fetch_setL hp hv, ft_fetch j hj]
  by_cases h : (j : Int) = k
  · rw [if_pos ⟨rfl, by omega⟩, show ((j : Int) == k) = true by simpa using h]
    rfl
  · rw [if_neg (fun e => h (by have := e.2; omega)), show ((j : Int) == k) = false by simpa using h]
    rfl
theorem in18 : In64 18 := ⟨by decide, by decide⟩
theorem in20 : In64 20 := ⟨by decide, by decide⟩

set_option maxRecDepth 100000 in
set_option maxHeartbeats 4000000 in
theorem FrameTemps_any (i v n : Int) (hi0 : 0 ≤ i) (hi1 : i ≤ 255) (hv64 : In64 v) (hn0 : 0 ≤ n) (hn1 : n ≤ 255) (w : World) :
    Calls Try.prog 11 #[.int .u8 i, .int .i64 v, .int .u8 n] w fun e w' => e = .returned (.bool true) ∧ Below w.heap.size w w' := by
  have HRf := fun w => Ref05_any v hv64 w
  cases hv : refOk v
  · rw [hv] at HRf
    go_enter Try.func11, Try.ntmps11
    go_wp2_with (first
      | (go_at_call 32; refine (made15_any _).mono ?_; rintro e w1 ⟨m, rfl, g1⟩; have H1 := Lib.hid g1; clear g1)
      | (go_at_call 39; refine (HRf _).mono ?_; rintro e w2 ⟨rfl, rfl⟩)
      | (go_at_call 36; refine (known15_any _).mono ?_; rintro e w9 ⟨rfl, c9⟩)
      | fail)
    go_ret
    exact ⟨rfl, (H1.out.chg.trans c9).below⟩
  rw [hv] at HRf
  obtain ⟨k, hk⟩ : ∃ k, i.tmod 24 = k := ⟨_, rfl⟩
  have hk24 : 0 ≤ k ∧ k < 24 := by rw [← hk, Int.tmod_eq_emod_of_nonneg hi0]; omega
  have wi : IntKind.i64.wrap i = i := IntWalk.i64_in _ (by omega)
  have wn : IntKind.i64.wrap n = n := IntWalk.i64_in _ (by omega)
  obtain ⟨r, hr⟩ : ∃ r : Nat, n.tmod 3 = (r : Int) := ⟨(n.tmod 3).toNat, by rw [Int.tmod_eq_emod_of_nonneg hn0]; omega⟩
  have hr3 : r < 3 := by rw [Int.tmod_eq_emod_of_nonneg hn0] at hr; omega
  have l3 : (r : Int) < 3 := by omega
  obtain ⟨a, ha, hat⟩ : ∃ a : Int, (#[Value.int .i64 16, .int .i64 18, .int .i64 20] : Array Value)[r]? = some (.int .i64 a) ∧ (a = 16 ∨ a = 18 ∨ a = 20) := by
    have h3 : r = 0 ∨ r = 1 ∨ r = 2 := by omega
    rcases h3 with rfl | rfl | rfl
    · exact ⟨16, rfl, .inl rfl⟩
    · exact ⟨18, rfl, .inr (.inl rfl)⟩
    · exact ⟨20, rfl, .inr (.inr rfl)⟩
  have a64 : In64 a := by rcases hat with rfl | rfl | rfl <;> exact ⟨by decide, by decide⟩
  have hset := ft_set hat hk24 hv
  have htmp := fun a ha => ft_temp (a := a) ha hk24 hv
  have HS := Lib.hid hset
  have HTm := Lib.hid htmp
  have HA := Lib.hid ha
  clear hset htmp hat ha hv
  have tok : True := trivial
  have h1 := Lib.hid ft_1
  have h2 := Lib.hid ft_2
  go_enter Try.func11, Try.ntmps11
  go_wp2_with (first
    | (go_at_call 32; refine (made15_any _).mono ?_; rintro e w1 ⟨m, rfl, g1⟩; have H1 := Lib.hid g1; clear g1)
    | (go_at_call 39; refine (HRf _).mono ?_; rintro e w2 ⟨rfl, rfl⟩)
    | (go_at_call 37
       have _t := tok
       clear tok
       refine (k_Block H1.out 16 0 3 in16 in0 ⟨by decide, by decide⟩ (by simp [frameL, worldL])).mono ?_
       rw [h1.out.1, h1.out.2, ← ftB]
       rintro e w2 ⟨rfl, g2⟩
       have H2 := Lib.hid g2
       clear g2)
    | (go_at_call 37
       refine (k_Block H2.out 18 0 4 ⟨by decide, by decide⟩ in0 ⟨by decide, by decide⟩ (by rw [show ftB.length = 9 by kernel_rfl]; decide)).mono ?_
       rw [h2.out.1, h2.out.2, ← ftC]
       rintro e w3 ⟨rfl, g3⟩
       have xr := ((Row.new w3 3 #[.int .i64 16, .int .i64 18, .int .i64 20]).cell r).trans HA.out
       have H3 := Lib.hid (g3.world ((Chg.refl _ _).alloc (.cells #[.int .i64 16, .int .i64 18, .int .i64 20] 3)))
       clear g3)
    | (go_at_call 41
       refine (k_SetTemp H3.out a k v a64 hv64).mono ?_
       rw [HS.out.1, HS.out.2]
       rintro e w3 ⟨rfl, g3⟩
       have HQ := Lib.hid g3
       clear g3)
    | fail)
  go_loopg [15] 24 (fun j v15 wr => ∃ i : Nat, v15 = .int .i64 (i : Int) ∧ 24 - i ≤ j ∧ i ≤ 24 ∧ MemK w wr m (setL ftC 16 (8 + k) v) (fun _ _ => True))
  case atStart => exact ⟨0, rfl, by omega, by omega, HQ.out⟩
  case round =>
    obtain ⟨j, rfl, hj, hjl, g⟩ := hrel
    have HG := Lib.hid g
    clear g HQ H1 H2 H3 HS
    by_cases hlt : j < 24
    · have t1 : decide ((j : Int) < 24) = true := decide_eq_true (by omega)
      have ht : _ ∧ _ ∧ _ := ⟨HTm.out 16 (.inl rfl) j hlt, HTm.out 18 (.inr (.inl rfl)) j hlt, HTm.out 20 (.inr (.inr rfl)) j hlt⟩
      have tok : True := trivial
      have tok2 : True := trivial
      cases b0 : ((j : Int) == 0) <;> cases b1 : ((j : Int) == 1) <;> cases b2 : ((j : Int) == k) <;> simp only [b0, b1, b2, cond] at ht
      all_goals
        have HT := Lib.hid ht
        clear ht
      · go_wp2_with (first
          | (go_at_call 42
             have _t := tok
             clear tok
             refine (k_Temp HG.out 16 (j : Int) in16).mono ?_
             rw [HT.out.1]
             rintro e w4 ⟨rfl, g4, -⟩
             have H4 := Lib.hid g4
             clear g4)
          | (go_at_call 42
             have _t := tok2
             clear tok2
             refine (k_Temp H4.out 18 (j : Int) in18).mono ?_
             rw [HT.out.2.1]
             rintro e w5 ⟨rfl, g5, -⟩
             have H5 := Lib.hid g5
             clear g5)
          | (go_at_call 42
             refine (k_Temp H5.out 20 (j : Int) in20).mono ?_
             rw [HT.out.2.2]
             rintro e w6 ⟨rfl, g6, -⟩
             have H6 := Lib.hid g6
             clear g6)
          | fail)
        go_roundg (24 - (j + 1))
        case measure => omega
        case rel => exact ⟨j + 1, by go_num, by omega, by omega, H6.out⟩
      · go_wp2_with (first
          | (go_at_call 42
             have _t := tok
             clear tok
             refine (k_Temp HG.out 16 (j : Int) in16).mono ?_
             rw [HT.out.1]
             rintro e w4 ⟨rfl, g4, -⟩
             have H4 := Lib.hid g4
             clear g4)
          | (go_at_call 42
             have _t := tok2
             clear tok2
             refine (k_Temp H4.out 18 (j : Int) in18).mono ?_
             rw [HT.out.2.1]
             rintro e w5 ⟨rfl, g5, -⟩
             have H5 := Lib.hid g5
             clear g5)
          | (go_at_call 42
             refine (k_Temp H5.out 20 (j : Int) in20).mono ?_
             rw [HT.out.2.2]
             rintro e w6 ⟨rfl, g6, -⟩
             have H6 := Lib.hid g6
             clear g6)
          | fail)
        go_roundg (24 - (j + 1))
        case measure => omega
        case rel => exact ⟨j + 1, by go_num, by omega, by omega, H6.out⟩
      · go_wp2_with (first
          | (go_at_call 42
             have _t := tok
             clear tok
             refine (k_Temp HG.out 16 (j : Int) in16).mono ?_
             rw [HT.out.1]
             rintro e w4 ⟨rfl, g4, -⟩
             have H4 := Lib.hid g4
             clear g4)
          | (go_at_call 42
             have _t := tok2
             clear tok2
             refine (k_Temp H4.out 18 (j : Int) in18).mono ?_
             rw [HT.out.2.1]
             rintro e w5 ⟨rfl, g5, -⟩
             have H5 := Lib.hid g5
             clear g5)
          | (go_at_call 42
             refine (k_Temp H5.out 20 (j : Int) in20).mono ?_
             rw [HT.out.2.2]
             rintro e w6 ⟨rfl, g6, -⟩
             have H6 := Lib.hid g6
             clear g6)
          | fail)
        go_roundg (24 - (j + 1))
        case measure => omega
        case rel => exact ⟨j + 1, by go_num, by omega, by omega, H6.out⟩
      · go_wp2_with (first
          | (go_at_call 42
             have _t := tok
             clear tok
             refine (k_Temp HG.out 16 (j : Int) in16).mono ?_
             rw [HT.out.1]
             rintro e w4 ⟨rfl, g4, -⟩
             have H4 := Lib.hid g4
             clear g4)
          | (go_at_call 42
             have _t := tok2
             clear tok2
             refine (k_Temp H4.out 18 (j : Int) in18).mono ?_
             rw [HT.out.2.1]
             rintro e w5 ⟨rfl, g5, -⟩
             have H5 := Lib.hid g5
             clear g5)
          | (go_at_call 42
             refine (k_Temp H5.out 20 (j : Int) in20).mono ?_
             rw [HT.out.2.2]
             rintro e w6 ⟨rfl, g6, -⟩
             have H6 := Lib.hid g6
             clear g6)
          | fail)
        go_roundg (24 - (j + 1))
        case measure => omega
        case rel => exact ⟨j + 1, by go_num, by omega, by omega, H6.out⟩
      · go_wp2_with (first
          | (go_at_call 42
             have _t := tok
             clear tok
             refine (k_Temp HG.out 16 (j : Int) in16).mono ?_
             rw [HT.out.1]
             rintro e w4 ⟨rfl, g4, -⟩
             have H4 := Lib.hid g4
             clear g4)
          | (go_at_call 42
             have _t := tok2
             clear tok2
             refine (k_Temp H4.out 18 (j : Int) in18).mono ?_
             rw [HT.out.2.1]
             rintro e w5 ⟨rfl, g5, -⟩
             have H5 := Lib.hid g5
             clear g5)
          | (go_at_call 42
             refine (k_Temp H5.out 20 (j : Int) in20).mono ?_
             rw [HT.out.2.2]
             rintro e w6 ⟨rfl, g6, -⟩
             have H6 := Lib.hid g6
             clear g6)
          | fail)
        go_roundg (24 - (j + 1))
        case measure => omega
        case rel => exact ⟨j + 1, by go_num, by omega, by omega, H6.out⟩
      · go_wp2_with (first
          | (go_at_call 42
             have _t := tok
             clear tok
             refine (k_Temp HG.out 16 (j : Int) in16).mono ?_
             rw [HT.out.1]
             rintro e w4 ⟨rfl, g4, -⟩
             have H4 := Lib.hid g4
             clear g4)
          | (go_at_call 42
             have _t := tok2
             clear tok2
             refine (k_Temp H4.out 18 (j : Int) in18).mono ?_
             rw [HT.out.2.1]
             rintro e w5 ⟨rfl, g5, -⟩
             have H5 := Lib.hid g5
             clear g5)
          | (go_at_call 42
             refine (k_Temp H5.out 20 (j : Int) in20).mono ?_
             rw [HT.out.2.2]
             rintro e w6 ⟨rfl, g6, -⟩
             have H6 := Lib.hid g6
             clear g6)
          | fail)
        go_roundg (24 - (j + 1))
        case measure => omega
        case rel => exact ⟨j + 1, by go_num, by omega, by omega, H6.out⟩
      · simp at b0 b1; omega
      · simp at b0 b1; omega
    · have t1 : decide ((j : Int) < 24) = false := decide_eq_false (by omega)
      go_wp2_with (go_at_call 36; refine (known15_any _).mono ?_; rintro e w9 ⟨rfl, c9⟩)
      go_ret
      exact ⟨rfl, (HG.out.chg.trans c9).below⟩

end Go.Proofs.Ytjanojignaonfaa
