/- Frames over a flat memory: Num, SetNum, Home, temp, Temp, SetTemp (package frame). -/
import Derived.Test.YtjanojignaonfaaKitC
namespace Go.Proofs.Ytjanojignaonfaa
set_option linter.unusedVariables false
set_option linter.unusedSimpArgs false
open Go.RowKit

def numR (L : List O) (f i : Int) : Int × Int := if placeE L f 1 i = 0 then (if numOk (fetchV L f i) = true then (numV (fetchV L f i), 0) else (0, 2)) else (0, placeE L f 1 i)
def setNumE (L : List O) (f i n : Int) : Int := if smallE n = 0 then setE L f i (smallV n) else smallE n
def setNumL (L : List O) (f i n : Int) : List O := if smallE n = 0 then setL L f i (smallV n) else L
def homeR (L : List O) (f : Int) : Int × Int := if placeE L f 1 5 = 0 then (if fetchV L f 5 = 2 then (f, 0) else (fetchV L f 5, 0)) else (0, placeE L f 1 5)
def tempR (L : List O) (f i : Int) : Int × Int := if (homeR L f).2 = 0 ∧ ¬ (0 ≤ i ∧ i < 24) then ((homeR L f).1, 21) else homeR L f
def tempV (L : List O) (f i : Int) : Int × Int := if (tempR L f i).2 = 0 then (fetchV L (tempR L f i).1 (8 + i), placeE L (tempR L f i).1 1 (8 + i)) else (0, (tempR L f i).2)
def setTempE (L : List O) (f i v : Int) : Int := if (tempR L f i).2 = 0 then setE L (tempR L f i).1 (8 + i) v else (tempR L f i).2
def setTempL (L : List O) (f i v : Int) : List O := if (tempR L f i).2 = 0 then setL L (tempR L f i).1 (8 + i) v else L
theorem smallV64 (n : Int) : In64 (smallV n) := by unfold smallV In64; split <;> omega
theorem MemK.fetch64 {w0 w : World} {m : Nat} {L : List O} {K : (Nat → Prop) → World → Prop} (h : MemK w0 w m L K) (o i : Int) : In64 (fetchV L o i) := Proofs.Ytjanojignaonfaa.fetch64 (fun _ hk => h.okAt hk) o i
theorem home64 {w0 w : World} {m : Nat} {L : List O} {K : (Nat → Prop) → World → Prop} (h : MemK w0 w m L K) {f : Int} (hf : In64 f) : In64 (homeR L f).1 := by
  unfold homeR
  split
  · split
    · exact hf
    · exact h.fetch64 f 5
  · exact ⟨by simp, by simp⟩
theorem temp64 {w0 w : World} {m : Nat} {L : List O} {K : (Nat → Prop) → World → Prop} (h : MemK w0 w m L K) {f : Int} (hf : In64 f) (i : Int) : In64 (tempR L f i).1 := by
  unfold tempR
  split
  · exact home64 h hf
  · exact home64 h hf
theorem temp_in {L : List O} {f i : Int} (h : (tempR L f i).2 = 0) : 0 ≤ i ∧ i < 24 := by
  unfold tempR at h
  split at h
  · cases h
  · rename_i hc
    exact Classical.byContradiction fun e => hc ⟨h, e⟩

section
variable {w0 w w' : World} {m : Nat} {L L' : List O} {K : (Nat → Prop) → World → Prop} {F F' : Nat → Prop}
set_option maxRecDepth 100000 in
set_option maxHeartbeats 1000000 in
theorem k_Num (h : MemK w0 w m L K) (f i : Int) (hf : In64 f) :
    Calls Try.prog 35 #[.iface 30 (.pointer (some ⟨m, 0, none⟩)), .int .i64 f, .int .i64 i] w fun e w' => e = .returned (.tuple #[.int .i64 (numR L f i).1, .int .i64 (numR L f i).2]) ∧ MemK w0 w' m L K ∧ Chg No w w' := by
  have h64 := h.fetch64 f i
  have H := Lib.hid h
  clear h
  obtain ⟨p, hp⟩ : ∃ p, placeE L f 1 i = p := ⟨_, rfl⟩
  obtain ⟨v, hv⟩ : ∃ v, fetchV L f i = v := ⟨_, rfl⟩
  rw [hv] at h64
  unfold numR
  rw [hp, hv]
  have HP := Lib.hid (And.intro hp hv)
  clear hp hv
  by_cases hp0 : p = 0
  · subst hp0
    have HN := fun w => Number_any v h64.1 h64.2 w
    rw [if_pos rfl]
    cases hn : numOk v
    · rw [hn] at HN
      rw [if_neg (by simp)]
      clear hn
      go_enter Try.func35, Try.ntmps35
      go_wp2_with (first
        | (go_at_call 33; refine (k_FetchC H.out f i hf).mono ?_; rw [HP.out.1, HP.out.2]; rintro e w1 ⟨rfl, g1, c1⟩; have H1 := Lib.hid (And.intro g1 c1); clear g1 c1)
        | (go_at_call 56; refine (HN _).mono ?_; rintro e w' ⟨rfl, rfl⟩))
      go_ret2
      exact ⟨rfl, H1.out⟩
    · rw [hn] at HN
      rw [if_pos rfl]
      clear hn
      go_enter Try.func35, Try.ntmps35
      go_wp2_with (first
        | (go_at_call 33; refine (k_FetchC H.out f i hf).mono ?_; rw [HP.out.1, HP.out.2]; rintro e w1 ⟨rfl, g1, c1⟩; have H1 := Lib.hid (And.intro g1 c1); clear g1 c1)
        | (go_at_call 56; refine (HN _).mono ?_; rintro e w' ⟨rfl, rfl⟩))
      go_ret2
      exact ⟨rfl, H1.out⟩
  · rw [if_neg hp0]
    have t0 : (p != 0) = true := by simpa using hp0
    clear hp0
    go_enter Try.func35, Try.ntmps35
    go_wp2_with (go_at_call 33; refine (k_FetchC H.out f i hf).mono ?_; rw [HP.out.1, HP.out.2]; rintro e w1 ⟨rfl, g1, c1⟩; have H1 := Lib.hid (And.intro g1 c1); clear g1 c1)
    go_ret2
    exact ⟨rfl, H1.out⟩

set_option maxRecDepth 100000 in
set_option maxHeartbeats 1000000 in
theorem k_SetNum (h : MemK w0 w m L K) (f i n : Int) (hf : In64 f) (hn : In64 n) :
    Calls Try.prog 34 #[.iface 30 (.pointer (some ⟨m, 0, none⟩)), .int .i64 f, .int .i64 i, .int .i64 n] w fun e w' => e = .returned (.int .i64 (setNumE L f i n)) ∧ MemK w0 w' m (setNumL L f i n) K := by
  have HS := fun w => Small_any n hn.1 hn.2 w
  have hv := smallV64 n
  have HK := fun w1 (c1 : w = w1) => k_Set (c1 ▸ h) f i (smallV n) hf hv
  have H := Lib.hid h
  have HSet := Lib.hid HK
  clear h HK
  unfold setNumE setNumL
  by_cases h0 : smallE n = 0
  · rw [if_pos h0, if_pos h0]
    rw [h0] at HS
    generalize smallV n = v at *
    clear h0
    go_enter Try.func34, Try.ntmps34
    go_wp2_with (first
      | (go_at_call 52; refine (HS _).mono ?_; rintro e w' ⟨rfl, rfl⟩)
      | (go_at_call 54; refine (HSet.out _ rfl).mono ?_; rintro e w2 ⟨rfl, g2⟩))
    go_ret
    exact ⟨rfl, g2⟩
  · rw [if_neg h0, if_neg h0]
    generalize smallE n = x at *
    have t0 : (x != 0) = true := by simpa using h0
    clear h0
    go_enter Try.func34, Try.ntmps34
    go_wp2_with (go_at_call 52; refine (HS _).mono ?_; rintro e w' ⟨rfl, rfl⟩)
    go_ret
    exact ⟨rfl, H.out⟩

set_option maxRecDepth 100000 in
set_option maxHeartbeats 1000000 in
theorem k_Home (h : MemK w0 w m L K) (f : Int) (hf : In64 f) :
    Calls Try.prog 38 #[.iface 30 (.pointer (some ⟨m, 0, none⟩)), .int .i64 f] w fun e w' => e = .returned (.tuple #[.int .i64 (homeR L f).1, .int .i64 (homeR L f).2]) ∧ MemK w0 w' m L K ∧ Chg No w w' := by
  have H := Lib.hid h
  clear h
  obtain ⟨p, hp⟩ : ∃ p, placeE L f 1 5 = p := ⟨_, rfl⟩
  obtain ⟨v, hv⟩ : ∃ v, fetchV L f 5 = v := ⟨_, rfl⟩
  unfold homeR
  rw [hp, hv]
  have HP := Lib.hid (And.intro hp hv)
  clear hp hv
  by_cases hp0 : p = 0
  · subst hp0
    rw [if_pos rfl]
    by_cases hv2 : v = 2
    · subst hv2
      rw [if_pos rfl]
      go_enter Try.func38, Try.ntmps38
      go_wp2_with (go_at_call 33; refine (k_FetchC H.out f 5 hf).mono ?_; rw [HP.out.1, HP.out.2]; rintro e w1 ⟨rfl, g1, c1⟩; have H1 := Lib.hid (And.intro g1 c1); clear g1 c1)
      go_ret2
      exact ⟨rfl, H1.out⟩
    · rw [if_neg hv2]
      have t0 : (v == 2) = false := by simpa using hv2
      clear hv2
      go_enter Try.func38, Try.ntmps38
      go_wp2_with (go_at_call 33; refine (k_FetchC H.out f 5 hf).mono ?_; rw [HP.out.1, HP.out.2]; rintro e w1 ⟨rfl, g1, c1⟩; have H1 := Lib.hid (And.intro g1 c1); clear g1 c1)
      go_ret2
      exact ⟨rfl, H1.out⟩
  · rw [if_neg hp0]
    have t0 : (p != 0) = true := by simpa using hp0
    clear hp0
    go_enter Try.func38, Try.ntmps38
    go_wp2_with (go_at_call 33; refine (k_FetchC H.out f 5 hf).mono ?_; rw [HP.out.1, HP.out.2]; rintro e w1 ⟨rfl, g1, c1⟩; have H1 := Lib.hid (And.intro g1 c1); clear g1 c1)
    go_ret2
    exact ⟨rfl, H1.out⟩

set_option maxRecDepth 100000 in
set_option maxHeartbeats 1000000 in
theorem k_temp (h : MemK w0 w m L K) (f i : Int) (hf : In64 f) :
    Calls Try.prog 73 #[.iface 30 (.pointer (some ⟨m, 0, none⟩)), .int .i64 f, .int .i64 i] w fun e w' => e = .returned (.tuple #[.int .i64 (tempR L f i).1, .int .i64 (tempR L f i).2]) ∧ MemK w0 w' m L K ∧ Chg No w w' := by
  have H := Lib.hid h
  clear h
  obtain ⟨r, hr⟩ : ∃ r, homeR L f = r := ⟨_, rfl⟩
  obtain ⟨x, p⟩ := r
  unfold tempR
  rw [hr]
  have HH := Lib.hid hr
  clear hr
  by_cases hp0 : p = 0
  · subst hp0
    by_cases hi : i < 0
    · rw [if_pos ⟨rfl, by omega⟩]
      have t1 : decide (i < 0) = true := decide_eq_true hi
      clear hi
      go_enter Try.func73, Try.ntmps73
      go_wp2_with (go_at_call 38
                   refine (k_Home H.out f hf).mono ?_
                   rw [HH.out]
                   rintro e w1 ⟨rfl, g1, c1⟩
                   have H1 := Lib.hid (And.intro g1 c1)
                   clear g1 c1)
      go_ret2
      exact ⟨rfl, H1.out⟩
    · have t1 : decide (i < 0) = false := decide_eq_false hi
      by_cases hj : 24 ≤ i
      · rw [if_pos ⟨rfl, by omega⟩]
        have t2 : decide (24 ≤ i) = true := decide_eq_true hj
        clear hi hj
        go_enter Try.func73, Try.ntmps73
        go_wp2_with (go_at_call 38
                     refine (k_Home H.out f hf).mono ?_
                     rw [HH.out]
                     rintro e w1 ⟨rfl, g1, c1⟩
                     have H1 := Lib.hid (And.intro g1 c1)
                     clear g1 c1)
        go_ret2
        exact ⟨rfl, H1.out⟩
      · rw [if_neg (by rintro ⟨-, h⟩; omega)]
        have t2 : decide (24 ≤ i) = false := decide_eq_false hj
        clear hi hj
        go_enter Try.func73, Try.ntmps73
        go_wp2_with (go_at_call 38
                     refine (k_Home H.out f hf).mono ?_
                     rw [HH.out]
                     rintro e w1 ⟨rfl, g1, c1⟩
                     have H1 := Lib.hid (And.intro g1 c1)
                     clear g1 c1)
        go_ret2
        exact ⟨rfl, H1.out⟩
  · rw [if_neg (by rintro ⟨h, -⟩; exact hp0 h)]
    have t0 : (p == 0) = false := by simpa using hp0
    clear hp0
    go_enter Try.func73, Try.ntmps73
    go_wp2_with (go_at_call 38
                 refine (k_Home H.out f hf).mono ?_
                 rw [HH.out]
                 rintro e w1 ⟨rfl, g1, c1⟩
                 have H1 := Lib.hid (And.intro g1 c1)
                 clear g1 c1)
    go_ret2
    exact ⟨rfl, H1.out⟩

set_option maxRecDepth 100000 in
set_option maxHeartbeats 1000000 in
theorem k_Temp (h : MemK w0 w m L K) (f i : Int) (hf : In64 f) :
    Calls Try.prog 42 #[.iface 30 (.pointer (some ⟨m, 0, none⟩)), .int .i64 f, .int .i64 i] w fun e w' => e = .returned (.tuple #[.int .i64 (tempV L f i).1, .int .i64 (tempV L f i).2]) ∧ MemK w0 w' m L K ∧ Chg No w w' := by
  have h64 := temp64 h hf i
  have hin := temp_in (L := L) (f := f) (i := i)
  have H := Lib.hid h
  clear h
  obtain ⟨r, hr⟩ : ∃ r, tempR L f i = r := ⟨_, rfl⟩
  unfold tempV
  rw [hr] at h64 hin ⊢
  obtain ⟨x, p⟩ := r
  have HH := Lib.hid hr
  clear hr
  dsimp only at h64 hin ⊢
  by_cases hp0 : p = 0
  · subst hp0
    rw [if_pos rfl]
    have hi := hin rfl
    have wi : IntKind.i64.wrap (8 + i) = 8 + i := IntWalk.i64_in _ (by omega)
    clear hin
    go_enter Try.func42, Try.ntmps42
    go_wp2_with (first
      | (go_at_call 73
         refine (k_temp H.out f i hf).mono ?_
         rw [HH.out]
         rintro e w1 ⟨rfl, g1, c1⟩
         have H1 := Lib.hid (And.intro g1 c1)
         clear g1 c1)
      | (go_at_call 33; refine (k_FetchC H1.out.1 x (8 + i) h64).mono ?_; rintro e w2 ⟨rfl, g2, c2⟩; have H2 := Lib.hid (And.intro g2 c2); clear g2 c2))
    go_ret2
    exact ⟨rfl, H2.out.1, H1.out.2.trans H2.out.2⟩
  · rw [if_neg hp0]
    have t0 : (p != 0) = true := by simpa using hp0
    clear hp0 hin
    go_enter Try.func42, Try.ntmps42
    go_wp2_with (go_at_call 73
                 refine (k_temp H.out f i hf).mono ?_
                 rw [HH.out]
                 rintro e w1 ⟨rfl, g1, c1⟩
                 have H1 := Lib.hid (And.intro g1 c1)
                 clear g1 c1)
    go_ret2
    exact ⟨rfl, H1.out⟩

set_option maxRecDepth 100000 in
set_option maxHeartbeats 1000000 in
theorem k_SetTemp (h : MemK w0 w m L K) (f i v : Int) (hf : In64 f) (hv : In64 v) :
    Calls Try.prog 41 #[.iface 30 (.pointer (some ⟨m, 0, none⟩)), .int .i64 f, .int .i64 i, .int .i64 v] w fun e w' => e = .returned (.int .i64 (setTempE L f i v)) ∧ MemK w0 w' m (setTempL L f i v) K := by
  have h64 := temp64 h hf i
  have hin := temp_in (L := L) (f := f) (i := i)
  have H := Lib.hid h
  clear h
  obtain ⟨r, hr⟩ : ∃ r, tempR L f i = r := ⟨_, rfl⟩
  unfold setTempE setTempL
  rw [hr] at h64 hin ⊢
  obtain ⟨x, p⟩ := r
  have HH := Lib.hid hr
  clear hr
  dsimp only at h64 hin ⊢
  by_cases hp0 : p = 0
  · subst hp0
    rw [if_pos rfl, if_pos rfl]
    have hi := hin rfl
    have wi : IntKind.i64.wrap (8 + i) = 8 + i := IntWalk.i64_in _ (by omega)
    clear hin
    go_enter Try.func41, Try.ntmps41
    go_wp2_with (first
      | (go_at_call 73
         refine (k_temp H.out f i hf).mono ?_
         rw [HH.out]
         rintro e w1 ⟨rfl, g1, c1⟩
         have H1 := Lib.hid (And.intro g1 c1)
         clear g1 c1)
      | (go_at_call 54; refine (k_Set H1.out.1 x (8 + i) v h64 hv).mono ?_; rintro e w2 ⟨rfl, g2⟩))
    go_ret
    exact ⟨rfl, g2⟩
  · rw [if_neg hp0, if_neg hp0]
    have t0 : (p != 0) = true := by simpa using hp0
    clear hp0 hin
    go_enter Try.func41, Try.ntmps41
    go_wp2_with (go_at_call 73
                 refine (k_temp H.out f i hf).mono ?_
                 rw [HH.out]
                 rintro e w1 ⟨rfl, g1, c1⟩
                 have H1 := Lib.hid (And.intro g1 c1)
                 clear g1 c1)
    go_ret
    exact ⟨rfl, H1.out.1⟩
end

end Go.Proofs.Ytjanojignaonfaa
