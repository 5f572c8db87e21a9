/- A frame's stack over a flat memory: Push, top, Top, Pop (package frame). -/
import Derived.Test.YtjanojignaonfaaFrameA
import Derived.WalkMore
namespace Go.Proofs.Ytjanojignaonfaa
set_option linter.unusedVariables false
set_option linter.unusedSimpArgs false
open Go.RowKit

/-- one word more -/
def push1E (L : List O) (f v : Int) : Int :=
  if (numR L f 2).2 = 0 then
    if 0 ≤ (numR L f 2).1 ∧ (numR L f 2).1 < 24 then
      if setE L f (8 + (numR L f 2).1) v = 0 then setNumE (setL L f (8 + (numR L f 2).1) v) f 2 ((numR L f 2).1 + 1) else setE L f (8 + (numR L f 2).1) v
    else 22
  else (numR L f 2).2
def push1L (L : List O) (f v : Int) : List O :=
  if (numR L f 2).2 = 0 ∧ 0 ≤ (numR L f 2).1 ∧ (numR L f 2).1 < 24 then
    if setE L f (8 + (numR L f 2).1) v = 0 then setNumL (setL L f (8 + (numR L f 2).1) v) f 2 ((numR L f 2).1 + 1) else setL L f (8 + (numR L f 2).1) v
  else L
def pushR (f : Int) : List O → List Int → List O × Int
  | L, [] => (L, 0)
  | L, v :: r => if push1E L f v = 0 then pushR f (push1L L f v) r else (push1L L f v, push1E L f v)
def topR (L : List O) (f : Int) : Int × Int × Int :=
  if (numR L f 2).2 = 0 then
    if 1 ≤ (numR L f 2).1 ∧ (numR L f 2).1 ≤ 24 then (fetchV L f (8 + (numR L f 2).1 - 1), (numR L f 2).1, placeE L f 1 (8 + (numR L f 2).1 - 1)) else (0, 0, 22)
  else (0, 0, (numR L f 2).2)
def popE (L : List O) (f : Int) : Int := if (topR L f).2.2 = 0 then setNumE L f 2 ((topR L f).2.1 - 1) else (topR L f).2.2
def popV (L : List O) (f : Int) : Int := if popE L f = 0 then (topR L f).1 else 0
def popL (L : List O) (f : Int) : List O := if (topR L f).2.2 = 0 then setNumL L f 2 ((topR L f).2.1 - 1) else L
theorem num_bd (L : List O) (f i : Int) : -1073741824 ≤ (numR L f i).1 ∧ (numR L f i).1 ≤ 1073741823 := by
  unfold numR
  split
  · split
    · exact numV_bd _
    · exact ⟨by simp, by simp⟩
  · exact ⟨by simp, by simp⟩

section
variable {w0 w w' : World} {m : Nat} {L L' : List O} {K : (Nat → Prop) → World → Prop} {F F' : Nat → Prop}
set_option maxRecDepth 100000 in
set_option maxHeartbeats 1000000 in
theorem k_top (h : MemK w0 w m L K) (f : Int) (hf : In64 f) :
    Calls Try.prog 74 #[.iface 30 (.pointer (some ⟨m, 0, none⟩)), .int .i64 f] w fun e w' => e = .returned (.tuple #[.int .i64 (topR L f).1, .int .i64 (topR L f).2.1, .int .i64 (topR L f).2.2]) ∧ MemK w0 w' m L K ∧ Chg No w w' := by
  have HM := Lib.hid h
  clear h
  have hbd := num_bd L f 2
  obtain ⟨r, hr⟩ : ∃ r, numR L f 2 = r := ⟨_, rfl⟩
  obtain ⟨n, x⟩ := r
  unfold topR
  rw [hr] at hbd ⊢
  have HN := Lib.hid hr
  clear hr
  dsimp only at hbd ⊢
  by_cases hx : x = 0
  · subst hx
    rw [if_pos rfl]
    by_cases h1 : n < 1
    · rw [if_neg (by omega)]
      have t1 : decide (n < 1) = true := decide_eq_true h1
      clear h1 hbd
      go_enter Try.func74, Try.ntmps74
      go_wp2_with (go_at_call 35
                   refine (k_Num HM.out f 2 hf).mono ?_
                   rw [HN.out]
                   rintro e w1 ⟨rfl, g1, c1⟩
                   have H1 := Lib.hid (And.intro g1 c1)
                   clear g1 c1)
      refine bodyPost_ret (v := .tuple #[.int .i64 0, .int .i64 0, .int .i64 22]) (by simp [results, Try.results74, go_sem]) rfl ⟨rfl, H1.out⟩
    · have t1 : decide (n < 1) = false := decide_eq_false h1
      by_cases h2 : 24 < n
      · rw [if_neg (by omega)]
        have t2 : decide (24 < n) = true := decide_eq_true h2
        clear h1 h2 hbd
        go_enter Try.func74, Try.ntmps74
        go_wp2_with (go_at_call 35
                     refine (k_Num HM.out f 2 hf).mono ?_
                     rw [HN.out]
                     rintro e w1 ⟨rfl, g1, c1⟩
                     have H1 := Lib.hid (And.intro g1 c1)
                     clear g1 c1)
        refine bodyPost_ret (v := .tuple #[.int .i64 0, .int .i64 0, .int .i64 22]) (by simp [results, Try.results74, go_sem]) rfl ⟨rfl, H1.out⟩
      · have t2 : decide (24 < n) = false := decide_eq_false h2
        rw [if_pos (by omega)]
        have v1 : IntKind.i64.wrap (8 + n) = 8 + n := IntWalk.i64_in _ (by omega)
        have v2 : IntKind.i64.wrap (8 + n - 1) = 8 + n - 1 := IntWalk.i64_in _ (by omega)
        clear h1 h2 hbd
        go_enter Try.func74, Try.ntmps74
        go_wp2_with (first
          | (go_at_call 35
             refine (k_Num HM.out f 2 hf).mono ?_
             rw [HN.out]
             rintro e w1 ⟨rfl, g1, c1⟩
             have H1 := Lib.hid (And.intro g1 c1)
             clear g1 c1)
          | (go_at_call 33; refine (k_FetchC H1.out.1 f (8 + n - 1) hf).mono ?_; rintro e w2 ⟨rfl, g2, c2⟩; have H2 := Lib.hid (And.intro g2 c2); clear g2 c2))
        refine bodyPost_ret (v := .tuple #[.int .i64 (fetchV L f (8 + n - 1)), .int .i64 n, .int .i64 (placeE L f 1 (8 + n - 1))]) (by simp [results, Try.results74, go_sem]) rfl ⟨rfl, H2.out.1, H1.out.2.trans H2.out.2⟩
  · rw [if_neg hx]
    have t0 : (x == 0) = false := by simpa using hx
    have t1 : (x != 0) = true := by simpa using hx
    clear hx hbd
    go_enter Try.func74, Try.ntmps74
    go_wp2_with (go_at_call 35
                 refine (k_Num HM.out f 2 hf).mono ?_
                 rw [HN.out]
                 rintro e w1 ⟨rfl, g1, c1⟩
                 have H1 := Lib.hid (And.intro g1 c1)
                 clear g1 c1)
    refine bodyPost_ret (v := .tuple #[.int .i64 0, .int .i64 0, .int .i64 x]) (by simp [results, Try.results74, go_sem]) rfl ⟨rfl, H1.out⟩

set_option maxRecDepth 100000 in
set_option maxHeartbeats 1000000 in
theorem k_Top (h : MemK w0 w m L K) (f : Int) (hf : In64 f) :
    Calls Try.prog 44 #[.iface 30 (.pointer (some ⟨m, 0, none⟩)), .int .i64 f] w fun e w' => e = .returned (.tuple #[.int .i64 (topR L f).1, .int .i64 (topR L f).2.2]) ∧ MemK w0 w' m L K ∧ Chg No w w' := by
  have HM := Lib.hid h
  clear h
  generalize hr : topR L f = r at *
  have HR := Lib.hid hr
  clear hr
  obtain ⟨v, n, x⟩ := r
  go_enter Try.func44, Try.ntmps44
  go_wp2_with (go_at_call 74
               refine (k_top HM.out f hf).mono ?_
               rw [HR.out]
               rintro e w1 ⟨rfl, g1, c1⟩)
  go_ret2
  exact ⟨rfl, g1, c1⟩

set_option maxRecDepth 100000 in
set_option maxHeartbeats 1000000 in
theorem k_Pop (h : MemK w0 w m L K) (f : Int) (hf : In64 f) :
    Calls Try.prog 43 #[.iface 30 (.pointer (some ⟨m, 0, none⟩)), .int .i64 f] w fun e w' => e = .returned (.tuple #[.int .i64 (popV L f), .int .i64 (popE L f)]) ∧ MemK w0 w' m (popL L f) K := by
  have HM := Lib.hid h
  clear h
  have hbd := num_bd L f 2
  have hn : -1073741824 ≤ (topR L f).2.1 ∧ (topR L f).2.1 ≤ 1073741823 := by
    unfold topR
    split
    · split
      · exact hbd
      · exact ⟨by simp, by simp⟩
    · exact ⟨by simp, by simp⟩
  clear hbd
  obtain ⟨r, hr⟩ : ∃ r, topR L f = r := ⟨_, rfl⟩
  obtain ⟨v, n, x⟩ := r
  unfold popV popL popE
  rw [hr] at hn ⊢
  have HR := Lib.hid hr
  clear hr
  dsimp only at hn ⊢
  by_cases hx : x = 0
  · subst hx
    rw [if_pos rfl, if_pos rfl]
    have v1 : IntKind.i64.wrap (n - 1) = n - 1 := IntWalk.i64_in _ (by omega)
    have n64 : In64 (n - 1) := ⟨by omega, by omega⟩
    obtain ⟨y, hy⟩ : ∃ y, setNumE L f 2 (n - 1) = y := ⟨_, rfl⟩
    rw [hy]
    have HY := Lib.hid hy
    clear hy hn
    by_cases hy0 : y = 0
    · subst hy0
      rw [if_pos rfl]
      go_enter Try.func43, Try.ntmps43
      go_wp2_with (first
        | (go_at_call 74
           refine (k_top HM.out f hf).mono ?_
           rw [HR.out]
           rintro e w1 ⟨rfl, g1, c1⟩
           have H1 := Lib.hid (And.intro g1 c1)
           clear g1 c1)
        | (go_at_call 34; refine (k_SetNum H1.out.1 f 2 (n - 1) hf n64).mono ?_; rw [HY.out]; rintro e w2 ⟨rfl, g2⟩))
      go_ret2
      exact ⟨rfl, g2⟩
    · rw [if_neg hy0]
      have t0 : (y != 0) = true := by simpa using hy0
      clear hy0
      go_enter Try.func43, Try.ntmps43
      go_wp2_with (first
        | (go_at_call 74
           refine (k_top HM.out f hf).mono ?_
           rw [HR.out]
           rintro e w1 ⟨rfl, g1, c1⟩
           have H1 := Lib.hid (And.intro g1 c1)
           clear g1 c1)
        | (go_at_call 34; refine (k_SetNum H1.out.1 f 2 (n - 1) hf n64).mono ?_; rw [HY.out]; rintro e w2 ⟨rfl, g2⟩))
      go_ret2
      exact ⟨rfl, g2⟩
  · rw [if_neg hx, if_neg hx, if_neg hx]
    have t0 : (x == 0) = false := by simpa using hx
    have t1 : (x != 0) = true := by simpa using hx
    clear hx hn
    go_enter Try.func43, Try.ntmps43
    go_wp2_with (go_at_call 74
                 refine (k_top HM.out f hf).mono ?_
                 rw [HR.out]
                 rintro e w1 ⟨rfl, g1, c1⟩
                 have H1 := Lib.hid (And.intro g1 c1)
                 clear g1 c1)
    go_ret2
    exact ⟨rfl, H1.out.1⟩
end

end Go.Proofs.Ytjanojignaonfaa
