/- The plain law of the document's reading: an object's bytes, an image's bytes: it is the program's. -/
import Derived.Test.YtifcigjminbllaaGreatDoorImgPl
namespace Go.Proofs.YtifcigjminbllaaGreatDoor
set_option linter.unusedVariables false
set_option linter.unusedSimpArgs false
open Go.RowKit

/-- an object by the document's reading -/
def dec5B (b : List Int) : O := ⟨getV b 0, getV b 4, if getV b 4 = 1 then wordsB b (getV b 8).toNat else [], if getV b 4 = 1 then [] else b.drop 12⟩
def dec5L (b : List Int) : Bool := if getV b 4 = 1 then decide ((b.length : Int) = 12 + 4 * getV b 8) else decide ((b.length : Int) = 12 + getV b 8)
def dec5Ok (b : List Int) : Bool := decide (12 ≤ b.length) && (decide (0 ≤ getV b 8) && (decide (getV b 8 ≤ 1000) && (dec5L b && okB (dec5B b))))

theorem put_get {b : List Int} (hb : ∀ x ∈ b, 0 ≤ x ∧ x ≤ 255) {i : Nat} (hi : i + 4 ≤ b.length) : (b.drop i).take 4 = putB (getV b i) := by
  have hok : getOk b (i : Int) = true := by unfold getOk; exact decide_eq_true (by omega)
  have bd : ∀ j, j < 4 → 0 ≤ b[i + j]?.getD 0 ∧ b[i + j]?.getD 0 ≤ 255 := by
    intro j hj
    rw [List.getElem?_eq_getElem (by omega)]
    exact hb _ (List.getElem_mem _)
  have b0 := bd 0 (by omega)
  have b1 := bd 1 (by omega)
  have b2 := bd 2 (by omega)
  have b3 := bd 3 (by omega)
  have e : (b.drop i).take 4 = [b[i]?.getD 0, b[i + 1]?.getD 0, b[i + 2]?.getD 0, b[i + 3]?.getD 0] := by
    apply List.ext_getElem?
    intro j
    rw [List.getElem?_take, List.getElem?_drop]
    by_cases hj : j < 4
    · rw [if_pos hj, List.getElem?_eq_getElem (show i + j < b.length by omega)]
      match j, hj with
      | 0, _ => simp [List.getElem?_eq_getElem (show i < b.length by omega)]
      | 1, _ => simp [List.getElem?_eq_getElem (show i + 1 < b.length by omega)]
      | 2, _ => simp [List.getElem?_eq_getElem (show i + 2 < b.length by omega)]
      | 3, _ => simp [List.getElem?_eq_getElem (show i + 3 < b.length by omega)]
    · rw [if_neg hj]
      simp
      omega
  rw [e]
  unfold getV
  rw [if_pos hok, Int.toNat_natCast]
  rw [Nat.add_zero] at b0
  generalize b[i]?.getD 0 = x0 at *
  generalize b[i + 1]?.getD 0 = x1 at *
  generalize b[i + 2]?.getD 0 = x2 at *
  generalize b[i + 3]?.getD 0 = x3 at *
  unfold putB get4
  rw [IntKind.wrap_i32]
  congr 1
  · omega
  · congr 1
    · omega
    · congr 1
      · omega
      · congr 1
        omega
theorem words_get {b : List Int} (hb : ∀ x ∈ b, 0 ≤ x ∧ x ≤ 255) : ∀ n : Nat, 12 + 4 * n ≤ b.length → allB (wordsB b n) = (b.drop 12).take (4 * n)
  | 0, _ => by simp [wordsB, allB]
  | n + 1, h => by
    rw [wordsB_succ]
    have ih := words_get hb n (by omega)
    unfold allB at ih ⊢
    rw [List.flatMap_append, ih, List.flatMap_singleton]
    have e := put_get hb (i := 12 + 4 * n) (by omega)
    rw [show ((12 + 4 * n : Nat) : Int) = 12 + 4 * (n : Int) by omega] at e
    rw [← e, show 4 * (n + 1) = 4 * n + 4 by omega, List.take_add, List.drop_drop]
theorem head_get {b : List Int} (hb : ∀ x ∈ b, 0 ≤ x ∧ x ≤ 255) (h : 12 ≤ b.length) : putB (getV b 0) ++ putB (getV b 4) ++ putB (getV b 8) ++ b.drop 12 = b := by
  have e0 := put_get hb (i := 0) (by omega)
  have e1 := put_get hb (i := 4) (by omega)
  have e2 := put_get hb (i := 8) (by omega)
  have c0 : ((0 : Nat) : Int) = 0 := rfl
  have c4 : ((4 : Nat) : Int) = 4 := rfl
  have c8 : ((8 : Nat) : Int) = 8 := rfl
  rw [c0] at e0
  rw [c4] at e1
  rw [c8] at e2
  rw [← e0, ← e1, ← e2, List.drop_zero]
  have f1 : b.take 4 ++ (b.drop 4).take 4 = b.take 8 := by rw [show 8 = 4 + 4 from rfl, List.take_add]
  have f2 : b.take 8 ++ (b.drop 8).take 4 = b.take 12 := by rw [show 12 = 8 + 4 from rfl, List.take_add]
  rw [f1, f2, List.take_append_drop]
theorem dec5_body {b : List Int} (h : dec5Ok b = true) : dec5B b = bodyO b := by
  unfold dec5Ok dec5L at h
  simp only [Bool.and_eq_true, decide_eq_true_eq] at h
  obtain ⟨h1, h2, h3, h4, h5⟩ := h
  unfold dec5B bodyO
  by_cases hk : getV b 4 = 1
  · rw [if_pos hk] at h4
    have h6 := of_decide_eq_true h4
    rw [if_pos hk, if_pos hk, if_pos hk, if_neg (by omega), show (b.length - 12) / 4 = (getV b 8).toNat by omega]
  · have hk2 : getV b 4 = 2 := by
      obtain ⟨-, -, -, -, h6 | h6⟩ := okB_cases h5
      · exact absurd h6.1 hk
      · exact h6.1
    rw [if_neg hk, if_neg hk, if_neg hk, if_pos hk2]
theorem dec5_enc {o : O} (h : okB o = true) : dec5Ok (encB o) = true := by
  obtain ⟨h0, h4, h8⟩ := encB_head h
  have hl := encB_len o
  have hs := szO_ok h
  obtain ⟨-, hw, hbl, -, hc⟩ := okB_cases h
  have hB : dec5B (encB o) = o := by
    unfold dec5B
    rw [h0, h4, h8]
    rcases hc with ⟨hk, hB⟩ | ⟨hk, hW⟩
    · rw [hk, if_pos rfl, if_pos rfl, show (szO o).toNat = o.W.length by rw [hs, hB]; simp, encB_words h hB, ← hk]
      rw [← hB]
    · rw [hk, if_neg (by omega), if_neg (by omega)]
      have e : (encB o).drop 12 = o.B := by
        rw [encB_eq, hW]
        simp [putB, allB]
      rw [e, ← hk, ← hW]
  unfold dec5Ok dec5L
  rw [hB, h4, h8, hs, h]
  simp only [Bool.and_eq_true, decide_eq_true_eq]
  refine ⟨by omega, by omega, ?_, ?_, trivial⟩
  · rcases hc with ⟨hk, hB⟩ | ⟨hk, hW⟩
    · rw [hB]; simp; omega
    · rw [hW]; simp; omega
  · rcases hc with ⟨hk, hB⟩ | ⟨hk, hW⟩
    · rw [if_pos hk, hl, hB]
      refine decide_eq_true ?_
      simp
    · rw [if_neg (by omega), hl, hW]
      refine decide_eq_true ?_
      simp
theorem dec5_eq {b : List Int} (hb : ∀ x ∈ b, 0 ≤ x ∧ x ≤ 255) : dec5Ok b = decOk b := by
  rw [Bool.eq_iff_iff]
  constructor
  · intro h
    have e := dec5_body h
    unfold dec5Ok dec5L at h
    simp only [Bool.and_eq_true, decide_eq_true_eq] at h
    obtain ⟨h1, h2, h3, h4, h5⟩ := h
    unfold decOk
    simp only [Bool.and_eq_true, decide_eq_true_eq]
    rw [← e]
    refine ⟨h1, h5, ?_⟩
    have hh := head_get hb h1
    obtain ⟨n, hn⟩ : ∃ n : Nat, getV b 8 = (n : Int) := ⟨(getV b 8).toNat, by omega⟩
    by_cases hk : getV b 4 = 1
    · rw [if_pos hk, hn] at h4
      have h6 := of_decide_eq_true h4
      have hw := words_get hb n (by omega)
      have hd : dec5B b = ⟨getV b 0, getV b 4, wordsB b n, []⟩ := by
        unfold dec5B
        rw [if_pos hk, if_pos hk, hn, Int.toNat_natCast]
      have hsz : szO (dec5B b) = getV b 8 := by
        rw [szO_ok h5, hd]
        simp [wordsB_len, hn]
      rw [encB_eq, hsz, hd]
      show putB (getV b 0) ++ (putB (getV b 4) ++ (putB (getV b 8) ++ (allB (wordsB b n) ++ []))) = b
      rw [hw, List.take_of_length_le (by rw [List.length_drop]; omega), List.append_nil]
      rw [← List.append_assoc, ← List.append_assoc]
      exact hh
    · rw [if_neg hk, hn] at h4
      have h6 := of_decide_eq_true h4
      have hd : dec5B b = ⟨getV b 0, getV b 4, [], b.drop 12⟩ := by
        unfold dec5B
        rw [if_neg hk, if_neg hk]
      have hsz : szO (dec5B b) = getV b 8 := by
        rw [szO_ok h5, hd]
        simp
        omega
      rw [encB_eq, hsz, hd]
      show putB (getV b 0) ++ (putB (getV b 4) ++ (putB (getV b 8) ++ ([] ++ b.drop 12))) = b
      rw [List.nil_append, ← List.append_assoc, ← List.append_assoc]
      exact hh
  · intro h
    unfold decOk at h
    simp only [Bool.and_eq_true, decide_eq_true_eq] at h
    rw [← h.2.2]
    exact dec5_enc h.2.1

/-- an image by the document's reading -/
def recOk (b : List Int) (at_ : Nat) : Bool := decide (getE b at_ = 0) && (decide (0 ≤ getV b at_) && decide (getV b at_ ≤ (b.length : Int) - at_ - 4))
def recAt (b : List Int) (at_ : Nat) : List Int := (b.drop (at_ + 4)).take (getV b at_).toNat
def dRun (b : List Int) : Nat → List O → Nat → Option (List O)
  | 0, acc, _ => some acc
  | k + 1, acc, at_ => if recOk b at_ = true then (if decE (recAt b at_) = 0 then dRun b k (acc ++ [decO (recAt b at_)]) (at_ + 4 + (getV b at_).toNat) else none) else none
def dHead (b : List Int) : Bool := decide (getE b 0 = 0) && (decide (getE b 4 = 0) && (decide (0 ≤ getV b 0) && decide (getV b 0 ≤ 2000)))
def dCut (b : List Int) : Option (List O) := if dHead b = true then dRun b (getV b 0).toNat [] 8 else none
theorem dRun_enc : ∀ (L acc : List O) (p : List Int), L.all okB = true → dRun (p ++ L.flatMap recB) L.length acc p.length = some (acc ++ L)
  | [], acc, p, _ => by simp [dRun]
  | o :: L, acc, p, h => by
    rw [List.all_cons, Bool.and_eq_true] at h
    have e : p ++ (o :: L).flatMap recB = p ++ putB (encB o).length ++ (encB o ++ L.flatMap recB) := by
      rw [List.flatMap_cons]
      unfold recB
      simp only [List.append_assoc]
    have hv : getV (p ++ (o :: L).flatMap recB) (p.length : Int) = (encB o).length := by
      rw [e]
      exact getV_putI _ _ (len32 h.1) _ rfl
    have he : getE (p ++ (o :: L).flatMap recB) (p.length : Int) = 0 := by
      unfold getE
      rw [e, if_pos (getOk_put _ _ _)]
    have hr : recOk (p ++ (o :: L).flatMap recB) p.length = true := by
      unfold recOk
      rw [hv, he]
      simp only [Bool.and_eq_true, decide_eq_true_eq, true_and]
      rw [e]
      simp [putB]
      omega
    have ha : recAt (p ++ (o :: L).flatMap recB) p.length = encB o := by
      unfold recAt
      rw [hv, Int.toNat_natCast, e]
      have e2 : p.length + 4 = (p ++ putB (encB o).length).length := by simp [putB]
      rw [e2, List.drop_left, List.take_left]
    rw [List.length_cons, dRun, if_pos hr, ha, (dec_enc h.1).2, if_pos rfl, (dec_enc h.1).1, hv, Int.toNat_natCast]
    have e3 : p ++ (o :: L).flatMap recB = (p ++ recB o) ++ L.flatMap recB := by rw [List.flatMap_cons, List.append_assoc]
    have e4 : p.length + 4 + (encB o).length = (p ++ recB o).length := by rw [List.length_append, recB_len]; omega
    rw [e3, e4, dRun_enc L _ _ h.2]
    simp
theorem dCut_enc {L : List O} {f : Int} (h : encE L f = 0) : dCut (encI L f) = some L ∧ getV (encI L f) 4 = f := by
  obtain ⟨h1, h2⟩ := encE_ok h
  obtain ⟨hall, hn2, hn4, hf, -⟩ := imgOk_all h1
  have hln : -2147483648 ≤ (L.length : Int) ∧ (L.length : Int) ≤ 2147483647 := by omega
  have v0 : getV (encI L f) 0 = L.length := by rw [encI_eq, getV_put0 hln]
  have e4 : encI L f = putB L.length ++ putB f ++ L.flatMap recB := by rw [encI_eq, List.append_assoc]
  have v4 : getV (encI L f) 4 = f := by
    rw [e4]
    exact getV_putI _ _ (named32 hf) _ rfl
  have g0 : getE (encI L f) 0 = 0 := by
    unfold getE
    rw [encI_eq]
    have := getOk_put [] (putB f ++ L.flatMap recB) L.length
    simp only [List.nil_append, List.length_nil] at this
    rw [if_pos (by simpa using this)]
  have g4 : getE (encI L f) 4 = 0 := by
    unfold getE
    rw [e4]
    exact if_pos (getOk_put (putB L.length) (L.flatMap recB) f)
  refine ⟨?_, v4⟩
  have hd : dHead (encI L f) = true := by
    unfold dHead
    rw [v0, g0, g4]
    simp only [Bool.and_eq_true, decide_eq_true_eq, true_and]
    omega
  unfold dCut
  rw [if_pos hd, v0, Int.toNat_natCast, e4]
  have := dRun_enc L [] (putB L.length ++ putB f) hall
  simpa [putB] using this
/-- the document's reading tells what the program's tells -/
theorem dCut_ok {b : List Int} {L : List O} (h : dCut b = some L) (he : encE L (getV b 4) = 0) (hb : encI L (getV b 4) = b) : imgDL b = L ∧ imgDF b = getV b 4 ∧ imgDE b = 0 := by
  obtain ⟨-, h2, h3, h4⟩ := img_enc he
  rw [hb] at h2 h3 h4
  exact ⟨h2, h3, h4⟩
theorem dCut_no {b : List Int} (h : ∀ L, dCut b = some L → encE L (getV b 4) = 0 → encI L (getV b 4) ≠ b) : imgDL b = [] ∧ imgDF b = 0 ∧ imgDE b = 180 := by
  have hno : imgOkB b = false := by
    cases hc : imgOkB b
    · rfl
    · obtain ⟨s1, s2⟩ := img_sound hc
      obtain ⟨d1, d2⟩ := dCut_enc s1
      rw [s2] at d1 d2
      exact absurd (by rw [d2]; exact s2) (h _ d1 (by rw [d2]; exact s1))
  unfold imgDL imgDF imgDE
  rw [hno]
  exact ⟨rfl, rfl, rfl⟩

end Go.Proofs.YtifcigjminbllaaGreatDoor
