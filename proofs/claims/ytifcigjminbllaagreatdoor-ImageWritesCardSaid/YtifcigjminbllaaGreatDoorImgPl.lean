/- The plain law of images' bytes: what is written is read; nothing else is; nothing that is written begins another. -/
import Derived.Test.YtifcigjminbllaaGreatDoorImgS
namespace Go.Proofs.YtifcigjminbllaaGreatDoor
set_option linter.unusedVariables false
set_option linter.unusedSimpArgs false
open Go.RowKit

theorem at_app3 (p m s : List Int) (j : Nat) (hj : j < m.length) : (p ++ m ++ s)[p.length + j]? = m[j]? := by
  rw [List.append_assoc, List.getElem?_append_right (by omega), Nat.add_sub_cancel_left, List.getElem?_append_left hj]
theorem get4_put (v : Int) : get4 (v / 16777216 % 256) (v / 65536 % 256) (v / 256 % 256) (v % 256) = IntKind.i32.wrap v := by
  unfold get4
  rw [IntKind.wrap_i32, IntKind.wrap_i32]
  omega
theorem getOk_put (p s : List Int) (v : Int) : getOk (p ++ putB v ++ s) (p.length : Int) = true := by
  unfold getOk
  refine decide_eq_true ⟨by omega, ?_⟩
  simp [putB]
  omega
theorem getV_put (p s : List Int) (v : Int) : getV (p ++ putB v ++ s) (p.length : Int) = IntKind.i32.wrap v := by
  unfold getV
  rw [if_pos (getOk_put p s v), Int.toNat_natCast]
  have h0 := at_app3 p (putB v) s 0 (by simp [putB])
  have h1 := at_app3 p (putB v) s 1 (by simp [putB])
  have h2 := at_app3 p (putB v) s 2 (by simp [putB])
  have h3 := at_app3 p (putB v) s 3 (by simp [putB])
  rw [Nat.add_zero] at h0
  rw [h0, h1, h2, h3, ← get4_put]
  rfl
theorem wrap32_id {v : Int} (h : -2147483648 ≤ v ∧ v ≤ 2147483647) : IntKind.i32.wrap v = v := by
  rw [IntKind.wrap_i32]
  omega
theorem getV_putI (p s : List Int) {v : Int} (h : -2147483648 ≤ v ∧ v ≤ 2147483647) (n : Int) (hn : n = p.length) : getV (p ++ putB v ++ s) n = v := by
  rw [hn, getV_put, wrap32_id h]
theorem ref32 {v : Int} (h : refOk v = true) : -2147483648 ≤ v ∧ v ≤ 2147483647 := by
  unfold refOk at h
  rw [Bool.or_eq_true] at h
  rcases h with h | h
  · unfold numOk at h
    have := of_decide_eq_true h
    omega
  · unfold namedOk at h
    have := of_decide_eq_true h
    omega
theorem named32 {v : Int} (h : namedOk v = true) : -2147483648 ≤ v ∧ v ≤ 2147483647 := by
  unfold namedOk at h
  have := of_decide_eq_true h
  omega
theorem szO_ok {o : O} (h : okB o = true) : szO o = (o.W.length : Int) + o.B.length := by
  obtain ⟨-, -, -, -, h1 | h1⟩ := okB_cases h
  · simp [szO, h1.1, h1.2]
  · simp [szO, h1.1, h1.2]
theorem allB_cons (x : Int) (l : List Int) : allB (x :: l) = putB x ++ allB l := rfl
/-- an object's bytes: their head, and what is behind it -/
theorem encB_eq (o : O) : encB o = putB o.cls ++ (putB o.kind ++ (putB (szO o) ++ (allB o.W ++ o.B))) := by
  unfold encB
  simp [allB]
theorem encB_head {o : O} (h : okB o = true) : getV (encB o) 0 = o.cls ∧ getV (encB o) 4 = o.kind ∧ getV (encB o) 8 = szO o := by
  obtain ⟨h1, h2, h3, -, h5⟩ := okB_cases h
  have hk : -2147483648 ≤ o.kind ∧ o.kind ≤ 2147483647 := by rcases h5 with h | h <;> rw [h.1] <;> omega
  have hs : -2147483648 ≤ szO o ∧ szO o ≤ 2147483647 := by rw [szO_ok h]; omega
  refine ⟨?_, ?_, ?_⟩
  · have := getV_putI [] (putB o.kind ++ (putB (szO o) ++ (allB o.W ++ o.B))) (named32 h1) 0 rfl
    rw [encB_eq]
    simpa using this
  · have := getV_putI (putB o.cls) (putB (szO o) ++ (allB o.W ++ o.B)) hk 4 rfl
    rw [encB_eq]
    simpa using this
  · have := getV_putI (putB o.cls ++ putB o.kind) (allB o.W ++ o.B) hs 8 rfl
    rw [encB_eq]
    simpa using this
theorem encB_words {o : O} (h : okB o = true) (hB : o.B = []) : wordsB (encB o) o.W.length = o.W := by
  obtain ⟨-, -, -, h4, -⟩ := okB_cases h
  apply List.ext_getElem?
  intro i
  unfold wordsB
  rw [List.getElem?_map]
  by_cases hi : i < o.W.length
  · rw [List.getElem?_range hi, Option.map_some, List.getElem?_eq_getElem hi]
    congr 1
    have hr := ref32 (List.all_eq_true.1 h4 _ (List.getElem_mem hi))
    have e : encB o = (putB o.cls ++ putB o.kind ++ putB (szO o) ++ allB (o.W.take i)) ++ putB o.W[i] ++ allB (o.W.drop (i + 1)) := by
      rw [encB_eq, hB, List.append_nil]
      have e2 : allB o.W = allB (o.W.take i) ++ (putB o.W[i] ++ allB (o.W.drop (i + 1))) := by
        have e3 : o.W = o.W.take i ++ (o.W[i] :: o.W.drop (i + 1)) := by rw [← List.drop_eq_getElem_cons hi, List.take_append_drop]
        have e4 := congrArg allB e3
        rw [e4]
        unfold allB
        rw [List.flatMap_append, List.flatMap_cons]
      rw [e2]
      simp only [List.append_assoc]
    rw [e]
    refine getV_putI _ _ hr _ ?_
    simp only [List.length_append, allB_len, List.length_take, putB, List.length_cons, List.length_nil]
    omega
  · rw [List.getElem?_eq_none (by simp; omega), List.getElem?_eq_none (by omega)]
    rfl
theorem bodyO_enc {o : O} (h : okB o = true) : bodyO (encB o) = o := by
  obtain ⟨h0, h4, -⟩ := encB_head h
  obtain ⟨-, -, -, -, h5⟩ := okB_cases h
  have hl := encB_len o
  unfold bodyO
  rw [h0, h4]
  rcases h5 with ⟨hk, hB⟩ | ⟨hk, hW⟩
  · rw [hk, if_pos rfl, if_neg (by omega), show ((encB o).length - 12) / 4 = o.W.length by rw [hl, hB]; simp, encB_words h hB, ← hk]
    rw [← hB]
  · rw [hk, if_neg (by omega), if_pos rfl]
    have e : (encB o).drop 12 = o.B := by
      rw [encB_eq, hW]
      simp [putB, allB]
    rw [e, ← hk, ← hW]
theorem decOk_enc {o : O} (h : okB o = true) : decOk (encB o) = true := by
  unfold decOk
  rw [bodyO_enc h, h]
  have hl := encB_len o
  simp
  omega
theorem dec_enc {o : O} (h : okB o = true) : decO (encB o) = o ∧ decE (encB o) = 0 := by
  unfold decO decE
  rw [decOk_enc h]
  exact ⟨bodyO_enc h, rfl⟩
theorem len32 {o : O} (h : okB o = true) : -2147483648 ≤ ((encB o).length : Int) ∧ ((encB o).length : Int) ≤ 2147483647 := by
  have := okB_encB h
  omega
theorem numL_put (v : Int) (s : List Int) : numL (putB v ++ s) = s := by
  unfold numL
  have h := getOk_put [] s v
  simp only [List.nil_append, List.length_nil] at h
  rw [if_pos (by simpa using h)]
  simp [putB]
theorem numB_put (v : Int) (s : List Int) (bad : Bool) : numB (putB v ++ s) bad = bad := by
  unfold numB
  have h := getOk_put [] s v
  simp only [List.nil_append, List.length_nil] at h
  rw [if_pos (by simpa using h)]
theorem getV_put0 {v : Int} (h : -2147483648 ≤ v ∧ v ≤ 2147483647) (s : List Int) : getV (putB v ++ s) 0 = v := by
  have := getV_putI [] s h 0 rfl
  simpa using this
theorem obj_enc {o : O} (h : okB o = true) (s : List Int) : objO (recB o ++ s) false = o ∧ objL (recB o ++ s) false = s ∧ objB (recB o ++ s) false = false := by
  have e : recB o ++ s = putB (encB o).length ++ (encB o ++ s) := by unfold recB; rw [List.append_assoc]
  have hb : objBad (recB o ++ s) false = false := by
    unfold objBad
    rw [e, numB_put, numL_put, getV_put0 (len32 h)]
    simp
    omega
  have ht : (encB o ++ s).take (encB o).length = encB o := by simp
  have hd : (encB o ++ s).drop (encB o).length = s := by simp
  unfold objO objL objB
  rw [hb, if_neg (by decide), if_neg (by decide), if_neg (by decide), e, numL_put, getV_put0 (len32 h), Int.toNat_natCast, ht, hd]
  exact ⟨(dec_enc h).1, rfl, by rw [(dec_enc h).2]; rfl⟩
theorem runI_enc : ∀ (L acc : List O) (s : List Int), L.all okB = true → runI L.length acc (L.flatMap recB ++ s) false = (acc ++ L, false)
  | [], acc, s, _ => by simp [runI]
  | o :: L, acc, s, h => by
    rw [List.all_cons, Bool.and_eq_true] at h
    have e : (o :: L).flatMap recB ++ s = recB o ++ (L.flatMap recB ++ s) := by rw [List.flatMap_cons, List.append_assoc]
    obtain ⟨h1, h2, h3⟩ := obj_enc h.1 (L.flatMap recB ++ s)
    rw [e, List.length_cons, runI, if_neg (by decide), h1, h2, h3, runI_enc L _ s h.2]
    simp
theorem encI_eq (L : List O) (f : Int) : encI L f = putB L.length ++ (putB f ++ L.flatMap recB) := by
  unfold encI
  simp [allB]
theorem encE_ok {L : List O} {f : Int} (h : encE L f = 0) : imgOk L f = true ∧ (encI L f).length ≤ 262144 := by
  unfold encE at h
  split at h
  · rename_i h1
    split at h
    · rename_i h2
      exact ⟨h1, h2⟩
    · omega
  · omega
theorem img_enc {L : List O} {f : Int} (h : encE L f = 0) : imgOkB (encI L f) = true ∧ imgDL (encI L f) = L ∧ imgDF (encI L f) = f ∧ imgDE (encI L f) = 0 := by
  obtain ⟨h1, h2⟩ := encE_ok h
  obtain ⟨hall, hn2, hn4, hf, -⟩ := imgOk_all h1
  have hln : -2147483648 ≤ (L.length : Int) ∧ (L.length : Int) ≤ 2147483647 := by omega
  have hcn : cutN (encI L f) = L.length := by
    unfold cutN
    rw [encI_eq, getV_put0 hln]
    omega
  have hcf : cutF (encI L f) = f := by
    unfold cutF
    rw [encI_eq, numL_put, getV_put0 (named32 hf)]
  have hcr : cutR (encI L f) = (L, false) := by
    unfold cutR
    rw [hcn, encI_eq, numL_put, numL_put, numB_put, numB_put]
    have := runI_enc L [] [] hall
    simpa using this
  have hok : imgOkB (encI L f) = true := by
    unfold imgOkB
    rw [hcr, hcf]
    simp [h]
  refine ⟨hok, ?_, ?_, ?_⟩
  · unfold imgDL; rw [if_pos hok, hcr]
  · unfold imgDF; rw [if_pos hok, hcf]
  · unfold imgDE; rw [if_pos hok]
theorem img_sound {b : List Int} (h : imgOkB b = true) : encE (imgDL b) (imgDF b) = 0 ∧ encI (imgDL b) (imgDF b) = b := by
  have h' := h
  unfold imgOkB at h'
  simp only [Bool.and_eq_true, decide_eq_true_eq] at h'
  unfold imgDL imgDF
  rw [if_pos h, if_pos h]
  exact h'.2
theorem encB_inj {o x : O} (h : okB o = true) (hx : okB x = true) (e : encB o = encB x) : o = x := by
  rw [← bodyO_enc h, e, bodyO_enc hx]
theorem app_inj4 {a b s t : List Int} (h : a ++ s = b ++ t) (hl : a.length = b.length) : a = b ∧ s = t := List.append_inj h hl
theorem put_inj {v u : Int} {s t : List Int} (hv : -2147483648 ≤ v ∧ v ≤ 2147483647) (hu : -2147483648 ≤ u ∧ u ≤ 2147483647) (h : putB v ++ s = putB u ++ t) : v = u ∧ s = t := by
  have h1 := getV_put0 hv s
  have h2 := getV_put0 hu t
  rw [h, h2] at h1
  subst h1
  exact ⟨rfl, List.append_cancel_left h⟩
theorem recs_inj : ∀ (L M : List O) (s t : List Int), L.length = M.length → L.all okB = true → M.all okB = true → L.flatMap recB ++ s = M.flatMap recB ++ t → L = M ∧ s = t
  | [], [], s, t, _, _, _, h => ⟨rfl, by simpa using h⟩
  | [], _ :: _, _, _, hl, _, _, _ => by simp at hl
  | _ :: _, [], _, _, hl, _, _, _ => by simp at hl
  | o :: L, x :: M, s, t, hl, h1, h2, h => by
    rw [List.all_cons, Bool.and_eq_true] at h1 h2
    have e : ∀ (o : O) (L : List O) (s : List Int), (o :: L).flatMap recB ++ s = putB (encB o).length ++ (encB o ++ (L.flatMap recB ++ s)) := by
      intro o L s
      rw [List.flatMap_cons]
      unfold recB
      simp only [List.append_assoc]
    rw [e, e] at h
    obtain ⟨e1, e2⟩ := put_inj (len32 h1.1) (len32 h2.1) h
    obtain ⟨e3, e4⟩ := List.append_inj e2 (by omega)
    have e5 := encB_inj h1.1 h2.1 e3
    obtain ⟨e6, e7⟩ := recs_inj L M s t (by simpa using hl) h1.2 h2.2 e4
    exact ⟨by rw [e5, e6], e7⟩
theorem encI_inj {L M : List O} {f g : Int} {s t : List Int} (h : imgOk L f = true) (hm : imgOk M g = true) (e : encI L f ++ s = encI M g ++ t) : L = M ∧ f = g ∧ s = t := by
  obtain ⟨a1, a2, -, a4, -⟩ := imgOk_all h
  obtain ⟨b1, b2, -, b4, -⟩ := imgOk_all hm
  rw [encI_eq, encI_eq] at e
  simp only [List.append_assoc] at e
  obtain ⟨e1, e2⟩ := put_inj (by omega) (by omega) e
  obtain ⟨e3, e4⟩ := put_inj (named32 a4) (named32 b4) e2
  obtain ⟨e5, e6⟩ := recs_inj L M s t (by omega) a1 b1 e4
  exact ⟨e5, e3, e6⟩

theorem RefT.form {w : World} {S : Nat → Prop} {lv : Value} {T : List T3} {L : List O} (h : RefT w S lv T) (hL : T.map (·.1) = L) : ∃ A d, lv = .slice A L.length d := by
  obtain ⟨⟨A, c, e, -⟩, -⟩ := h
  exact ⟨A, c, by rw [e, ← hL, List.length_map]⟩
set_option maxRecDepth 100000 in
set_option maxHeartbeats 1000000 in
/-- image.Encode of whatever length -/
theorem ImgEncode_max (lv : Value) (T : List T3) (f : Int) (f64 : In64 f) (w : World) (h : RefT w (fun _ => True) lv T) (hm : T.length ≤ maxLen) (ht : Tabs w) : Calls Tryz.prog 10 #[.agg #[lv, .int .i64 f]] w (Ret (ImgEnc w (encV (T.map (·.1)) f) (encE (T.map (·.1)) f))) := by
  by_cases hn : T.length ≤ 2000
  · exact ImgEncode_any lv T f f64 w h (by omega) ht
  · have hok : imgOk (T.map (·.1)) f = false := by
      cases hc : imgOk (T.map (·.1)) f
      · rfl
      · have := (imgOk_all hc).2.1
        rw [List.length_map] at this
        omega
    have hE : encE (T.map (·.1)) f = 180 := by unfold encE; rw [hok]; rfl
    have hV : encV (T.map (·.1)) f = [] := by unfold encV; rw [hE]; rfl
    have hI : imgE (T.map (·.1)) f = 180 := by unfold imgE; rw [hok]; rfl
    rw [hE, hV]
    obtain ⟨A, n, c, rfl⟩ : ∃ A n c, lv = .slice A n c := by
      obtain ⟨⟨A, c, e, -⟩, -⟩ := h
      exact ⟨A, _, c, e⟩
    have cA : Chg No w (w.alloc (.cells #[.slice A n c, .int .i64 f] 26)) := (Chg.refl _ _).alloc _
    have HA := Lib.hid cA
    have HT := Lib.hid h
    have HTB := Lib.hid ht
    have HI := Lib.hid hI
    clear h ht hE hV hI hok hn cA
    go_enter Tryz.func10, Tryz.ntmps10
    go_wp2_with (first
      | (go_at_call 13
         refine (ImgCheck_any _ T f f64 _ (HT.out.keep HA.out (fun _ _ g => g)) hm (HTB.out.keep HA.out)).mono ?_
         rw [HI.out]
         rintro e w1 ⟨rfl, c1⟩
         have H1 := Lib.hid (HA.out.trans c1)
         clear c1)
      | fail)
    go_ret2
    exact Ret.mk ⟨_, rfl, OwnB.nil _ _, H1.out⟩

end Go.Proofs.YtifcigjminbllaaGreatDoor
