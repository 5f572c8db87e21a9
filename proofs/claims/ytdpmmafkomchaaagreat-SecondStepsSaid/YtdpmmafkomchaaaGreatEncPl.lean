/- The plain law of an object's bytes: what is written is read. -/
import Derived.Test.YtdpmmafkomchaaaGreatImgR
namespace Go.Proofs.YtdpmmafkomchaaaGreat
set_option linter.unusedVariables false
set_option linter.unusedSimpArgs false
open Go.RowKit

theorem at_app3 (p m s : List Int) (j : Nat) (hj : j < m.length) : (p ++ m ++ s)[p.length + j]? = m[j]? := by
  rw [List.append_assoc, List.getElem?_append_right (by omega), Nat.add_sub_cancel_left, List.getElem?_append_left hj]
theorem get4_put (v : Int) : get4 (v / 16777216 % 256) (v / 65536 % 256) (v / 256 % 256) (v % 256) = IntKind.i32.wrap v := by
  unfold get4
  rw [IntKind.wrap_i32, IntKind.wrap_i32]
  omega
theorem getOk_put (p s : List Int) (v : Int) : getOk (p ++ putB v ++ s) (p.length : Int) = true := by
  unfold getOk
  refine decide_eq_true ⟨by omega, ?_⟩
  simp [putB]
  omega
theorem getV_put (p s : List Int) (v : Int) : getV (p ++ putB v ++ s) (p.length : Int) = IntKind.i32.wrap v := by
  unfold getV
  rw [if_pos (getOk_put p s v), Int.toNat_natCast]
  have h0 := at_app3 p (putB v) s 0 (by simp [putB])
  have h1 := at_app3 p (putB v) s 1 (by simp [putB])
  have h2 := at_app3 p (putB v) s 2 (by simp [putB])
  have h3 := at_app3 p (putB v) s 3 (by simp [putB])
  rw [Nat.add_zero] at h0
  rw [h0, h1, h2, h3, ← get4_put]
  rfl
theorem wrap32_id {v : Int} (h : -2147483648 ≤ v ∧ v ≤ 2147483647) : IntKind.i32.wrap v = v := by
  rw [IntKind.wrap_i32]
  omega
theorem getV_putI (p s : List Int) {v : Int} (h : -2147483648 ≤ v ∧ v ≤ 2147483647) (n : Int) (hn : n = p.length) : getV (p ++ putB v ++ s) n = v := by
  rw [hn, getV_put, wrap32_id h]
theorem ref32 {v : Int} (h : refOk v = true) : -2147483648 ≤ v ∧ v ≤ 2147483647 := by
  unfold refOk at h
  rw [Bool.or_eq_true] at h
  rcases h with h | h
  · unfold numOk at h
    have := of_decide_eq_true h
    omega
  · unfold namedOk at h
    have := of_decide_eq_true h
    omega
theorem named32 {v : Int} (h : namedOk v = true) : -2147483648 ≤ v ∧ v ≤ 2147483647 := by
  unfold namedOk at h
  have := of_decide_eq_true h
  omega
theorem szO_ok {o : O} (h : okB o = true) : szO o = (o.W.length : Int) + o.B.length := by
  obtain ⟨-, -, -, -, h1 | h1⟩ := okB_cases h
  · simp [szO, h1.1, h1.2]
  · simp [szO, h1.1, h1.2]
theorem allB_cons (x : Int) (l : List Int) : allB (x :: l) = putB x ++ allB l := rfl
/-- an object's bytes: their head, and what is behind it -/
theorem encB_eq (o : O) : encB o = putB o.cls ++ (putB o.kind ++ (putB (szO o) ++ (allB o.W ++ o.B))) := by
  unfold encB
  simp [allB]
theorem encB_head {o : O} (h : okB o = true) : getV (encB o) 0 = o.cls ∧ getV (encB o) 4 = o.kind ∧ getV (encB o) 8 = szO o := by
  obtain ⟨h1, h2, h3, -, h5⟩ := okB_cases h
  have hk : -2147483648 ≤ o.kind ∧ o.kind ≤ 2147483647 := by rcases h5 with h | h <;> rw [h.1] <;> omega
  have hs : -2147483648 ≤ szO o ∧ szO o ≤ 2147483647 := by rw [szO_ok h]; omega
  refine ⟨?_, ?_, ?_⟩
  · have := getV_putI [] (putB o.kind ++ (putB (szO o) ++ (allB o.W ++ o.B))) (named32 h1) 0 rfl
    rw [encB_eq]
    simpa using this
  · have := getV_putI (putB o.cls) (putB (szO o) ++ (allB o.W ++ o.B)) hk 4 rfl
    rw [encB_eq]
    simpa using this
  · have := getV_putI (putB o.cls ++ putB o.kind) (allB o.W ++ o.B) hs 8 rfl
    rw [encB_eq]
    simpa using this
theorem encB_words {o : O} (h : okB o = true) (hB : o.B = []) : wordsB (encB o) o.W.length = o.W := by
  obtain ⟨-, -, -, h4, -⟩ := okB_cases h
  apply List.ext_getElem?
  intro i
  unfold wordsB
  rw [List.getElem?_map]
  by_cases hi : i < o.W.length
  · rw [List.getElem?_range hi, Option.map_some, List.getElem?_eq_getElem hi]
    congr 1
    have hr := ref32 (List.all_eq_true.1 h4 _ (List.getElem_mem hi))
    have e : encB o = (putB o.cls ++ putB o.kind ++ putB (szO o) ++ allB (o.W.take i)) ++ putB o.W[i] ++ allB (o.W.drop (i + 1)) := by
      rw [encB_eq, hB, List.append_nil]
      have e2 : allB o.W = allB (o.W.take i) ++ (putB o.W[i] ++ allB (o.W.drop (i + 1))) := by
        have e3 : o.W = o.W.take i ++ (o.W[i] :: o.W.drop (i + 1)) := by rw [← List.drop_eq_getElem_cons hi, List.take_append_drop]
        have e4 := congrArg allB e3
        rw [e4]
        unfold allB
        rw [List.flatMap_append, List.flatMap_cons]
      rw [e2]
      simp only [List.append_assoc]
    rw [e]
    refine getV_putI _ _ hr _ ?_
    simp only [List.length_append, allB_len, List.length_take, putB, List.length_cons, List.length_nil]
    omega
  · rw [List.getElem?_eq_none (by simp; omega), List.getElem?_eq_none (by omega)]
    rfl
theorem bodyO_enc {o : O} (h : okB o = true) : bodyO (encB o) = o := by
  obtain ⟨h0, h4, -⟩ := encB_head h
  obtain ⟨-, -, -, -, h5⟩ := okB_cases h
  have hl := encB_len o
  unfold bodyO
  rw [h0, h4]
  rcases h5 with ⟨hk, hB⟩ | ⟨hk, hW⟩
  · rw [hk, if_pos rfl, if_neg (by omega), show ((encB o).length - 12) / 4 = o.W.length by rw [hl, hB]; simp, encB_words h hB, ← hk]
    rw [← hB]
  · rw [hk, if_neg (by omega), if_pos rfl]
    have e : (encB o).drop 12 = o.B := by
      rw [encB_eq, hW]
      simp [putB, allB]
    rw [e, ← hk, ← hW]
theorem decOk_enc {o : O} (h : okB o = true) : decOk (encB o) = true := by
  unfold decOk
  rw [bodyO_enc h, h]
  have hl := encB_len o
  simp
  omega
theorem dec_enc {o : O} (h : okB o = true) : decO (encB o) = o ∧ decE (encB o) = 0 := by
  unfold decO decE
  rw [decOk_enc h]
  exact ⟨bodyO_enc h, rfl⟩

end Go.Proofs.YtdpmmafkomchaaaGreat
