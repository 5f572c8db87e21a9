/- A frame's stack: what is pushed and popped, plainly. -/
import Derived.Test.YtjanojignaonfaaFrameQ
import Derived.Test.YtjanojignaonfaaFrameG
namespace Go.Proofs.Ytjanojignaonfaa
set_option linter.unusedVariables false
set_option linter.unusedSimpArgs false
open Go.RowKit

def blkF : O := ⟨10, 1, [2, 11, 1, 14, 4, 16, 3, 11] ++ List.replicate 24 2, []⟩
/-- the memory with the frame's words W -/
def fwL (W : List Int) : List O := worldL ++ [⟨12, 1, W, []⟩, blkF]
/-- a frame's words -/
def stW (st rest : List Int) : List Int := [2, 1, 2 * (st.length : Int) + 1, 14, 4, 2, 1, 1] ++ (st ++ rest)
def stL (st rest : List Int) : List O := fwL (stW st rest)
theorem stW_len {st rest : List Int} (h : st.length + rest.length = 24) : (stW st rest).length = 32 := by simp [stW]; omega
theorem fw_fnd (W : List Int) : fnd (fwL W) 16 = some 7 := by kernel_rfl
theorem fw_ob (W : List Int) : ob (fwL W) 7 = ⟨12, 1, W, []⟩ := by kernel_rfl
theorem fw_place {W : List Int} (hW : W.length = 32) {i : Int} (hi : 0 ≤ i ∧ i < 32) : placeE (fwL W) 16 1 i = 0 := by
  unfold placeE
  rw [fw_fnd]
  simp only [fw_ob]
  rw [if_pos trivial, if_pos ⟨hi.1, by simp [szO, hW]; exact hi.2⟩]
theorem fw_fetch {W : List Int} (hW : W.length = 32) {i : Int} (hi : 0 ≤ i ∧ i < 32) : fetchV (fwL W) 16 i = W[i.toNat]?.getD 0 := by
  unfold fetchV
  rw [fw_fnd]
  simp only [fw_ob]
  rw [if_pos ⟨trivial, hi.1, by rw [hW]; exact hi.2⟩]
theorem fw_set {W : List Int} (hW : W.length = 32) {i v : Int} (hi : 0 ≤ i ∧ i < 32) (hv : refOk v = true) : setE (fwL W) 16 i v = 0 ∧ setL (fwL W) 16 i v = fwL (W.set i.toNat v) := by
  obtain ⟨j, h1, -, -, -, -, h6, h7⟩ := set_ok (fw_place hW hi) hv
  rw [fw_fnd] at h1
  obtain rfl := Option.some.inj h1
  refine ⟨h6, ?_⟩
  rw [h7, fw_ob]
  rfl
theorem fw_num {W : List Int} (hW : W.length = 32) {n : Int} (hn : W[2]?.getD 0 = 2 * n + 1) (hb : 0 ≤ n ∧ n ≤ 1000) : numR (fwL W) 16 2 = (n, 0) := by
  unfold numR
  rw [fw_place hW (by omega), if_pos rfl, fw_fetch hW (by omega), show (2 : Int).toNat = 2 from rfl, hn]
  have h3 : numOk (2 * n + 1) = true := by unfold numOk; rw [decide_eq_true_eq]; omega
  have h4 : numV (2 * n + 1) = n := by unfold numV; rw [if_pos (by omega)]; omega
  rw [if_pos h3, h4]
theorem fw_setNum {W : List Int} (hW : W.length = 32) {n : Int} (hb : 0 ≤ n ∧ n ≤ 1000) : setNumE (fwL W) 16 2 n = 0 ∧ setNumL (fwL W) 16 2 n = fwL (W.set 2 (2 * n + 1)) := by
  have h0 : smallE n = 0 := if_pos (by omega)
  have hv : smallV n = 2 * n + 1 := if_pos (by omega)
  have hr : refOk (2 * n + 1) = true := by
    have : numOk (2 * n + 1) = true := by unfold numOk; rw [decide_eq_true_eq]; omega
    simp [refOk, this]
  obtain ⟨h1, h2⟩ := fw_set hW (i := 2) (v := 2 * n + 1) (by omega) hr
  unfold setNumE setNumL
  rw [h0, if_pos rfl, if_pos rfl, hv]
  exact ⟨h1, h2⟩
section
variable {st rest : List Int}
theorem stW_two : (stW st rest)[2]?.getD 0 = 2 * (st.length : Int) + 1 := rfl
theorem stW_set2 (n : Int) : (stW st rest).set 2 n = [2, 1, n, 14, 4, 2, 1, 1] ++ (st ++ rest) := rfl
theorem st_num (h : st.length + rest.length = 24) : numR (stL st rest) 16 2 = ((st.length : Int), 0) := fw_num (stW_len h) stW_two (by omega)
theorem stW_at (h : st.length + rest.length = 24) (k : Nat) : (stW st rest)[8 + k]? = (st ++ rest)[k]? := by
  unfold stW
  rw [List.getElem?_append_right (by simp)]
  simp
theorem st_push {r v : Int} (h : st.length + (r :: rest).length = 24) (hv : refOk v = true) : push1E (stL st (r :: rest)) 16 v = 0 ∧ push1L (stL st (r :: rest)) 16 v = stL (st ++ [v]) rest := by
  have hlt : st.length < 24 := by simp at h; omega
  have hW := stW_len h
  have hn := st_num h
  obtain ⟨s1, s2⟩ := fw_set hW (i := 8 + (st.length : Int)) (v := v) (by omega) hv
  have hset : (stW st (r :: rest)).set (8 + (st.length : Int)).toNat v = [2, 1, 2 * (st.length : Int) + 1, 14, 4, 2, 1, 1] ++ ((st ++ [v]) ++ rest) := by
    rw [show (8 + (st.length : Int)).toNat = 8 + st.length by omega]
    unfold stW
    rw [List.set_append_right _ _ (by simp), List.set_append_right _ _ (by simp)]
    simp
  rw [hset] at s2
  have hW2 : ([2, 1, 2 * (st.length : Int) + 1, 14, 4, 2, 1, 1] ++ ((st ++ [v]) ++ rest)).length = 32 := by simp at h ⊢; omega
  obtain ⟨n1, n2⟩ := fw_setNum hW2 (n := (st.length : Int) + 1) (by omega)
  obtain ⟨p1, p2⟩ := push1_y (v := v) hn (by omega) s1
  unfold stL at p1 p2 ⊢
  rw [p1, p2, s2, n1, n2]
  refine ⟨rfl, ?_⟩
  unfold stW
  rw [show ((st ++ [v]).length : Int) = (st.length : Int) + 1 by simp]
  rfl
theorem st_full (h : st.length = 24) (v : Int) : pushR 16 (stL st []) [v] = (stL st [], 22) := by
  have hn := st_num (st := st) (rest := []) (by simpa using h)
  obtain ⟨p1, p2⟩ := push1_n (v := v) hn (by omega)
  rw [pushR, p1, p2]
  rfl
theorem st_pushes : ∀ (l : List Int) (st rest : List Int), st.length + rest.length = 24 → (∀ v ∈ l, refOk v = true) → l.length ≤ rest.length → pushR 16 (stL st rest) l = (stL (st ++ l) (rest.drop l.length), 0)
  | [], st, rest, _, _, _ => by simp [pushR]
  | v :: l, st, [], _, _, hl => by simp at hl
  | v :: l, st, r :: rest, h, hv, hl => by
    obtain ⟨p1, p2⟩ := st_push h (hv v (by simp))
    rw [pushR, p1, p2, if_pos rfl, st_pushes l (st ++ [v]) rest (by simp at h ⊢; omega) (fun u hu => hv u (by simp [hu])) (by simpa using hl)]
    simp
theorem st_top {v : Int} (h : (st ++ [v]).length + rest.length = 24) : topR (stL (st ++ [v]) rest) 16 = (v, (st.length : Int) + 1, 0) := by
  have hn := st_num h
  have hW := stW_len h
  have hl : st.length + 1 ≤ 24 := by simp at h; omega
  rw [show (((st ++ [v]).length : Nat) : Int) = (st.length : Int) + 1 by simp] at hn
  have hp : placeE (stL (st ++ [v]) rest) 16 1 (8 + ((st.length : Int) + 1) - 1) = 0 := fw_place hW (by omega)
  have hf : fetchV (stL (st ++ [v]) rest) 16 (8 + ((st.length : Int) + 1) - 1) = v := by
    refine (fw_fetch hW (by omega)).trans ?_
    rw [show (8 + ((st.length : Int) + 1) - 1).toNat = 8 + st.length by omega, stW_at h]
    simp
  unfold topR
  rw [hn]
  simp only [if_true]
  rw [if_pos (by omega), hp, hf]
theorem st_pop {v : Int} (h : (st ++ [v]).length + rest.length = 24) : popE (stL (st ++ [v]) rest) 16 = 0 ∧ popV (stL (st ++ [v]) rest) 16 = v ∧ popL (stL (st ++ [v]) rest) 16 = stL st (v :: rest) := by
  have ht := st_top h
  have hW := stW_len h
  have hl : st.length + 1 ≤ 24 := by simp at h; omega
  obtain ⟨n1, n2⟩ := fw_setNum hW (n := (st.length : Int) + 1 - 1) (by omega)
  have hE : popE (stL (st ++ [v]) rest) 16 = 0 := by
    unfold popE
    rw [ht]
    exact (if_pos rfl).trans n1
  refine ⟨hE, ?_, ?_⟩
  · unfold popV
    rw [hE, ht, if_pos rfl]
  · unfold popL
    rw [ht]
    refine (if_pos rfl).trans (n2.trans ?_)
    rw [stW_set2, show (st.length : Int) + 1 - 1 = (st.length : Int) by omega]
    unfold stL stW
    simp
theorem st_empty (h : rest.length = 24) : popE (stL [] rest) 16 = 22 ∧ popL (stL [] rest) 16 = stL [] rest := by
  have hn := st_num (st := []) (rest := rest) (by simpa using h)
  have ht : topR (stL [] rest) 16 = (0, 0, 22) := by
    unfold topR
    rw [hn]
    rfl
  unfold popE popL
  rw [ht]
  exact ⟨rfl, rfl⟩
theorem st_home (W : List Int) : homeR (fwL W) 18 = (16, 0) := by kernel_rfl
theorem st_setTemp (h : st.length + rest.length = 24) {k : Nat} (hk : k < st.length) {v : Int} (hv : refOk v = true) : setTempE (stL st rest) 18 (k : Int) v = 0 ∧ setTempL (stL st rest) 18 (k : Int) v = stL (st.set k v) rest := by
  have ht : tempR (stL st rest) 18 (k : Int) = (16, 0) := by
    unfold tempR stL
    rw [st_home, if_neg (fun e => e.2 (by omega))]
  obtain ⟨s1, s2⟩ := fw_set (stW_len h) (i := 8 + (k : Int)) (v := v) (by omega) hv
  unfold setTempE setTempL
  rw [ht]
  refine ⟨(if_pos rfl).trans s1, (if_pos rfl).trans (s2.trans ?_)⟩
  rw [show (8 + (k : Int)).toNat = 8 + k by omega]
  unfold stL stW
  rw [List.set_append_right _ _ (by simp), show 8 + k - ([2, 1, 2 * (st.length : Int) + 1, 14, 4, 2, 1, 1] : List Int).length = k by simp, List.set_append_left _ _ hk, List.length_set]
theorem st_temp (h : st.length + rest.length = 24) {k : Nat} (hk : k < st.length) (hh : (stW st rest)[5]?.getD 0 = 2) : tempV (stL st rest) 16 (k : Int) = (st[k]?.getD 0, 0) := by
  have hW := stW_len h
  have ht : tempR (stL st rest) 16 (k : Int) = (16, 0) := by
    have h0 : homeR (stL st rest) 16 = (16, 0) := by
      unfold homeR
      rw [show placeE (stL st rest) 16 1 5 = 0 from fw_place hW (by omega), if_pos rfl, show fetchV (stL st rest) 16 5 = 2 from (fw_fetch hW (by omega)).trans hh, if_pos rfl]
    unfold tempR
    rw [h0, if_neg (fun e => e.2 (by omega))]
  have hp : placeE (stL st rest) 16 1 (8 + (k : Int)) = 0 := fw_place hW (by omega)
  have hf : fetchV (stL st rest) 16 (8 + (k : Int)) = st[k]?.getD 0 := by
    refine (fw_fetch hW (by omega)).trans ?_
    rw [show (8 + (k : Int)).toNat = 8 + k by omega, stW_at h, List.getElem?_append_left hk]
  unfold tempV
  rw [ht]
  simp only [if_true]
  rw [hp, hf]
theorem st_bpop (W : List Int) : popE (fwL W) 18 = 22 ∧ popV (fwL W) 18 = 0 ∧ popL (fwL W) 18 = fwL W := ⟨by kernel_rfl, by kernel_rfl, by kernel_rfl⟩
theorem st_block : blockL frameL 16 1 5 = stL [7, 9, 2] (List.replicate 21 2) ∧ blockV frameL 16 1 5 = 18 ∧ blockE frameL 16 1 5 = 0 := ⟨by kernel_rfl, by kernel_rfl, by kernel_rfl⟩
end

end Go.Proofs.Ytjanojignaonfaa
