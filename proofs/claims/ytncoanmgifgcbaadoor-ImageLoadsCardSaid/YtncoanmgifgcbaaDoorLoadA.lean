/- Objects loaded into a flat memory: what becomes of it, step by step. -/
import Derived.Test.YtncoanmgifgcbaaDoorChk2
namespace Go.Proofs.YtncoanmgifgcbaaDoor
set_option linter.unusedVariables false
set_option linter.unusedSimpArgs false
open Go.RowKit

/-- a row of objects, each with its two lists' values, that reads as T -/
def RefT (w : World) (S : Nat → Prop) (lv : Value) (T : List T3) : Prop := Slc w S 4 lv T.length (cellsT T) ∧ ∀ t ∈ T, okT w S t
theorem RefT.toL {w : World} {S : Nat → Prop} {lv : Value} {T : List T3} (h : RefT w S lv T) : RefL w S lv (T.map (·.1)) := ⟨T, rfl, h.1, h.2⟩
theorem RefL.toT {w : World} {S : Nat → Prop} {lv : Value} {L : List O} (h : RefL w S lv L) : ∃ T, T.map (·.1) = L ∧ RefT w S lv T := h
theorem RefT.keep {w w' : World} {S F : Nat → Prop} {lv : Value} {T : List T3} (h : RefT w S lv T) (c : Chg F w w') (hS : ∀ b, S b → ¬ F b) : RefT w' S lv T := ⟨h.1.keep c hS, fun t ht => (h.2 t ht).keep c hS⟩
theorem RefT.more {w : World} {S S' : Nat → Prop} {lv : Value} {T : List T3} (h : RefT w S lv T) (hS : ∀ b, b < w.heap.size → S b → S' b) : RefT w S' lv T := ⟨h.1.more hS, fun t ht => (h.2 t ht).more hS⟩
theorem RefT.at {w : World} {S : Nat → Prop} {A : Option Addr} {n c : Nat} {T : List T3} (h : RefT w S (.slice A n c) T) {i : Nat} {t : T3} (hi : T[i]? = some t) : ∃ b off, A = some ⟨b, off, none⟩ ∧ n = T.length ∧ b < w.heap.size ∧ okT w S t ∧
    w.cell? ⟨b, off + i * 4, none⟩ = some (.int .i64 t.1.cls) ∧ w.cell? ⟨b, off + i * 4 + 1, none⟩ = some (.int .i64 t.1.kind) ∧ w.cell? ⟨b, off + i * 4 + 2, none⟩ = some t.2.1 ∧ w.cell? ⟨b, off + i * 4 + 3, none⟩ = some t.2.2 := by
  obtain ⟨⟨A', c', e, hl, h1, h2, h0, h3⟩, hok⟩ := h
  obtain ⟨rfl, rfl, rfl⟩ := Value.slice.inj e
  have hil : i < T.length := (List.getElem?_eq_some_iff.1 hi).1
  obtain ⟨b, off, rfl, hS, hb, hc⟩ := h3 (by omega)
  have hcell := fun j hj u hu => hc (4 * i + j) u ((cellsT_at T i _ hi j hj).trans hu)
  refine ⟨b, off, rfl, rfl, hb, hok t (List.mem_of_getElem? hi), ?_, ?_, ?_, ?_⟩
  · rw [Nat.mul_comm]; exact hcell 0 (by omega) _ rfl
  · rw [Nat.mul_comm, Nat.add_assoc]; exact hcell 1 (by omega) _ rfl
  · rw [Nat.mul_comm, Nat.add_assoc]; exact hcell 2 (by omega) _ rfl
  · rw [Nat.mul_comm, Nat.add_assoc]; exact hcell 3 (by omega) _ rfl
theorem IntS.at {w : World} {S : Nat → Prop} {A : Option Addr} {n c : Nat} {l : List Int} (h : IntS w S (.slice A n c) l) {i : Nat} (hi : i < l.length) : ∃ b off, A = some ⟨b, off, none⟩ ∧ b < w.heap.size ∧ w.cell? ⟨b, off + i, none⟩ = some (.int .i64 (l[i]?.getD 0)) ∧ In64 (l[i]?.getD 0) ∧ n = l.length := by
  obtain ⟨A', c', e, _, _, _, hc⟩ := h.form
  obtain ⟨rfl, rfl, rfl⟩ := Value.slice.inj e
  obtain ⟨b, off, h1, _, h3, h4, h5⟩ := hc i hi
  exact ⟨b, off, h1, h3, h4, h5, rfl⟩
theorem ByteS.at {w : World} {S : Nat → Prop} {A : Option Addr} {n c : Nat} {l : List Int} (h : ByteS w S (.slice A n c) l) {i : Nat} (hi : i < l.length) : ∃ b off, A = some ⟨b, off, none⟩ ∧ b < w.heap.size ∧ w.cell? ⟨b, off + i, none⟩ = some (.int .u8 (l[i]?.getD 0)) ∧ 0 ≤ l[i]?.getD 0 ∧ l[i]?.getD 0 ≤ 255 ∧ n = l.length := by
  obtain ⟨A', c', e, _, _, _, hc⟩ := h.form
  obtain ⟨rfl, rfl, rfl⟩ := Value.slice.inj e
  obtain ⟨b, off, h1, _, h3, h4, h5, h6⟩ := hc i hi
  exact ⟨b, off, h1, h3, h4, h5, h6, rfl⟩

theorem fnd_last (L : List O) (o : O) (hk : o.kind ≠ 0) (hL : L.length + 1 < 1073741823) : fnd (L ++ [o]) (2 * ((L.length : Int) + 1)) = some L.length := by
  unfold fnd
  have e : (2 * ((L.length : Int) + 1) / 2 - 1).toNat = L.length := by omega
  rw [e, ob_app, if_pos rfl, if_pos ⟨by simp [namedOk]; omega, hk⟩]
theorem set_last (L : List O) (o x : O) : (L ++ [o]).set L.length x = L ++ [x] := by simp
/-- some of its words are set already -/
def partW (o : O) (i : Nat) : O := { o with W := o.W.take i ++ List.replicate (o.W.length - i) 2 }
def partB (o : O) (i : Nat) : O := { o with B := o.B.take i ++ List.replicate (o.B.length - i) 0 }
theorem partW_all (o : O) : partW o o.W.length = o := by
  obtain ⟨c, k, W, B⟩ := o
  simp [partW]
theorem partB_all (o : O) : partB o o.B.length = o := by
  obtain ⟨c, k, W, B⟩ := o
  simp [partB]
theorem take_set_rep {l : List Int} {i : Nat} (hi : i < l.length) (z : Int) : (l.take i ++ List.replicate (l.length - i) z).set i (l[i]?.getD 0) = l.take (i + 1) ++ List.replicate (l.length - (i + 1)) z := by
  rw [List.set_append_right _ _ (by simp; omega), List.take_succ_eq_append_getElem hi, List.getElem?_eq_getElem hi, List.append_assoc]
  congr 1
  rw [show i - (l.take i).length = 0 by simp; omega, show l.length - i = (l.length - (i + 1)) + 1 by omega, List.replicate_succ]
  rfl
theorem setW_last {L : List O} {o : O} {i : Nat} (hk : o.kind = 1) (hL : L.length + 1 < 1073741823) (hi : i < o.W.length) (hr : refOk (o.W[i]?.getD 0) = true) :
    setE (L ++ [partW o i]) (2 * ((L.length : Int) + 1)) i (o.W[i]?.getD 0) = 0 ∧ setL (L ++ [partW o i]) (2 * ((L.length : Int) + 1)) i (o.W[i]?.getD 0) = L ++ [partW o (i + 1)] := by
  have hf := fnd_last L (partW o i) (by simp [partW, hk]) hL
  have hob : ob (L ++ [partW o i]) L.length = partW o i := by rw [ob_app, if_pos rfl]
  have hp : placeE (L ++ [partW o i]) (2 * ((L.length : Int) + 1)) 1 i = 0 := by
    simp only [placeE, hf, hob]
    rw [if_pos (by simp [partW, hk]), if_pos ⟨by omega, by simp [szO, partW, hk]; omega⟩]
  have hE : setE (L ++ [partW o i]) (2 * ((L.length : Int) + 1)) i (o.W[i]?.getD 0) = 0 := by simp [setE, hp, hr]
  refine ⟨hE, ?_⟩
  simp only [setL, hf, hE, if_true, hob, set_last]
  congr 2
  simp only [partW, Int.toNat_natCast]
  rw [take_set_rep hi]
theorem setB_last {L : List O} {o : O} {i : Nat} (hk : o.kind = 2) (hL : L.length + 1 < 1073741823) (hi : i < o.B.length) (hr : 0 ≤ o.B[i]?.getD 0 ∧ o.B[i]?.getD 0 ≤ 255) :
    sbyteE (L ++ [partB o i]) (2 * ((L.length : Int) + 1)) i (o.B[i]?.getD 0) = 0 ∧ sbyteL (L ++ [partB o i]) (2 * ((L.length : Int) + 1)) i (o.B[i]?.getD 0) = L ++ [partB o (i + 1)] := by
  have hf := fnd_last L (partB o i) (by simp [partB, hk]) hL
  have hob : ob (L ++ [partB o i]) L.length = partB o i := by rw [ob_app, if_pos rfl]
  have hp : placeE (L ++ [partB o i]) (2 * ((L.length : Int) + 1)) 2 i = 0 := by
    simp only [placeE, hf, hob]
    rw [if_pos (by simp [partB, hk]), if_pos ⟨by omega, by simp [szO, partB, hk]; omega⟩]
  have hE : sbyteE (L ++ [partB o i]) (2 * ((L.length : Int) + 1)) i (o.B[i]?.getD 0) = 0 := by simp [sbyteE, hp, hr]
  refine ⟨hE, ?_⟩
  simp only [sbyteL, hf, hE, if_true, hob, set_last]
  congr 2
  simp only [partB, Int.toNat_natCast]
  rw [take_set_rep hi]
/-- what an object that may be shows -/
theorem okB_cases {o : O} (h : okB o = true) : namedOk o.cls = true ∧ o.W.length ≤ 1000 ∧ o.B.length ≤ 1000 ∧ o.W.all refOk = true ∧ (o.kind = 1 ∧ o.B = [] ∨ o.kind = 2 ∧ o.W = []) := by
  unfold okB hdB at h
  simp only [Bool.and_eq_true, Bool.or_eq_true, decide_eq_true_eq, beq_iff_eq, Bool.not_eq_true', Bool.and_eq_false_iff, decide_eq_false_iff_not, beq_eq_false_iff_ne, Nat.not_lt, Nat.le_zero, List.length_eq_zero_iff] at h
  obtain ⟨⟨⟨⟨⟨⟨h1, h2⟩, h3⟩, h4⟩, h5⟩, h6⟩, h7⟩ := h
  refine ⟨h1, h3, h4, h7, ?_⟩
  rcases h2 with h2 | h2
  · exact .inl ⟨h2, h5.resolve_left (fun h => h h2)⟩
  · exact .inr ⟨h2, h6.resolve_left (fun h => h h2)⟩
theorem newL_words {L : List O} {o : O} (h : okB o = true) (hk : o.kind = 1) : newL L o.cls 1 o.W.length = L ++ [partW o 0] ∧ newN L o.cls 1 o.W.length = 2 * ((L.length : Int) + 1) ∧ newE o.cls 1 o.W.length = 0 := by
  obtain ⟨h1, h2, _, _, h5⟩ := okB_cases h
  have hb : blankOk o.cls 1 o.W.length = true := by simp [blankOk, h1]; omega
  have hB : o.B = [] := by rcases h5 with h5 | h5; exact h5.2; omega
  refine ⟨?_, by simp [newN, hb], by simp [newE, hb]⟩
  simp [newL, hb, newO, partW, hB, hk]
theorem newL_bytes {L : List O} {o : O} (h : okB o = true) (hk : o.kind = 2) : newL L o.cls 2 o.B.length = L ++ [partB o 0] ∧ newN L o.cls 2 o.B.length = 2 * ((L.length : Int) + 1) ∧ newE o.cls 2 o.B.length = 0 := by
  obtain ⟨h1, _, h3, _, h5⟩ := okB_cases h
  have hb : blankOk o.cls 2 o.B.length = true := by simp [blankOk, h1]; omega
  have hW : o.W = [] := by rcases h5 with h5 | h5; omega; exact h5.2
  refine ⟨?_, by simp [newN, hb], by simp [newE, hb]⟩
  simp [newL, hb, newO, partB, hW, hk]

end Go.Proofs.YtncoanmgifgcbaaDoor
