/- The document's memory (websterref10): what it is in memory; New. -/
import Derived.Test.YtncoanmgifgcbaaDoorFlatG
import Derived.Test.YtncoanmgifgcbaaDoorRef05
namespace Go.Proofs.YtncoanmgifgcbaaDoor
set_option linter.unusedVariables false
set_option linter.unusedSimpArgs false
open Go.RowKit

/-- objects in a row: each with its two lists' values -/
abbrev T3 := O × Value × Value
def cellsT (T : List T3) : List Value := T.flatMap fun t => (cells2 t.1 t.2.1 t.2.2).toList
def okT (w : World) (S : Nat → Prop) (t : T3) : Prop := IntS w S t.2.1 t.1.W ∧ ByteS w S t.2.2 t.1.B ∧ In64 t.1.cls ∧ In64 t.1.kind
/-- a slice of objects that reads as L -/
def RefL (w : World) (S : Nat → Prop) (lv : Value) (L : List O) : Prop := ∃ T : List T3, T.map (·.1) = L ∧ Slc w S 4 lv T.length (cellsT T) ∧ ∀ t ∈ T, okT w S t
/-- the document's memory -/
def RefM (w : World) (S : Nat → Prop) (v : Value) (L : List O) : Prop := ∃ lv, v = .agg #[lv] ∧ RefL w S lv L

theorem elem_obj : ElemInfo Tryd.prog 22 41 4 64 := .of Tryd.underlying22 (show (Tryd.prog.info? 41).map (fun i => (i.zero, i.size, i.bytes)) = some (some (.agg #[.int .i64 0, .int .i64 0, .slice none 0 0, .slice none 0 0]), 4, 64) by kernel_rfl) rfl
section
variable {w w' : World} {S S' F : Nat → Prop}
theorem okT.keep {t : T3} (h : okT w S t) (c : Chg F w w') (hS : ∀ b, S b → ¬ F b) : okT w' S t := ⟨h.1.keep c hS, h.2.1.keep c hS, h.2.2⟩
theorem okT.more {t : T3} (h : okT w S t) (hS : ∀ b, b < w.heap.size → S b → S' b) : okT w S' t := ⟨h.1.more hS, h.2.1.more hS, h.2.2⟩
theorem RefL.keep {lv : Value} {L : List O} (h : RefL w S lv L) (c : Chg F w w') (hS : ∀ b, S b → ¬ F b) : RefL w' S lv L := by
  obtain ⟨T, h1, h2, h3⟩ := h
  exact ⟨T, h1, h2.keep c hS, fun t ht => (h3 t ht).keep c hS⟩
theorem RefL.more {lv : Value} {L : List O} (h : RefL w S lv L) (hS : ∀ b, b < w.heap.size → S b → S' b) : RefL w S' lv L := by
  obtain ⟨T, h1, h2, h3⟩ := h
  exact ⟨T, h1, h2.more hS, fun t ht => (h3 t ht).more hS⟩
theorem RefM.keep {v : Value} {L : List O} (h : RefM w S v L) (c : Chg F w w') (hS : ∀ b, S b → ¬ F b) : RefM w' S v L := by
  obtain ⟨lv, h1, h2⟩ := h
  exact ⟨lv, h1, h2.keep c hS⟩
theorem RefM.more {v : Value} {L : List O} (h : RefM w S v L) (hS : ∀ b, b < w.heap.size → S b → S' b) : RefM w S' v L := by
  obtain ⟨lv, h1, h2⟩ := h
  exact ⟨lv, h1, h2.more hS⟩
theorem RefM.nil (w : World) (S : Nat → Prop) : RefM w S (.agg #[.slice none 0 0]) [] := ⟨_, rfl, [], rfl, Slc.nil w S 4, by simp⟩
theorem length_cellsT (T : List T3) : (cellsT T).length = T.length * 4 := by
  induction T with
  | nil => rfl
  | cons t T ih => simp [cellsT, cells2] at ih ⊢; omega
theorem one_cellsT {T : List T3} (h : ∀ t ∈ T, okT w S t) : ∀ u ∈ cellsT T, u.oneCell' = true := by
  intro u hu
  simp only [cellsT, List.mem_flatMap] at hu
  obtain ⟨t, ht, hu⟩ := hu
  obtain ⟨h1, h2, _⟩ := h t ht
  obtain ⟨A, c, e1, -⟩ := h1.form
  obtain ⟨B, c', e2, -⟩ := h2.form
  rw [e1, e2] at hu
  simp [cells2] at hu
  rcases hu with rfl | rfl | rfl | rfl <;> rfl
/-- a slice of all of a block's elements -/
theorem Slc.row {b : Nat} {t : TypeId} {cs : Array Value} (h : Row w b t cs) (n sz : Nat) (hs : cs.size = n * sz) (hn : n ≤ maxLen) (hS : S b) : Slc w S sz (.slice (some ⟨b, 0, none⟩) n n) n cs.toList :=
  ⟨_, n, rfl, by simpa using hs, Nat.le_refl _, hn, (fun e => by cases e), fun _ => ⟨b, 0, rfl, hS, h.lt, fun i u hu => by rw [Nat.zero_add, h.cell]; simpa using hu⟩⟩
end

theorem cellsT_at : ∀ (T : List T3) (i : Nat) (t : T3), T[i]? = some t → ∀ j, j < 4 → (cellsT T)[4 * i + j]? = (cells2 t.1 t.2.1 t.2.2)[j]?
  | [], i, t, h, _, _ => by simp at h
  | x :: T, 0, t, h, j, hj => by
    simp at h
    subst h
    have hx : (cells2 x.1 x.2.1 x.2.2).toList.length = 4 := by simp [cells2]
    rw [cellsT, List.flatMap_cons, List.getElem?_append_left (by omega)]
    simp
  | x :: T, i + 1, t, h, j, hj => by
    have hx : (cells2 x.1 x.2.1 x.2.2).toList.length = 4 := by simp [cells2]
    have ih := cellsT_at T i t (by simpa using h) j hj
    rw [cellsT, List.flatMap_cons, List.getElem?_append_right (by omega), hx, show 4 * (i + 1) + j - 4 = 4 * i + j by omega]
    exact ih
/-- an object of the row -/
theorem RefL.at {w : World} {S : Nat → Prop} {lv : Value} {L : List O} (h : RefL w S lv L) {i : Nat} (hi : i < L.length) : ∃ b off c wv bv, lv = .slice (some ⟨b, off, none⟩) L.length c ∧ S b ∧ b < w.heap.size ∧ ObjR w S (.agg (cells2 (ob L i) wv bv)) (ob L i) ∧
    w.cell? ⟨b, off + 4 * i, none⟩ = some (.int .i64 (ob L i).cls) ∧ w.cell? ⟨b, off + (4 * i + 1), none⟩ = some (.int .i64 (ob L i).kind) ∧ w.cell? ⟨b, off + (4 * i + 2), none⟩ = some wv ∧ w.cell? ⟨b, off + (4 * i + 3), none⟩ = some bv := by
  obtain ⟨T, hT, ⟨A, c, rfl, hl, h1, h2, h0, h3⟩, hok⟩ := h
  have hTL : T.length = L.length := by rw [← hT]; simp
  obtain ⟨b, off, rfl, hS, hb, hc⟩ := h3 (by omega)
  obtain ⟨t, hti⟩ : ∃ t, T[i]? = some t := ⟨_, List.getElem?_eq_getElem (by omega)⟩
  have ho : ob L i = t.1 := by
    have e : L[i]? = some t.1 := by rw [← hT, List.getElem?_map, hti]; rfl
    rw [ob, e]; rfl
  have ht := hok t (List.mem_of_getElem? hti)
  have hcell := fun j hj u hu => hc (4 * i + j) u ((cellsT_at T i _ hti j hj).trans hu)
  refine ⟨b, off, c, t.2.1, t.2.2, by rw [hTL], hS, hb, ⟨_, _, rfl, by rw [ho]; exact ht.1, by rw [ho]; exact ht.2.1, by rw [ho]; exact ht.2.2.1, by rw [ho]; exact ht.2.2.2⟩, ?_, ?_, ?_, ?_⟩
  · rw [ho]; exact hcell 0 (by omega) _ rfl
  · rw [ho]; exact hcell 1 (by omega) _ rfl
  · exact hcell 2 (by omega) _ rfl
  · exact hcell 3 (by omega) _ rfl

/-- what the document's New answers -/
def Ref10New (w : World) (S : Nat → Prop) (L : List O) (c k s : Int) (v : Value) (w' : World) : Prop :=
  ∃ x, v = .tuple #[x, .int .i64 (newN L c k s), .int .i64 (newE c k s)] ∧ Chg No w w' ∧ RefM w' (fun b => S b ∨ w.heap.size ≤ b) x (newL L c k s)

end Go.Proofs.YtncoanmgifgcbaaDoor
