/- The document's memory (websterref10): find, with, place, next, set. · The document's memory (websterref10): next, set; websterref05.Copy. · The document's memory (websterref10): set; websterref05.Copy. -/
import Derived.Test.YtncoanmgifgcbaaDoorRef10
import Derived.Test.YtncoanmgifgcbaaDoorFlatI
import Derived.Test.YtncoanmgifgcbaaDoorLoadA
import Derived.Test.YtncoanmgifgcbaaDoorFlatRep
import Derived.Test.YtncoanmgifgcbaaDoorCopy05
namespace Go.Proofs.YtncoanmgifgcbaaDoor
set_option linter.unusedVariables false
set_option linter.unusedSimpArgs false
open Go.RowKit

section
variable {w w' : World} {S S' F : Nat → Prop}
theorem RefL.form {lv : Value} {L : List O} (h : RefL w S lv L) : ∃ A c, lv = .slice A L.length c ∧ L.length ≤ maxLen := by
  obtain ⟨T, hT, ⟨A, c, rfl, hl, h1, h2, h0, h3⟩, hok⟩ := h
  have hTL : T.length = L.length := by rw [← hT]; simp
  exact ⟨A, c, by rw [hTL], by omega⟩
/-- an object of the row, in all worlds to come -/
theorem RefL.cells {lv : Value} {L : List O} (h : RefL w S lv L) {i : Nat} (hi : i < L.length) : ∃ b off c wv bv, lv = .slice (some ⟨b, off, none⟩) L.length c ∧ S b ∧
    (∀ v, Chg No w v → v.cell? ⟨b, off + i * 4, none⟩ = some (.int .i64 (ob L i).cls) ∧ v.cell? ⟨b, off + i * 4 + 1, none⟩ = some (.int .i64 (ob L i).kind) ∧ v.cell? ⟨b, off + i * 4 + 2, none⟩ = some wv ∧ v.cell? ⟨b, off + i * 4 + 3, none⟩ = some bv) ∧
    ObjR w S (.agg (cells2 (ob L i) wv bv)) (ob L i) := by
  obtain ⟨b, off, c, wv, bv, hv, hS, hb, ho, c0, c1, c2, c3⟩ := h.at hi
  refine ⟨b, off, c, wv, bv, hv, hS, fun v g => ⟨?_, ?_, ?_, ?_⟩, ho⟩
  · rw [Nat.mul_comm]; exact (g.cell hb (fun f => f)).trans c0
  · rw [Nat.mul_comm, Nat.add_assoc]; exact (g.cell hb (fun f => f)).trans c1
  · rw [Nat.mul_comm, Nat.add_assoc]; exact (g.cell hb (fun f => f)).trans c2
  · rw [Nat.mul_comm, Nat.add_assoc]; exact (g.cell hb (fun f => f)).trans c3
end

/-- the number of what a reference names; 0: there is none -/
def findN (L : List O) (o : Int) : Int := match fnd L o with | some i => (i : Int) + 1 | none => 0
theorem findN_no {L : List O} {o : Int} (h : namedOk o = false) : findN L o = 0 := by simp [findN, fnd, h]
theorem findN_yes {L : List O} {o : Int} {i : Nat} (h : namedOk o = true) (hi : (o / 2 - 1).toNat = i) : findN L o = if (ob L i).kind = 0 then 0 else (i : Int) + 1 := by
  unfold findN fnd
  rw [hi]
  by_cases hk : (ob L i).kind = 0 <;> simp [h, hk]
theorem namedV_nat {o : Int} (h : namedOk o = true) : ∃ i : Nat, (o / 2 - 1).toNat = i ∧ namedV o = (i : Int) + 1 ∧ i < 1073741823 := by
  have := namedV_of h
  exact ⟨_, rfl, by omega, by omega⟩
theorem ob_out {L : List O} {i : Nat} (h : L.length ≤ i) : ob L i = O.zero := by rw [ob, List.getElem?_eq_none h]; rfl

/-! with -/

/-! place -/

theorem placeE_ok {L : List O} {o k i : Int} {j : Nat} (hf : fnd L o = some j) (hok : (ob L j).ok) (hk : (ob L j).kind = k) : placeE L o k i = if 0 ≤ i ∧ i < (ob L j).W.length + (ob L j).B.length then 0 else 21 := by
  have hs : szO (ob L j) = ((ob L j).W.length : Int) + (ob L j).B.length := by
    unfold szO
    rcases hok.2.1 with ⟨h1, h2⟩ | ⟨h1, h2⟩
    · rw [if_pos h1, h2]; simp
    · rw [if_neg (by omega), if_pos h1, h2]; simp
  simp only [placeE, hf, hk, if_true, hs]

/-- v is what is told -/
def ToldR (w : World) (S : Nat → Prop) (v : Value) (t : TD) : Prop := ∃ wv bv, v = .agg (t.cells wv bv) ∧ IntS w S wv t.o.W ∧ ByteS w S bv t.o.B ∧ In64 t.o.cls ∧ In64 t.o.kind
theorem ToldR.keep {w w' : World} {S F : Nat → Prop} {v : Value} {t : TD} (h : ToldR w S v t) (c : Chg F w w') (hS : ∀ b, S b → ¬ F b) : ToldR w' S v t := by
  obtain ⟨wv, bv, hv, h1, h2, h3⟩ := h
  exact ⟨wv, bv, hv, h1.keep c hS, h2.keep c hS, h3⟩
theorem ToldR.more {w : World} {S S' : Nat → Prop} {v : Value} {t : TD} (h : ToldR w S v t) (hS : ∀ b, b < w.heap.size → S b → S' b) : ToldR w S' v t := by
  obtain ⟨wv, bv, hv, h1, h2, h3⟩ := h
  exact ⟨wv, bv, hv, h1.more hS, h2.more hS, h3⟩
theorem ToldR.flat (w : World) (S : Nat → Prop) (n : Int) (ok : Bool) (e : Int) : ToldR w S (.agg #[.int .i64 n, .int .i64 0, .int .i64 0, .slice none 0 0, .slice none 0 0, .bool ok, .int .i64 e]) ⟨n, O.zero, ok, e⟩ :=
  ⟨_, _, rfl, IntS.nil _ _, ByteS.nil _ _, (show In64 0 by unfold In64; omega), (show In64 0 by unfold In64; omega)⟩
theorem nxtI_none' {L : List O} {id : Nat} (h : ∀ k, id ≤ k → (ob L k).kind = 0) : nxtI L id = none := by
  unfold nxtI
  rw [List.find?_eq_none]
  intro k hk
  by_cases h1 : id ≤ k
  · simp [h k h1]
  · simp [h1]

end Go.Proofs.YtncoanmgifgcbaaDoor
