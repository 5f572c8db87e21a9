/- What a flat memory is in memory, and what it stands for: a list of objects by number; those that are gone have no kind. · What is to be done, and what is told: words. -/
import Derived.Test.YtncoanmgifgcbaaDoorProg
import Derived.Test.YtncoanmgifgcbaaDoorMath
import Derived.Test.YtncoanmgifgcbaaDoorLibA
namespace Go.Proofs.YtncoanmgifgcbaaDoor
set_option linter.unusedVariables false
set_option linter.unusedSimpArgs false
open Go.RowKit

/-- AN OBJECT. -/
structure O where
  cls : Int
  kind : Int
  W : List Int
  B : List Int

def O.zero : O := ⟨0, 0, [], []⟩
/-- may it be? -/
def O.ok (o : O) : Prop := namedOk o.cls = true ∧ (o.kind = 1 ∧ o.B = [] ∨ o.kind = 2 ∧ o.W = []) ∧ o.W.length ≤ 1000 ∧ o.B.length ≤ 1000 ∧ (∀ x ∈ o.W, refOk x = true) ∧ (∀ x ∈ o.B, 0 ≤ x ∧ x ≤ 255)
/-- the object at a place (from 0 on) -/
def ob (L : List O) (i : Nat) : O := L[i]?.getD O.zero
/-- the place of what a reference names -/
def fnd (L : List O) (o : Int) : Option Nat := if namedOk o = true ∧ (ob L (o / 2 - 1).toNat).kind ≠ 0 then some (o / 2 - 1).toNat else none

theorem ob_lt {L : List O} {i : Nat} (h : (ob L i).kind ≠ 0) : i < L.length := by
  rcases Nat.lt_or_ge i L.length with h1 | h1
  · exact h1
  · exact absurd (show (ob L i).kind = 0 by rw [ob, List.getElem?_eq_none h1]; rfl) h
theorem namedV_of {o : Int} (h : namedOk o = true) : namedV o = o / 2 ∧ 1 ≤ o / 2 ∧ o / 2 ≤ 1073741823 := by
  simp [namedOk] at h
  unfold namedV
  rw [if_pos h]
  omega
theorem namedV_no {o : Int} (h : namedOk o = false) : namedV o = 0 := by
  simp [namedOk] at h
  unfold namedV
  rw [if_neg (by omega)]
theorem fnd_some {L : List O} {o : Int} {i : Nat} (h : fnd L o = some i) : namedV o = i + 1 ∧ (ob L i).kind ≠ 0 ∧ i < L.length ∧ o = 2 * ((i : Int) + 1) := by
  unfold fnd at h
  split at h
  · rename_i hc
    obtain ⟨h1, h2⟩ := hc
    cases h
    have h3 := namedV_of h1
    simp [namedOk] at h1
    exact ⟨by omega, h2, ob_lt h2, by omega⟩
  · cases h
theorem fnd_none {L : List O} {o : Int} (h : fnd L o = none) : ¬ (1 ≤ namedV o ∧ (ob L (namedV o - 1).toNat).kind ≠ 0) := by
  unfold fnd at h
  split at h
  · cases h
  · rename_i hc
    rintro ⟨h1, h2⟩
    cases hn : namedOk o
    · rw [namedV_no hn] at h1
      omega
    · have h3 := namedV_of hn
      rw [h3.1] at h2
      exact hc ⟨hn, h2⟩

def cells2 (o : O) (wv bv : Value) : Array Value := #[.int .i64 o.cls, .int .i64 o.kind, wv, bv]

/-- block b is an object of the memory's own, wv and bv its lists -/
structure OwnO (w : World) (b : Nat) (o : O) (wv bv : Value) : Prop where
  row : Row w b 41 (cells2 o wv bv)
  ws : w.ownsRow 0 3 1 wv o.W.length (o.W.map (.int .i64))
  bs : w.ownsRow 0 5 1 bv o.B.length (o.B.map (.int .u8))

/-- THE MEMORY AT BLOCK m STANDS FOR L. q: its map; es: what that holds; ad: where objects lie; wv, bv: their lists; F: all its blocks. -/
structure FlatI (w : World) (m : Nat) (F : Nat → Prop) (L : List O) (q : Nat) (es : List (Int × Value)) (ad : Nat → Nat) (wv bv : Nat → Value) : Prop where
  row : Row w m 64 #[.map (some q), .int .i64 L.length]
  map : IMap w q es
  get : ∀ k : Int, mget k es = if 1 ≤ k ∧ (ob L (k - 1).toNat).kind ≠ 0 then some (.pointer (some ⟨ad (k - 1).toNat, 0, none⟩)) else none
  own : ∀ i, (ob L i).kind ≠ 0 → OwnO w (ad i) (ob L i) (wv i) (bv i)
  ok : ∀ i, (ob L i).kind ≠ 0 → (ob L i).ok
  gone : ∀ i, (ob L i).kind = 0 → ob L i = O.zero
  inF : ∀ i, (ob L i).kind ≠ 0 → F (ad i) ∧ (∀ b, (wv i).ownBlock = some b → F b) ∧ (∀ b, (bv i).ownBlock = some b → F b)
  apart : ∀ i j, (ob L i).kind ≠ 0 → (ob L j).kind ≠ 0 → i ≠ j → ad i ≠ ad j ∧ (∀ b, (wv i).ownBlock = some b → (wv j).ownBlock ≠ some b) ∧ (∀ b, (bv i).ownBlock = some b → (bv j).ownBlock ≠ some b)
  mF : F m
  qF : F q
  lt : ∀ b, F b → b < w.heap.size
  made : L.length < 1073741823

def Flat (w : World) (m : Nat) (F : Nat → Prop) (L : List O) : Prop := ∃ q es ad wv bv, FlatI w m F L q es ad wv bv

/-- the block of an own row is of the row's type -/
theorem own_block {w : World} {base sz n b : Nat} {e : TypeId} {v : Value} {xs : List Value} (h : w.ownsRow base e sz v n xs) (hb : v.ownBlock = some b) : ∃ cs, Row w b e cs := by
  obtain ⟨_, h | ⟨g, cap, cur, rfl, _, hg, _⟩⟩ := h
  · rw [h.1] at hb; cases hb
  · cases hb; exact ⟨cur, hg⟩
theorem OwnO.keep {w w' : World} {b : Nat} {o : O} {wv bv : Value} {F : Nat → Prop} (h : OwnO w b o wv bv) (c : Chg F w w') (hb : ¬ F b) (hw : ∀ k, wv.ownBlock = some k → ¬ F k) (hbb : ∀ k, bv.ownBlock = some k → ¬ F k) : OwnO w' b o wv bv :=
  ⟨h.row.keep c hb, own_keep h.ws c hw, own_keep h.bs c hbb⟩

section
variable {w w' : World} {m : Nat} {F G : Nat → Prop} {L : List O} {q : Nat} {es : List (Int × Value)} {ad : Nat → Nat} {wv bv : Nat → Value}
/-- what the memory is not in may change -/
theorem FlatI.keep (h : FlatI w m F L q es ad wv bv) (c : Chg G w w') (hG : ∀ b, F b → ¬ G b) : FlatI w' m F L q es ad wv bv where
  row := h.row.keep c (hG m h.mF)
  map := h.map.keep c (hG q h.qF)
  get := h.get
  own := fun i hi => (h.own i hi).keep c (hG _ (h.inF i hi).1) (fun b hb => hG b ((h.inF i hi).2.1 b hb)) (fun b hb => hG b ((h.inF i hi).2.2 b hb))
  ok := h.ok
  gone := h.gone
  inF := h.inF
  apart := h.apart
  mF := h.mF
  qF := h.qF
  lt := fun b hb => Nat.lt_of_lt_of_le (h.lt b hb) c.size
  made := h.made
theorem Flat.keep (h : Flat w m F L) (c : Chg G w w') (hG : ∀ b, F b → ¬ G b) : Flat w' m F L := by
  obtain ⟨q, es, ad, wv, bv, h⟩ := h
  exact ⟨q, es, ad, wv, bv, h.keep c hG⟩
theorem Flat.lt (h : Flat w m F L) {b : Nat} (hb : F b) : b < w.heap.size := by
  obtain ⟨q, es, ad, wv, bv, h⟩ := h
  exact h.lt b hb
theorem FlatI.get_some (h : FlatI w m F L q es ad wv bv) {o : Int} {i : Nat} (hf : fnd L o = some i) : mget (namedV o) es = some (.pointer (some ⟨ad i, 0, none⟩)) := by
  obtain ⟨h1, h2, _⟩ := fnd_some hf
  rw [h.get, h1, show ((i : Int) + 1 - 1).toNat = i by omega, if_pos ⟨by omega, h2⟩]
theorem FlatI.get_none (h : FlatI w m F L q es ad wv bv) {o : Int} (hf : fnd L o = none) : mget (namedV o) es = none := by
  rw [h.get, if_neg (fnd_none hf)]
theorem FlatI.ne_mq (h : FlatI w m F L q es ad wv bv) : m ≠ q := fun e => h.map.ne_row h.row e.symm
end

/-- v is an object that reads as o, its lists in blocks of S -/
def ObjR (w : World) (S : Nat → Prop) (v : Value) (o : O) : Prop := ∃ wv bv, v = .agg (cells2 o wv bv) ∧ IntS w S wv o.W ∧ ByteS w S bv o.B ∧ In64 o.cls ∧ In64 o.kind
theorem ObjR.keep {w w' : World} {S F : Nat → Prop} {v : Value} {o : O} (h : ObjR w S v o) (c : Chg F w w') (hS : ∀ b, S b → ¬ F b) : ObjR w' S v o := by
  obtain ⟨wv, bv, hv, h1, h2, h3⟩ := h
  exact ⟨wv, bv, hv, h1.keep c hS, h2.keep c hS, h3⟩
theorem ObjR.more {w : World} {S S' : Nat → Prop} {v : Value} {o : O} (h : ObjR w S v o) (hS : ∀ b, b < w.heap.size → S b → S' b) : ObjR w S' v o := by
  obtain ⟨wv, bv, hv, h1, h2, h3⟩ := h
  exact ⟨wv, bv, hv, h1.more hS, h2.more hS, h3⟩
theorem ObjR.zero (w : World) (S : Nat → Prop) : ObjR w S (.agg #[.int .i64 0, .int .i64 0, .slice none 0 0, .slice none 0 0]) O.zero :=
  ⟨_, _, rfl, IntS.nil w S, ByteS.nil w S, (show In64 0 by unfold In64; omega), (show In64 0 by unfold In64; omega)⟩

theorem named64 {o : Int} (h : namedOk o = true) : In64 o := by
  simp [namedOk] at h; unfold In64; omega
theorem ref64 {o : Int} (h : refOk o = true) : In64 o := by
  simp [refOk, numOk, namedOk] at h; unfold In64; omega
theorem O.ok.kind64 {o : O} (h : o.ok) : In64 o.kind := by
  rcases h.2.1 with h | h <;> rw [h.1] <;> unfold In64 <;> omega

/-- four numbers -/
structure D4 where
  k : Int
  a : Int
  b : Int
  c : Int
def D4.cells (x : D4) : Array Value := #[.int .i64 x.k, .int .i64 x.a, .int .i64 x.b, .int .i64 x.c]
def D4.in64 (x : D4) : Prop := In64 x.k ∧ In64 x.a ∧ In64 x.b ∧ In64 x.c

/-- what is told -/
structure TD where
  n : Int
  o : O
  ok : Bool
  e : Int
def TD.cells (t : TD) (wv bv : Value) : Array Value := #[.int .i64 t.n, .int .i64 t.o.cls, .int .i64 t.o.kind, wv, bv, .bool t.ok, .int .i64 t.e]

theorem Row.seven {w : World} {b : Nat} {t : TypeId} {x0 x1 x2 x3 x4 x5 x6 : Value} (h : Row w b t #[x0, x1, x2, x3, x4, x5, x6]) :
    w.cell? ⟨b, 0, none⟩ = some x0 ∧ w.cell? ⟨b, 1, none⟩ = some x1 ∧ w.cell? ⟨b, 2, none⟩ = some x2 ∧ w.cell? ⟨b, 3, none⟩ = some x3 ∧ w.cell? ⟨b, 4, none⟩ = some x4 ∧ w.cell? ⟨b, 5, none⟩ = some x5 ∧ w.cell? ⟨b, 6, none⟩ = some x6 ∧ ∀ i, w.frozen? ⟨b, i, none⟩ = false :=
  ⟨h.cell 0, h.cell 1, h.cell 2, h.cell 3, h.cell 4, h.cell 5, h.cell 6, h.frozen⟩

end Go.Proofs.YtncoanmgifgcbaaDoor
