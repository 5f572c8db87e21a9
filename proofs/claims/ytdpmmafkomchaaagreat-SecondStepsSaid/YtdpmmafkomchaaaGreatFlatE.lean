/- A flat memory's new objects: Blank, New, flat.New, Made; Oop. · A flat memory: one without objects is made; an object comes to it. -/
import Derived.Test.YtdpmmafkomchaaaGreatFlatC
namespace Go.Proofs.YtdpmmafkomchaaaGreat
set_option linter.unusedVariables false
set_option linter.unusedSimpArgs false
open Go.RowKit
open Go.ChangeMaps (setBlock)

def blankOk (class_ kind size : Int) : Bool := namedOk class_ && (kind == 1 || kind == 2) && decide (0 ≤ size) && decide (size ≤ 1000)
def newO (class_ kind size : Int) : O := ⟨class_, kind, if kind = 1 then List.replicate size.toNat 2 else [], if kind = 1 then [] else List.replicate size.toNat 0⟩

/-- a new object, and a truth beside it -/
def Blanked (w : World) (o : O) (v : Value) (w' : World) : Prop :=
  ∃ wv bv, v = .tuple #[.agg (cells2 o wv bv), .bool true] ∧ Chg No w w' ∧ w'.ownsRow w.heap.size 3 1 wv o.W.length (o.W.map (.int .i64)) ∧ w'.ownsRow w.heap.size 5 1 bv o.B.length (o.B.map (.int .u8))
def NoBlank (w : World) (v : Value) (w' : World) : Prop := v = .tuple #[.agg #[.int .i64 0, .int .i64 0, .slice none 0 0, .slice none 0 0], .bool false] ∧ Chg No w w'

theorem own_ge {w : World} {base sz n : Nat} {e : TypeId} {v : Value} {xs : List Value} (h : w.ownsRow base e sz v n xs) {b : Nat} (hb : v.ownBlock = some b) : base ≤ b := by
  rcases h.2 with ⟨rfl, _⟩ | ⟨g, cap, cur, rfl, h1, _⟩
  · cases hb
  · cases hb; exact h1

section
variable {w w' : World} {m : Nat} {F : Nat → Prop} {L : List O} {q : Nat} {es : List (Int × Value)} {ad : Nat → Nat} {wv bv : Nat → Value}

theorem ob_app (L : List O) (o : O) (i : Nat) : ob (L ++ [o]) i = if i = L.length then o else ob L i := by
  unfold ob
  by_cases h : i = L.length
  · subst h; simp
  · rw [if_neg h]
    rcases Nat.lt_or_ge i L.length with h1 | h1
    · rw [List.getElem?_append_left h1]
    · rw [List.getElem?_eq_none (by simp; omega), List.getElem?_eq_none h1]

end

section
variable {w w' : World} {m : Nat} {F : Nat → Prop} {L : List O} {q : Nat} {es : List (Int × Value)} {ad : Nat → Nat} {wv bv : Nat → Value}

theorem newO_ok {c k s : Int} (h : blankOk c k s = true) : (newO c k s).ok := by
  simp [blankOk] at h
  obtain ⟨⟨⟨hc, hk⟩, h0⟩, h1⟩ := h
  rcases hk with rfl | rfl
  · refine ⟨hc, .inl ⟨rfl, rfl⟩, ?_, by simp [newO], ?_, by simp [newO]⟩
    · simp [newO]; omega
    · intro x hx
      simp [newO] at hx
      rw [hx.2]; decide
  · refine ⟨hc, .inr ⟨rfl, rfl⟩, by simp [newO], ?_, by simp [newO], ?_⟩
    · simp [newO]; omega
    · intro x hx
      simp [newO] at hx
      rw [hx.2]; decide

end

end Go.Proofs.YtdpmmafkomchaaaGreat
