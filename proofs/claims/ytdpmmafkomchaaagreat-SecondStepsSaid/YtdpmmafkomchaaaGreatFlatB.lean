/- Walks of a flat memory's functions that only read. · Walks of a flat memory's functions that only read: Obj, place, Fetch, Byte, Made, Ref. -/
import Derived.Test.YtdpmmafkomchaaaGreatFlatRep
namespace Go.Proofs.YtdpmmafkomchaaaGreat
set_option linter.unusedVariables false
set_option linter.unusedSimpArgs false
open Go.RowKit

/-- what at answers -/
def atV (ad : Nat → Nat) (L : List O) (o : Int) : Value := match fnd L o with | some i => .pointer (some ⟨ad i, 0, none⟩) | none => .pointer none
def atE (L : List O) (o : Int) : Int := match fnd L o with | some _ => 0 | none => 4

set_option maxHeartbeats 400000 in
theorem Size_any (c : Int) (k : Int) (wv bv : Value) (nw nb : Nat) (A B : Option Addr) (cw cb : Nat) (hw : wv = .slice A nw cw) (hb : bv = .slice B nb cb) (w : World) :
    Calls Tryz.prog 54 #[.agg #[.int .i64 c, .int .i64 k, wv, bv]] w fun e w' => e = .returned (.int .i64 (if k = 1 then (nw : Int) else if k = 2 then (nb : Int) else 0)) ∧ Below w.heap.size w w' := by
  subst hw hb
  by_cases h1 : k = 1
  · subst h1
    go_enter Tryz.func54, Tryz.ntmps54
    go_wp2
    go_ret
    exact ⟨rfl, (Below.refl _ _).alloc (Nat.le_refl _) _⟩
  by_cases h2 : k = 2
  · subst h2
    go_enter Tryz.func54, Tryz.ntmps54
    go_wp2
    go_ret
    exact ⟨rfl, (Below.refl _ _).alloc (Nat.le_refl _) _⟩
  rw [if_neg h1, if_neg h2]
  go_enter Tryz.func54, Tryz.ntmps54
  go_wp2
  go_ret
  exact ⟨rfl, (Below.refl _ _).alloc (Nat.le_refl _) _⟩

/-- what Copy gives: the object, in memory of its own -/
def Copied (w : World) (o : O) (v : Value) (w' : World) : Prop :=
  ∃ wv bv, v = .agg (cells2 o wv bv) ∧ Chg No w w' ∧ w'.ownsRow w.heap.size 3 1 wv o.W.length (o.W.map (.int .i64)) ∧ w'.ownsRow w.heap.size 5 1 bv o.B.length (o.B.map (.int .u8))

theorem O.ok.wIn {o : O} (h : o.ok) : ∀ x ∈ o.W, In64 x := fun x hx => ref64 (h.2.2.2.2.1 x hx)
theorem O.ok.bIn {o : O} (h : o.ok) : ∀ x ∈ o.B, 0 ≤ x ∧ x ≤ 255 := fun x hx => h.2.2.2.2.2 x hx
/-- how much it has -/
def szO (o : O) : Int := if o.kind = 1 then (o.W.length : Int) else if o.kind = 2 then (o.B.length : Int) else 0

/-- an object of the memory's own reads as what it is -/
theorem OwnO.read {w : World} {b : Nat} {o : O} {wv bv : Value} (h : OwnO w b o wv bv) (hok : o.ok) : ObjR w (fun k => wv.ownBlock = some k ∨ bv.ownBlock = some k) (.agg (cells2 o wv bv)) o :=
  ⟨wv, bv, rfl, ⟨(Slc.of_own h.ws).more fun _ _ hb => .inl hb, hok.wIn⟩, ⟨(Slc.of_own h.bs).more fun _ _ hb => .inr hb, hok.bIn⟩, named64 hok.1, hok.kind64⟩

section
variable {w : World} {m : Nat} {F : Nat → Prop} {L : List O} {q : Nat} {es : List (Int × Value)} {ad : Nat → Nat} {wv bv : Nat → Value}

/-- what Obj gives of an object -/
def Given (w : World) (o : O) (v : Value) (w' : World) : Prop := ∃ r, v = .tuple #[r, .int .i64 0] ∧ Chg No w w' ∧ ObjR w' (fun b => w.heap.size ≤ b) r o

/-- what Obj gives where there is none -/
def Missed (w : World) (n : Int) (v : Value) (w' : World) : Prop := v = .tuple #[.agg #[.int .i64 0, .int .i64 0, .slice none 0 0, .slice none 0 0], .int .i64 n] ∧ Chg No w w'

/-- what place answers -/
def placeE (L : List O) (o kind i : Int) : Int := match fnd L o with | none => 4 | some j => if (ob L j).kind = kind then (if 0 ≤ i ∧ i < szO (ob L j) then 0 else 21) else 20

end

end Go.Proofs.YtdpmmafkomchaaaGreat
