/- A flat memory's Become: two change places. -/
import Derived.Test.YtjanojignaonfaaFlatH
import Derived.BigRegion
namespace Go.Proofs.Ytjanojignaonfaa
set_option linter.unusedVariables false
set_option linter.unusedSimpArgs false
open Go.RowKit

def becL (L : List O) (i j : Nat) : List O := (L.set i (ob L j)).set j (ob L i)
theorem ob_bec {L : List O} {i j : Nat} (hi : i < L.length) (hj : j < L.length) (k : Nat) : ob (becL L i j) k = if k = j then ob L i else if k = i then ob L j else ob L k := by
  unfold becL
  rw [ob_set (by simpa using hj), ob_set hi]
def becomeE (L : List O) (a b : Int) : Int := match fnd L a, fnd L b with | some _, some _ => 0 | _, _ => 4
def becomeL (L : List O) (a b : Int) : List O := match fnd L a, fnd L b with | some i, some j => becL L i j | _, _ => L

section
variable {w w' : World} {m : Nat} {F : Nat → Prop} {L : List O} {q : Nat} {es : List (Int × Value)} {ad : Nat → Nat} {wv bv : Nat → Value}
theorem FlatI.swap (h : FlatI w m F L q es ad wv bv) {i j : Nat} (hi : (ob L i).kind ≠ 0) (hj : (ob L j).kind ≠ 0) (c : Chg (fun b => b = ad i ∨ b = ad j) w w')
    (ri : i ≠ j → Row w' (ad i) 39 (cells2 (ob L j) (wv j) (bv j))) (rj : Row w' (ad j) 39 (cells2 (ob L i) (wv i) (bv i))) : ∃ wv' bv', FlatI w' m F (becL L i j) q es ad wv' bv' := by
  have hil := ob_lt hi
  have hjl := ob_lt hj
  have hkk : ∀ k, (ob (becL L i j) k).kind ≠ 0 ↔ (ob L k).kind ≠ 0 := fun k => by
    rw [ob_bec hil hjl]
    split
    · rename_i e; subst e; exact ⟨fun _ => hj, fun _ => hi⟩
    · split
      · rename_i e; subst e; exact ⟨fun _ => hi, fun _ => hj⟩
      · exact Iff.rfl
  have roi := (h.own i hi).row
  have roj := (h.own j hj).row
  have hn : ∀ {b : Nat} {t : TypeId} {cs : Array Value}, Row w b t cs → t ≠ 39 → ¬ (b = ad i ∨ b = ad j) := fun hr ht e => by
    rcases e with rfl | rfl
    · exact ht (hr.inj roi).1
    · exact ht (hr.inj roj).1
  have hq : ¬ (q = ad i ∨ q = ad j) := by
    rintro (e | e)
    · exact h.map.ne_row roi e
    · exact h.map.ne_row roj e
  have own' : ∀ k b o, (ob L k).kind ≠ 0 → o = ob L k → Row w' b 39 (cells2 o (wv k) (bv k)) → OwnO w' b o (wv k) (bv k) := fun k b o hk e hr => by
    subst e
    refine ⟨hr, own_keep (h.own k hk).ws c (fun g hg => ?_), own_keep (h.own k hk).bs c (fun g hg => ?_)⟩
    · obtain ⟨cs, hr'⟩ := own_block (h.own k hk).ws hg
      exact hn hr' (by decide)
    · obtain ⟨cs, hr'⟩ := own_block (h.own k hk).bs hg
      exact hn hr' (by decide)
  refine ⟨fun k => if k = j then wv i else if k = i then wv j else wv k, fun k => if k = j then bv i else if k = i then bv j else bv k, ?_⟩
  refine ⟨?_, h.map.keep c hq, fun k => ?_, fun k hk => ?_, fun k hk => ?_, fun k hk => ?_, fun k hk => ?_, fun a b ha hb hab => ?_, h.mF, h.qF, fun b hb => Nat.lt_of_lt_of_le (h.lt b hb) c.size, by simpa [becL] using h.made⟩
  · simpa [becL] using h.row.keep c (hn h.row (by decide))
  · rw [h.get k]
    by_cases h1 : 1 ≤ k ∧ (ob L (k - 1).toNat).kind ≠ 0
    · rw [if_pos h1, if_pos ⟨h1.1, (hkk _).2 h1.2⟩]
    · rw [if_neg h1, if_neg (fun e => h1 ⟨e.1, (hkk _).1 e.2⟩)]
  · have hk' := (hkk k).1 hk
    rw [ob_bec hil hjl]
    by_cases e1 : k = j
    · subst e1
      simp only [if_true]
      exact own' i _ _ hi rfl rj
    · by_cases e2 : k = i
      · subst e2
        simp only [e1, if_false, if_true]
        exact own' j _ _ hj rfl (ri e1)
      · simp only [e1, e2, if_false]
        refine own' k _ _ hk' rfl ((h.own k hk').row.keep c ?_)
        rintro (e | e)
        · exact (h.apart k i hk' hi e2).1 e
        · exact (h.apart k j hk' hj e1).1 e
  · have hk' := (hkk k).1 hk
    rw [ob_bec hil hjl]
    split
    · exact h.ok i hi
    · split
      · exact h.ok j hj
      · exact h.ok k hk'
  · have hk' : (ob L k).kind = 0 := Decidable.byContradiction fun h => (hkk k).2 h hk
    rw [ob_bec hil hjl]
    rw [if_neg (by rintro rfl; exact hj hk'), if_neg (by rintro rfl; exact hi hk')]
    exact h.gone k hk'
  · have hk' := (hkk k).1 hk
    refine ⟨(h.inF k hk').1, ?_, ?_⟩
    · split
      · exact (h.inF i hi).2.1
      · split
        · exact (h.inF j hj).2.1
        · exact (h.inF k hk').2.1
    · split
      · exact (h.inF i hi).2.2
      · split
        · exact (h.inF j hj).2.2
        · exact (h.inF k hk').2.2
  · have ha' := (hkk a).1 ha
    have hb' := (hkk b).1 hb
    -- the permutation of places
    have hp : ∀ k, (ob L k).kind ≠ 0 → ∃ p, (ob L p).kind ≠ 0 ∧ (if k = j then wv i else if k = i then wv j else wv k) = wv p ∧ (if k = j then bv i else if k = i then bv j else bv k) = bv p ∧ p = (if k = j then i else if k = i then j else k) := fun k hk => by
      by_cases e1 : k = j
      · exact ⟨i, hi, by simp [e1], by simp [e1], by simp [e1]⟩
      · by_cases e2 : k = i
        · subst e2
          exact ⟨j, hj, by simp [e1], by simp [e1], by simp [e1]⟩
        · exact ⟨k, hk, by simp [e1, e2], by simp [e1, e2], by simp [e1, e2]⟩
    obtain ⟨p, hpk, p1, p2, p3⟩ := hp a ha'
    obtain ⟨r, hrk, r1, r2, r3⟩ := hp b hb'
    have hne : p ≠ r := by
      rw [p3, r3]
      split <;> split <;> (try split) <;> (try split) <;> omega
    have hap := h.apart p r hpk hrk hne
    rw [p1, r1, p2, r2]
    exact ⟨(h.apart a b ha' hb' hab).1, hap.2.1, hap.2.2⟩

theorem Row.drew {w : World} {p : Nat} {t : TypeId} {cs : Array Value} (h : Row w p t cs) : Row w.drew p t cs := h
theorem Row.set4 {w : World} {p : Nat} {t : TypeId} {x0 x1 x2 x3 : Value} (h : Row w p t #[x0, x1, x2, x3]) (y0 y1 y2 y3 : Value) :
    Row ((((w.setCell ⟨p, 0, none⟩ y0).setCell ⟨p, 1, none⟩ y1).setCell ⟨p, 2, none⟩ y2).setCell ⟨p, 3, none⟩ y3) p t #[y0, y1, y2, y3] := by
  simpa using (((h.set 0 y0).set 1 y1).set 2 y2).set 3 y3
theorem Row.other4 {w : World} {p r : Nat} {t : TypeId} {cs : Array Value} (h : Row w r t cs) (hne : r ≠ p) (y0 y1 y2 y3 : Value) :
    Row ((((w.setCell ⟨p, 0, none⟩ y0).setCell ⟨p, 1, none⟩ y1).setCell ⟨p, 2, none⟩ y2).setCell ⟨p, 3, none⟩ y3) r t cs :=
  (((h.other (p := ⟨p, 0, none⟩) hne _).other (p := ⟨p, 1, none⟩) hne _).other (p := ⟨p, 2, none⟩) hne _).other (p := ⟨p, 3, none⟩) hne _
theorem Chg.set4 {a w : World} {F : Nat → Prop} (h : Chg F a w) {p : Nat} (hp : F p) (y0 y1 y2 y3 : Value) :
    Chg F a ((((w.setCell ⟨p, 0, none⟩ y0).setCell ⟨p, 1, none⟩ y1).setCell ⟨p, 2, none⟩ y2).setCell ⟨p, 3, none⟩ y3) :=
  (((h.setCell (p := ⟨p, 0, none⟩) (.inl hp) _).setCell (p := ⟨p, 1, none⟩) (.inl hp) _).setCell (p := ⟨p, 2, none⟩) (.inl hp) _).setCell (p := ⟨p, 3, none⟩) (.inl hp) _

/-- what Become leaves -/
def Becamed (w : World) (m : Nat) (F : Nat → Prop) (L' : List O) (n : Int) (e : Ending) (w' : World) : Prop := e = .returned (.int .i64 n) ∧ Flat w' m F L' ∧ Chg F w w'

end

end Go.Proofs.Ytjanojignaonfaa
