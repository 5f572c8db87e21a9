/- A flat memory's Next: which is met behind one. -/
import Derived.Test.YtjanojignaonfaaFlatG
import Derived.Test.YtjanojignaonfaaIter
namespace Go.Proofs.Ytjanojignaonfaa
set_option linter.unusedVariables false
set_option linter.unusedSimpArgs false
open Go.RowKit

/-- the place of the first from place id on that is there -/
def nxtI (L : List O) (id : Nat) : Option Nat := (List.range L.length).find? fun i => decide (id ≤ i) && (ob L i).kind != 0
def nextN (L : List O) (o : Int) : Int := match nxtI L (namedV o).toNat with | some i => 2 * ((i : Int) + 1) | none => 0
def nextOK (L : List O) (o : Int) : Bool := (nxtI L (namedV o).toNat).isSome
theorem nxtI_some {L : List O} {id i : Nat} (h1 : id ≤ i) (h2 : (ob L i).kind ≠ 0) (h3 : ∀ j, id ≤ j → (ob L j).kind ≠ 0 → i ≤ j) : nxtI L id = some i := by
  unfold nxtI
  rw [List.find?_range_eq_some]
  refine ⟨by simp [h1, h2], ?_, fun j hj => ?_⟩
  · rw [List.mem_range]; exact ob_lt h2
  · by_cases h4 : id ≤ j
    · have : (ob L j).kind = 0 := Decidable.byContradiction fun h => by have := h3 j h4 h; omega
      simp [this]
    · simp [h4]
theorem nxtI_none {L : List O} {id : Nat} (h : ∀ j, id ≤ j → (ob L j).kind = 0) : nxtI L id = none := by
  unfold nxtI
  rw [List.find?_eq_none]
  intro j _
  by_cases h4 : id ≤ j
  · simp [h j h4]
  · simp [h4]
theorem namedV_bd (o : Int) : 0 ≤ namedV o ∧ namedV o ≤ 1073741823 := by
  cases h : namedOk o
  · rw [namedV_no h]; omega
  · have := namedV_of h; omega

/-- the least of what has come, above id; 0: none -/
def Least (es : List (Int × Value)) (V : Int → Prop) (id least : Int) : Prop :=
  (least = 0 ∧ ∀ k ∈ es.map (·.1), V k → k ≤ id) ∨ (id < least ∧ least ∈ es.map (·.1) ∧ ∀ k ∈ es.map (·.1), V k → id < k → least ≤ k)

section
variable {w w' : World} {m : Nat} {F : Nat → Prop} {L : List O} {q : Nat} {es : List (Int × Value)} {ad : Nat → Nat} {wv bv : Nat → Value}
theorem FlatI.keys (h : FlatI w m F L q es ad wv bv) (k : Int) : k ∈ es.map (·.1) ↔ 1 ≤ k ∧ (ob L (k - 1).toNat).kind ≠ 0 := by
  have h1 := h.get k
  constructor
  · intro hk
    by_cases hc : 1 ≤ k ∧ (ob L (k - 1).toNat).kind ≠ 0
    · exact hc
    · rw [if_neg hc] at h1
      exact absurd hk (mget_none.1 h1)
  · intro hc
    rw [if_pos hc] at h1
    exact List.mem_map.2 ⟨_, mget_some_mem h1, rfl⟩
theorem next_end (h : FlatI w m F L q es ad wv bv) {o least : Int} {V : Int → Prop} (hV : ∀ k ∈ es.map (·.1), V k) (hl : Least es V (namedV o) least) :
    (least = 0 ∧ nextN L o = 0 ∧ nextOK L o = false) ∨ (1 ≤ least ∧ least ≤ 1073741823 ∧ nextN L o = 2 * least ∧ nextOK L o = true) := by
  have hb := namedV_bd o
  rcases hl with ⟨rfl, h1⟩ | ⟨h1, h2, h3⟩
  · left
    have : nxtI L (namedV o).toNat = none := nxtI_none fun j hj => Decidable.byContradiction fun hk => by
      have hm : ((j : Int) + 1) ∈ es.map (·.1) := (h.keys _).2 ⟨by omega, by rw [show ((j : Int) + 1 - 1).toNat = j by omega]; exact hk⟩
      have := h1 _ hm (hV _ hm)
      omega
    exact ⟨rfl, by simp [nextN, this], by simp [nextOK, this]⟩
  · right
    have hk := (h.keys _).1 h2
    have hlt := ob_lt hk.2
    have hmade := h.made
    have : nxtI L (namedV o).toNat = some (least - 1).toNat := nxtI_some (by omega) hk.2 fun j hj hjk => by
      have hm : ((j : Int) + 1) ∈ es.map (·.1) := (h.keys _).2 ⟨by omega, by rw [show ((j : Int) + 1 - 1).toNat = j by omega]; exact hjk⟩
      have := h3 _ hm (hV _ hm) (by omega)
      omega
    refine ⟨by omega, by omega, ?_, by simp [nextOK, this]⟩
    simp only [nextN, this]
    omega

set_option maxRecDepth 100000 in
set_option maxHeartbeats 1000000 in
theorem Next_any (h : FlatI w m F L q es ad wv bv) (o : Int) (h64 : In64 o) :
    Calls Try.prog 128 #[.pointer (some ⟨m, 0, none⟩), .int .i64 o] w fun e w' => e = .returned (.tuple #[.int .i64 (nextN L o), .bool (nextOK L o)]) ∧ Chg No w w' := by
  have c0 : w.cell? ⟨m, 0, none⟩ = some (.map (some q)) := h.row.cell 0
  obtain ⟨w1, hrun, hit, hc1, -⟩ := h.map.range (P := Try.prog) elem_map
  have hbd := namedV_bd o
  have H := Lib.hid h
  have hkb : ∀ k ∈ es.map (·.1), 1 ≤ k ∧ k ≤ 1073741823 := fun k hk => by
    have h1 := (h.keys k).1 hk
    have h2 := ob_lt h1.2
    have h3 := h.made
    omega
  have HB := Lib.hid hkb
  have hend : ∀ (V : Int → Prop) (least : Int), (∀ k ∈ es.map (·.1), V k) → Least es V (namedV o) least → (least = 0 ∧ nextN L o = 0 ∧ nextOK L o = false) ∨ (1 ≤ least ∧ least ≤ 1073741823 ∧ nextN L o = 2 * least ∧ nextOK L o = true) := fun V least => next_end h
  obtain ⟨b1, b2⟩ := h64
  have HN := fun w => Named_any o b1 b2 w
  generalize nextN L o = rn at *
  generalize nextOK L o = rb at *
  generalize namedV o = id at *
  have HE := Lib.hid hend
  clear h hkb hend
  go_enter Try.func128, Try.ntmps128
  go_wp2_with (go_at_call 87; refine (HN _).mono ?_; rintro e w' ⟨rfl, rfl⟩)
  clear HN
  go_loopg [8] (leftN es (fun _ => False)) (fun j v8 wr => ∃ (V : Int → Prop) (least : Int), v8 = .int .i64 least ∧ leftN es V ≤ j ∧ Iter wr q w.heap.size es V ∧ Chg No w wr ∧ Least es V id least)
  case atStart => exact ⟨fun _ => False, 0, rfl, Nat.le_refl _, hit, hc1, .inl ⟨rfl, fun _ _ h => h.elim⟩⟩
  case round =>
    clear hrun hit hc1
    obtain ⟨V, least, rfl, hj, hit, hcw, hls⟩ := hrel
    have hlb : 0 ≤ least ∧ least ≤ 1073741823 := by
      rcases hls with ⟨rfl, _⟩ | ⟨_, h2, _⟩
      · omega
      · have := HB.out _ h2; omega
    rcases hit.next (P := Try.prog) 0 with ⟨hall, hn⟩ | ⟨k, u, w2, hk, hV, hn, hit2, hc2, -, hen⟩
    · rcases HE.out V least hall hls with ⟨rfl, rfl, rfl⟩ | ⟨l1, l2, rfl, rfl⟩
      · clear hall hls hit
        go_wp2_with (go_at_call 84; refine (Oop_any 0 (by unfold In64; omega) _).mono ?_; rw [if_neg (by decide)]; rintro e w' ⟨rfl, rfl⟩)
        go_ret2
        exact ⟨rfl, hcw⟩
      · have lp : decide (0 < least) = true := decide_eq_true (by omega)
        clear hall hls hit
        go_wp2_with (go_at_call 84; refine (Oop_ok least l1 l2 _).mono ?_; rintro e w' ⟨rfl, rfl⟩)
        go_ret2
        exact ⟨rfl, hcw⟩
    · have hkm : k ∈ es.map (·.1) := List.mem_map.2 ⟨_, hk, rfl⟩
      have hkb := HB.out k hkm
      have hm := leftN_lt hk hV
      have hcw2 : Chg No w w2 := hcw.then hc2 (fun i hi e => by omega)
      have HX := Lib.hid (And.intro hls (And.intro hkm (And.intro hm (And.intro hit2 hcw2))))
      clear hls hkm hm hit2 hcw2 hk hV hit hcw hc2
      by_cases a1 : k ≤ id
      · have t1 : decide (id < k) = false := decide_eq_false (by omega)
        go_wp2_with fail
        go_roundg (leftN es (fun x => V x ∨ x = k))
        case measure => have := HX.out.2.2.1; omega
        case rel =>
          obtain ⟨hls, hkm, hm, hit2, hcw2⟩ := HX.out
          refine ⟨_, least, rfl, Nat.le_refl _, hit2, hcw2, ?_⟩
          rcases hls with ⟨h0, h1⟩ | ⟨h1, h2, h3⟩
          · exact .inl ⟨h0, fun x hx hv => hv.elim (h1 x hx) (fun e => by omega)⟩
          · exact .inr ⟨h1, h2, fun x hx hv hlt => hv.elim (fun e => h3 x hx e hlt) (fun e => by omega)⟩
      · have t1 : decide (id < k) = true := decide_eq_true (by omega)
        by_cases a2 : least = 0
        · subst a2
          go_wp2_with fail
          go_roundg (leftN es (fun x => V x ∨ x = k))
          case measure => have := HX.out.2.2.1; omega
          case rel =>
            obtain ⟨hls, hkm, hm, hit2, hcw2⟩ := HX.out
            refine ⟨_, k, rfl, Nat.le_refl _, hit2, hcw2, .inr ⟨by omega, hkm, fun x hx hv hlt => ?_⟩⟩
            rcases hls with ⟨_, h1⟩ | ⟨h1, h2, _⟩
            · rcases hv with hv | hv
              · have := h1 x hx hv; omega
              · omega
            · have := HB.out _ h2; omega
        · have t2 : (least == 0) = false := beq_eq_false_iff_ne.2 a2
          by_cases a3 : k < least
          · have t3 : decide (k < least) = true := decide_eq_true a3
            go_wp2_with fail
            go_roundg (leftN es (fun x => V x ∨ x = k))
            case measure => have := HX.out.2.2.1; omega
            case rel =>
              obtain ⟨hls, hkm, hm, hit2, hcw2⟩ := HX.out
              refine ⟨_, k, rfl, Nat.le_refl _, hit2, hcw2, .inr ⟨by omega, hkm, fun x hx hv hlt => ?_⟩⟩
              rcases hls with ⟨h0, _⟩ | ⟨h1, h2, h3⟩
              · omega
              · rcases hv with hv | hv
                · have := h3 x hx hv hlt; omega
                · omega
          · have t3 : decide (k < least) = false := decide_eq_false a3
            go_wp2_with fail
            go_roundg (leftN es (fun x => V x ∨ x = k))
            case measure => have := HX.out.2.2.1; omega
            case rel =>
              obtain ⟨hls, hkm, hm, hit2, hcw2⟩ := HX.out
              refine ⟨_, least, rfl, Nat.le_refl _, hit2, hcw2, ?_⟩
              rcases hls with ⟨h0, _⟩ | ⟨h1, h2, h3⟩
              · omega
              · refine .inr ⟨h1, h2, fun x hx hv hlt => ?_⟩
                rcases hv with hv | hv
                · exact h3 x hx hv hlt
                · omega
end

end Go.Proofs.Ytjanojignaonfaa
