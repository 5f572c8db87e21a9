/- A flat memory's words and bytes: Fetch, Byte, Set, SetByte. -/
import Derived.Test.YtncoanmgifgcbaaDoorFlatB
namespace Go.Proofs.YtncoanmgifgcbaaDoor
set_option linter.unusedVariables false
set_option linter.unusedSimpArgs false
open Go.RowKit

theorem ob_set {L : List O} {j : Nat} (hj : j < L.length) (x : O) (i : Nat) : ob (L.set j x) i = if i = j then x else ob L i := by
  unfold ob
  by_cases h : i = j
  · subst h; simp [hj]
  · rw [if_neg h, List.getElem?_set_ne (fun e => h e.symm)]

/-- an own row that has an element is a block of its own -/
theorem own_at {w : World} {base n : Nat} {e : TypeId} {v : Value} {xs : List Value} (h : w.ownsRow base e 1 v n xs) (hn : 0 < n) : ∃ g cap, v = .slice (some ⟨g, 0, none⟩) n cap ∧ g < w.heap.size ∧ (∀ i, i < n → w.cell? ⟨g, i, none⟩ = xs[i]?) ∧ ∀ i, w.frozen? ⟨g, i, none⟩ = false := by
  rcases h.2 with ⟨_, h0⟩ | ⟨g, cap, cur, rfl, _, hg, _⟩
  · omega
  · exact ⟨g, cap, rfl, lt_of_block hg, fun i hi => h.cellAt i (by omega), fun i => h.frozenAt i⟩

section
variable {w w' : World} {m : Nat} {F : Nat → Prop} {L : List O} {q : Nat} {es : List (Int × Value)} {ad : Nat → Nat} {wv bv : Nat → Value}

theorem FlatI.ne_m (h : FlatI w m F L q es ad wv bv) {b : Nat} {t : TypeId} {cs : Array Value} (hr : Row w b t cs) (ht : 64 ≠ t) : m ≠ b := h.row.ne hr ht

/-- a list of one object has another element -/
theorem FlatI.store (h : FlatI w m F L q es ad wv bv) {j : Nat} (hj : (ob L j).kind ≠ 0) {g i : Nat} {u : Value} {o' : O} (hk : o'.kind ≠ 0) (hok : o'.ok)
    (hown : OwnO (w.setCell ⟨g, i, none⟩ u) (ad j) o' (wv j) (bv j)) (hrow : ∃ t cs, Row w g t cs ∧ (t = 3 ∧ (wv j).ownBlock = some g ∨ t = 5 ∧ (bv j).ownBlock = some g)) :
    FlatI (w.setCell ⟨g, i, none⟩ u) m F (L.set j o') q es ad wv bv := by
  have hjl := ob_lt hj
  obtain ⟨t, cs, hr, ht⟩ := hrow
  have htm : 64 ≠ t := by rcases ht with ⟨rfl, _⟩ | ⟨rfl, _⟩ <;> decide
  have hto : 41 ≠ t := by rcases ht with ⟨rfl, _⟩ | ⟨rfl, _⟩ <;> decide
  have c : Chg (fun b => b = g) w (w.setCell ⟨g, i, none⟩ u) := Chg.setCell (F := fun b => b = g) (p := ⟨g, i, none⟩) (Chg.refl _ _) (.inl rfl) u
  have hkk : ∀ k, (ob (L.set j o') k).kind ≠ 0 ↔ (ob L k).kind ≠ 0 := by
    intro k
    rw [ob_set hjl]
    split
    · rename_i e; subst e; exact ⟨fun _ => hj, fun _ => hk⟩
    · exact Iff.rfl
  refine ⟨?_, ?_, ?_, ?_, ?_, ?_, ?_, ?_, h.mF, h.qF, fun b hb => Nat.lt_of_lt_of_le (h.lt b hb) c.size, by simpa using h.made⟩
  · simpa using h.row.keep c (h.row.ne hr htm)
  · exact h.map.keep c (h.map.ne_row hr)
  · intro k
    rw [h.get k]
    by_cases h1 : 1 ≤ k ∧ (ob L (k - 1).toNat).kind ≠ 0
    · rw [if_pos h1, if_pos ⟨h1.1, (hkk _).2 h1.2⟩]
    · rw [if_neg h1, if_neg (fun e => h1 ⟨e.1, (hkk _).1 e.2⟩)]
  · intro k hk'
    rw [ob_set hjl]
    split
    · rename_i e; subst e; exact hown
    · rename_i e
      have hkl := (hkk k).1 hk'
      have hap := h.apart k j hkl hj e
      refine (h.own k hkl).keep c ((h.own k hkl).row.ne hr hto) ?_ ?_
      · rintro b hb rfl
        rcases ht with ⟨_, hb'⟩ | ⟨rfl, hb'⟩
        · exact hap.2.1 _ hb hb'
        · obtain ⟨cs', hr'⟩ := own_block (h.own k hkl).ws hb
          exact absurd (hr'.inj hr).1 (by decide)
      · rintro b hb rfl
        rcases ht with ⟨rfl, hb'⟩ | ⟨_, hb'⟩
        · obtain ⟨cs', hr'⟩ := own_block (h.own k hkl).bs hb
          exact absurd (hr'.inj hr).1 (by decide)
        · exact hap.2.2 _ hb hb'
  · intro k hk'
    rw [ob_set hjl]
    split
    · exact hok
    · exact h.ok k ((hkk k).1 hk')
  · intro k hk'
    rw [ob_set hjl] at hk' ⊢
    split
    · rename_i e; rw [if_pos e] at hk'; exact absurd hk' hk
    · rename_i e; rw [if_neg e] at hk'; exact h.gone k hk'
  · exact fun k hk' => h.inF k ((hkk k).1 hk')
  · exact fun a b ha hb => h.apart a b ((hkk a).1 ha) ((hkk b).1 hb)

def fetchV (L : List O) (o i : Int) : Int := match fnd L o with | none => 0 | some j => if (ob L j).kind = 1 ∧ 0 ≤ i ∧ i < (ob L j).W.length then (ob L j).W[i.toNat]?.getD 0 else 0
def byteV (L : List O) (o i : Int) : Int := match fnd L o with | none => 0 | some j => if (ob L j).kind = 2 ∧ 0 ≤ i ∧ i < (ob L j).B.length then (ob L j).B[i.toNat]?.getD 0 else 0

set_option maxRecDepth 100000 in
set_option maxHeartbeats 400000 in
theorem Fetch_any (h : FlatI w m F L q es ad wv bv) (o i : Int) (h64 : In64 o) :
    Calls Tryd.prog 21 #[.pointer (some ⟨m, 0, none⟩), .int .i64 o, .int .i64 i] w fun e w' => e = .returned (.tuple #[.int .i64 (fetchV L o i), .int .i64 (placeE L o 1 i)]) ∧ Below w.heap.size w w' := by
  have H := Lib.hid h
  cases hf : fnd L o with
  | none =>
    rw [show fetchV L o i = 0 by simp [fetchV, hf], show placeE L o 1 i = 4 by simp [placeE, hf]]
    clear h
    go_enter Tryd.func21, Tryd.ntmps21
    go_wp2_with (go_at_call 48; refine (place_none H.out o 1 i h64 hf).mono ?_; rintro e w' ⟨rfl, hb⟩)
    go_ret2
    exact ⟨rfl, hb⟩
  | some j =>
    by_cases hk : (ob L j).kind = 1
    · have hsz : szO (ob L j) = (ob L j).W.length := by rw [szO, if_pos hk]
      by_cases hi : 0 ≤ i ∧ i < szO (ob L j)
      · have hi' := hi
        rw [hsz] at hi'
        rw [show fetchV L o i = (ob L j).W[i.toNat]?.getD 0 by simp [fetchV, hf, hk, hi'], show placeE L o 1 i = 0 by simp [placeE, hf, hk, hi]]
        obtain ⟨k, rfl⟩ := Int.eq_ofNat_of_zero_le hi.1
        have hown := h.own j (fnd_some hf).2.1
        obtain ⟨g, cap, hwv, hgl, hcell, _⟩ := own_at hown.ws (by omega)
        have hck := hcell k (by omega)
        have hkl : k < (ob L j).W.length := by omega
        rw [List.getElem?_map, List.getElem?_eq_getElem hkl] at hck
        simp only [Option.map_some] at hck
        rw [show (ob L j).W[((k : Int)).toNat]?.getD 0 = (ob L j).W[k] by simp [hkl]]
        have c2 := hown.row.cell 2
        have hal := hown.row.lt
        rw [show (cells2 (ob L j) (wv j) (bv j))[2]? = some (wv j) from rfl, hwv] at c2
        have hkz : (k : Int) < (ob L j).W.length := by omega
        clear hcell hsz hwv hown h hi'
        generalize (ob L j).W[k] = x at *
        generalize (ob L j).W.length = n at *
        have Hi := Lib.hid hi
        clear hi
        go_enter Tryd.func21, Tryd.ntmps21
        go_wp2_with (go_at_call 48; refine (place_ok H.out o 1 _ h64 hf hk Hi.out).mono ?_; rintro e w' ⟨rfl, hb⟩; have d2 := (hb.cell (p := ⟨ad j, 2, none⟩) hal).trans c2; have d3 := (hb.cell (p := ⟨g, k, none⟩) hgl).trans hck)
        go_ret2
        exact ⟨rfl, hb⟩
      · rw [show fetchV L o i = 0 by
          simp only [fetchV, hf]
          rw [if_neg (by rw [hsz] at hi; exact fun e => hi e.2)], show placeE L o 1 i = 21 by simp [placeE, hf, hk, hi]]
        clear h
        go_enter Tryd.func21, Tryd.ntmps21
        go_wp2_with (go_at_call 48; refine (place_index H.out o 1 i h64 hf hk hi).mono ?_; rintro e w' ⟨rfl, hb⟩)
        go_ret2
        exact ⟨rfl, hb⟩
    · rw [show fetchV L o i = 0 by simp [fetchV, hf, hk], show placeE L o 1 i = 20 by simp [placeE, hf, hk]]
      clear h
      go_enter Tryd.func21, Tryd.ntmps21
      go_wp2_with (go_at_call 48; refine (place_kind H.out o 1 i h64 hf hk).mono ?_; rintro e w' ⟨rfl, hb⟩)
      go_ret2
      exact ⟨rfl, hb⟩

set_option maxRecDepth 100000 in
set_option maxHeartbeats 400000 in
theorem Byte_any (h : FlatI w m F L q es ad wv bv) (o i : Int) (h64 : In64 o) :
    Calls Tryd.prog 153 #[.pointer (some ⟨m, 0, none⟩), .int .i64 o, .int .i64 i] w fun e w' => e = .returned (.tuple #[.int .i64 (byteV L o i), .int .i64 (placeE L o 2 i)]) ∧ Below w.heap.size w w' := by
  have H := Lib.hid h
  cases hf : fnd L o with
  | none =>
    rw [show byteV L o i = 0 by simp [byteV, hf], show placeE L o 2 i = 4 by simp [placeE, hf]]
    clear h
    go_enter Tryd.func153, Tryd.ntmps153
    go_wp2_with (go_at_call 48; refine (place_none H.out o 2 i h64 hf).mono ?_; rintro e w' ⟨rfl, hb⟩)
    go_ret2
    exact ⟨rfl, hb⟩
  | some j =>
    by_cases hk : (ob L j).kind = 2
    · have hsz : szO (ob L j) = (ob L j).B.length := by rw [szO, if_neg (by omega), if_pos hk]
      by_cases hi : 0 ≤ i ∧ i < szO (ob L j)
      · have hi' := hi
        rw [hsz] at hi'
        rw [show byteV L o i = (ob L j).B[i.toNat]?.getD 0 by simp [byteV, hf, hk, hi'], show placeE L o 2 i = 0 by simp [placeE, hf, hk, hi]]
        obtain ⟨k, rfl⟩ := Int.eq_ofNat_of_zero_le hi.1
        have hown := h.own j (fnd_some hf).2.1
        obtain ⟨g, cap, hbv, hgl, hcell, _⟩ := own_at hown.bs (by omega)
        have hck := hcell k (by omega)
        have hkl : k < (ob L j).B.length := by omega
        rw [List.getElem?_map, List.getElem?_eq_getElem hkl] at hck
        simp only [Option.map_some] at hck
        rw [show (ob L j).B[((k : Int)).toNat]?.getD 0 = (ob L j).B[k] by simp [hkl]]
        have c2 := hown.row.cell 3
        have hal := hown.row.lt
        rw [show (cells2 (ob L j) (wv j) (bv j))[3]? = some (bv j) from rfl, hbv] at c2
        have hbd : 0 ≤ (ob L j).B[k] ∧ (ob L j).B[k] ≤ 255 := (h.ok j (fnd_some hf).2.1).bIn _ (List.getElem_mem hkl)
        have hkz : (k : Int) < (ob L j).B.length := by omega
        clear hcell hsz hbv hown h hi'
        generalize (ob L j).B[k] = x at *
        generalize (ob L j).B.length = n at *
        have Hi := Lib.hid hi
        clear hi
        go_enter Tryd.func153, Tryd.ntmps153
        go_wp2_with (go_at_call 48; refine (place_ok H.out o 2 _ h64 hf hk Hi.out).mono ?_; rintro e w' ⟨rfl, hb⟩; have d2 := (hb.cell (p := ⟨ad j, 3, none⟩) hal).trans c2; have d3 := (hb.cell (p := ⟨g, k, none⟩) hgl).trans hck)
        go_ret2
        exact ⟨rfl, hb⟩
      · rw [show byteV L o i = 0 by
          simp only [byteV, hf]
          rw [if_neg (by rw [hsz] at hi; exact fun e => hi e.2)], show placeE L o 2 i = 21 by simp [placeE, hf, hk, hi]]
        clear h
        go_enter Tryd.func153, Tryd.ntmps153
        go_wp2_with (go_at_call 48; refine (place_index H.out o 2 i h64 hf hk hi).mono ?_; rintro e w' ⟨rfl, hb⟩)
        go_ret2
        exact ⟨rfl, hb⟩
    · rw [show byteV L o i = 0 by simp [byteV, hf, hk], show placeE L o 2 i = 20 by simp [placeE, hf, hk]]
      clear h
      go_enter Tryd.func153, Tryd.ntmps153
      go_wp2_with (go_at_call 48; refine (place_kind H.out o 2 i h64 hf hk).mono ?_; rintro e w' ⟨rfl, hb⟩)
      go_ret2
      exact ⟨rfl, hb⟩


set_option maxHeartbeats 400000 in
theorem Ref_any (v : Int) (h64 : In64 v) (w : World) : Calls Tryd.prog 161 #[.int .i64 v] w fun e w' => e = .returned (.bool (refOk v)) ∧ w = w' := by
  obtain ⟨b1, b2⟩ := h64
  have key : ∀ b, refOk v = b → (numOk v = true ∧ b = true ∨ numOk v = false ∧ b = namedOk v) → Calls Tryd.prog 161 #[.int .i64 v] w fun e w' => e = .returned (.bool b) ∧ w = w' := by
    intro b _ hb
    rcases hb with ⟨h1, rfl⟩ | ⟨h1, rfl⟩
    all_goals
      go_enter Tryd.func161, Tryd.ntmps161
      go_wp2_with (first | (go_at_call 35; refine (Number_any _ (by omega) (by omega) _).mono ?_; rintro e w' ⟨rfl, rfl⟩) | (go_at_call 29; refine (Named_any _ (by omega) (by omega) _).mono ?_; rintro e w' ⟨rfl, rfl⟩))
      all_goals (go_ret; exact ⟨rfl, rfl⟩)
  cases h1 : numOk v
  · exact key _ rfl (.inr ⟨h1, by simp [refOk, h1]⟩)
  · exact key _ rfl (.inl ⟨h1, by simp [refOk, h1]⟩)

def setE (L : List O) (o i v : Int) : Int := if placeE L o 1 i = 0 then (if refOk v = true then 0 else 2) else placeE L o 1 i
def setL (L : List O) (o i v : Int) : List O := match fnd L o with | none => L | some j => if setE L o i v = 0 then L.set j { ob L j with W := (ob L j).W.set i.toNat v } else L
def sbyteE (L : List O) (o i v : Int) : Int := if placeE L o 2 i = 0 then (if 0 ≤ v ∧ v ≤ 255 then 0 else 2) else placeE L o 2 i
def sbyteL (L : List O) (o i v : Int) : List O := match fnd L o with | none => L | some j => if sbyteE L o i v = 0 then L.set j { ob L j with B := (ob L j).B.set i.toNat v } else L

theorem placeE_cases {L : List O} (o kind i : Int) : (placeE L o kind i = 4 ∧ fnd L o = none) ∨ (∃ j, fnd L o = some j ∧ ¬ (ob L j).kind = kind ∧ placeE L o kind i = 20) ∨
    (∃ j, fnd L o = some j ∧ (ob L j).kind = kind ∧ ¬ (0 ≤ i ∧ i < szO (ob L j)) ∧ placeE L o kind i = 21) ∨ (∃ j, fnd L o = some j ∧ (ob L j).kind = kind ∧ (0 ≤ i ∧ i < szO (ob L j)) ∧ placeE L o kind i = 0) := by
  cases hf : fnd L o with
  | none => exact .inl ⟨by simp [placeE, hf], rfl⟩
  | some j =>
    by_cases hk : (ob L j).kind = kind
    · by_cases hi : 0 ≤ i ∧ i < szO (ob L j)
      · exact .inr (.inr (.inr ⟨j, rfl, hk, hi, by simp [placeE, hf, hk, hi]⟩))
      · exact .inr (.inr (.inl ⟨j, rfl, hk, hi, by simp [placeE, hf, hk, hi]⟩))
    · exact .inr (.inl ⟨j, rfl, hk, by simp [placeE, hf, hk]⟩)

theorem placeE_bd (L : List O) (o kind i : Int) : 0 ≤ placeE L o kind i ∧ placeE L o kind i ≤ 21 := by
  rcases placeE_cases (L := L) o kind i with h | ⟨j, h⟩ | ⟨j, h⟩ | ⟨j, h⟩ <;> omega

theorem FlatI.below (h : FlatI w m F L q es ad wv bv) (hb : Below w.heap.size w w') : FlatI w' m F L q es ad wv bv := h.keep (G := No) (Chg.of_below hb) (fun _ _ f => f)

theorem setW_ok {o : O} (h : o.ok) (h1 : o.kind = 1) {v : Int} (hv : refOk v = true) (i : Nat) : ({ o with W := o.W.set i v } : O).ok := by
  obtain ⟨a1, a2, a3, a4, a5, a6⟩ := h
  refine ⟨a1, ?_, by simpa using a3, a4, fun x hx => ?_, a6⟩
  · rcases a2 with a2 | a2
    · exact .inl a2
    · omega
  · rcases List.mem_or_eq_of_mem_set hx with h | h
    · exact a5 x h
    · rw [h]; exact hv
theorem setB_ok {o : O} (h : o.ok) (h1 : o.kind = 2) {v : Int} (hv : 0 ≤ v ∧ v ≤ 255) (i : Nat) : ({ o with B := o.B.set i v } : O).ok := by
  obtain ⟨a1, a2, a3, a4, a5, a6⟩ := h
  refine ⟨a1, ?_, a3, by simpa using a4, a5, fun x hx => ?_⟩
  · rcases a2 with a2 | a2
    · omega
    · exact .inr a2
  · rcases List.mem_or_eq_of_mem_set hx with h | h
    · exact a6 x h
    · rw [h]; exact hv

/-- what a setter leaves -/
def Setted (w : World) (m : Nat) (F : Nat → Prop) (L' : List O) (q : Nat) (es : List (Int × Value)) (ad : Nat → Nat) (wv bv : Nat → Value) (n : Int) (e : Ending) (w' : World) : Prop :=
  e = .returned (.int .i64 n) ∧ FlatI w' m F L' q es ad wv bv ∧ Chg F w w'

set_option maxRecDepth 100000 in
set_option maxHeartbeats 400000 in
theorem Set_bad (h : FlatI w m F L q es ad wv bv) (o i v : Int) (h64 : In64 o) (hE : ¬ placeE L o 1 i = 0) :
    Calls Tryd.prog 157 #[.pointer (some ⟨m, 0, none⟩), .int .i64 o, .int .i64 i, .int .i64 v] w (Setted w m F L q es ad wv bv (placeE L o 1 i)) := by
  have H := Lib.hid h
  have hne : (placeE L o 1 i == 0) = false := beq_eq_false_iff_ne.2 hE
  have key : ∀ n : Int, (n == 0) = false → (Calls Tryd.prog 48 #[.pointer (some ⟨m, 0, none⟩), .int .i64 o, .int .i64 1, .int .i64 i] w fun e w' => e = .returned (.tuple #[.pointer none, .int .i64 n]) ∧ Below w.heap.size w w') →
      Calls Tryd.prog 157 #[.pointer (some ⟨m, 0, none⟩), .int .i64 o, .int .i64 i, .int .i64 v] w (Setted w m F L q es ad wv bv n) := by
    intro n hn hp
    have HP := Lib.hid hp
    clear hp hne hE h
    go_enter Tryd.func157, Tryd.ntmps157
    go_wp2_with (go_at_call 48; refine (HP.out).mono ?_; rintro e w' ⟨rfl, hb⟩)
    go_ret
    exact ⟨rfl, H.out.below hb, Chg.of_below hb⟩
  refine key _ hne ?_
  rcases placeE_cases (L := L) o 1 i with ⟨h1, h2⟩ | ⟨j, h1, h2, h3⟩ | ⟨j, h1, h2, h3, h4⟩ | ⟨j, h1, h2, h3, h4⟩
  · rw [h1]; exact place_none h o 1 i h64 h2
  · rw [h3]; exact place_kind h o 1 i h64 h1 h2
  · rw [h4]; exact place_index h o 1 i h64 h1 h2 h3
  · exact absurd h4 hE

set_option maxRecDepth 100000 in
set_option maxHeartbeats 400000 in
theorem SetByte_bad (h : FlatI w m F L q es ad wv bv) (o i v : Int) (h64 : In64 o) (hE : ¬ placeE L o 2 i = 0) :
    Calls Tryd.prog 158 #[.pointer (some ⟨m, 0, none⟩), .int .i64 o, .int .i64 i, .int .i64 v] w (Setted w m F L q es ad wv bv (placeE L o 2 i)) := by
  have H := Lib.hid h
  have hne : (placeE L o 2 i == 0) = false := beq_eq_false_iff_ne.2 hE
  have key : ∀ n : Int, (n == 0) = false → (Calls Tryd.prog 48 #[.pointer (some ⟨m, 0, none⟩), .int .i64 o, .int .i64 2, .int .i64 i] w fun e w' => e = .returned (.tuple #[.pointer none, .int .i64 n]) ∧ Below w.heap.size w w') →
      Calls Tryd.prog 158 #[.pointer (some ⟨m, 0, none⟩), .int .i64 o, .int .i64 i, .int .i64 v] w (Setted w m F L q es ad wv bv n) := by
    intro n hn hp
    have HP := Lib.hid hp
    clear hp hne hE h
    go_enter Tryd.func158, Tryd.ntmps158
    go_wp2_with (go_at_call 48; refine (HP.out).mono ?_; rintro e w' ⟨rfl, hb⟩)
    go_ret
    exact ⟨rfl, H.out.below hb, Chg.of_below hb⟩
  refine key _ hne ?_
  rcases placeE_cases (L := L) o 2 i with ⟨h1, h2⟩ | ⟨j, h1, h2, h3⟩ | ⟨j, h1, h2, h3, h4⟩ | ⟨j, h1, h2, h3, h4⟩
  · rw [h1]; exact place_none h o 2 i h64 h2
  · rw [h3]; exact place_kind h o 2 i h64 h1 h2
  · rw [h4]; exact place_index h o 2 i h64 h1 h2 h3
  · exact absurd h4 hE

set_option maxRecDepth 100000 in
set_option maxHeartbeats 400000 in
theorem Set_ref (h : FlatI w m F L q es ad wv bv) (o i v : Int) (h64 : In64 o) (v64 : In64 v) (hE : placeE L o 1 i = 0) (hv : refOk v = false) :
    Calls Tryd.prog 157 #[.pointer (some ⟨m, 0, none⟩), .int .i64 o, .int .i64 i, .int .i64 v] w (Setted w m F L q es ad wv bv 2) := by
  rcases placeE_cases (L := L) o 1 i with ⟨h1, h2⟩ | ⟨j, h1, h2, h3⟩ | ⟨j, h1, h2, h3, h4⟩ | ⟨j, h1, h2, h3, h4⟩
  · omega
  · omega
  · omega
  have H := Lib.hid h
  clear h hE h4
  have H3 := Lib.hid h3
  clear h3
  go_enter Tryd.func157, Tryd.ntmps157
  go_wp2_with (first | (go_at_call 48; refine (place_ok H.out o 1 i h64 h1 h2 H3.out).mono ?_; rintro e w' ⟨rfl, hb⟩) | (go_at_call 161; refine (Ref_any _ v64 _).mono ?_; rintro e w' ⟨rfl, rfl⟩))
  go_ret
  exact ⟨rfl, H.out.below hb, Chg.of_below hb⟩

set_option maxRecDepth 100000 in
set_option maxHeartbeats 400000 in
theorem SetByte_byte (h : FlatI w m F L q es ad wv bv) (o i v : Int) (h64 : In64 o) (hE : placeE L o 2 i = 0) (hv : ¬ (0 ≤ v ∧ v ≤ 255)) :
    Calls Tryd.prog 158 #[.pointer (some ⟨m, 0, none⟩), .int .i64 o, .int .i64 i, .int .i64 v] w (Setted w m F L q es ad wv bv 2) := by
  rcases placeE_cases (L := L) o 2 i with ⟨h1, h2⟩ | ⟨j, h1, h2, h3⟩ | ⟨j, h1, h2, h3, h4⟩ | ⟨j, h1, h2, h3, h4⟩
  · omega
  · omega
  · omega
  have H := Lib.hid h
  clear h hE h4
  have H3 := Lib.hid h3
  clear h3
  have hc : v < 0 ∨ 255 < v := by omega
  clear hv
  rcases hc with hc | hc
  all_goals
    go_enter Tryd.func158, Tryd.ntmps158
    go_wp2_with (go_at_call 48; refine (place_ok H.out o 2 i h64 h1 h2 H3.out).mono ?_; rintro e w' ⟨rfl, hb⟩)
    go_ret
    exact ⟨rfl, H.out.below hb, Chg.of_below hb⟩

set_option maxRecDepth 100000 in
set_option maxHeartbeats 400000 in
theorem Set_ok (h : FlatI w m F L q es ad wv bv) (o i v : Int) (h64 : In64 o) (v64 : In64 v) {j : Nat} (hf : fnd L o = some j) (hk : (ob L j).kind = 1) (hi : 0 ≤ i ∧ i < szO (ob L j)) (hv : refOk v = true) :
    Calls Tryd.prog 157 #[.pointer (some ⟨m, 0, none⟩), .int .i64 o, .int .i64 i, .int .i64 v] w (Setted w m F (L.set j { ob L j with W := (ob L j).W.set i.toNat v }) q es ad wv bv 0) := by
  have H := Lib.hid h
  have hlive := (fnd_some hf).2.1
  have hsz : szO (ob L j) = (ob L j).W.length := by rw [szO, if_pos hk]
  have hi' := hi
  rw [hsz] at hi'
  obtain ⟨k, rfl⟩ := Int.eq_ofNat_of_zero_le hi.1
  have hown := h.own j hlive
  obtain ⟨g, cap, hwv, hgl, hcell, hfz⟩ := own_at hown.ws (by omega)
  have hck := hcell k (by omega)
  have hkl : k < (ob L j).W.length := by omega
  rw [List.getElem?_map, List.getElem?_eq_getElem hkl] at hck
  simp only [Option.map_some] at hck
  have c2 := hown.row.cell 2
  have hal := hown.row.lt
  rw [show (cells2 (ob L j) (wv j) (bv j))[2]? = some (wv j) from rfl, hwv] at c2
  have hkz : (k : Int) < (ob L j).W.length := by omega
  have fz := hfz k
  have Hi := Lib.hid hi
  have Hwv := Lib.hid hwv
  rw [Int.toNat_natCast]
  clear hi hcell hsz hwv hown h hi' hfz
  generalize hx : (ob L j).W[k] = x at *
  clear hx
  have Hend : ∀ w1, Below w.heap.size w w1 → FlatI (w1.setCell ⟨g, k, none⟩ (.int .i64 v)) m F (L.set j { ob L j with W := (ob L j).W.set k v }) q es ad wv bv ∧ Chg F w (w1.setCell ⟨g, k, none⟩ (.int .i64 v)) := by
    intro w1 hb
    have h1 := H.out.below hb
    have ho := h1.own j hlive
    have hws := ho.ws
    rw [Hwv.out] at hws
    obtain ⟨hs, _⟩ := hws.stored k (.int .i64 v)
    have hblk : (wv j).ownBlock = some g := by rw [Hwv.out]; rfl
    obtain ⟨cs, hrow⟩ := own_block ho.ws hblk
    refine ⟨h1.store (o' := { ob L j with W := (ob L j).W.set k v }) hlive hlive (setW_ok (h1.ok j hlive) hk hv k) ⟨ho.row.other (ho.row.ne hrow (by decide)) _, ?_, ?_⟩ ⟨_, cs, hrow, .inl ⟨rfl, hblk⟩⟩, (Chg.of_below hb).setCell (.inl ((h1.inF j hlive).2.1 g hblk)) _⟩
    · rw [Hwv.out]
      simpa [List.map_set] using hs
    · exact ownsRow_setCell_other ho.bs (by
        intro e
        obtain ⟨cs', hr'⟩ := own_block ho.bs e
        exact absurd (hrow.inj hr').1 (by decide)) _
  have HE := Lib.hid Hend
  clear Hend
  generalize hn : (ob L j).W.length = n at *
  clear hn
  go_enter Tryd.func157, Tryd.ntmps157
  go_wp2_with (first | (go_at_call 48; refine (place_ok H.out o 1 _ h64 hf hk Hi.out).mono ?_; rintro e w' ⟨rfl, hb⟩; have d2 := (hb.cell (p := ⟨ad j, 2, none⟩) hal).trans c2; have d3 := (hb.cell (p := ⟨g, k, none⟩) hgl).trans hck; have d4 := (hb.frozen (p := ⟨g, k, none⟩) hgl).trans fz) | (go_at_call 161; refine (Ref_any _ v64 _).mono ?_; rintro e w' ⟨rfl, rfl⟩))
  go_ret
  exact ⟨rfl, HE.out _ hb⟩

set_option maxRecDepth 100000 in
set_option maxHeartbeats 400000 in
theorem SetByte_ok (h : FlatI w m F L q es ad wv bv) (o i v : Int) (h64 : In64 o) {j : Nat} (hf : fnd L o = some j) (hk : (ob L j).kind = 2) (hi : 0 ≤ i ∧ i < szO (ob L j)) (hv : 0 ≤ v ∧ v ≤ 255) :
    Calls Tryd.prog 158 #[.pointer (some ⟨m, 0, none⟩), .int .i64 o, .int .i64 i, .int .i64 v] w (Setted w m F (L.set j { ob L j with B := (ob L j).B.set i.toNat v }) q es ad wv bv 0) := by
  have H := Lib.hid h
  have hlive := (fnd_some hf).2.1
  have hsz : szO (ob L j) = (ob L j).B.length := by rw [szO, if_neg (by omega), if_pos hk]
  have hi' := hi
  rw [hsz] at hi'
  obtain ⟨k, rfl⟩ := Int.eq_ofNat_of_zero_le hi.1
  have hown := h.own j hlive
  obtain ⟨g, cap, hwv, hgl, hcell, hfz⟩ := own_at hown.bs (by omega)
  have hck := hcell k (by omega)
  have hkl : k < (ob L j).B.length := by omega
  rw [List.getElem?_map, List.getElem?_eq_getElem hkl] at hck
  simp only [Option.map_some] at hck
  have c2 := hown.row.cell 3
  have hal := hown.row.lt
  rw [show (cells2 (ob L j) (wv j) (bv j))[3]? = some (bv j) from rfl, hwv] at c2
  have hkz : (k : Int) < (ob L j).B.length := by omega
  have fz := hfz k
  have Hi := Lib.hid hi
  have Hwv := Lib.hid hwv
  rw [Int.toNat_natCast]
  clear hi hcell hsz hwv hown h hi' hfz
  generalize hx : (ob L j).B[k] = x at *
  clear hx
  have Hend : ∀ w1, Below w.heap.size w w1 → FlatI (w1.setCell ⟨g, k, none⟩ (.int .u8 v)) m F (L.set j { ob L j with B := (ob L j).B.set k v }) q es ad wv bv ∧ Chg F w (w1.setCell ⟨g, k, none⟩ (.int .u8 v)) := by
    intro w1 hb
    have h1 := H.out.below hb
    have ho := h1.own j hlive
    have hws := ho.bs
    rw [Hwv.out] at hws
    obtain ⟨hs, _⟩ := hws.stored k (.int .u8 v)
    have hblk : (bv j).ownBlock = some g := by rw [Hwv.out]; rfl
    obtain ⟨cs, hrow⟩ := own_block ho.bs hblk
    refine ⟨h1.store (o' := { ob L j with B := (ob L j).B.set k v }) hlive hlive (setB_ok (h1.ok j hlive) hk hv k) ⟨ho.row.other (ho.row.ne hrow (by decide)) _, ?_, ?_⟩ ⟨_, cs, hrow, .inr ⟨rfl, hblk⟩⟩, (Chg.of_below hb).setCell (.inl ((h1.inF j hlive).2.2 g hblk)) _⟩
    · exact ownsRow_setCell_other ho.ws (by
        intro e
        obtain ⟨cs', hr'⟩ := own_block ho.ws e
        exact absurd (hrow.inj hr').1 (by decide)) _
    · rw [Hwv.out]
      simpa [List.map_set] using hs
  have HE := Lib.hid Hend
  clear Hend
  generalize hn : (ob L j).B.length = n at *
  clear hn
  obtain ⟨v1, v2⟩ := hv
  go_enter Tryd.func158, Tryd.ntmps158
  go_wp2_with (go_at_call 48; refine (place_ok H.out o 2 _ h64 hf hk Hi.out).mono ?_; rintro e w' ⟨rfl, hb⟩; have d2 := (hb.cell (p := ⟨ad j, 3, none⟩) hal).trans c2; have d3 := (hb.cell (p := ⟨g, k, none⟩) hgl).trans hck; have d4 := (hb.frozen (p := ⟨g, k, none⟩) hgl).trans fz)
  go_ret
  exact ⟨rfl, HE.out _ hb⟩

end

end Go.Proofs.YtncoanmgifgcbaaDoor
