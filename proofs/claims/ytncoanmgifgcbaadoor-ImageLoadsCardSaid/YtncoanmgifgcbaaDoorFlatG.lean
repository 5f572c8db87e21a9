/- A flat memory's functions, each by one contract: what is kept goes along. · A flat memory's functions, each by one contract: what is kept goes along, and may speak of the blocks that the memory keeps out of. -/
import Derived.Test.YtncoanmgifgcbaaDoorFlatE
namespace Go.Proofs.YtncoanmgifgcbaaDoor
set_option linter.unusedVariables false
set_option linter.unusedSimpArgs false
open Go.RowKit

/-- Behind w0: the memory at m stands for L, nothing that was is changed, and K holds, and goes on to hold whatever the memory does. -/
def Mem (w0 w : World) (m : Nat) (L : List O) (K : World → Prop) : Prop :=
  ∃ F, Flat w m F L ∧ Chg No w0 w ∧ (∀ b, F b → w0.heap.size ≤ b) ∧ ∀ w', Chg F w w' → K w'

section
variable {w0 w w' : World} {m : Nat} {L L' : List O} {K : World → Prop} {F F' : Nat → Prop}
theorem Mem.kept (h : Mem w0 w m L K) : K w := by
  obtain ⟨F, _, _, _, hK⟩ := h
  exact hK w (Chg.refl _ _)
theorem Mem.chg (h : Mem w0 w m L K) : Chg No w0 w := by
  obtain ⟨F, _, hc, _⟩ := h
  exact hc
theorem Mem.go (hf : Flat w m F L) (hc : Chg No w0 w) (hF : ∀ b, F b → w0.heap.size ≤ b) (hK : ∀ w', Chg F w w' → K w')
    (hf' : Flat w' m F' L') (c : Chg F w w') (hF' : ∀ b, F' b → F b ∨ w.heap.size ≤ b) : Mem w0 w' m L' K := by
  refine ⟨F', hf', hc.then c (fun i hi h => absurd (hF i h) (by omega)), fun b hb => ?_, fun w2 c2 => hK w2 (c.then c2 fun i hi h => ?_)⟩
  · rcases hF' b hb with h | h
    · exact hF b h
    · exact Nat.le_trans hc.size h
  · rcases hF' i h with h | h
    · exact h
    · omega
/-- new blocks alone -/
theorem Mem.world (h : Mem w0 w m L K) (c : Chg No w w') : Mem w0 w' m L K := by
  obtain ⟨F, hf, hc, hF, hK⟩ := h
  exact Mem.go hf hc hF hK (hf.keep c (fun _ _ f => f)) c.no (fun b hb => .inl hb)
/-- one more thing is kept: it lies in blocks of S -/
theorem Mem.also {K2 : World → Prop} (h : Mem w0 w m L K) (c : Chg No w w') (h2 : ∀ G : Nat → Prop, (∀ b, G b → b < w.heap.size ∧ w0.heap.size ≤ b) → ∀ w2, Chg G w' w2 → K2 w2) : Mem w0 w' m L (fun v => K v ∧ K2 v) := by
  obtain ⟨F, hf, hc, hF, hK⟩ := h.world c
  obtain ⟨F0, hf0, hc0, hF0, hK0⟩ := h
  exact ⟨F0, hf0.keep c (fun _ _ f => f), hc0.trans c, hF0, fun w2 c2 => ⟨hK0 w2 (c.no.trans c2), h2 F0 (fun b hb => ⟨hf0.lt hb, hF0 b hb⟩) w2 c2⟩⟩
theorem Mem.mono {K2 : World → Prop} (h : Mem w0 w m L K) (hK : ∀ v, K v → K2 v) : Mem w0 w m L K2 := by
  obtain ⟨F, h1, h2, h3, h4⟩ := h
  exact ⟨F, h1, h2, h3, fun w' c => hK _ (h4 w' c)⟩

def newN (L : List O) (c k s : Int) : Int := if blankOk c k s = true then 2 * ((L.length : Int) + 1) else 0
def newE (c k s : Int) : Int := if blankOk c k s = true then 0 else 2
def newL (L : List O) (c k s : Int) : List O := if blankOk c k s = true then L ++ [newO c k s] else L
def objE (L : List O) (o : Int) : Int := match fnd L o with | none => 4 | some _ => 0
def objV (L : List O) (o : Int) : O := match fnd L o with | none => O.zero | some i => ob L i

theorem m_flatNew (hc : Chg No w0 w) : Calls Tryd.prog 9 #[] w fun e w' => ∃ m, e = .returned (.pointer (some ⟨m, 0, none⟩)) ∧ Mem w0 w' m [] (fun _ => True) := by
  refine (flatNew_any w).mono ?_
  rintro e w' ⟨v, rfl, m, F, rfl, hf, c, hF⟩
  exact ⟨m, rfl, F, hf, hc.trans c, fun b hb => Nat.le_trans hc.size (hF b hb), fun _ _ => trivial⟩

theorem m_New (h : Mem w0 w m L K) (c k s : Int) (hc : In64 c) (hk : In64 k) (hs : In64 s) (hn : L.length + 1 < 1073741823) :
    Calls Tryd.prog 154 #[.pointer (some ⟨m, 0, none⟩), .int .i64 c, .int .i64 k, .int .i64 s] w fun e w' => e = .returned (.tuple #[.int .i64 (newN L c k s), .int .i64 (newE c k s)]) ∧ Mem w0 w' m (newL L c k s) K := by
  obtain ⟨F, hf, hc0, hF, hK⟩ := h
  obtain ⟨q, es, ad, wv, bv, hi⟩ := hf
  cases hb : blankOk c k s
  · refine (New_bad hi c k s hc hk hs hb).mono ?_
    rintro e w' ⟨v, rfl, rfl, c1⟩
    refine ⟨by simp [newN, newE, hb], ?_⟩
    simp only [newL, hb]
    exact Mem.world ⟨F, ⟨q, es, ad, wv, bv, hi⟩, hc0, hF, hK⟩ c1
  · refine (New_ok hi c k s hb hn).mono ?_
    rintro e w' ⟨v, rfl, rfl, F', hf', c1, hF', _⟩
    refine ⟨by simp [newN, newE, hb], ?_⟩
    simp only [newL, hb, if_true]
    exact Mem.go ⟨q, es, ad, wv, bv, hi⟩ hc0 hF hK hf' c1 hF'

theorem m_Obj (h : Mem w0 w m L K) (o : Int) (ho : In64 o) :
    Calls Tryd.prog 156 #[.pointer (some ⟨m, 0, none⟩), .int .i64 o] w fun e w' => ∃ r, e = .returned (.tuple #[r, .int .i64 (objE L o)]) ∧ Mem w0 w' m L (fun v => K v ∧ ObjR v (fun _ => True) r (objV L o)) ∧ ObjR w' (fun _ => True) r (objV L o) := by
  have h0 := h
  obtain ⟨F, hf, hc0, hF, hK⟩ := h
  obtain ⟨q, es, ad, wv, bv, hi⟩ := hf
  cases hb : fnd L o with
  | none =>
    refine (Obj_none hi o ho hb).mono ?_
    rintro e w' ⟨v, rfl, rfl, c1⟩
    simp only [objE, objV, hb]
    refine ⟨_, rfl, ?_⟩
    exact ⟨h0.also c1 fun _ _ w2 _ => ObjR.zero _ _, ObjR.zero _ _⟩
  | some i =>
    refine (Obj_some hi o ho hb).mono ?_
    rintro e w' ⟨v, rfl, r, rfl, c1, hr⟩
    simp only [objE, objV, hb]
    refine ⟨_, rfl, ?_⟩
    exact ⟨h0.also c1 fun G hG w2 c2 => (hr.keep c2 (fun b hb h => by have := hG b h; omega)).more (fun _ _ _ => trivial), hr.more (fun _ _ _ => trivial)⟩

theorem m_Fetch (h : Mem w0 w m L K) (o i : Int) (ho : In64 o) :
    Calls Tryd.prog 21 #[.pointer (some ⟨m, 0, none⟩), .int .i64 o, .int .i64 i] w fun e w' => e = .returned (.tuple #[.int .i64 (fetchV L o i), .int .i64 (placeE L o 1 i)]) ∧ Mem w0 w' m L K := by
  have h0 := h
  obtain ⟨F, ⟨q, es, ad, wv, bv, hi⟩, hc0, hF, hK⟩ := h
  refine (Fetch_any hi o i ho).mono ?_
  rintro e w' ⟨rfl, c1⟩
  exact ⟨rfl, h0.world (Chg.of_below c1)⟩

theorem m_Byte (h : Mem w0 w m L K) (o i : Int) (ho : In64 o) :
    Calls Tryd.prog 153 #[.pointer (some ⟨m, 0, none⟩), .int .i64 o, .int .i64 i] w fun e w' => e = .returned (.tuple #[.int .i64 (byteV L o i), .int .i64 (placeE L o 2 i)]) ∧ Mem w0 w' m L K := by
  have h0 := h
  obtain ⟨F, ⟨q, es, ad, wv, bv, hi⟩, hc0, hF, hK⟩ := h
  refine (Byte_any hi o i ho).mono ?_
  rintro e w' ⟨rfl, c1⟩
  exact ⟨rfl, h0.world (Chg.of_below c1)⟩

theorem m_Made (h : Mem w0 w m L K) :
    Calls Tryd.prog 12 #[.pointer (some ⟨m, 0, none⟩)] w fun e w' => e = .returned (.int .i64 L.length) ∧ Mem w0 w' m L K := by
  have h0 := h
  obtain ⟨F, ⟨q, es, ad, wv, bv, hi⟩, hc0, hF, hK⟩ := h
  refine (Made_any hi).mono ?_
  rintro e w' ⟨rfl, rfl⟩
  exact ⟨rfl, h0⟩

theorem m_Set (h : Mem w0 w m L K) (o i v : Int) (ho : In64 o) (hv : In64 v) :
    Calls Tryd.prog 157 #[.pointer (some ⟨m, 0, none⟩), .int .i64 o, .int .i64 i, .int .i64 v] w fun e w' => e = .returned (.int .i64 (setE L o i v)) ∧ Mem w0 w' m (setL L o i v) K := by
  obtain ⟨F, ⟨q, es, ad, wv, bv, hi⟩, hc0, hF, hK⟩ := h
  have key : ∀ (L' : List O) (n : Int) e w', Setted w m F L' q es ad wv bv n e w' → e = .returned (.int .i64 n) ∧ Mem w0 w' m L' K := by
    rintro L' n e w' ⟨h1, h2, h3⟩
    exact ⟨h1, Mem.go ⟨q, es, ad, wv, bv, hi⟩ hc0 hF hK ⟨q, es, ad, wv, bv, h2⟩ h3 (fun b hb => .inl hb)⟩
  by_cases hp : placeE L o 1 i = 0
  · cases hr : refOk v
    · have e1 : setE L o i v = 2 := by simp [setE, hp, hr]
      have e2 : setL L o i v = L := by
        unfold setL
        split
        · rfl
        · rw [if_neg (by rw [e1]; decide)]
      rw [e1, e2]
      exact (Set_ref hi o i v ho hv hp hr).mono (key L 2)
    · rcases placeE_cases (L := L) o 1 i with ⟨h1, h2⟩ | ⟨j, h1, h2, h3⟩ | ⟨j, h1, h2, h3, h4⟩ | ⟨j, h1, h2, h3, h4⟩
      · omega
      · omega
      · omega
      · have e1 : setE L o i v = 0 := by simp [setE, hp, hr]
        rw [show setL L o i v = L.set j { ob L j with W := (ob L j).W.set i.toNat v } by simp [setL, h1, e1], e1]
        exact (Set_ok hi o i v ho hv h1 h2 h3 hr).mono (key _ 0)
  · have e1 : setE L o i v = placeE L o 1 i := by simp [setE, hp]
    have e2 : setL L o i v = L := by
      unfold setL
      split
      · rfl
      · rw [if_neg (by rw [e1]; exact hp)]
    rw [e1, e2]
    exact (Set_bad hi o i v ho hp).mono (key L _)

theorem m_SetByte (h : Mem w0 w m L K) (o i v : Int) (ho : In64 o) :
    Calls Tryd.prog 158 #[.pointer (some ⟨m, 0, none⟩), .int .i64 o, .int .i64 i, .int .i64 v] w fun e w' => e = .returned (.int .i64 (sbyteE L o i v)) ∧ Mem w0 w' m (sbyteL L o i v) K := by
  obtain ⟨F, ⟨q, es, ad, wv, bv, hi⟩, hc0, hF, hK⟩ := h
  have key : ∀ (L' : List O) (n : Int) e w', Setted w m F L' q es ad wv bv n e w' → e = .returned (.int .i64 n) ∧ Mem w0 w' m L' K := by
    rintro L' n e w' ⟨h1, h2, h3⟩
    exact ⟨h1, Mem.go ⟨q, es, ad, wv, bv, hi⟩ hc0 hF hK ⟨q, es, ad, wv, bv, h2⟩ h3 (fun b hb => .inl hb)⟩
  by_cases hp : placeE L o 2 i = 0
  · by_cases hr : 0 ≤ v ∧ v ≤ 255
    · rcases placeE_cases (L := L) o 2 i with ⟨h1, h2⟩ | ⟨j, h1, h2, h3⟩ | ⟨j, h1, h2, h3, h4⟩ | ⟨j, h1, h2, h3, h4⟩
      · omega
      · omega
      · omega
      · have e1 : sbyteE L o i v = 0 := by simp [sbyteE, hp, hr]
        rw [show sbyteL L o i v = L.set j { ob L j with B := (ob L j).B.set i.toNat v } by simp [sbyteL, h1, e1], e1]
        exact (SetByte_ok hi o i v ho h1 h2 h3 hr).mono (key _ 0)
    · have e1 : sbyteE L o i v = 2 := by rw [sbyteE, if_pos hp, if_neg hr]
      have e2 : sbyteL L o i v = L := by
        unfold sbyteL
        split
        · rfl
        · rw [if_neg (by rw [e1]; decide)]
      rw [e1, e2]
      exact (SetByte_byte hi o i v ho hp hr).mono (key L 2)
  · have e1 : sbyteE L o i v = placeE L o 2 i := by simp [sbyteE, hp]
    have e2 : sbyteL L o i v = L := by
      unfold sbyteL
      split
      · rfl
      · rw [if_neg (by rw [e1]; exact hp)]
    rw [e1, e2]
    exact (SetByte_bad hi o i v ho hp).mono (key L _)

set_option maxHeartbeats 400000 in
theorem Set_nil (o i v : Int) (w : World) :
    Calls Tryd.prog 157 #[.pointer none, .int .i64 o, .int .i64 i, .int .i64 v] w fun e w' => e = .returned (.int .i64 1) ∧ Chg No w w' := by
  go_enter Tryd.func157, Tryd.ntmps157
  go_wp2_with (go_at_call 48; refine (place_nil o 1 i _).mono ?_; rintro e w' ⟨rfl, hb⟩)
  go_ret
  exact ⟨rfl, Chg.of_below hb⟩
end

def knownL : List O := setL (newL [] 2 1 2) 2 0 7

/-- Behind w0: the memory at m stands for L, nothing that was is changed, and K holds (of the memory's blocks and the world), and goes on to hold whatever the memory does. -/
def MemK (w0 w : World) (m : Nat) (L : List O) (K : (Nat → Prop) → World → Prop) : Prop :=
  ∃ F, Flat w m F L ∧ Chg No w0 w ∧ (∀ b, F b → w0.heap.size ≤ b) ∧ ∀ F' w', (∀ b, F b → F' b) → (∀ b, F' b → F b ∨ w.heap.size ≤ b) → Chg F w w' → K F' w'

section
variable {w0 w w' : World} {m : Nat} {L L' : List O} {K : (Nat → Prop) → World → Prop} {F F' : Nat → Prop}
theorem MemK.chg (h : MemK w0 w m L K) : Chg No w0 w := by
  obtain ⟨F, _, hc, _⟩ := h
  exact hc
theorem MemK.opened (h : MemK w0 w m L K) : ∃ F, Flat w m F L ∧ (∀ b, F b → w0.heap.size ≤ b) ∧ K F w := by
  obtain ⟨F, hf, _, hF, hK⟩ := h
  exact ⟨F, hf, hF, hK F w (fun _ h => h) (fun _ h => .inl h) (Chg.refl _ _)⟩
theorem MemK.go (hf : Flat w m F L) (hc : Chg No w0 w) (hF : ∀ b, F b → w0.heap.size ≤ b) (hK : ∀ F' w', (∀ b, F b → F' b) → (∀ b, F' b → F b ∨ w.heap.size ≤ b) → Chg F w w' → K F' w')
    (hf' : Flat w' m F' L') (c : Chg F w w') (hF' : ∀ b, F' b → F b ∨ w.heap.size ≤ b) (hFF : ∀ b, F b → F' b) : MemK w0 w' m L' K := by
  refine ⟨F', hf', hc.then c (fun i hi h => absurd (hF i h) (by omega)), fun b hb => ?_, fun F2 w2 h1 h2 c2 => hK F2 w2 (fun b hb => h1 b (hFF b hb)) (fun b hb => ?_) (c.then c2 fun i hi h => ?_)⟩
  · rcases hF' b hb with h | h
    · exact hF b h
    · exact Nat.le_trans hc.size h
  · rcases h2 b hb with h | h
    · exact hF' b h
    · exact .inr (Nat.le_trans c.size h)
  · rcases hF' i h with h | h
    · exact h
    · omega
/-- new blocks alone -/
theorem MemK.world (h : MemK w0 w m L K) (c : Chg No w w') : MemK w0 w' m L K := by
  obtain ⟨F, hf, hc, hF, hK⟩ := h
  exact MemK.go hf hc hF hK (hf.keep c (fun _ _ f => f)) c.no (fun b hb => .inl hb) (fun _ h => h)
/-- something else is kept, by what was kept -/
theorem MemK.now {K2 : (Nat → Prop) → World → Prop} (h : MemK w0 w m L K) (c : Chg No w w')
    (h2 : ∀ G : Nat → Prop, (∀ b, G b → b < w.heap.size ∧ w0.heap.size ≤ b) → K G w → ∀ G' w2, (∀ b, G b → G' b) → (∀ b, G' b → G b ∨ w'.heap.size ≤ b) → Chg G w' w2 → K G' w2 → K2 G' w2) : MemK w0 w' m L K2 := by
  obtain ⟨F, hf, hc, hF, hK⟩ := h
  refine ⟨F, hf.keep c (fun _ _ f => f), hc.trans c, hF, fun F2 w2 h1 h3 c2 => ?_⟩
  refine h2 F (fun b hb => ⟨hf.lt hb, hF b hb⟩) (hK F w (fun _ h => h) (fun _ h => .inl h) (Chg.refl _ _)) F2 w2 h1 h3 c2 (hK F2 w2 h1 (fun b hb => ?_) (c.no.trans c2))
  rcases h3 b hb with h | h
  · exact .inl h
  · exact .inr (Nat.le_trans c.size h)
/-- one more thing is kept: it lies in blocks of S -/
theorem MemK.also {K2 : World → Prop} (h : MemK w0 w m L K) (c : Chg No w w') (h2 : ∀ G : Nat → Prop, (∀ b, G b → b < w.heap.size ∧ w0.heap.size ≤ b) → ∀ w2, Chg G w' w2 → K2 w2) : MemK w0 w' m L (fun F v => K F v ∧ K2 v) :=
  h.now c fun G hG _ _ w2 _ _ c2 hk => ⟨hk, h2 G hG w2 c2⟩
theorem MemK.mono {K2 : (Nat → Prop) → World → Prop} (h : MemK w0 w m L K) (hK : ∀ F v, K F v → K2 F v) : MemK w0 w m L K2 := by
  obtain ⟨F, h1, h2, h3, h4⟩ := h
  exact ⟨F, h1, h2, h3, fun F' w' a b c => hK _ _ (h4 F' w' a b c)⟩
theorem MemK.obj (h : MemK w0 w m L K) {r : Value} {o : O} (c : Chg No w w') (hr : ObjR w' (fun b => w.heap.size ≤ b) r o) : MemK w0 w' m L (fun F v => K F v ∧ ObjR v (fun b => ¬ F b) r o) :=
  h.now c fun G hG _ G' w2 h1 h3 c2 hk => ⟨hk, ((hr.more fun b hb hS => (fun hg => by
    rcases h3 b hg with h | h
    · have := (hG b h).1; omega
    · omega : ¬ G' b)).keep c2 fun b hb hg => hb (h1 b hg))⟩

theorem k_flatNew (hc : Chg No w0 w) : Calls Tryd.prog 9 #[] w fun e w' => ∃ m, e = .returned (.pointer (some ⟨m, 0, none⟩)) ∧ MemK w0 w' m [] (fun _ _ => True) := by
  refine (flatNew_any w).mono ?_
  rintro e w' ⟨v, rfl, m, F, rfl, hf, c, hF⟩
  exact ⟨m, rfl, F, hf, hc.trans c, fun b hb => Nat.le_trans hc.size (hF b hb), fun _ _ _ _ _ => trivial⟩

theorem k_New (h : MemK w0 w m L K) (c k s : Int) (hc : In64 c) (hk : In64 k) (hs : In64 s) (hn : L.length + 1 < 1073741823) :
    Calls Tryd.prog 154 #[.pointer (some ⟨m, 0, none⟩), .int .i64 c, .int .i64 k, .int .i64 s] w fun e w' => e = .returned (.tuple #[.int .i64 (newN L c k s), .int .i64 (newE c k s)]) ∧ MemK w0 w' m (newL L c k s) K := by
  obtain ⟨F, hf, hc0, hF, hK⟩ := h
  obtain ⟨q, es, ad, wv, bv, hi⟩ := hf
  cases hb : blankOk c k s
  · refine (New_bad hi c k s hc hk hs hb).mono ?_
    rintro e w' ⟨v, rfl, rfl, c1⟩
    refine ⟨by simp [newN, newE, hb], ?_⟩
    simp only [newL, hb]
    exact MemK.world ⟨F, ⟨q, es, ad, wv, bv, hi⟩, hc0, hF, hK⟩ c1
  · refine (New_ok hi c k s hb hn).mono ?_
    rintro e w' ⟨v, rfl, rfl, F', hf', c1, hF', hFF⟩
    refine ⟨by simp [newN, newE, hb], ?_⟩
    simp only [newL, hb, if_true]
    exact MemK.go ⟨q, es, ad, wv, bv, hi⟩ hc0 hF hK hf' c1 hF' hFF

theorem k_Obj (h : MemK w0 w m L K) (o : Int) (ho : In64 o) :
    Calls Tryd.prog 156 #[.pointer (some ⟨m, 0, none⟩), .int .i64 o] w fun e w' => ∃ r, e = .returned (.tuple #[r, .int .i64 (objE L o)]) ∧ MemK w0 w' m L (fun F v => K F v ∧ ObjR v (fun b => ¬ F b) r (objV L o)) ∧ ObjR w' (fun b => w.heap.size ≤ b) r (objV L o) := by
  have h0 := h
  obtain ⟨F, hf, hc0, hF, hK⟩ := h
  obtain ⟨q, es, ad, wv, bv, hi⟩ := hf
  cases hb : fnd L o with
  | none =>
    refine (Obj_none hi o ho hb).mono ?_
    rintro e w' ⟨v, rfl, rfl, c1⟩
    simp only [objE, objV, hb]
    exact ⟨_, rfl, h0.obj c1 (ObjR.zero _ _), ObjR.zero _ _⟩
  | some i =>
    refine (Obj_some hi o ho hb).mono ?_
    rintro e w' ⟨v, rfl, r, rfl, c1, hr⟩
    simp only [objE, objV, hb]
    exact ⟨_, rfl, h0.obj c1 hr, hr⟩

theorem k_Fetch (h : MemK w0 w m L K) (o i : Int) (ho : In64 o) :
    Calls Tryd.prog 21 #[.pointer (some ⟨m, 0, none⟩), .int .i64 o, .int .i64 i] w fun e w' => e = .returned (.tuple #[.int .i64 (fetchV L o i), .int .i64 (placeE L o 1 i)]) ∧ MemK w0 w' m L K := by
  have h0 := h
  obtain ⟨F, ⟨q, es, ad, wv, bv, hi⟩, hc0, hF, hK⟩ := h
  refine (Fetch_any hi o i ho).mono ?_
  rintro e w' ⟨rfl, c1⟩
  exact ⟨rfl, h0.world (Chg.of_below c1)⟩

theorem k_Byte (h : MemK w0 w m L K) (o i : Int) (ho : In64 o) :
    Calls Tryd.prog 153 #[.pointer (some ⟨m, 0, none⟩), .int .i64 o, .int .i64 i] w fun e w' => e = .returned (.tuple #[.int .i64 (byteV L o i), .int .i64 (placeE L o 2 i)]) ∧ MemK w0 w' m L K := by
  have h0 := h
  obtain ⟨F, ⟨q, es, ad, wv, bv, hi⟩, hc0, hF, hK⟩ := h
  refine (Byte_any hi o i ho).mono ?_
  rintro e w' ⟨rfl, c1⟩
  exact ⟨rfl, h0.world (Chg.of_below c1)⟩

theorem k_Made (h : MemK w0 w m L K) :
    Calls Tryd.prog 12 #[.pointer (some ⟨m, 0, none⟩)] w fun e w' => e = .returned (.int .i64 L.length) ∧ MemK w0 w' m L K := by
  have h0 := h
  obtain ⟨F, ⟨q, es, ad, wv, bv, hi⟩, hc0, hF, hK⟩ := h
  refine (Made_any hi).mono ?_
  rintro e w' ⟨rfl, rfl⟩
  exact ⟨rfl, h0⟩

theorem k_Set (h : MemK w0 w m L K) (o i v : Int) (ho : In64 o) (hv : In64 v) :
    Calls Tryd.prog 157 #[.pointer (some ⟨m, 0, none⟩), .int .i64 o, .int .i64 i, .int .i64 v] w fun e w' => e = .returned (.int .i64 (setE L o i v)) ∧ MemK w0 w' m (setL L o i v) K := by
  obtain ⟨F, ⟨q, es, ad, wv, bv, hi⟩, hc0, hF, hK⟩ := h
  have key : ∀ (L' : List O) (n : Int) e w', Setted w m F L' q es ad wv bv n e w' → e = .returned (.int .i64 n) ∧ MemK w0 w' m L' K := by
    rintro L' n e w' ⟨h1, h2, h3⟩
    exact ⟨h1, MemK.go ⟨q, es, ad, wv, bv, hi⟩ hc0 hF hK ⟨q, es, ad, wv, bv, h2⟩ h3 (fun b hb => .inl hb) (fun _ h => h)⟩
  by_cases hp : placeE L o 1 i = 0
  · cases hr : refOk v
    · have e1 : setE L o i v = 2 := by simp [setE, hp, hr]
      have e2 : setL L o i v = L := by
        unfold setL
        split
        · rfl
        · rw [if_neg (by rw [e1]; decide)]
      rw [e1, e2]
      exact (Set_ref hi o i v ho hv hp hr).mono (key L 2)
    · rcases placeE_cases (L := L) o 1 i with ⟨h1, h2⟩ | ⟨j, h1, h2, h3⟩ | ⟨j, h1, h2, h3, h4⟩ | ⟨j, h1, h2, h3, h4⟩
      · omega
      · omega
      · omega
      · have e1 : setE L o i v = 0 := by simp [setE, hp, hr]
        rw [show setL L o i v = L.set j { ob L j with W := (ob L j).W.set i.toNat v } by simp [setL, h1, e1], e1]
        exact (Set_ok hi o i v ho hv h1 h2 h3 hr).mono (key _ 0)
  · have e1 : setE L o i v = placeE L o 1 i := by simp [setE, hp]
    have e2 : setL L o i v = L := by
      unfold setL
      split
      · rfl
      · rw [if_neg (by rw [e1]; exact hp)]
    rw [e1, e2]
    exact (Set_bad hi o i v ho hp).mono (key L _)

theorem k_SetByte (h : MemK w0 w m L K) (o i v : Int) (ho : In64 o) :
    Calls Tryd.prog 158 #[.pointer (some ⟨m, 0, none⟩), .int .i64 o, .int .i64 i, .int .i64 v] w fun e w' => e = .returned (.int .i64 (sbyteE L o i v)) ∧ MemK w0 w' m (sbyteL L o i v) K := by
  obtain ⟨F, ⟨q, es, ad, wv, bv, hi⟩, hc0, hF, hK⟩ := h
  have key : ∀ (L' : List O) (n : Int) e w', Setted w m F L' q es ad wv bv n e w' → e = .returned (.int .i64 n) ∧ MemK w0 w' m L' K := by
    rintro L' n e w' ⟨h1, h2, h3⟩
    exact ⟨h1, MemK.go ⟨q, es, ad, wv, bv, hi⟩ hc0 hF hK ⟨q, es, ad, wv, bv, h2⟩ h3 (fun b hb => .inl hb) (fun _ h => h)⟩
  by_cases hp : placeE L o 2 i = 0
  · by_cases hr : 0 ≤ v ∧ v ≤ 255
    · rcases placeE_cases (L := L) o 2 i with ⟨h1, h2⟩ | ⟨j, h1, h2, h3⟩ | ⟨j, h1, h2, h3, h4⟩ | ⟨j, h1, h2, h3, h4⟩
      · omega
      · omega
      · omega
      · have e1 : sbyteE L o i v = 0 := by simp [sbyteE, hp, hr]
        rw [show sbyteL L o i v = L.set j { ob L j with B := (ob L j).B.set i.toNat v } by simp [sbyteL, h1, e1], e1]
        exact (SetByte_ok hi o i v ho h1 h2 h3 hr).mono (key _ 0)
    · have e1 : sbyteE L o i v = 2 := by rw [sbyteE, if_pos hp, if_neg hr]
      have e2 : sbyteL L o i v = L := by
        unfold sbyteL
        split
        · rfl
        · rw [if_neg (by rw [e1]; decide)]
      rw [e1, e2]
      exact (SetByte_byte hi o i v ho hp hr).mono (key L 2)
  · have e1 : sbyteE L o i v = placeE L o 2 i := by simp [sbyteE, hp]
    have e2 : sbyteL L o i v = L := by
      unfold sbyteL
      split
      · rfl
      · rw [if_neg (by rw [e1]; exact hp)]
    rw [e1, e2]
    exact (SetByte_bad hi o i v ho hp).mono (key L _)

theorem k_ObjC (h : MemK w0 w m L K) (o : Int) (ho : In64 o) :
    Calls Tryd.prog 156 #[.pointer (some ⟨m, 0, none⟩), .int .i64 o] w fun e w' => ∃ r, e = .returned (.tuple #[r, .int .i64 (objE L o)]) ∧ MemK w0 w' m L K ∧ ObjR w' (fun b => w.heap.size ≤ b) r (objV L o) ∧ Chg No w w' := by
  have h0 := h
  obtain ⟨F, hf, hc0, hF, hK⟩ := h
  obtain ⟨q, es, ad, wv, bv, hi⟩ := hf
  cases hb : fnd L o with
  | none =>
    refine (Obj_none hi o ho hb).mono ?_
    rintro e w' ⟨v, rfl, rfl, c1⟩
    simp only [objE, objV, hb]
    exact ⟨_, rfl, h0.world c1, ObjR.zero _ _, c1⟩
  | some i =>
    refine (Obj_some hi o ho hb).mono ?_
    rintro e w' ⟨v, rfl, r, rfl, c1, hr⟩
    simp only [objE, objV, hb]
    exact ⟨_, rfl, h0.world c1, hr, c1⟩
theorem k_Made0 (h : MemK w0 w m L K) :
    Calls Tryd.prog 12 #[.pointer (some ⟨m, 0, none⟩)] w fun e w' => e = .returned (.int .i64 L.length) ∧ w = w' := by
  obtain ⟨F, ⟨q, es, ad, wv, bv, hi⟩, hc0, hF, hK⟩ := h
  exact Made_any hi

end

theorem ObjR.shape {w : World} {S : Nat → Prop} {v : Value} {o : O} (h : ObjR w S v o) : ∃ A c B d, v = .agg #[.int .i64 o.cls, .int .i64 o.kind, .slice A o.W.length c, .slice B o.B.length d] := by
  obtain ⟨wv, bv, rfl, h1, h2, -⟩ := h
  obtain ⟨A, c, rfl, -⟩ := h1.form
  obtain ⟨B, d, rfl, -⟩ := h2.form
  exact ⟨A, c, B, d, rfl⟩

end Go.Proofs.YtncoanmgifgcbaaDoor
