/- Words for memory: what may have changed between two worlds; slices that read as lists; maps with integer keys. No program is named here. · Walks of the library's functions: slices.Repeat of one number, slices.Clone. -/
import Derived.Test.YtncoanmgifgcbaaDoorProg
import Derived.WalkKit
import Derived.WalkSpells
import Derived.WalkLawsBesides
import Derived.Lib.Hide
import Derived.OneCell
import Derived.MapKept
import Derived.ChangeMaps5
import Derived.BigQuiet
import Derived.Deep.QuietTactic
import Derived.Deep.LoopGhost
import Derived.Outline
import Derived.Laws.CopyOwn
import Derived.Deep.RegionLaw
import Derived.Deep.DeepMust
namespace Go.Proofs.YtncoanmgifgcbaaDoor
set_option linter.unusedVariables false
set_option linter.unusedSimpArgs false
open Go.RowKit
open Go.ChangeMaps (setBlock)

/-- w' is w, but for new blocks and the blocks of F. -/
structure Chg (F : Nat → Prop) (w w' : World) : Prop where
  os : w'.os = w.os
  tape : w'.tape = w.tape
  output : w'.output = w.output
  size : w.heap.size ≤ w'.heap.size
  block : ∀ k, k < w.heap.size → ¬ F k → w'.heap[k]? = w.heap[k]?

def No : Nat → Prop := fun _ => False

theorem Chg.refl (F : Nat → Prop) (w : World) : Chg F w w := ⟨rfl, rfl, rfl, Nat.le_refl _, fun _ _ _ => rfl⟩
theorem Chg.trans {F : Nat → Prop} {a b c : World} (h : Chg F a b) (k : Chg F b c) : Chg F a c :=
  ⟨k.os.trans h.os, k.tape.trans h.tape, k.output.trans h.output, Nat.le_trans h.size k.size, fun i hi hn => (k.block i (Nat.lt_of_lt_of_le hi h.size) hn).trans (h.block i hi hn)⟩
theorem Chg.mono {F G : Nat → Prop} {a b : World} (h : Chg F a b) (hFG : ∀ k, k < a.heap.size → F k → G k) : Chg G a b :=
  ⟨h.os, h.tape, h.output, h.size, fun i hi hn => h.block i hi (fun hf => hn (hFG i hi hf))⟩
theorem Chg.no {F : Nat → Prop} {a b : World} (h : Chg No a b) : Chg F a b := h.mono fun _ _ hf => hf.elim
/-- two steps, the second of which changes what is new or in F -/
theorem Chg.then {F G : Nat → Prop} {a b c : World} (h : Chg F a b) (k : Chg G b c) (hG : ∀ i, i < a.heap.size → G i → F i) : Chg F a c :=
  ⟨k.os.trans h.os, k.tape.trans h.tape, k.output.trans h.output, Nat.le_trans h.size k.size, fun i hi hn => (k.block i (Nat.lt_of_lt_of_le hi h.size) (fun hg => hn (hG i hi hg))).trans (h.block i hi hn)⟩
theorem Chg.alloc {F : Nat → Prop} {a w : World} (h : Chg F a w) (o : Obj) : Chg F a (w.alloc o) :=
  h.trans ⟨rfl, rfl, rfl, by simp, fun k hk _ => Below.heap_alloc w o k hk⟩
theorem Chg.setCell {F : Nat → Prop} {a w : World} (h : Chg F a w) {p : Addr} (hp : F p.block ∨ a.heap.size ≤ p.block) (u : Value) : Chg F a (w.setCell p u) :=
  ⟨h.os, h.tape, h.output, by simpa [World.setCell] using h.size, fun k hk hn => (Below.heap_setCell w p u k (by
    rintro rfl
    rcases hp with hp | hp
    · exact hn hp
    · omega)).trans (h.block k hk hn)⟩
theorem Chg.drewN {F : Nat → Prop} {a w : World} (h : Chg F a w) (n : Nat) : Chg F a (w.drewN n) := ⟨h.os, h.tape, h.output, h.size, h.block⟩
theorem Chg.drew {F : Nat → Prop} {a w : World} (h : Chg F a w) : Chg F a w.drew := ⟨h.os, h.tape, h.output, h.size, h.block⟩
theorem Chg.of_drewN {F : Nat → Prop} {a w : World} {n : Nat} (h : Chg F (a.drewN n) w) : Chg F a w := ⟨h.os, h.tape, h.output, h.size, h.block⟩
theorem Chg.of_drew {F : Nat → Prop} {a w : World} (h : Chg F a.drew w) : Chg F a w := ⟨h.os, h.tape, h.output, h.size, h.block⟩
theorem size_setBlock (w : World) (b : Nat) (o : Obj) : (setBlock w b o).heap.size = w.heap.size := by simp [setBlock]
theorem block_setBlock_other (w : World) {b k : Nat} (o : Obj) (h : k ≠ b) : (setBlock w b o).heap[k]? = w.heap[k]? := by
  simp only [setBlock]
  rw [Array.getElem?_setIfInBounds_ne (fun e => h e.symm)]
theorem block_setBlock_same (w : World) {b : Nat} (o : Obj) (h : b < w.heap.size) : (setBlock w b o).heap[b]? = some o := by
  simp [setBlock, h]
theorem Chg.setBlock {F : Nat → Prop} {a w : World} (h : Chg F a w) {b : Nat} (hp : F b ∨ a.heap.size ≤ b) (o : Obj) : Chg F a (setBlock w b o) :=
  ⟨h.os, h.tape, h.output, by rw [size_setBlock]; exact h.size, fun k hk hn => (block_setBlock_other w o (by
    rintro rfl
    rcases hp with hp | hp
    · exact hn hp
    · omega)).trans (h.block k hk hn)⟩
theorem Chg.grown {F : Nat → Prop} {a w w' : World} {row : Option Nat} (h : Chg F a w) (hg : w.grownBy w' row) (hr : ∀ k, row = some k → F k ∨ a.heap.size ≤ k) : Chg F a w' :=
  ⟨hg.os.trans h.os, hg.tape.trans h.tape, hg.output.trans h.output, Nat.le_trans h.size hg.size, fun k hk hn => (hg.block k (Nat.lt_of_lt_of_le hk h.size) (fun e => by
    rcases hr k e.symm with h1 | h1
    · exact hn h1
    · omega)).trans (h.block k hk hn)⟩
theorem Chg.below {a w : World} (h : Chg No a w) : Below a.heap.size a w := ⟨h.os, h.tape, h.output, h.size, fun k hk => h.block k hk (fun f => f)⟩
theorem Chg.of_below {F : Nat → Prop} {a w : World} (h : Below a.heap.size a w) : Chg F a w := ⟨h.os, h.tape, h.output, h.size, fun k hk _ => h.block k hk⟩
theorem Chg.cell {F : Nat → Prop} {w w' : World} (h : Chg F w w') {p : Addr} (hp : p.block < w.heap.size) (hF : ¬ F p.block) : w'.cell? p = w.cell? p := World.cell?_of_block (w := w) (h.block p.block hp hF)
theorem Chg.frozen {F : Nat → Prop} {w w' : World} (h : Chg F w w') {p : Addr} (hp : p.block < w.heap.size) (hF : ¬ F p.block) : w'.frozen? p = w.frozen? p := World.frozen?_of_block (w := w) (h.block p.block hp hF)

/-- block b is just these cells of type t, none frozen -/
def Row (w : World) (b : Nat) (t : TypeId) (cs : Array Value) : Prop := w.heap[b]? = some (.cells cs t (0, 0))
section
variable {w w' : World} {b : Nat} {t : TypeId} {cs : Array Value} {F : Nat → Prop}
theorem Row.lt (h : Row w b t cs) : b < w.heap.size := lt_of_block h
theorem Row.cell (h : Row w b t cs) (i : Nat) : w.cell? ⟨b, i, none⟩ = cs[i]? := cell_of_row w b i cs t (0, 0) h
theorem Row.frozen (h : Row w b t cs) (i : Nat) : w.frozen? ⟨b, i, none⟩ = false := frozen_of_row w b i cs t h
theorem Row.new (w : World) (t : TypeId) (cs : Array Value) : Row (w.alloc (.cells cs t)) w.heap.size t cs := heap_alloc_new w _
theorem Row.keep (h : Row w b t cs) (c : Chg F w w') (hb : ¬ F b) : Row w' b t cs := (c.block b h.lt hb).trans h
theorem Row.alloc (h : Row w b t cs) (o : Obj) : Row (w.alloc o) b t cs := (Below.heap_alloc w o b h.lt).trans h
theorem Row.drewN (h : Row w b t cs) (n : Nat) : Row (w.drewN n) b t cs := h
theorem Row.set (h : Row w b t cs) (i : Nat) (u : Value) : Row (w.setCell ⟨b, i, none⟩ u) b t (cs.setIfInBounds i u) := heap_setCell_same w b i cs t u h
theorem Row.other (h : Row w b t cs) {p : Addr} (hp : b ≠ p.block) (u : Value) : Row (w.setCell p u) b t cs := (heap_setCell_other w p b u hp).trans h
theorem Row.inj {cs' : Array Value} {t' : TypeId} (h : Row w b t cs) (h' : Row w b t' cs') : t = t' ∧ cs = cs' := by
  unfold Row at h h'
  rw [h] at h'
  injection h' with h1
  injection h1 with h2 h3
  exact ⟨h3, h2⟩
theorem Row.ne {b' : Nat} {t' : TypeId} {cs' : Array Value} (h : Row w b t cs) (h' : Row w b' t' cs') (ht : t ≠ t') : b ≠ b' := by
  rintro rfl
  exact ht (h.inj h').1
end

theorem Row.four {w : World} {b : Nat} {t : TypeId} {x0 x1 x2 x3 : Value} (h : Row w b t #[x0, x1, x2, x3]) :
    w.cell? ⟨b, 0, none⟩ = some x0 ∧ w.cell? ⟨b, 1, none⟩ = some x1 ∧ w.cell? ⟨b, 2, none⟩ = some x2 ∧ w.cell? ⟨b, 3, none⟩ = some x3 ∧ ∀ i, w.frozen? ⟨b, i, none⟩ = false :=
  ⟨h.cell 0, h.cell 1, h.cell 2, h.cell 3, h.frozen⟩
theorem own_base {w : World} {base base' sz n : Nat} {e : TypeId} {v : Value} {xs : List Value} (h : w.ownsRow base e sz v n xs) (hb : base' ≤ base) : w.ownsRow base' e sz v n xs := by
  refine ⟨h.1, ?_⟩
  rcases h.2 with hn | ⟨g, cap, cur, rfl, h1, rest⟩
  · exact .inl hn
  · exact .inr ⟨g, cap, cur, rfl, Nat.le_trans hb h1, rest⟩
theorem own_keep {w w' : World} {base sz n : Nat} {e : TypeId} {v : Value} {xs : List Value} {F : Nat → Prop} (h : w.ownsRow base e sz v n xs) (c : Chg F w w') (hv : ∀ b, v.ownBlock = some b → ¬ F b) : w'.ownsRow base e sz v n xs := by
  refine ⟨h.1, ?_⟩
  rcases h.2 with hn | ⟨g, cap, cur, rfl, hb, hg, rest⟩
  · exact .inl hn
  · exact .inr ⟨g, cap, cur, rfl, hb, (c.block g (lt_of_block hg) (hv g rfl)).trans hg, rest⟩
theorem own_of_row {w : World} {base g n : Nat} {t : TypeId} {cs : List Value} (h : Row w g t cs.toArray) (hl : cs.length = n) (hb : base ≤ g) (hm : n ≤ maxLen) : w.ownsRow base t 1 (.slice (some ⟨g, 0, none⟩) n n) n cs :=
  ⟨by simpa using hl, .inr ⟨g, n, cs.toArray, rfl, hb, h, Nat.le_refl _, hm, by simpa using hl, List.take_of_length_le (by simp; omega)⟩⟩
theorem own_form {w : World} {base sz n : Nat} {e : TypeId} {v : Value} {xs : List Value} (h : w.ownsRow base e sz v n xs) : ∃ A c, v = .slice A n c := by
  rcases h.2 with ⟨rfl, rfl⟩ | ⟨g, cap, cur, rfl, _⟩
  · exact ⟨_, _, rfl⟩
  · exact ⟨_, _, rfl⟩

/-- the call returns a value of which Q holds, in a world of which Q holds -/
def Ret (Q : Value → World → Prop) (e : Ending) (w' : World) : Prop := ∃ v, e = .returned v ∧ Q v w'
theorem Ret.mk {Q : Value → World → Prop} {v : Value} {w' : World} (h : Q v w') : Ret Q (.returned v) w' := ⟨v, rfl, h⟩

def In64 (x : Int) : Prop := -9223372036854775808 ≤ x ∧ x ≤ 9223372036854775807

/-- v is a slice of n elements of sz cells each, the cells being cs, in a block of S (nothing is said of the block where n is 0) -/
def Slc (w : World) (S : Nat → Prop) (sz : Nat) (v : Value) (n : Nat) (cs : List Value) : Prop :=
  ∃ A c, v = .slice A n c ∧ cs.length = n * sz ∧ n ≤ c ∧ c ≤ maxLen ∧ (A = none → c = 0) ∧
    (0 < n → ∃ b off, A = some ⟨b, off, none⟩ ∧ S b ∧ b < w.heap.size ∧ ∀ i u, cs[i]? = some u → w.cell? ⟨b, off + i, none⟩ = some u)
section
variable {w w' : World} {S S' F : Nat → Prop} {sz n : Nat} {v : Value} {cs : List Value}
theorem Slc.keep (h : Slc w S sz v n cs) (c : Chg F w w') (hS : ∀ b, S b → ¬ F b) : Slc w' S sz v n cs := by
  obtain ⟨A, cap, hv, hl, h1, h2, h0, h3⟩ := h
  refine ⟨A, cap, hv, hl, h1, h2, h0, fun hn => ?_⟩
  obtain ⟨b, off, hA, hb, hlt, hc⟩ := h3 hn
  exact ⟨b, off, hA, hb, Nat.lt_of_lt_of_le hlt c.size, fun i u hu => (c.cell (p := ⟨b, off + i, none⟩) hlt (hS b hb)).trans (hc i u hu)⟩
theorem Slc.more (h : Slc w S sz v n cs) (hS : ∀ b, b < w.heap.size → S b → S' b) : Slc w S' sz v n cs := by
  obtain ⟨A, cap, hv, hl, h1, h2, h0, h3⟩ := h
  refine ⟨A, cap, hv, hl, h1, h2, h0, fun hn => ?_⟩
  obtain ⟨b, off, hA, hb, hlt, hc⟩ := h3 hn
  exact ⟨b, off, hA, hS b hlt hb, hlt, hc⟩
theorem Slc.nil (w : World) (S : Nat → Prop) (sz : Nat) : Slc w S sz (.slice none 0 0) 0 [] := ⟨none, 0, rfl, by simp, Nat.le_refl _, Nat.zero_le _, fun _ => rfl, fun h => absurd h (by omega)⟩
theorem Slc.drewN (h : Slc w S sz v n cs) (k : Nat) : Slc (w.drewN k) S sz v n cs := h.keep (F := No) ((Chg.refl _ _).drewN k) (fun _ _ f => f)
theorem Slc.alloc (h : Slc w S sz v n cs) (o : Obj) : Slc (w.alloc o) S sz v n cs := h.keep (F := No) ((Chg.refl _ _).alloc o) (fun _ _ f => f)
theorem Slc.of_own {base : Nat} {e : TypeId} (h : w.ownsRow base e sz v n cs) : Slc w (fun b => v.ownBlock = some b) sz v n cs := by
  obtain ⟨hl, h | ⟨g, cap, cur, rfl, hb, hg, hn, hm, hs, ht⟩⟩ := h
  · obtain ⟨rfl, rfl⟩ := h
    exact ⟨none, 0, rfl, hl, Nat.le_refl _, Nat.zero_le _, fun _ => rfl, fun h => absurd h (by omega)⟩
  · refine ⟨_, cap, rfl, hl, hn, hm, (fun h => by cases h), fun _ => ⟨g, 0, rfl, rfl, lt_of_block hg, fun i u hu => ?_⟩⟩
    rw [Nat.zero_add, cell_of_row w g i cur e (0, 0) hg]
    rw [← ht, List.getElem?_take] at hu
    split at hu
    · simpa using hu
    · cases hu
end

/-- v reads as a list of numbers -/
def IntS (w : World) (S : Nat → Prop) (v : Value) (l : List Int) : Prop := Slc w S 1 v l.length (l.map (.int .i64)) ∧ ∀ x ∈ l, In64 x
def ByteS (w : World) (S : Nat → Prop) (v : Value) (l : List Int) : Prop := Slc w S 1 v l.length (l.map (.int .u8)) ∧ ∀ x ∈ l, 0 ≤ x ∧ x ≤ 255
section
variable {w w' : World} {S S' F : Nat → Prop} {v : Value} {l : List Int}
theorem IntS.keep (h : IntS w S v l) (c : Chg F w w') (hS : ∀ b, S b → ¬ F b) : IntS w' S v l := ⟨h.1.keep c hS, h.2⟩
theorem IntS.more (h : IntS w S v l) (hS : ∀ b, b < w.heap.size → S b → S' b) : IntS w S' v l := ⟨h.1.more hS, h.2⟩
theorem ByteS.keep (h : ByteS w S v l) (c : Chg F w w') (hS : ∀ b, S b → ¬ F b) : ByteS w' S v l := ⟨h.1.keep c hS, h.2⟩
theorem ByteS.more (h : ByteS w S v l) (hS : ∀ b, b < w.heap.size → S b → S' b) : ByteS w S' v l := ⟨h.1.more hS, h.2⟩
theorem IntS.form (h : IntS w S v l) : ∃ A c, v = .slice A l.length c ∧ l.length ≤ c ∧ c ≤ maxLen ∧ (A = none → c = 0) ∧ ∀ i, i < l.length → ∃ b off, A = some ⟨b, off, none⟩ ∧ S b ∧ b < w.heap.size ∧ w.cell? ⟨b, off + i, none⟩ = some (.int .i64 (l[i]?.getD 0)) ∧ In64 (l[i]?.getD 0) := by
  obtain ⟨⟨A, c, hv, _, h1, h2, h0, h3⟩, hw⟩ := h
  refine ⟨A, c, hv, h1, h2, h0, fun i hi => ?_⟩
  obtain ⟨b, off, hA, hS, hb, hc⟩ := h3 (by omega)
  refine ⟨b, off, hA, hS, hb, ?_, ?_⟩
  · rw [List.getElem?_eq_getElem hi]
    exact hc i _ (by simp [hi])
  · rw [List.getElem?_eq_getElem hi]
    exact hw _ (List.getElem_mem hi)
theorem ByteS.form (h : ByteS w S v l) : ∃ A c, v = .slice A l.length c ∧ l.length ≤ c ∧ c ≤ maxLen ∧ (A = none → c = 0) ∧ ∀ i, i < l.length → ∃ b off, A = some ⟨b, off, none⟩ ∧ S b ∧ b < w.heap.size ∧ w.cell? ⟨b, off + i, none⟩ = some (.int .u8 (l[i]?.getD 0)) ∧ 0 ≤ l[i]?.getD 0 ∧ l[i]?.getD 0 ≤ 255 := by
  obtain ⟨⟨A, c, hv, _, h1, h2, h0, h3⟩, hw⟩ := h
  refine ⟨A, c, hv, h1, h2, h0, fun i hi => ?_⟩
  obtain ⟨b, off, hA, hS, hb, hc⟩ := h3 (by omega)
  refine ⟨b, off, hA, hS, hb, ?_, ?_⟩
  · rw [List.getElem?_eq_getElem hi]
    exact hc i _ (by simp [hi])
  · rw [List.getElem?_eq_getElem hi]
    exact hw _ (List.getElem_mem hi)
theorem IntS.nil (w : World) (S : Nat → Prop) : IntS w S (.slice none 0 0) [] := ⟨Slc.nil w S 1, by simp⟩
theorem ByteS.nil (w : World) (S : Nat → Prop) : ByteS w S (.slice none 0 0) [] := ⟨Slc.nil w S 1, by simp⟩
end

theorem IntS.of_own {w : World} {base : Nat} {e : TypeId} {v : Value} {l : List Int} (h : w.ownsRow base e 1 v l.length (l.map (.int .i64))) (hw : ∀ x ∈ l, In64 x) : IntS w (fun b => base ≤ b) v l :=
  ⟨(Slc.of_own h).more fun b _ hb => (h.lt b hb).1, hw⟩
theorem ByteS.of_own {w : World} {base : Nat} {e : TypeId} {v : Value} {l : List Int} (h : w.ownsRow base e 1 v l.length (l.map (.int .u8))) (hw : ∀ x ∈ l, 0 ≤ x ∧ x ≤ 255) : ByteS w (fun b => base ≤ b) v l :=
  ⟨(Slc.of_own h).more fun b _ hb => (h.lt b hb).1, hw⟩

/-- what the program's table says of a slice type T, whose elements are of type E, sz cells and bytes each -/
def ElemInfo (P : Program) (T E : TypeId) (sz bytes : Nat) : Prop :=
  P.underlying T = some (.slice E) ∧ ∃ i z, P.info? E = some i ∧ i.zero = some z ∧ i.size = sz ∧ i.bytes = bytes ∧ z.cells.size = sz
theorem ElemInfo.of {P : Program} {T E : TypeId} {sz bytes : Nat} {z : Value} (h : P.underlying T = some (.slice E)) (hi : (P.info? E).map (fun i => (i.zero, i.size, i.bytes)) = some (some z, sz, bytes)) (hz : z.cells.size = sz) : ElemInfo P T E sz bytes := by
  obtain ⟨i, h1, h2, h3, h4⟩ := info_parts hi
  exact ⟨h, i, z, h1, h2, h3, h4, hz⟩

/-- append to a slice that is the call's own -/
theorem run_app {P : Program} {T E : TypeId} {sz bytes B : Nat} (hE : ElemInfo P T E sz bytes) (hsz : 0 < sz) {w : World} {S : Nat → Prop} {v sv : Value} {n m : Nat} {xs news : List Value} (hown : w.ownsRow B E sz v n xs) (hsrc : Slc w S sz sv m news)
    (h1 : ∀ u ∈ news, u.oneCell' = true) (h63 : n + m ≤ maxLen) (hbytes : (n + m) * bytes ≤ 140737488355328) (hB : B ≤ w.heap.size) (ty : TypeId) :
    ∃ v' w', (Builtin.append_ #[T, T] ty #[v, sv]).run P w = .ok v' w' ∧ w'.ownsRow B E sz v' (n + m) (xs ++ news) ∧ w.grownBy w' v.ownBlock := by
  obtain ⟨hT, i, z, hi, hz, hs, hb, hzs⟩ := hE
  obtain ⟨A, c, rfl, hl, hc, _, h0, hA⟩ := hsrc
  cases A with
  | none =>
    obtain rfl := h0 rfl
    obtain rfl : m = 0 := by omega
    have hn : news = [] := List.eq_nil_of_length_eq_zero (by simpa using hl)
    subst hn
    have hr := run_append_owned_none (P := P) w B T ty E i sz hT hi v n xs hown
    exact ⟨v, w, hr, by simpa using hown, ⟨rfl, rfl, rfl, Nat.le_refl _, fun _ _ _ => rfl⟩⟩
  | some a =>
    obtain ⟨v', w', hr, ho, hg, _⟩ := run_append_own (P := P) w B T ty E i z sz bytes hT hi hz hs hb hzs hsz v n xs hown a m c news hl (by
      intro j u hu
      have hlt : 0 < m := by
        have hj := (List.getElem?_eq_some_iff.1 hu).1
        rcases Nat.eq_zero_or_pos m with hm | hm
        · rw [hl, hm] at hj; omega
        · exact hm
      obtain ⟨b, off, ha, _, _, hcell⟩ := hA hlt
      cases ha
      rw [Addr.add_lit]
      exact hcell j u hu) h1 h63 hbytes hB
    exact ⟨v', w', hr, ho, hg⟩

/-- append at the operation, by an equation on its run: '(at_builtin; refine wpList_append_run rfl _ _ _ rfl rfl rfl H.out ?_)' -/
theorem wpList_append_run {P : Program} {ops : Array Oper} {rest : List Oper} {o : Oper} {a : Act} {w w' : World} {Q : Exit → Act → World → Prop} (hgd : o.guard = none) (s x : Operand) (t : TypeId)
    (ho : o.op = .call { callee := .builtin .append, args := #[s, x], argTypes := #[t, t] }) {vs vx v : Value} (hs : a.eval s = vs) (hx : a.eval x = vx)
    (hrun : (Builtin.append_ #[t, t] o.type #[vs, vx]).run P w = .ok v w') (h : wpList P ops Q rest (a.put o.dst v) w') : wpList P ops Q (o :: rest) a w := by
  refine wpList_plain hgd fun K hK => ?_
  unfold Oper.wp execOp
  simp only [ho, resolve, invoke, builtin, Sem.run_bind, Sem.run_pure, Result.andThen_ok, List.map_toArray, List.map_cons, List.map_nil, hs, hx, hrun]
  exact hK _ _ h

/-! maps with integer keys -/
def mget (k : Int) : List (Int × Value) → Option Value
  | [] => none
  | (a, v) :: r => if k == a then some v else mget k r
def mset (k : Int) (v : Value) : List (Int × Value) → List (Int × Value)
  | [] => [(k, v)]
  | (a, u) :: r => if k == a then (k, v) :: r else (a, u) :: mset k v r
def mdel (k : Int) : List (Int × Value) → List (Int × Value)
  | [] => []
  | (a, u) :: r => if k == a then r else (a, u) :: mdel k r
def mfind (k : Int) : List (Int × Value) → Nat → Option (Nat × Value)
  | [], _ => none
  | (a, v) :: r, i => if k == a then some (i, v) else mfind k r (i + 1)

theorem mget_mset (k k' : Int) (v : Value) (l : List (Int × Value)) : mget k' (mset k v l) = if k' == k then some v else mget k' l := by
  induction l with
  | nil => simp [mset, mget]
  | cons x r ih =>
    obtain ⟨a, u⟩ := x
    by_cases h : k = a
    · subst h
      by_cases h' : k' = k <;> simp [mset, mget, h']
    · by_cases h' : k' = a
      · subst h'
        have : ¬ k' = k := fun e => h e.symm
        simp [mset, mget, h, this]
      · simp [mset, mget, h, h', ih]
theorem mget_none {k : Int} {l : List (Int × Value)} : mget k l = none ↔ k ∉ l.map (·.1) := by
  induction l with
  | nil => simp [mget]
  | cons x r ih =>
    obtain ⟨a, u⟩ := x
    by_cases h : k = a <;> simp [mget, h, ih]
theorem mget_some_mem {k : Int} {v : Value} {l : List (Int × Value)} (h : mget k l = some v) : (k, v) ∈ l := by
  induction l with
  | nil => cases h
  | cons x r ih =>
    obtain ⟨a, u⟩ := x
    by_cases h' : k = a
    · subst h'
      simp [mget] at h
      simp [h]
    · simp [mget, h'] at h
      exact List.mem_cons_of_mem _ (ih h)
theorem mget_mem {k : Int} {v : Value} {l : List (Int × Value)} (hn : (l.map (·.1)).Nodup) (h : (k, v) ∈ l) : mget k l = some v := by
  induction l with
  | nil => cases h
  | cons x r ih =>
    obtain ⟨a, u⟩ := x
    simp at hn
    rcases List.mem_cons.1 h with e | e
    · cases e; simp [mget]
    · have : ¬ k = a := by rintro rfl; exact hn.1 _ e
      simp [mget, this, ih hn.2 e]
theorem keys_mset (k : Int) (v : Value) (l : List (Int × Value)) : (mset k v l).map (·.1) = if k ∈ l.map (·.1) then l.map (·.1) else l.map (·.1) ++ [k] := by
  induction l with
  | nil => simp [mset]
  | cons x r ih =>
    obtain ⟨a, u⟩ := x
    by_cases h : k = a
    · simp [mset, h]
    · simp only [mset, beq_iff_eq, h, if_false, List.map_cons, ih, List.mem_cons, false_or]
      split <;> simp
theorem nodup_mset {k : Int} {v : Value} {l : List (Int × Value)} (h : (l.map (·.1)).Nodup) : ((mset k v l).map (·.1)).Nodup := by
  rw [keys_mset]
  split
  · exact h
  · rename_i hk
    rw [List.nodup_append]
    exact ⟨h, by simp, fun a ha b hb => by simp at hb; subst hb; rintro rfl; exact hk ha⟩
theorem mdel_sub (k : Int) (l : List (Int × Value)) : (mdel k l).Sublist l := by
  induction l with
  | nil => exact List.Sublist.refl _
  | cons x r ih =>
    obtain ⟨a, u⟩ := x
    by_cases h : k = a
    · simp [mdel, h]
    · simp [mdel, h, ih]
theorem mget_mdel (k k' : Int) {l : List (Int × Value)} (hn : (l.map (·.1)).Nodup) : mget k' (mdel k l) = if k' == k then none else mget k' l := by
  induction l with
  | nil => simp [mdel, mget]
  | cons x r ih =>
    obtain ⟨a, u⟩ := x
    have hn' : a ∉ r.map (·.1) ∧ (r.map (·.1)).Nodup := List.nodup_cons.1 hn
    by_cases h : k = a
    · subst h
      by_cases h' : k' = k
      · subst h'
        simp only [mdel, beq_self_eq_true, if_true]
        exact mget_none.2 hn'.1
      · simp [mdel, mget, h']
    · by_cases h' : k' = a
      · subst h'
        have : ¬ k' = k := fun e => h e.symm
        simp [mdel, mget, h, this]
      · simp [mdel, mget, h, h', ih hn'.2]

/-- block b is a map with integer keys, which holds l -/
def IMap (w : World) (b : Nat) (l : List (Int × Value)) : Prop :=
  ∃ es clock, w.heap[b]? = some (.map es clock) ∧ es.toList.map (fun e => (e.key, e.val)) = l.map (fun x => (Value.int .i64 x.1, x.2)) ∧
    (∀ e ∈ es.toList, e.born < clock) ∧ (es.toList.map (·.born)).Nodup ∧ (l.map (·.1)).Nodup
section
variable {w w' : World} {b : Nat} {l : List (Int × Value)} {F : Nat → Prop} {P : Program}
theorem IMap.lt (h : IMap w b l) : b < w.heap.size := by
  obtain ⟨es, clock, hb, _⟩ := h
  exact lt_of_block hb
theorem IMap.keep (h : IMap w b l) (c : Chg F w w') (hb : ¬ F b) : IMap w' b l := by
  have hlt := h.lt
  obtain ⟨es, clock, h1, h2⟩ := h
  exact ⟨es, clock, (c.block b hlt hb).trans h1, h2⟩
theorem IMap.nodup (h : IMap w b l) : (l.map (·.1)).Nodup := by
  obtain ⟨es, clock, _, _, _, _, h⟩ := h
  exact h
theorem IMap.new (w : World) : IMap (w.alloc (.map #[] 0)) w.heap.size [] := ⟨#[], 0, heap_alloc_new w _, by simp, by simp, by simp, by simp⟩
theorem IMap.ne_row {b' : Nat} {t : TypeId} {cs : Array Value} (h : IMap w b l) (h' : Row w b' t cs) : b ≠ b' := by
  rintro rfl
  obtain ⟨es, clock, h1, _⟩ := h
  unfold Row at h'
  rw [h1] at h'
  cases h'

theorem findNow_eq (k : Int) : ∀ (es : List MapEntry) (l : List (Int × Value)) (i : Nat), es.map (fun e => (e.key, e.val)) = l.map (fun x => (Value.int .i64 x.1, x.2)) →
    Instr.findNow (.int .i64) (.int .i64 k) es i = some (mfind k l i)
  | [], [], _, _ => rfl
  | [], _ :: _, _, h => by simp at h
  | _ :: _, [], _, h => by simp at h
  | e :: es, (a, v) :: l, i, h => by
    simp only [List.map_cons, List.cons.injEq, Prod.mk.injEq] at h
    obtain ⟨⟨h1, h2⟩, h3⟩ := h
    have ih := findNow_eq k es l (i + 1) h3
    unfold Instr.findNow
    rw [h1]
    simp only [Instr.sameNow, if_true]
    by_cases hk : k = a
    · simp [hk, mfind, h2]
    · rw [show (k == a) = false from beq_eq_false_iff_ne.2 hk]
      simp [hk, mfind, ih]
theorem mfind_mget (k : Int) : ∀ (l : List (Int × Value)) (i : Nat), (mfind k l i).map (·.2) = mget k l
  | [], _ => rfl
  | (a, v) :: l, i => by
    by_cases h : k = a
    · simp [mfind, mget, h]
    · simp [mfind, mget, h, mfind_mget k l (i + 1)]
theorem run_checkKey {K : TypeId} (hK : P.underlying K = some (.int .i64)) (e : Bool) (n : Nat) (k : Int) (w : World) : (Instr.checkKey e (n + 1) K (.int .i64 k)).run P w = .ok () w := by
  simp [Instr.checkKey, run_underlying hK]
theorem run_findKey {K : TypeId} (hK : P.underlying K = some (.int .i64)) (k : Int) (es : List MapEntry) (l : List (Int × Value)) (h : es.map (fun e => (e.key, e.val)) = l.map (fun x => (Value.int .i64 x.1, x.2))) (w : World) :
    (Instr.findKey K (.int .i64 k) es).run P w = .ok (mfind k l 0) w := by
  simp [Instr.findKey, run_underlying hK, findNow_eq k es l 0 h]

/-- 'm[k]' -/
theorem IMap.lookup {T K E : TypeId} (h : IMap w b l) (hT : P.underlying T = some (.map K E)) (hK : P.underlying K = some (.int .i64)) {z : Value} (hz : ∀ w, (zeroValue E).run P w = .ok z w) (k : Int) :
    (Instr.lookup T (.map (some b)) (.int .i64 k) false).run P w = .ok ((mget k l).getD z) w := by
  obtain ⟨es, clock, hb, hl, _⟩ := h
  have hc : ∀ e w, (Instr.checkKey e 10000 K (.int .i64 k)).run P w = .ok () w := fun e w => run_checkKey hK e 9999 k w
  have hf := fun w => run_findKey (P := P) hK k es.toList l hl w
  rw [← mfind_mget k l 0]
  cases hm : mfind k l 0 with
  | none =>
    rw [hm] at hf
    simp [Instr.lookup, run_underlying hT, MapKept.run_getObj_map hb, hc, hf, hz]
  | some x =>
    rw [hm] at hf
    simp [Instr.lookup, run_underlying hT, MapKept.run_getObj_map hb, hc, hf]
theorem mfind_some {k : Int} : ∀ {l : List (Int × Value)} {i : Nat} {x : Nat × Value}, mfind k l i = some x → ∃ j v, x = (i + j, v) ∧ j < l.length ∧ l[j]? = some (k, v) ∧ (∀ u, mset k u l = l.set j (k, u)) ∧ mdel k l = l.eraseIdx j
  | [], _, _, h => by cases h
  | (a, v) :: r, i, x, h => by
    by_cases hk : k = a
    · subst hk
      simp [mfind] at h
      exact ⟨0, v, by rw [← h]; rfl, by simp, rfl, by simp [mset], by simp [mdel]⟩
    · simp [mfind, hk] at h
      obtain ⟨j, v', hx, hj, hl, hs, hd⟩ := mfind_some h
      exact ⟨j + 1, v', by rw [hx]; congr 1; omega, by simp; omega, by simpa using hl, by simp [mset, hk, hs], by simp [mdel, hk, hd]⟩
theorem mfind_none {k : Int} : ∀ {l : List (Int × Value)} {i : Nat}, mfind k l i = none → (∀ u, mset k u l = l ++ [(k, u)]) ∧ mdel k l = l
  | [], _, _ => ⟨fun _ => rfl, rfl⟩
  | (a, v) :: r, i, h => by
    by_cases hk : k = a
    · simp [mfind, hk] at h
    · simp [mfind, hk] at h
      obtain ⟨h1, h2⟩ := mfind_none h
      exact ⟨by simp [mset, hk, h1], by simp [mdel, hk, h2]⟩

/-- 'm[k] = v' -/
theorem IMap.updates {T K E : TypeId} (h : IMap w b l) (hT : P.underlying T = some (.map K E)) (hK : P.underlying K = some (.int .i64)) (k : Int) (v : Value) :
    ∃ o, ∀ w', w'.heap[b]? = w.heap[b]? → (Instr.mapUpdate T (.map (some b)) (.int .i64 k) v).run P w' = .ok () (setBlock w' b o) ∧ IMap (setBlock w' b o) b (mset k v l) := by
  obtain ⟨es, clock, hb, hl, hborn, hnd, hn⟩ := h
  have hc : ∀ e w, (Instr.checkKey e 10000 K (.int .i64 k)).run P w = .ok () w := fun e w => run_checkKey hK e 9999 k w
  have hf := fun w => run_findKey (P := P) hK k es.toList l hl w
  cases hm : mfind k l 0 with
  | none =>
    rw [hm] at hf
    obtain ⟨h1, _⟩ := mfind_none hm
    refine ⟨.map (es.push { key := .int .i64 k, val := v, born := clock }) (clock + 1), fun w' hw => ?_⟩
    replace hb := hw.trans hb
    refine ⟨?_, _, _, block_setBlock_same w' _ (lt_of_block hb), ?_, ?_, ?_, nodup_mset hn⟩
    · simp [Instr.mapUpdate, run_underlying hT, MapKept.run_getObj_map hb, MapKept.run_setObj_map _ hb, hc, hf, setBlock]
    · rw [h1]; simp [hl]
    · intro e he
      simp at he
      rcases he with he | he
      · exact Nat.lt_succ_of_lt (hborn e (by simpa using he))
      · subst he; simp
    · simp only [Array.toList_push, List.map_append, List.map_cons, List.map_nil]
      rw [List.nodup_append]
      refine ⟨hnd, by simp, fun a ha c hc' => ?_⟩
      simp at hc'
      obtain ⟨e, he, rfl⟩ := List.mem_map.1 ha
      have := hborn e he
      omega
  | some x =>
    rw [hm] at hf
    obtain ⟨j, v', rfl, hj, hlj, hs, _⟩ := mfind_some hm
    have hsz : es.size = l.length := by have := congrArg List.length hl; simpa using this
    have hej : ((es[j]?).map (·.key)).getD (.int .i64 k) = .int .i64 k := by
      have h1 := congrArg (·[j]?) hl
      simp only [List.getElem?_map, Array.getElem?_toList, hlj, Option.map_some] at h1
      cases he : es[j]? with
      | none => rfl
      | some e =>
        rw [he] at h1
        simp at h1
        simp [h1.1]
    have hst : ∀ w, (Instr.keyThatStays (.int .i64 k) (.int .i64 k)).run P w = .ok (.int .i64 k) w := by
      intro w
      simp [Instr.keyThatStays, show Instr.sameBits 10000 (.int .i64 k) (.int .i64 k) = true from by simp [Instr.sameBits]]
    refine ⟨.map (es.modify j fun e => { e with key := .int .i64 k, val := v }) clock, fun w' hw => ?_⟩
    replace hb := hw.trans hb
    refine ⟨?_, _, _, block_setBlock_same w' _ (lt_of_block hb), ?_, ?_, ?_, nodup_mset hn⟩
    · simp only [Nat.zero_add] at hf
      simp [Instr.mapUpdate, run_underlying hT, MapKept.run_getObj_map hb, MapKept.run_setObj_map _ hb, hc, hf, setBlock, hej, hst]
    · rw [hs]
      apply List.ext_getElem?
      intro i
      have h1 := congrArg (·[i]?) hl
      simp only [List.getElem?_map, Array.getElem?_toList] at h1
      simp only [List.getElem?_map, Array.getElem?_toList, Array.getElem?_modify, List.getElem?_set]
      by_cases hij : j = i
      · subst hij
        rw [if_pos rfl, if_pos rfl, if_pos hj]
        rw [Array.getElem?_eq_getElem (by omega)]
        simp
      · rw [if_neg hij, if_neg hij]
        exact h1
    · intro e he
      obtain ⟨i, hi⟩ := List.mem_iff_getElem?.1 he
      simp only [Array.getElem?_toList, Array.getElem?_modify] at hi
      split at hi
      · rw [Option.map_eq_some_iff] at hi
        obtain ⟨e0, he0, rfl⟩ := hi
        exact hborn e0 (List.mem_iff_getElem?.2 ⟨i, by simpa using he0⟩)
      · exact hborn e (List.mem_iff_getElem?.2 ⟨i, by simpa using hi⟩)
    · have : (es.modify j fun e => { e with key := .int .i64 k, val := v }).toList.map (·.born) = es.toList.map (·.born) := by
        apply List.ext_getElem?
        intro i
        simp only [List.getElem?_map, Array.getElem?_toList, Array.getElem?_modify]
        split
        · simp [Option.map_map]; rfl
        · rfl
      rw [this]
      exact hnd
theorem IMap.update {T K E : TypeId} (h : IMap w b l) (hT : P.underlying T = some (.map K E)) (hK : P.underlying K = some (.int .i64)) (k : Int) (v : Value) :
    ∃ o, (Instr.mapUpdate T (.map (some b)) (.int .i64 k) v).run P w = .ok () (setBlock w b o) ∧ IMap (setBlock w b o) b (mset k v l) := by
  obtain ⟨o, ho⟩ := h.updates hT hK k v
  exact ⟨o, ho w rfl⟩

/-- 'len(m)' -/
theorem IMap.len {T K E : TypeId} (h : IMap w b l) (hT : P.underlying T = some (.map K E)) (ty : TypeId) : (Builtin.len_ #[T] ty #[.map (some b)]).run P w = .ok (.int .i64 l.length) w := by
  obtain ⟨es, clock, hb, hl, _⟩ := h
  have hsz : es.size = l.length := by have := congrArg List.length hl; simpa using this
  simp [Builtin.len_, run_underlying hT, MapKept.run_getObj_map hb, goInt, hsz]

/-- 'delete(m, k)' -/
theorem IMap.delete {T K E : TypeId} (h : IMap w b l) (hT : P.underlying T = some (.map K E)) (hK : P.underlying K = some (.int .i64)) (k : Int) (ty K' : TypeId) :
    ∃ o, (Builtin.delete_ #[T, K'] ty #[.map (some b), .int .i64 k]).run P w = .ok (.tuple #[]) (setBlock w b o) ∧ IMap (setBlock w b o) b (mdel k l) := by
  have hlt := h.lt
  obtain ⟨es, clock, hb, hl, hborn, hnd, hn⟩ := h
  have hc : ∀ e w, (Instr.checkKey e 10000 K (.int .i64 k)).run P w = .ok () w := fun e w => run_checkKey hK e 9999 k w
  have hf := fun w => run_findKey (P := P) hK k es.toList l hl w
  have hsub := mdel_sub k l
  cases hm : mfind k l 0 with
  | none =>
    rw [hm] at hf
    obtain ⟨_, h1⟩ := mfind_none hm
    refine ⟨.map es clock, ?_, _, _, block_setBlock_same w _ hlt, by rw [h1]; exact hl, hborn, hnd, by rw [h1]; exact hn⟩
    simp [Builtin.delete_, run_underlying hT, MapKept.run_getObj_map hb, MapKept.run_setObj_map _ hb, hc, hf, setBlock]
  | some x =>
    rw [hm] at hf
    obtain ⟨j, v', rfl, hj, hlj, _, hd⟩ := mfind_some hm
    have hsz : es.size = l.length := by have := congrArg List.length hl; simpa using this
    have her : (es.eraseIdxIfInBounds j).toList = es.toList.eraseIdx j := by
      rw [Array.eraseIdxIfInBounds, dif_pos (by omega), Array.toList_eraseIdx]
    refine ⟨.map (es.eraseIdxIfInBounds j) clock, ?_, _, _, block_setBlock_same w _ hlt, ?_, ?_, ?_, ?_⟩
    · simp only [Nat.zero_add] at hf
      simp [Builtin.delete_, run_underlying hT, MapKept.run_getObj_map hb, MapKept.run_setObj_map _ hb, hc, hf, setBlock]
    · rw [her, hd, Go.ChangeMaps.map_eraseIdx, Go.ChangeMaps.map_eraseIdx, hl]
    · intro e he
      rw [her] at he
      exact hborn e (List.mem_of_mem_eraseIdx he)
    · rw [her]
      exact List.Nodup.sublist ((List.eraseIdx_sublist _ _).map _) hnd
    · exact List.Nodup.sublist (hsub.map _) hn
/-- 'm[k] = v' as one step of a region that draws -/
theorem step_mapUpdate_run {ops : Array Oper} {o : Oper} {a : Act} {w w' : World} {K : Act → World → Prop} {Q : Exit → Act → World → Prop} {E : Prop} (hgd : o.guard = none) (m x v : Operand) (T : TypeId)
    (ho : o.op = .mapUpdate T m x v) {vm vx vv : Value} (hm : a.eval m = vm) (hx : a.eval x = vx) (hv : a.eval v = vv)
    (hrun : (Instr.mapUpdate T vm vx vv).run P w = .ok () w') (h : K (a.put o.dst undef) w') :
    if Region.wanted o (yielded ops a.tmps) = true then Oper.wp P o a w K Q else E := by
  have hw : Region.wanted o (yielded ops a.tmps) = true := by simp [Region.wanted, hgd]
  rw [if_pos hw]
  unfold Oper.wp
  simp [execOp, ho, hm, hx, hv, hrun, Result.andThen, Oper.upon]
  exact h
end

theorem u64_mask (n : Int) (h : 0 ≤ n ∧ n ≤ 4294967295) : bits .and .u64 n 4294967295 = n := by
  obtain ⟨k, rfl⟩ := Int.eq_ofNat_of_zero_le h.1
  rw [show (4294967295 : Int) = ((4294967295 : Nat) : Int) from rfl, u64_and_nat k 4294967295 (by omega) (by decide)]
  rw [show k &&& 4294967295 = k % 4294967296 from Nat.and_two_pow_sub_one_eq_mod k 32]
  omega

set_option maxHeartbeats 400000 in
theorem Mul64_one (n : Int) (h : 0 ≤ n) (h' : n ≤ 4294967295) (w : World) :
    Calls Tryd.prog 166 #[.int .u64 1, .int .u64 n] w fun e w' => e = .returned (.tuple #[.int .u64 0, .int .u64 n]) ∧ w = w' := by
  have h1 := u64_mask n ⟨h, h'⟩
  have h2 : bits .and .u64 1 4294967295 = 1 := by decide
  have h3 : n / 4294967296 = 0 := by omega
  have h4 : bits .and .u64 0 4294967295 = 0 := by decide
  go_enter Tryd.func166, Tryd.ntmps166
  go_wp2
  go_ret2
  exact ⟨rfl, rfl⟩

set_option maxHeartbeats 400000 in
theorem Mul_one (n : Int) (h : 0 ≤ n) (h' : n ≤ 4294967295) (w : World) :
    Calls Tryd.prog 164 #[.int .u64 1, .int .u64 n] w fun e w' => e = .returned (.tuple #[.int .u64 0, .int .u64 n]) ∧ w = w' := by
  go_enter Tryd.func164, Tryd.ntmps164
  go_wp2_with (go_at_call 166; refine (Mul64_one _ (by omega) (by omega) _).mono ?_; rintro e w' ⟨rfl, rfl⟩)
  go_ret2
  exact ⟨rfl, rfl⟩

theorem info_int : (Tryd.prog.info? 3).map (fun i => (i.zero, i.size, i.bytes)) = some (some (.int .i64 0), 1, 8) := by kernel_rfl
theorem info_u8 : (Tryd.prog.info? 5).map (fun i => (i.zero, i.size, i.bytes)) = some (some (.int .u8 0), 1, 1) := by kernel_rfl

theorem own_row {w : World} {base : Nat} {e : TypeId} {g n : Nat} {xs : List Value} (h : w.ownsRow base e 1 (.slice (some ⟨g, 0, none⟩) n n) n xs) : w.heap[g]? = some (.cells xs.toArray e (0, 0)) := by
  obtain ⟨hl, h | ⟨g', cap, cur, hv, _, hg, hn, _, hs, ht⟩⟩ := h
  · cases h.1
  · simp only [Value.slice.injEq, Option.some.injEq, Addr.mk.injEq, and_true, true_and] at hv
    obtain ⟨rfl, rfl⟩ := hv
    rw [hg]
    have : cur.toList = xs := by rw [← ht, List.take_of_length_le (by simp; omega)]
    rw [← this]

/-- the first k cells of block b hold v, n cells are there -/
def Filled (w : World) (b : Nat) (t : TypeId) (n k : Nat) (v : Value) : Prop := ∃ cur : List Value, w.heap[b]? = some (.cells cur.toArray t (0, 0)) ∧ cur.length = n ∧ cur.take k = List.replicate k v
theorem Filled.cell {w : World} {b : Nat} {t : TypeId} {n k : Nat} {v : Value} (h : Filled w b t n k v) (i : Nat) (hi : i < k) (hk : k ≤ n) : w.cell? ⟨b, i, none⟩ = some v := by
  obtain ⟨cur, hb, hl, ht⟩ := h
  rw [cell_of_row w b i _ t (0, 0) hb]
  have := congrArg (·[i]?) ht
  simp only [List.getElem?_take, if_pos hi, List.getElem?_replicate] at this
  simpa using this
theorem Filled.splice {w' : World} {b : Nat} {t : TypeId} {n k m : Nat} {v : Value} {cur : List Value} (hl : cur.length = n) (ht : cur.take k = List.replicate k v) (hm : k + m ≤ n)
    (h : Hid (w'.heap[b]? = some (.cells (splice cur k (List.replicate m v)).toArray t (0, 0)))) : Filled w' b t n (k + m) v := by
  refine ⟨_, h.out, ?_, ?_⟩
  · simp [Go.splice, hl]; omega
  · have hk : (cur.take k).length = k := by simp; omega
    simp only [Go.splice]
    rw [ht, ← List.append_assoc, List.take_left' (by simp), List.replicate_append_replicate]

/-- copy, at the place where the filled cells end -/
theorem run_copy_fill {P : Program} (w : World) (dT sT ty elem : TypeId) (g n k m dLen dCap : Nat) (a : Addr) (sLen sCap : Nat) (t : TypeId) (v : Value) (hv : v.oneCell' = true)
    (hu : P.underlying dT = some (.slice elem)) (hs : (P.info? elem).map (·.size) = some 1) (hF : Filled w g t n k v) (hm : m = Nat.min sLen dLen) (hk : k + m ≤ n) (hsrc : ∀ j, j < m → w.cell? (a.add j) = some v) :
    ∃ w', (Builtin.copy_ #[dT, sT] ty #[.slice (some ⟨g, k, none⟩) dLen dCap, .slice (some a) sLen sCap]).run P w = .ok (.int .i64 (m : Int)) w' ∧ Filled w' g t n (k + m) v ∧ w.grownBy w' (some g) := by
  obtain ⟨cur, hb, hl, ht⟩ := hF
  have hcp := run_copy_row (P := P) w dT sT ty elem g k dLen dCap a sLen sCap _ t (List.replicate m v) hu hs hb (by simpa using hm) (by
    intro j u hj
    rw [List.getElem?_replicate] at hj
    split at hj
    · rename_i h
      cases hj
      exact hsrc j h
    · cases hj) (by simp; omega) (by
    intro u hu
    rw [List.mem_replicate] at hu
    rw [hu.2]
    exact hv)
  have hg : (List.replicate m v).length = m := by simp
  rw [hg] at hcp
  refine ⟨_, hcp, ?_, ⟨rfl, rfl, rfl, by simp [World.setRow], fun j _ hj => setRow_other w g j _ (fun e => hj (by rw [e]))⟩⟩
  refine Filled.splice (cur := cur) hl ht hk ?_
  show _ = _
  have hr := setRow_heap w g _ (cur.toArray.toList.take k ++ List.replicate m v ++ cur.toArray.toList.drop (k + m)).toArray t _ hb
  rw [hr]
  simp [Go.splice]

/-- copy as one step of a region that draws -/
theorem step_copy_run {P : Program} {ops : Array Oper} {o : Oper} {a : Act} {w w' : World} {K : Act → World → Prop} {Q : Exit → Act → World → Prop} {E : Prop} (hgd : o.guard = none) (d s : Operand) (dT sT : TypeId)
    (ho : o.op = .call { callee := .builtin .copy, args := #[d, s], argTypes := #[dT, sT] }) {vd vs v : Value} (hd : a.eval d = vd) (hs : a.eval s = vs)
    (hrun : (Builtin.copy_ #[dT, sT] o.type #[vd, vs]).run P w = .ok v w') (h : K (a.put o.dst v) w') :
    if Region.wanted o (yielded ops a.tmps) = true then Oper.wp P o a w K Q else E := by
  have hw : Region.wanted o (yielded ops a.tmps) = true := by simp [Region.wanted, hgd]
  rw [if_pos hw]
  unfold Oper.wp
  simp [execOp, ho, resolve, invoke, builtin, hd, hs, hrun, Result.andThen]
  exact h

set_option maxRecDepth 100000 in
set_option maxHeartbeats 400000 in
theorem Repeat_any (b0 : Nat) (v : Int) (N : Nat) (hN : N ≤ 1000) (w : World) (hc : w.cell? ⟨b0, 0, none⟩ = some (.int .i64 v)) :
    Calls Tryd.prog 162 #[.slice (some ⟨b0, 0, none⟩) 1 1, .int .i64 N] w fun e w' => e = .returned (.slice (some ⟨w.heap.size, 0, none⟩) N N) ∧ Chg No w w' ∧ Row w' w.heap.size 3 (List.replicate N (Value.int .i64 v)).toArray := by
  obtain ⟨i0, hi, hz0, hz1, hz2⟩ := info_parts info_int
  have Hz := Lib.hid (And.intro hz0 (And.intro hz1 hz2))
  clear hz0 hz1 hz2
  have hsz1 : (Tryd.prog.info? 3).map (·.size) = some 1 := by kernel_rfl
  go_enter Tryd.func162, Tryd.ntmps162
  go_wp2_with (first
    | (go_at_call 164; refine (Mul_one _ (by omega) (by omega) _).mono ?_; rintro e w' ⟨rfl, rfl⟩)
    | (at_make; refine wpList_make_full _ rfl _ _ _ rfl w.heap.size 3 i0 (.int .i64 0) 1 Tryd.underlying36 hi Hz.out.1 Hz.out.2.1 _ _ _ _ N rfl rfl (by omega) (by omega) (by rw [Hz.out.2.2]; omega) (by unfold maxLen; omega) (Nat.le_refl _) ?_; intro w1 hown hgrow))
  have hF0 : Filled w1 w.heap.size 3 N 0 (.int .i64 v) := ⟨_, own_row hown, by simpa [Value.cells] using congrArg List.length (toList_madeCells_one (.int .i64 0) N), by simp⟩
  have hC0 : Chg No w w1 := (Chg.refl _ _).grown hgrow (by simp)
  obtain ⟨w2, hcp, hF, hG⟩ := run_copy_fill (P := Tryd.prog) w1 36 36 3 3 w.heap.size N 0 (min 1 N) N N ⟨b0, 0, none⟩ 1 1 3 (.int .i64 v) rfl Tryd.underlying36 hsz1 hF0 rfl (by omega) (fun j hj => by
    obtain rfl : j = 0 := by omega
    exact hgrow.cell (a := ⟨b0, 0, none⟩) hc (by simp))
  have hC : Chg No w w2 := hC0.grown hG (fun k hk => .inr (by cases hk; exact Nat.le_refl _))
  rw [hcp, Nat.zero_add] at *
  clear hcp hown hgrow hF0 hG hC0
  go_wp2_with fail
  go_loopg [8] N (fun k v8 wr => ∃ i : Nat, v8 = .int .i64 i ∧ i ≤ N ∧ (0 < N → 0 < i) ∧ N - i ≤ k ∧ Filled wr w.heap.size 3 N i (.int .i64 v) ∧ Chg No w wr)
  case atStart => exact ⟨min 1 N, rfl, by omega, by omega, by omega, hF, hC⟩
  case round =>
    clear hF hC
    obtain ⟨i, rfl, h1, h2, h3, hF, hC⟩ := hrel
    by_cases hi : i < N
    · have h4 : 0 < i := h2 (by omega)
      have e1 : ¬ N = i := by omega
      obtain ⟨w3, hcp, hF3, hG3⟩ := run_copy_fill (P := Tryd.prog) wr.drew 36 36 3 3 w.heap.size N i (min i (N - i)) (N - i) (N - i) ⟨w.heap.size, 0, none⟩ i N 3 (.int .i64 v) rfl Tryd.underlying36 hsz1 hF rfl (by omega) (fun j hj => by
        rw [Addr.add_lit, Nat.zero_add]
        exact hF.cell j (by omega) h1)
      have hC3 : Chg No w w3 := hC.drew.grown hG3 (fun k hk => .inr (by cases hk; exact Nat.le_refl _))
      have HC := Lib.hid hcp
      clear hcp hF hG3 hC
      have hwr : IntKind.i64.wrap ((i : Int) + ((min i (N - i) : Nat) : Int)) = ((i + min i (N - i) : Nat) : Int) := by
        rw [IntWalk.i64_in _ (by omega)]; omega
      go_wp2_with fail
      go_region_law (refine step_copy_run rfl (.tmp 41) (.tmp 44) 36 36 rfl (by simp [Act.eval, Act.put, e1]) (by simp [Act.eval, Act.put]) HC.out ?_)
      go_wp2_with fail
      go_roundg (N - (i + min i (N - i)))
      case measure => omega
      case rel => exact ⟨i + min i (N - i), by go_num, by omega, by omega, Nat.le_refl _, hF3, hC3⟩
    · obtain rfl : i = N := by omega
      go_wp2_with fail
      go_ret
      refine ⟨rfl, hC, ?_⟩
      obtain ⟨cur, hb, hl, ht⟩ := hF
      rw [List.take_of_length_le (by omega)] at ht
      rw [ht] at hb
      exact hb

theorem elem_int : ElemInfo Tryd.prog 36 3 1 8 := .of Tryd.underlying36 info_int rfl
theorem elem_u8 : ElemInfo Tryd.prog 39 5 1 1 := .of Tryd.underlying39 info_u8 rfl
theorem own_empty (w : World) (t : TypeId) : (w.alloc (.cells #[] t)).ownsRow w.heap.size t 1 (.slice (some ⟨w.heap.size, 0, none⟩) 0 0) 0 [] := World.ownsRow_lit w #[] 0 (Nat.le_refl _) (Nat.zero_le _) (by simp)
theorem one_ints (k : IntKind) (l : List Int) : ∀ u ∈ l.map (Value.int k), u.oneCell' = true := ints_oneCell k l

set_option maxRecDepth 100000 in
set_option maxHeartbeats 400000 in
theorem CloneI_any (v : Value) (l : List Int) (S : Nat → Prop) (w : World) (h : IntS w S v l) (hl : l.length ≤ 1000000000) :
    Calls Tryd.prog 163 #[v] w (Ret fun v' w' => Chg No w w' ∧ w'.ownsRow w.heap.size 3 1 v' l.length (l.map (.int .i64))) := by
  have hs := h.1
  obtain ⟨A, c, rfl, h1, h2, h3, h4⟩ := h.form
  have hq : ∀ w, (binOp .eql 36 (.slice A l.length c) (.slice none 0 0)).run Tryd.prog w = .ok (.bool A.isNone) w := fun w => Lib.run_eql_slice_nil w 36 3 A l.length c 0 0 Tryd.underlying36
  cases A with
  | none =>
    obtain rfl := h3 rfl
    have hn : l = [] := List.eq_nil_of_length_eq_zero (by omega)
    subst hn
    clear h1 h2 h3 h4 hs h hl hq
    have hq : ∀ w, (binOp .eql 36 (.slice none 0 0) (.slice none 0 0)).run Tryd.prog w = .ok (.bool true) w := fun w => Lib.run_eql_slice_nil w 36 3 none 0 0 0 0 Tryd.underlying36
    go_enter Tryd.func163, Tryd.ntmps163
    go_wp2_with fail
    go_ret
    exact Ret.mk ⟨Chg.refl _ _, World.ownsRow_nil _ _ _ _⟩
  | some a =>
    obtain ⟨v', w1, hr, ho, hg⟩ := run_app elem_int (by decide) (own_empty w 3) (hs.alloc (.cells #[] 3)) (one_ints _ l) (by unfold maxLen; omega) (by omega) (by simp) 36
    have Hr := Lib.hid hr
    clear hr h1 h2 h3 h4 hs h hl
    go_enter Tryd.func163, Tryd.ntmps163
    go_wp2_with (at_builtin; refine wpList_append_run rfl _ _ _ rfl rfl rfl Hr.out ?_)
    go_ret
    exact Ret.mk ⟨((Chg.refl _ _).alloc _).grown hg (fun k hk => .inr (by cases hk; exact Nat.le_refl _)), by simpa using ho⟩

set_option maxRecDepth 100000 in
set_option maxHeartbeats 400000 in
theorem CloneB_any (v : Value) (l : List Int) (S : Nat → Prop) (w : World) (h : ByteS w S v l) (hl : l.length ≤ 1000000000) :
    Calls Tryd.prog 100 #[v] w (Ret fun v' w' => Chg No w w' ∧ w'.ownsRow w.heap.size 5 1 v' l.length (l.map (.int .u8))) := by
  have hs := h.1
  obtain ⟨A, c, rfl, h1, h2, h3, h4⟩ := h.form
  have hq : ∀ w, (binOp .eql 39 (.slice A l.length c) (.slice none 0 0)).run Tryd.prog w = .ok (.bool A.isNone) w := fun w => Lib.run_eql_slice_nil w 39 5 A l.length c 0 0 Tryd.underlying39
  cases A with
  | none =>
    obtain rfl := h3 rfl
    have hn : l = [] := List.eq_nil_of_length_eq_zero (by omega)
    subst hn
    clear h1 h2 h3 h4 hs h hl hq
    have hq : ∀ w, (binOp .eql 39 (.slice none 0 0) (.slice none 0 0)).run Tryd.prog w = .ok (.bool true) w := fun w => Lib.run_eql_slice_nil w 39 5 none 0 0 0 0 Tryd.underlying39
    go_enter Tryd.func100, Tryd.ntmps100
    go_wp2_with fail
    go_ret
    exact Ret.mk ⟨Chg.refl _ _, World.ownsRow_nil _ _ _ _⟩
  | some a =>
    obtain ⟨v', w1, hr, ho, hg⟩ := run_app elem_u8 (by decide) (own_empty w 5) (hs.alloc (.cells #[] 5)) (one_ints _ l) (by unfold maxLen; omega) (by omega) (by simp) 39
    have Hr := Lib.hid hr
    clear hr h1 h2 h3 h4 hs h hl
    go_enter Tryd.func100, Tryd.ntmps100
    go_wp2_with (at_builtin; refine wpList_append_run rfl _ _ _ rfl rfl rfl Hr.out ?_)
    go_ret
    exact Ret.mk ⟨((Chg.refl _ _).alloc _).grown hg (fun k hk => .inr (by cases hk; exact Nat.le_refl _)), by simpa using ho⟩

end Go.Proofs.YtncoanmgifgcbaaDoor
