/- More contracts over a flat memory: flat.Class, flat.Size, Fetch; its objects may be. -/
import Derived.Test.YtjanojignaonfaaFlatJ
namespace Go.Proofs.Ytjanojignaonfaa
set_option linter.unusedVariables false
set_option linter.unusedSimpArgs false
open Go.RowKit

section
variable {w0 w w' : World} {m : Nat} {L L' : List O} {K : (Nat → Prop) → World → Prop} {F F' : Nat → Prop}
theorem MemK.okAt (h : MemK w0 w m L K) {i : Nat} (hk : (ob L i).kind ≠ 0) : (ob L i).ok := by
  obtain ⟨F, ⟨q, es, ad, wv, bv, hi⟩, _⟩ := h
  exact hi.ok i hk
theorem MemK.goneAt {w0 w : World} {m : Nat} {L : List O} {K : (Nat → Prop) → World → Prop} (h : MemK w0 w m L K) {i : Nat} (hk : (ob L i).kind = 0) : ob L i = O.zero := by
  obtain ⟨F, ⟨q, es, ad, wv, bv, hi⟩, _⟩ := h
  exact hi.gone i hk
end

section
variable {w0 w w' : World} {m : Nat} {L L' : List O} {K : (Nat → Prop) → World → Prop} {F F' : Nat → Prop}
theorem k_FetchC (h : MemK w0 w m L K) (o i : Int) (ho : In64 o) :
    Calls Try.prog 33 #[.pointer (some ⟨m, 0, none⟩), .int .i64 o, .int .i64 i] w fun e w' => e = .returned (.tuple #[.int .i64 (fetchV L o i), .int .i64 (placeE L o 1 i)]) ∧ MemK w0 w' m L K ∧ Chg No w w' := by
  have h0 := h
  obtain ⟨F, ⟨q, es, ad, wv, bv, hi⟩, hc0, hF, hK⟩ := h
  refine (Fetch_any hi o i ho).mono ?_
  rintro e w' ⟨rfl, c1⟩
  exact ⟨rfl, h0.world (Chg.of_below c1), Chg.of_below c1⟩
end

section
variable {w0 w w' : World} {m : Nat} {L L' : List O} {K : (Nat → Prop) → World → Prop} {F F' : Nat → Prop}
set_option maxRecDepth 100000 in
set_option maxHeartbeats 1000000 in
theorem k_Class (h : MemK w0 w m L K) (o : Int) (ho : In64 o) :
    Calls Try.prog 58 #[.iface 30 (.pointer (some ⟨m, 0, none⟩)), .int .i64 o] w fun e w' => e = .returned (.tuple #[.int .i64 (objV L o).cls, .int .i64 (objE L o)]) ∧ MemK w0 w' m L K ∧ Chg No w w' := by
  have H := Lib.hid h
  clear h
  generalize hx : objV L o = x at *
  have HX := Lib.hid hx
  clear hx
  go_enter Try.func58, Try.ntmps58
  go_wp2_with (go_at_call 24; refine (k_ObjC H.out o ho).mono ?_; rw [HX.out]; rintro e w21 ⟨r, rfl, g3, hr, c3⟩; obtain ⟨A1, c1, B1, d1, rfl⟩ := hr.shape; have HG := Lib.hid (And.intro g3 c3); clear g3 c3 hr)
  go_ret2
  exact ⟨rfl, HG.out.1.world ((Chg.refl _ _).alloc _), HG.out.2.alloc _⟩
end

section
variable {w0 w w' : World} {m : Nat} {L L' : List O} {K : (Nat → Prop) → World → Prop} {F F' : Nat → Prop}
end

section
variable {w0 w w' : World} {m : Nat} {L L' : List O} {K : (Nat → Prop) → World → Prop} {F F' : Nat → Prop}
/-- what one thing that is done turns -/
def Turned (w : World) (F : Nat → Prop) (F' : Nat → Prop) (w' : World) : Prop := (∀ b, F b → F' b) ∧ (∀ b, F' b → F b ∨ w.heap.size ≤ b) ∧ Chg F w w'
theorem Flat.toK (hf : Flat w m F L) : MemK { w with heap := #[] } w m L (Turned w F) :=
  ⟨F, hf, ⟨rfl, rfl, rfl, by simp, by simp⟩, by simp, fun F' w' h1 h2 c => ⟨h1, h2, c⟩⟩
/-- the end of each way: cells of new blocks have been written behind the call -/
theorem done_end (hf : Flat w m F L) (hc : Chg No w0 w) (hF : ∀ b, F b → w0.heap.size ≤ b) (hK : ∀ F' w', (∀ b, F b → F' b) → (∀ b, F' b → F b ∨ w.heap.size ≤ b) → Chg F w w' → K F' w')
    {w3 w4 W : World} (h3 : Chg No w w3) (hf4 : Flat w4 m F' L') (ht : Turned w3 F F' w4) {G : Nat → Prop} (hG : ∀ b, G b → w.heap.size ≤ b ∧ b < w3.heap.size) (hW : Chg G w4 W) : MemK w0 W m L' K := by
  have h3s := h3.size
  have cw4 : Chg F w w4 := h3.no.trans ht.2.2
  refine MemK.go hf hc hF hK (hf4.keep hW fun b hb hg => ?_) (cw4.then hW fun i hi hg => ?_) (fun b hb => ?_) ht.1
  · have h1 := hG b hg
    rcases ht.2.1 b hb with h | h
    · have := hf.lt h; omega
    · omega
  · have := hG i hg; omega
  · rcases ht.2.1 b hb with h | h
    · exact .inl h
    · exact .inr (by omega)
end

end Go.Proofs.Ytjanojignaonfaa
