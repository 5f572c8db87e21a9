/- A memory with a frame in it (websterlaw15: world, made, known). -/
import Derived.Test.YtjanojignaonfaaFrameF
namespace Go.Proofs.Ytjanojignaonfaa
set_option linter.unusedVariables false
set_option linter.unusedSimpArgs false
open Go.RowKit

theorem Row.newAt {w : World} {b : Nat} (hb : w.heap.size = b) (t : TypeId) (cs : Array Value) : Row (w.alloc (.cells cs t)) b t cs := hb ▸ Row.new w t cs
def w0O : O := ⟨2, 1, [], []⟩
def worldL : List O := [w0O, w0O, w0O, ⟨2, 1, [2, 2, 2, 10, 12], []⟩, w0O, w0O, ⟨2, 1, [101, 2], []⟩]
def worldT (h : Nat) : List T3 := [(w0O, .slice none 0 0, .slice none 0 0), (w0O, .slice none 0 0, .slice none 0 0), (w0O, .slice none 0 0, .slice none 0 0), (⟨2, 1, [2, 2, 2, 10, 12], []⟩, .slice (some ⟨h + 1 + 1, 0, none⟩) 5 5, .slice none 0 0), (w0O, .slice none 0 0, .slice none 0 0), (w0O, .slice none 0 0, .slice none 0 0), (⟨2, 1, [101, 2], []⟩, .slice (some ⟨h + 1 + 1 + 1 + 1, 0, none⟩) 2 2, .slice none 0 0)]
theorem in0 : In64 0 := ⟨by decide, by decide⟩
theorem world_ref {W : World} {h : Nat} (r2 : Row W (h + 1 + 1) 3 #[.int .i64 2, .int .i64 2, .int .i64 2, .int .i64 10, .int .i64 12]) (r4 : Row W (h + 1 + 1 + 1 + 1) 3 #[.int .i64 101, .int .i64 2])
    (r5 : Row W (h + 1 + 1 + 1 + 1 + 1) 39 (cellsT (worldT h)).toArray) : RefT W (fun b => h ≤ b) (.slice (some ⟨h + 1 + 1 + 1 + 1 + 1, 0, none⟩) 7 7) (worldT h) := by
  have n0 : ∀ S : Nat → Prop, okT W S (w0O, .slice none 0 0, .slice none 0 0) := fun S => ⟨IntS.nil _ _, ByteS.nil _ _, in2, in1⟩
  refine ⟨?_, ?_⟩
  · have h5 := Slc.row (S := fun b => h ≤ b) r5 7 4 rfl (by decide) (by omega)
    rw [List.toList_toArray] at h5
    exact h5
  · intro t ht
    simp only [worldT, List.mem_cons, List.not_mem_nil, or_false] at ht
    rcases ht with rfl | rfl | rfl | rfl | rfl | rfl | rfl
    · exact n0 _
    · exact n0 _
    · exact n0 _
    · exact ⟨(IntS.row (l := [2, 2, 2, 10, 12]) r2 (by simp) (by intro x hx; simp at hx; rcases hx with rfl | rfl | rfl <;> exact ⟨by decide, by decide⟩)).more (fun b _ e => by subst e; omega), ByteS.nil _ _, in2, in1⟩
    · exact n0 _
    · exact n0 _
    · exact ⟨(IntS.row (l := [101, 2]) r4 (by simp) (by intro x hx; simp at hx; rcases hx with rfl | rfl <;> exact ⟨by decide, by decide⟩)).more (fun b _ e => by subst e; omega), ByteS.nil _ _, in2, in1⟩

set_option maxRecDepth 100000 in
set_option maxHeartbeats 1000000 in
theorem world_any (w : World) : Calls Try.prog 70 #[] w fun e w' => e = .returned (.slice (some ⟨w.heap.size + 1 + 1 + 1 + 1 + 1, 0, none⟩) 7 7) ∧ RefT w' (fun b => w.heap.size ≤ b) (.slice (some ⟨w.heap.size + 1 + 1 + 1 + 1 + 1, 0, none⟩) 7 7) (worldT w.heap.size) ∧ Chg No w w' := by
  obtain ⟨h, hh⟩ : ∃ h, w.heap.size = h := ⟨_, rfl⟩
  rw [hh]
  go_enter Try.func70, Try.ntmps70
  go_wp2_with fail
  go_ret
  refine ⟨rfl, ?_, ?_⟩
  · refine world_ref ?_ ?_ ?_
    · exact (((Row.newAt (by simp [hh]) _ _).alloc _).alloc _).alloc _
    · exact (Row.newAt (by simp [hh]) _ _).alloc _
    · exact Row.newAt (by simp [hh]) _ _
  · exact ((((((Chg.refl _ _).alloc _).alloc _).alloc _).alloc _).alloc _).alloc _

/-- the memory with a frame in it -/
def frameW (sp : Int) (st : List Int) : List Int := [2, 1, 2 * sp + 1, 14, 4, 2, 1, 1] ++ st
def frameL : List O := worldL ++ [⟨12, 1, frameW 3 ([7, 9] ++ List.replicate 22 2), []⟩]
theorem enter_world : enterR worldL 2 14 4 [7, 9] = (frameL, 16, 0) := by kernel_rfl
theorem MemK.refT {w0 w w' : World} {m : Nat} {L : List O} {K : (Nat → Prop) → World → Prop} (h : MemK w0 w m L K) {lv : Value} {T : List T3} (c : Chg No w w') (hr : RefT w' (fun b => w.heap.size ≤ b) lv T) : MemK w0 w' m L (fun F v => K F v ∧ RefT v (fun b => ¬ F b) lv T) :=
  h.now c fun G hG _ G' w2 h1 h3 c2 hk => ⟨hk, ((hr.more fun b hb hS => (fun hg => by
    rcases h3 b hg with h | h
    · have := (hG b h).1; omega
    · omega : ¬ G' b)).keep c2 fun b hb hg => hb (h1 b hg))⟩
theorem MemK.fresh2 {w0 w : World} {m : Nat} {L : List O} {K : (Nat → Prop) → World → Prop} (h : MemK w0 w m L K) (t : TypeId) (n : Nat) (hn : w.heap.size = n) (a b : Int) (ha : In64 a) (hb : In64 b) :
    MemK w0 (w.alloc (.cells #[.int .i64 a, .int .i64 b] t)) m L (fun F v => K F v ∧ IntS v (fun b => ¬ F b) (.slice (some ⟨n, 0, none⟩) 2 2) [a, b]) :=
  hn ▸ h.fresh t [a, b] (by simp) (by intro x hx; simp at hx; rcases hx with rfl | rfl <;> assumption)

set_option maxRecDepth 100000 in
set_option maxHeartbeats 1000000 in
theorem made15_any (w : World) : Calls Try.prog 32 #[] w fun e w' => ∃ m, e = .returned (.tuple #[.pointer (some ⟨m, 0, none⟩), .int .i64 16]) ∧ MemK w w' m frameL (fun _ _ => True) := by
  have hE := Lib.hid enter_world
  go_enter Try.func32, Try.ntmps32
  go_wp2_with (first
    | (go_at_call 46; refine (k_flatNew (Chg.refl _ _)).mono ?_; rintro e w1 ⟨m, rfl, g1⟩; have H1 := Lib.hid g1; clear g1)
    | (go_at_call 70
       refine (world_any _).mono ?_
       rintro e w2 ⟨rfl, hr, c2⟩
       have H2 := Lib.hid (H1.out.refT c2 hr)
       clear hr c2)
    | (go_at_call 47
       refine (k_Load_ok H2.out _ (worldT w1.heap.size) (by simp [worldT]) (fun F v hk => hk.2) (by kernel_rfl)).mono ?_
       rintro e w3 ⟨rfl, g3⟩
       have g3b : MemK w w3 m worldL (fun _ _ => True) := g3.mono fun _ _ _ => trivial
       have H3 := Lib.hid g3b
       clear g3 g3b)
    | (go_at_call 48
       refine (k_Enter (H3.out.fresh2 3 _ rfl 7 9 ⟨by decide, by decide⟩ ⟨by decide, by decide⟩) 2 14 4 ⟨by decide, by decide⟩ ⟨by decide, by decide⟩ ⟨by decide, by decide⟩ _ [7, 9] (fun F v hk => hk.2) (by simp [worldL])).mono ?_
       rw [hE.out]
       rintro e w4 ⟨rfl, g4⟩
       have g4b : MemK w w4 m frameL (fun _ _ => True) := g4.mono fun _ _ _ => trivial
       have H4 := Lib.hid g4b
       clear g4 g4b)
    | fail)
  go_ret2
  exact ⟨m, rfl, H4.out⟩

end Go.Proofs.Ytjanojignaonfaa
