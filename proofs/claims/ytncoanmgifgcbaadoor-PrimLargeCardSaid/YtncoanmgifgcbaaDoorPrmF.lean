/- The four of prim.Do that PrimPlaces asks, over its memory. -/
import Derived.Test.YtncoanmgifgcbaaDoorPrmE
import Derived.Test.YtncoanmgifgcbaaDoorLoadA
namespace Go.Proofs.YtncoanmgifgcbaaDoor
set_option linter.unusedVariables false
set_option linter.unusedSimpArgs false
open Go.RowKit

section
variable {w0 w : World} {m : Nat} {K : (Nat → Prop) → World → Prop} {W : List Int} {n i v : Int}
theorem odd64 {n : Int} (h1 : 0 ≤ n) (h2 : n ≤ 1000) : In64 (2 * n + 1) := by unfold In64; omega
theorem kN_odd {n : Int} (h1 : 0 ≤ n) (h2 : n ≤ 1000) : kN (2 * n + 1) = n := by
  obtain ⟨a, b⟩ := num_odd h1 h2
  unfold kN
  rw [if_pos a, b]
theorem do_71 (h : MemK w0 w m Lp K) (ht : Tab w0) (h1 : 0 ≤ n) (h2 : n ≤ 255) (A : Option Addr) (c : Nat) (S : Nat → Prop) (hv : IntS w S (.slice A 1 c) [2 * n + 1]) :
    Calls Tryd.prog 20 #[.iface 27 (.pointer (some ⟨m, 0, none⟩)), .int .i64 71, .int .i64 10, .slice A 1 c] w fun e w' => e = .returned (.tuple #[.int .i64 12, .bool true, .int .i64 0]) ∧ MemK w0 w' m (Lq (List.replicate (3 + n).toNat 2)) K := by
  obtain ⟨e1, e2, e3⟩ := ins_places h1 h2
  have hk := kN_odd h1 (by omega : n ≤ 1000)
  have h10 : In64 10 := by unfold In64; omega
  refine (k_DoObj h (ht.chg h.chg) 71 10 (by omega) A 1 c (by kernel_rfl) (by kernel_rfl) 12 0 (L' := Lq (List.replicate (3 + n).toNat 2)) (fun w1 g1 c1 => ?_)).mono fun e w' hh => hh
  refine (k_obj71 g1 10 h10 [2 * n + 1] _ S (hv.keep c1 (fun _ _ f => f)) (by simp) (by simp [Lp])).mono ?_
  rw [List.map_cons, List.map_nil, hk, e1, e2, e3]
  exact fun e w' hh => hh
theorem do_62 (h : MemK w0 w m (Lq W) K) (ht : Tab w0) (hW : (W.length : Int) = 3 + n) (h1 : 0 ≤ n) (h2 : n ≤ 255) :
    Calls Tryd.prog 20 #[.iface 27 (.pointer (some ⟨m, 0, none⟩)), .int .i64 62, .int .i64 12, .slice none 0 0] w fun e w' => e = .returned (.tuple #[.int .i64 (2 * n + 1), .bool true, .int .i64 0]) ∧ MemK w0 w' m (Lq W) K := by
  obtain ⟨e1, e2, e3, e4⟩ := beh_places hW h1
  have h10 : In64 12 := by unfold In64; omega
  have hs : smallV n = 2 * n + 1 ∧ smallE n = 0 := by
    unfold smallV smallE
    rw [if_pos (by omega), if_pos (by omega)]
    exact ⟨rfl, rfl⟩
  refine (k_DoObj h (ht.chg h.chg) 62 12 (by omega) none 0 0 (by kernel_rfl) (by kernel_rfl) (2 * n + 1) 0 (L' := Lq W) (fun w1 g1 c1 => ?_)).mono fun e w' hh => hh
  refine (k_obj62 g1 12 h10 [] _ (fun _ => True) (IntS.nil _ _) (by simp)).mono ?_
  rw [e1, e3, if_neg (by simp), if_neg (by simp), hs.1, hs.2]
  exact fun e w' hh => hh
/-- within -/
theorem do_61 (h : MemK w0 w m (Lq W) K) (ht : Tab w0) (hW : (W.length : Int) = 3 + n) (h1 : 1 ≤ i) (h2 : i ≤ n) (hn : n ≤ 255) (hr : refOk v = true) (h64 : In64 v) (A : Option Addr) (c : Nat) (S : Nat → Prop) (hv : IntS w S (.slice A 2 c) [2 * i + 1, v]) :
    Calls Tryd.prog 20 #[.iface 27 (.pointer (some ⟨m, 0, none⟩)), .int .i64 61, .int .i64 12, .slice A 2 c] w fun e w' => e = .returned (.tuple #[.int .i64 v, .bool true, .int .i64 0]) ∧ MemK w0 w' m (Lq (W.set (2 + i).toNat v)) K := by
  obtain ⟨e1, e2, e3, e4⟩ := beh_places hW (by omega : 0 ≤ n)
  obtain ⟨p1, p2⟩ := at_places hW (by omega : 0 ≤ n) (by omega : 0 ≤ i) (by omega)
  obtain ⟨s1, s2, s3, s4⟩ := set_places hW h1 h2 hr
  rw [if_pos ⟨h1, h2⟩] at p1
  have h10 : In64 12 := by unfold In64; omega
  refine (k_DoObj h (ht.chg h.chg) 61 12 (by omega) A 2 c (by kernel_rfl) (by kernel_rfl) v 0 (L' := Lq (W.set (2 + i).toNat v)) (fun w1 g1 c1 => ?_)).mono fun e w' hh => hh
  refine (k_obj61 g1 12 (2 * i + 1) v h10 (odd64 (by omega) (by omega)) h64 _ S (hv.keep c1 (fun _ _ f => f))).mono ?_
  unfold putV' putE' putL'
  rw [p1, p2, e4, s1, s2]
  exact fun e w' hh => hh
theorem do_60 (h : MemK w0 w m (Lq (W.set (2 + i).toNat v)) K) (ht : Tab w0) (hW : (W.length : Int) = 3 + n) (h1 : 1 ≤ i) (h2 : i ≤ n) (hn : n ≤ 255) (hr : refOk v = true) (A : Option Addr) (c : Nat) (S : Nat → Prop) (hv : IntS w S (.slice A 1 c) [2 * i + 1]) :
    Calls Tryd.prog 20 #[.iface 27 (.pointer (some ⟨m, 0, none⟩)), .int .i64 60, .int .i64 12, .slice A 1 c] w fun e w' => e = .returned (.tuple #[.int .i64 v, .bool true, .int .i64 0]) ∧ MemK w0 w' m (Lq (W.set (2 + i).toNat v)) K := by
  obtain ⟨s1, s2, s3, s4⟩ := set_places hW h1 h2 hr
  have hW' : ((W.set (2 + i).toNat v).length : Int) = 3 + n := by rw [List.length_set]; exact hW
  obtain ⟨e1, e2, e3, e4⟩ := beh_places hW' (by omega : 0 ≤ n)
  obtain ⟨p1, p2⟩ := at_places hW' (by omega : 0 ≤ n) (by omega : 0 ≤ i) (by omega)
  rw [if_pos ⟨h1, h2⟩] at p1
  have h10 : In64 12 := by unfold In64; omega
  refine (k_DoObj h (ht.chg h.chg) 60 12 (by omega) A 1 c (by kernel_rfl) (by kernel_rfl) v 0 (fun w1 g1 c1 => ?_)).mono fun e w' hh => hh
  refine (k_obj60 g1 12 (2 * i + 1) h10 (odd64 (by omega) (by omega)) _ S (hv.keep c1 (fun _ _ f => f))).mono ?_
  unfold getV' getE'
  rw [p1, p2, e4, s3, s4]
  exact fun e w' hh => hh
/-- beyond -/
theorem do_61n (h : MemK w0 w m (Lq W) K) (ht : Tab w0) (hW : (W.length : Int) = 3 + n) (h0 : 0 ≤ n) (h1 : 0 ≤ i) (h2 : i ≤ 255) (hn : ¬ (1 ≤ i ∧ i ≤ n)) (h64 : In64 v) (A : Option Addr) (c : Nat) (S : Nat → Prop) (hv : IntS w S (.slice A 2 c) [2 * i + 1, v]) :
    Calls Tryd.prog 20 #[.iface 27 (.pointer (some ⟨m, 0, none⟩)), .int .i64 61, .int .i64 12, .slice A 2 c] w fun e w' => e = .returned (.tuple #[.int .i64 0, .bool false, .int .i64 0]) ∧ MemK w0 w' m (Lq W) K := by
  obtain ⟨p1, p2⟩ := at_places hW h0 h1 h2
  rw [if_neg hn] at p1
  have h10 : In64 12 := by unfold In64; omega
  refine (k_DoObj h (ht.chg h.chg) 61 12 (by omega) A 2 c (by kernel_rfl) (by kernel_rfl) 0 21 (L' := Lq W) (fun w1 g1 c1 => ?_)).mono fun e w' hh => hh
  refine (k_obj61 g1 12 (2 * i + 1) v h10 (odd64 (by omega) (by omega)) h64 _ S (hv.keep c1 (fun _ _ f => f))).mono ?_
  unfold putV' putE' putL'
  rw [p1]
  exact fun e w' hh => hh
theorem do_60n (h : MemK w0 w m (Lq W) K) (ht : Tab w0) (hW : (W.length : Int) = 3 + n) (h0 : 0 ≤ n) (h1 : 0 ≤ i) (h2 : i ≤ 255) (hn : ¬ (1 ≤ i ∧ i ≤ n)) (A : Option Addr) (c : Nat) (S : Nat → Prop) (hv : IntS w S (.slice A 1 c) [2 * i + 1]) :
    Calls Tryd.prog 20 #[.iface 27 (.pointer (some ⟨m, 0, none⟩)), .int .i64 60, .int .i64 12, .slice A 1 c] w fun e w' => e = .returned (.tuple #[.int .i64 0, .bool false, .int .i64 0]) ∧ MemK w0 w' m (Lq W) K := by
  obtain ⟨p1, p2⟩ := at_places hW h0 h1 h2
  rw [if_neg hn] at p1
  have h10 : In64 12 := by unfold In64; omega
  refine (k_DoObj h (ht.chg h.chg) 60 12 (by omega) A 1 c (by kernel_rfl) (by kernel_rfl) 0 21 (fun w1 g1 c1 => ?_)).mono fun e w' hh => hh
  refine (k_obj60 g1 12 (2 * i + 1) h10 (odd64 (by omega) (by omega)) _ S (hv.keep c1 (fun _ _ f => f))).mono ?_
  unfold getV' getE'
  rw [p1]
  exact fun e w' hh => hh

theorem Row.newAtP {w : World} {b : Nat} (hb : w.heap.size = b) (t : TypeId) (cs : Array Value) : Row (w.alloc (.cells cs t)) b t cs := hb ▸ Row.new w t cs
theorem IntS.row1 {w : World} {r : Nat} {t : TypeId} {a : Int} (h : Row w r t #[.int .i64 a]) (ha : In64 a) : IntS w (fun b => b = r) (.slice (some ⟨r, 0, none⟩) 1 1) [a] :=
  ⟨by simpa using Slc.row (S := fun k => k = r) h 1 1 rfl (by unfold maxLen; omega) rfl, by intro x hx; simp at hx; rcases hx with rfl; assumption⟩
theorem IntS.row2 {w : World} {r : Nat} {t : TypeId} {a b : Int} (h : Row w r t #[.int .i64 a, .int .i64 b]) (ha : In64 a) (hb : In64 b) : IntS w (fun b => b = r) (.slice (some ⟨r, 0, none⟩) 2 2) [a, b] :=
  ⟨by simpa using Slc.row (S := fun k => k = r) h 2 1 rfl (by unfold maxLen; omega) rfl, by intro x hx; simp at hx; rcases hx with rfl | rfl <;> assumption⟩
/-! the list that is loaded -/
def placesT (h : Nat) : List T3 := [(⟨2, 1, [], []⟩, .slice none 0 0, .slice none 0 0), (⟨2, 1, [], []⟩, .slice none 0 0, .slice none 0 0), (⟨2, 1, [], []⟩, .slice none 0 0, .slice none 0 0), (⟨2, 1, [], []⟩, .slice none 0 0, .slice none 0 0), (⟨2, 1, [2, 2, 2075], []⟩, .slice (some ⟨h, 0, none⟩) 3 3, .slice none 0 0)]
theorem places_ref {W : World} {h : Nat} (r2 : Row W h 3 #[.int .i64 2, .int .i64 2, .int .i64 2075]) (r5 : Row W (h + 1) 41 (cellsT (placesT h)).toArray) :
    RefT W (fun b => b = h ∨ b = h + 1) (.slice (some ⟨h + 1, 0, none⟩) 5 5) (placesT h) := by
  have in1 : In64 1 := by unfold In64; omega
  have in2 : In64 2 := by unfold In64; omega
  have in3 : In64 2075 := by unfold In64; omega
  have n0 : ∀ S : Nat → Prop, okT W S (⟨2, 1, [], []⟩, .slice none 0 0, .slice none 0 0) := fun S => ⟨IntS.nil _ _, ByteS.nil _ _, in2, in1⟩
  refine ⟨?_, ?_⟩
  · have h5 := Slc.row (S := fun b => b = h ∨ b = h + 1) r5 5 4 rfl (by decide) (by omega)
    rw [List.toList_toArray] at h5
    exact h5
  · intro t ht
    simp only [placesT, List.mem_cons, List.not_mem_nil, or_false] at ht
    rcases ht with rfl | rfl | rfl | rfl | rfl
    · exact n0 _
    · exact n0 _
    · exact n0 _
    · exact n0 _
    · exact ⟨(IntS.row3 r2 in2 in2 in3).more (fun b _ e => by subst e; exact .inl rfl), ByteS.nil _ _, in2, in1⟩
end

end Go.Proofs.YtncoanmgifgcbaaDoor
