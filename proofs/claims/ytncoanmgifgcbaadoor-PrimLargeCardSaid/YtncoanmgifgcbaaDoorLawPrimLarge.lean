/- The walk of PrimLarge, over the table. -/
import Derived.Test.YtncoanmgifgcbaaDoorLgIJ
import Derived.Test.YtncoanmgifgcbaaDoorPrmF
import Derived.Test.YtncoanmgifgcbaaDoorPrimLaws
namespace Go.Proofs.YtncoanmgifgcbaaDoor
set_option linter.unusedVariables false
set_option linter.unusedSimpArgs false
open Go.RowKit

def Ll : List O := [⟨2, 1, [], []⟩, ⟨2, 1, [], []⟩, ⟨2, 1, [], []⟩, ⟨2, 1, [2, 2, 2, 2, 2, 2], []⟩]
/-- that list, and at most k more behind -/
def More (L : List O) (k : Nat) : Prop := ∃ R, L = Ll ++ R ∧ R.length ≤ k
/-- a reference of the number z -/
def Is (L : List O) (r : Int) (z : Nat) : Prop := digOk L r = true ∧ digB L r = dg z ∧ In64 r
theorem More.len {L : List O} {k : Nat} (h : More L k) : L.length ≤ 4 + k := by
  obtain ⟨R, rfl, hR⟩ := h
  simp [Ll]
  omega
theorem ob_front {L R : List O} {i : Nat} (h : i < L.length) : ob (L ++ R) i = ob L i := by
  unfold ob
  rw [List.getElem?_append_left h]
theorem fnd_front {L R : List O} {o : Int} {j : Nat} (h : fnd L o = some j) : fnd (L ++ R) o = some j := by
  obtain ⟨h1, h2, h3, h4⟩ := fnd_some h
  unfold fnd at h ⊢
  split at h
  · rename_i hc
    have hj : (o / 2 - 1).toNat = j := by simpa using h
    rw [hj] at hc ⊢
    rw [if_pos (by rw [ob_front h3]; exact hc)]
  · cases h
theorem More.spec {L : List O} {k : Nat} (h : More L k) : placeE L 8 1 5 = 0 ∧ fetchV L 8 5 = 2 := by
  obtain ⟨R, rfl, hR⟩ := h
  have hf : fnd (Ll ++ R) 8 = some 3 := fnd_front (by decide)
  have ho : ob (Ll ++ R) 3 = ⟨2, 1, [2, 2, 2, 2, 2, 2], []⟩ := (ob_front (by simp [Ll])).trans (by simp [ob, Ll])
  refine ⟨?_, ?_⟩
  · unfold placeE
    rw [hf]
    simp only [ho]
    simp [szO]
  · unfold fetchV
    rw [hf]
    simp only [ho]
    simp
theorem is_num {L : List O} {z : Nat} (h : z ≤ 1073741823) : Is L (2 * (z : Int) + 1) z := by
  have h1 : numOk (2 * (z : Int) + 1) = true := by unfold numOk; exact decide_eq_true (by omega)
  have h2 : numV (2 * (z : Int) + 1) = z := by unfold numV; rw [if_pos (by omega)]; omega
  refine ⟨?_, ?_, by unfold In64; omega⟩
  · unfold digOk
    rw [if_pos h1, h2]
    exact decide_eq_true (by omega)
  · unfold digB
    rw [if_pos h1, h2, Int.toNat_natCast]
theorem Is.more {L R : List O} {r : Int} {z : Nat} (h : Is L r z) : Is (L ++ R) r z := by
  obtain ⟨h1, h2, h3⟩ := h
  unfold Is
  unfold digOk digB at *
  by_cases hn : numOk r = true
  · rw [if_pos hn] at h1 h2 ⊢
    rw [if_pos hn]
    exact ⟨h1, h2, h3⟩
  · rw [if_neg hn] at h1 h2 ⊢
    rw [if_neg hn]
    simp only [Bool.and_eq_true, beq_iff_eq] at h1
    have he : objE (L ++ R) r = 0 ∧ objV (L ++ R) r = objV L r := by
      unfold objE objV at *
      cases hf : fnd L r with
      | none => rw [hf] at h1; simp at h1
      | some j =>
        rw [fnd_front hf]
        exact ⟨rfl, ob_front (fnd_some hf).2.2.1⟩
    rw [he.1, he.2]
    exact ⟨by simp [h1.1.2, h1.2], h2, h3⟩
/-- what a reckoning hands on -/
def Next (L : List O) (k : Nat) (z : Nat) (r : Int) (L' : List O) : Prop :=
  More L' (k + 1) ∧ (∃ R, L' = L ++ R) ∧ Is L' r z ∧ (z ≤ 1073741823 → r = 2 * (z : Int) + 1) ∧ (1073741823 < z → r % 2 = 0 ∧ 0 ≤ r)
theorem sum_next {L : List O} {k : Nat} (hL : More L k) (hk : k ≤ 100) {n a b : Int} {u v z : Nat} (ha : Is L a u) (hb : Is L b v) (hz : sumZ n u v = some z) (hz2 : z ≤ 9223372036854775807) :
    Next L k z (sumR L n a b).1 (sumR L n a b).2.2 ∧ (sumR L n a b).2.1 = 0 := by
  have hlen := hL.len
  unfold sumR
  rw [ha.1, hb.1, if_pos (by simp), ha.2.1, hb.2.1, val_dg, val_dg, hz]
  dsimp only
  by_cases hs : z ≤ 1073741823
  · rw [if_pos hs]
    obtain ⟨R, rfl, hR⟩ := hL
    exact ⟨⟨⟨R, rfl, by omega⟩, ⟨[], by simp⟩, is_num hs, fun _ => rfl, fun h => by omega⟩, rfl⟩
  · rw [if_neg hs, hL.spec.1, hL.spec.2, if_neg (by simp), if_pos (by decide)]
    have hf := fnd_last L ⟨2, 2, [], dg z⟩ (by simp) (by omega)
    have hn : numOk (2 * ((L.length : Int) + 1)) = false := by unfold numOk; exact decide_eq_false (by omega)
    have hV : objV (L ++ [⟨2, 2, [], dg z⟩]) (2 * ((L.length : Int) + 1)) = ⟨2, 2, [], dg z⟩ := by unfold objV; rw [hf]; simp only [ob_app, if_pos]
    have hE : objE (L ++ [⟨2, 2, [], dg z⟩]) (2 * ((L.length : Int) + 1)) = 0 := by unfold objE; rw [hf]
    refine ⟨⟨?_, ⟨_, rfl⟩, ⟨?_, ?_, by unfold In64; omega⟩, fun h => by omega, fun _ => by omega⟩, rfl⟩
    · obtain ⟨R, rfl, hR⟩ := hL
      exact ⟨R ++ [⟨2, 2, [], dg z⟩], by simp, by simp; omega⟩
    · unfold digOk
      rw [if_neg (by simp [hn]), hE, hV, dg_rightD hz2]
      rfl
    · unfold digB
      rw [if_neg (by simp [hn]), hV]
theorem z21 {u v : Nat} (hu : u < 1073741824) (hv : v < 1073741824) : sumZ 21 u v = some (u + v) := by
  unfold sumZ
  rw [if_neg (by decide), if_pos rfl, if_pos (by rw [show ((u : Int) + (v : Int)).toNat = u + v by omega]; have := dg_short (n := u + v) (by omega); omega)]
  congr 1
theorem z22 {u v : Nat} (h : v ≤ u) : sumZ 22 u v = some (u - v) := by
  unfold sumZ
  rw [if_pos rfl, if_neg (by omega)]
  congr 1
  omega
theorem z29 {u v : Nat} (hu : u < 1073741824) (hv : v < 1073741824) : sumZ 29 u v = some (u * v) ∧ u * v ≤ 9223372036854775807 := by
  have h1 : u * v ≤ 1073741824 * 1073741824 := Nat.mul_le_mul (by omega) (by omega)
  have h2 : ((u : Int) * (v : Int)).toNat = u * v := by rw [← Int.natCast_mul, Int.toNat_natCast]
  unfold sumZ
  rw [if_neg (show ¬ (29 : Int) = 22 by decide), if_neg (show ¬ (29 : Int) = 21 by decide), h2, if_pos (by have := dg_short (n := u * v) (by omega); omega)]
  exact ⟨rfl, by omega⟩

section
variable {w0 w : World} {m : Nat} {L : List O} {K : (Nat → Prop) → World → Prop} {k : Nat}
theorem do_next (h : MemK w0 w m L K) (ht : Tab w0) (hL : More L k) (hk : k ≤ 100) {n a b : Int} {u v z : Nat} (h21 : n = 21 ∨ n = 22 ∨ n = 29) (ha : Is L a u) (hb : Is L b v) (hz : sumZ n u v = some z) (hz2 : z ≤ 9223372036854775807) (t : TypeId) :
    Calls Tryd.prog 20 #[.iface 27 (.pointer (some ⟨m, 0, none⟩)), .int .i64 n, .int .i64 a, .slice (some ⟨w.heap.size, 0, none⟩) 1 1] (w.alloc (.cells #[.int .i64 b] t)) fun e w' => ∃ r L', e = .returned (.tuple #[.int .i64 r, .bool true, .int .i64 0]) ∧ MemK w0 w' m L' K ∧ Next L k z r L' := by
  have hlen := hL.len
  obtain ⟨s1, s2⟩ := sum_next hL hk ha hb hz hz2
  have g := h.world ((Chg.refl No w).alloc (.cells #[.int .i64 b] t))
  refine (k_DoSum g (ht.chg g.chg) n a b h21 ha.2.2 hb.2.2 _ _ _ (IntS.row1 (Row.new w t _) hb.2.2) (by omega)).mono ?_
  rintro e w' ⟨rfl, g2⟩
  exact ⟨_, _, by rw [s2]; simp, g2, s1⟩
end

/-! the list that is loaded -/
def largeT (h : Nat) : List T3 := [(⟨2, 1, [], []⟩, .slice none 0 0, .slice none 0 0), (⟨2, 1, [], []⟩, .slice none 0 0, .slice none 0 0), (⟨2, 1, [], []⟩, .slice none 0 0, .slice none 0 0), (⟨2, 1, [2, 2, 2, 2, 2, 2], []⟩, .slice (some ⟨h, 0, none⟩) 6 6, .slice none 0 0)]
theorem IntS.row6 {w : World} {r : Nat} {t : TypeId} {a : Int} (h : Row w r t #[.int .i64 a, .int .i64 a, .int .i64 a, .int .i64 a, .int .i64 a, .int .i64 a]) (ha : In64 a) : IntS w (fun b => b = r) (.slice (some ⟨r, 0, none⟩) 6 6) [a, a, a, a, a, a] :=
  ⟨by simpa using Slc.row (S := fun k => k = r) h 6 1 rfl (by unfold maxLen; omega) rfl, by intro x hx; simp at hx; rcases hx with rfl; assumption⟩
theorem large_ref {W : World} {h : Nat} (r2 : Row W h 3 #[.int .i64 2, .int .i64 2, .int .i64 2, .int .i64 2, .int .i64 2, .int .i64 2]) (r5 : Row W (h + 1) 41 (cellsT (largeT h)).toArray) :
    RefT W (fun b => b = h ∨ b = h + 1) (.slice (some ⟨h + 1, 0, none⟩) 4 4) (largeT h) := by
  have in1 : In64 1 := by unfold In64; omega
  have in2 : In64 2 := by unfold In64; omega
  have n0 : ∀ S : Nat → Prop, okT W S (⟨2, 1, [], []⟩, .slice none 0 0, .slice none 0 0) := fun S => ⟨IntS.nil _ _, ByteS.nil _ _, in2, in1⟩
  refine ⟨?_, ?_⟩
  · have h5 := Slc.row (S := fun b => b = h ∨ b = h + 1) r5 4 4 rfl (by decide) (by omega)
    rw [List.toList_toArray] at h5
    exact h5
  · intro t ht
    simp only [largeT, List.mem_cons, List.not_mem_nil, or_false] at ht
    rcases ht with rfl | rfl | rfl | rfl
    · exact n0 _
    · exact n0 _
    · exact n0 _
    · exact ⟨(IntS.row6 r2 in2).more (fun b _ e => by subst e; exact .inl rfl), ByteS.nil _ _, in2, in1⟩
theorem largeT_all (h : Nat) : ((largeT h).map (·.1)).all okB = true := by
  show (Ll).all okB = true
  decide
theorem large_kept {W w1 : World} {m hz : Nat} (rT : RefT W (fun b => b = hz ∨ b = hz + 1) (.slice (some ⟨hz + 1, 0, none⟩) 4 4) (largeT hz)) (sW : W.heap.size = hz + 2) (g0 : MemK W w1 m [] (fun _ _ => True)) :
    MemK W w1 m [] (fun F v => RefT v (fun b => ¬ F b) (.slice (some ⟨hz + 1, 0, none⟩) 4 4) (largeT hz)) := by
  have hc := g0.chg
  refine g0.now (Chg.refl _ _) fun G hG _ G' w2 h2 h3 c2 _ => ?_
  refine ((rT.keep hc (fun _ _ f => f)).keep c2 fun b hb hg => ?_).more fun b _ hb hg => ?_
  · have := (hG b hg).2; omega
  · rcases h3 b hg with h | h
    · have := (hG b h).2; omega
    · have := hc.size; omega
set_option maxRecDepth 100000 in
set_option maxHeartbeats 800000 in
theorem PrimLarge_law (a b : Int) (w : World) (ht : Tab w) (ba : 0 ≤ a ∧ a ≤ 4294967295) (bb : 0 ≤ b ∧ b ≤ 4294967295) :
    Calls Tryd.prog 5 #[.int .u32 a, .int .u32 b] w fun e W' => e = .returned (.bool true) ∧ Below w.heap.size w W' := by
  obtain ⟨W, hW⟩ : ∃ W, (w.alloc (.cells #[.int .i64 2, .int .i64 2, .int .i64 2, .int .i64 2, .int .i64 2, .int .i64 2] 3)).alloc (.cells #[.int .i64 2, .int .i64 1, .slice none 0 0, .slice none 0 0, .int .i64 2, .int .i64 1, .slice none 0 0, .slice none 0 0, .int .i64 2, .int .i64 1, .slice none 0 0, .slice none 0 0, .int .i64 2, .int .i64 1, .slice (some ⟨w.heap.size, 0, none⟩) 6 6, .slice none 0 0] 41) = W := ⟨_, rfl⟩
  obtain ⟨hz, hhz⟩ : ∃ h, w.heap.size = h := ⟨_, rfl⟩
  have cW : Chg No w W := by rw [← hW]; exact ((Chg.refl _ _).alloc _).alloc _
  have rT : RefT W (fun b => b = hz ∨ b = hz + 1) (.slice (some ⟨hz + 1, 0, none⟩) 4 4) (largeT hz) := by
    refine large_ref ?_ ?_
    · rw [← hW]; exact (Row.newAtP hhz _ _).alloc _
    · rw [← hW, hhz]; exact Row.newAtP (by simp [hhz]) _ _
  have sW : W.heap.size = hz + 2 := by rw [← hW]; simp [hhz]
  have tW := ht.chg cW
  rw [hhz] at hW ⊢
  have HW := Lib.hid hW
  have HT := Lib.hid (And.intro cW (And.intro rT (And.intro sW tW)))
  have HHZ := Lib.hid hhz
  clear hW cW rT sW tW hhz
  obtain ⟨α, hα⟩ : ∃ α : Nat, a % 1073741824 = (α : Int) := ⟨(a % 1073741824).toNat, by omega⟩
  obtain ⟨β, hβ⟩ : ∃ β : Nat, b % 1073741824 = (β : Int) := ⟨(b % 1073741824).toNat, by omega⟩
  have lα : α < 1073741824 := by omega
  have lβ : β < 1073741824 := by omega
  have tok1 : True := trivial
  have tok2 : True := trivial
  have tok3 : True := trivial
  have tok4 : True := trivial
  have tok5 : True := trivial
  have HAL := Lib.hid hα
  have HBE := Lib.hid hβ
  clear hα hβ
  by_cases hs : α + β < 1073741824
  · have td : decide ((α : Int) + (β : Int) < 1073741824) = true := decide_eq_true (by omega)
    go_enter Tryd.func5, Tryd.ntmps5
    go_wp2_with (first
      | (rw [HHZ.out])
      | (rw [HAL.out])
      | (rw [HBE.out])
      | (rw [HW.out])
      | (go_at_call 9
         refine (k_flatNew (Chg.refl No W)).mono ?_
         rintro e w1 ⟨m, rfl, g0⟩
         have H1 := Lib.hid (large_kept HT.out.2.1 HT.out.2.2.1 g0)
         clear g0)
      | (go_at_call 17
         refine (k_Load_ok H1.out _ (largeT hz) (by simp [largeT]) (fun F v hk => hk) (largeT_all hz)).mono ?_
         rintro e w2 ⟨rfl, g2⟩
         have g2b : MemK W w2 m Ll (fun _ _ => True) := g2.mono fun _ _ _ => trivial
         have H2 := Lib.hid g2b
         clear g2 g2b)
      | (go_at_call 20
         have _t := tok1
         clear tok1
         refine (do_next H2.out HT.out.2.2.2 (k := 0) ⟨[], by simp, by simp⟩ (by omega) (.inl rfl) (is_num (by omega : α ≤ 1073741823)) (is_num (by omega : β ≤ 1073741823)) (z21 lα lβ) (by omega) _).mono ?_
         rintro e w3 ⟨s, L1, rfl, g3, nx⟩
         have hm : s % 2 = 1 ∧ 0 ≤ s := (by have := nx.2.2.2.1 (by omega); omega)
         obtain ⟨hm1, hm2⟩ := hm
         have hm3 : Int.tmod s 2 = s % 2 := Int.tmod_eq_emod_of_nonneg hm2
         rw [hm1] at hm3
         have H3 := Lib.hid (And.intro g3 nx)
         clear g3 nx)
      | (go_at_call 20
         have _t := tok2
         clear tok2
         refine (do_next H3.out.1 HT.out.2.2.2 H3.out.2.1 (by omega) (.inr (.inl rfl)) H3.out.2.2.2.1 (is_num (by omega : β ≤ 1073741823)) ((z22 (Nat.le_add_left β α)).trans (by rw [Nat.add_sub_cancel])) (by omega) _).mono ?_
         rintro e w4 ⟨d, L2, rfl, g4, nx⟩
         obtain rfl := nx.2.2.2.1 (by omega)
         have H4 := Lib.hid (And.intro g4 nx)
         clear g4 nx)
      | (go_at_call 20
         have _t := tok3
         clear tok3
         refine (do_next H4.out.1 HT.out.2.2.2 H4.out.2.1 (by omega) (.inr (.inr rfl)) (is_num (by omega : α ≤ 1073741823)) (is_num (by omega : β ≤ 1073741823)) (z29 lα lβ).1 (z29 lα lβ).2 _).mono ?_
         rintro e w5 ⟨p, L3, rfl, g5, nx⟩
         have H5 := Lib.hid (And.intro g5 nx)
         clear g5 nx)
      | (go_at_call 20
         have _t := tok4
         clear tok4
         refine (do_next H5.out.1 HT.out.2.2.2 H5.out.2.1 (by omega) (.inr (.inr rfl)) (is_num (by omega : β ≤ 1073741823)) (is_num (by omega : α ≤ 1073741823)) (z29 lβ lα).1 (z29 lβ lα).2 _).mono ?_
         rintro e w6 ⟨q, L4, rfl, g6, nx⟩
         have hp : Is L4 p (α * β) := by
           obtain ⟨R, hR⟩ := nx.2.1
           rw [hR]
           exact H5.out.2.2.2.1.more
         have H6 := Lib.hid (And.intro g6 (And.intro nx hp))
         clear g6 nx hp)
      | (go_at_call 20
         have _t := tok5
         clear tok5
         refine (do_next H6.out.1 HT.out.2.2.2 H6.out.2.1.1 (by omega) (.inr (.inl rfl)) H6.out.2.2 H6.out.2.1.2.2.1 ((z22 (Nat.le_of_eq (Nat.mul_comm β α))).trans (by rw [Nat.mul_comm β α, Nat.sub_self])) (by omega) _).mono ?_
         rintro e w7 ⟨z, L5, rfl, g7, nx⟩
         obtain rfl := nx.2.2.2.1 (by omega)
         have H7 := Lib.hid g7.chg
         clear g7 nx)
      | (go_at_call 19
         refine (known_law _ (HT.out.2.2.2.chg H7.out)).mono ?_
         rintro e w10 ⟨rfl, hb⟩
         have HE := Lib.hid ((HT.out.1.trans (H7.out.trans (Chg.of_below hb))).below)
         clear hb)
      | fail)
    go_ret
    exact ⟨rfl, HHZ.out ▸ HE.out⟩
  · have td : decide ((α : Int) + (β : Int) < 1073741824) = false := decide_eq_false (by omega)
    go_enter Tryd.func5, Tryd.ntmps5
    go_wp2_with (first
      | (rw [HHZ.out])
      | (rw [HAL.out])
      | (rw [HBE.out])
      | (rw [HW.out])
      | (go_at_call 9
         refine (k_flatNew (Chg.refl No W)).mono ?_
         rintro e w1 ⟨m, rfl, g0⟩
         have H1 := Lib.hid (large_kept HT.out.2.1 HT.out.2.2.1 g0)
         clear g0)
      | (go_at_call 17
         refine (k_Load_ok H1.out _ (largeT hz) (by simp [largeT]) (fun F v hk => hk) (largeT_all hz)).mono ?_
         rintro e w2 ⟨rfl, g2⟩
         have g2b : MemK W w2 m Ll (fun _ _ => True) := g2.mono fun _ _ _ => trivial
         have H2 := Lib.hid g2b
         clear g2 g2b)
      | (go_at_call 20
         have _t := tok1
         clear tok1
         refine (do_next H2.out HT.out.2.2.2 (k := 0) ⟨[], by simp, by simp⟩ (by omega) (.inl rfl) (is_num (by omega : α ≤ 1073741823)) (is_num (by omega : β ≤ 1073741823)) (z21 lα lβ) (by omega) _).mono ?_
         rintro e w3 ⟨s, L1, rfl, g3, nx⟩
         have hm : s % 2 = 0 ∧ 0 ≤ s := (by have := nx.2.2.2.2 (by omega); omega)
         obtain ⟨hm1, hm2⟩ := hm
         have hm3 : Int.tmod s 2 = s % 2 := Int.tmod_eq_emod_of_nonneg hm2
         rw [hm1] at hm3
         have H3 := Lib.hid (And.intro g3 nx)
         clear g3 nx)
      | (go_at_call 20
         have _t := tok2
         clear tok2
         refine (do_next H3.out.1 HT.out.2.2.2 H3.out.2.1 (by omega) (.inr (.inl rfl)) H3.out.2.2.2.1 (is_num (by omega : β ≤ 1073741823)) ((z22 (Nat.le_add_left β α)).trans (by rw [Nat.add_sub_cancel])) (by omega) _).mono ?_
         rintro e w4 ⟨d, L2, rfl, g4, nx⟩
         obtain rfl := nx.2.2.2.1 (by omega)
         have H4 := Lib.hid (And.intro g4 nx)
         clear g4 nx)
      | (go_at_call 20
         have _t := tok3
         clear tok3
         refine (do_next H4.out.1 HT.out.2.2.2 H4.out.2.1 (by omega) (.inr (.inr rfl)) (is_num (by omega : α ≤ 1073741823)) (is_num (by omega : β ≤ 1073741823)) (z29 lα lβ).1 (z29 lα lβ).2 _).mono ?_
         rintro e w5 ⟨p, L3, rfl, g5, nx⟩
         have H5 := Lib.hid (And.intro g5 nx)
         clear g5 nx)
      | (go_at_call 20
         have _t := tok4
         clear tok4
         refine (do_next H5.out.1 HT.out.2.2.2 H5.out.2.1 (by omega) (.inr (.inr rfl)) (is_num (by omega : β ≤ 1073741823)) (is_num (by omega : α ≤ 1073741823)) (z29 lβ lα).1 (z29 lβ lα).2 _).mono ?_
         rintro e w6 ⟨q, L4, rfl, g6, nx⟩
         have hp : Is L4 p (α * β) := by
           obtain ⟨R, hR⟩ := nx.2.1
           rw [hR]
           exact H5.out.2.2.2.1.more
         have H6 := Lib.hid (And.intro g6 (And.intro nx hp))
         clear g6 nx hp)
      | (go_at_call 20
         have _t := tok5
         clear tok5
         refine (do_next H6.out.1 HT.out.2.2.2 H6.out.2.1.1 (by omega) (.inr (.inl rfl)) H6.out.2.2 H6.out.2.1.2.2.1 ((z22 (Nat.le_of_eq (Nat.mul_comm β α))).trans (by rw [Nat.mul_comm β α, Nat.sub_self])) (by omega) _).mono ?_
         rintro e w7 ⟨z, L5, rfl, g7, nx⟩
         obtain rfl := nx.2.2.2.1 (by omega)
         have H7 := Lib.hid g7.chg
         clear g7 nx)
      | (go_at_call 19
         refine (known_law _ (HT.out.2.2.2.chg H7.out)).mono ?_
         rintro e w10 ⟨rfl, hb⟩
         have HE := Lib.hid ((HT.out.1.trans (H7.out.trans (Chg.of_below hb))).below)
         clear hb)
      | fail)
    go_ret
    exact ⟨rfl, HHZ.out ▸ HE.out⟩

end Go.Proofs.YtncoanmgifgcbaaDoor
