/- The plain law of bits in words of 64. No program is named here. · The plain law of counting the bits of a word (math/bits.OnesCount64). No program is named here. · The plain law of runs of sectors: where so many are free. No program is named here. -/
import Derived.Test.YtdpmmafkomchaaaGreatLibA
import Derived.Laws.BitsAllLaws
namespace Go.Proofs.YtdpmmafkomchaaaGreat
set_option linter.unusedVariables false
set_option linter.unusedSimpArgs false
open Go.RowKit

/-- which of the bits of words are set -/
def bitT (ws : List Nat) (i : Nat) : Bool := (ws[i / 64]?.getD 0).testBit (i % 64)
theorem xor_u64 (a b : Nat) (ha : a < 2 ^ 64) (hb : b < 2 ^ 64) : bits .xor .u64 (a : Int) (b : Int) = ((a ^^^ b : Nat) : Int) := u64_xor_nat a b ha hb
theorem and1_u64 (a : Nat) (ha : a < 2 ^ 64) : bits .and .u64 (a : Int) 1 = ((a % 2 : Nat) : Int) := by
  rw [show (1 : Int) = ((1 : Nat) : Int) from rfl, u64_and_nat a 1 ha (by decide), Nat.and_one_is_mod]
/-- a bit turned -/
def flipW (ws : List Nat) (i : Nat) : List Nat := ws.set (i / 64) ((ws[i / 64]?.getD 0) ^^^ 2 ^ (i % 64))
theorem flipW_len (ws : List Nat) (i : Nat) : (flipW ws i).length = ws.length := by simp [flipW]
theorem flipW_bit {ws : List Nat} {i : Nat} (hi : i / 64 < ws.length) (j : Nat) : bitT (flipW ws i) j = if j = i then !bitT ws i else bitT ws j := by
  unfold bitT flipW
  rw [List.getElem?_set]
  by_cases hw : i / 64 = j / 64
  · rw [if_pos hw, if_pos (by omega), Option.getD_some, Nat.testBit_xor, Nat.testBit_two_pow]
    by_cases hj : j = i
    · subst hj
      simp
    · rw [if_neg hj, decide_eq_false (by omega), Bool.xor_false, hw]
  · rw [if_neg hw, if_neg (by rintro rfl; exact hw rfl)]
theorem flipW_small {ws : List Nat} {i : Nat} (h : ∀ x ∈ ws, x < 2 ^ 64) : ∀ x ∈ flipW ws i, x < 2 ^ 64 := by
  intro x hx
  unfold flipW at hx
  rcases List.mem_or_eq_of_mem_set hx with h1 | h1
  · exact h x h1
  · subst h1
    refine Nat.xor_lt_two_pow ?_ (Nat.pow_lt_pow_right (by omega) (Nat.mod_lt _ (by omega)))
    cases hc : ws[i / 64]? with
    | none => simp
    | some y => exact h y (List.mem_of_getElem? hc)
theorem bitT_div (ws : List Nat) (i : Nat) : bitT ws i = decide ((ws[i / 64]?.getD 0) / 2 ^ (i % 64) % 2 = 1) := by
  unfold bitT
  rw [Nat.testBit_eq_decide_div_mod_eq]

theorem and_split (a c d e : Nat) (ha : a < 256) (hd : d < 256) : (a + 256 * c) &&& (d + 256 * e) = (a &&& d) + 256 * (c &&& e) := by
  have hx : a &&& d < 2 ^ 8 := Nat.and_lt_two_pow _ hd
  rw [Nat.add_comm a, Nat.add_comm d, Nat.add_comm (a &&& d), show (256 : Nat) = 2 ^ 8 from rfl]
  apply Nat.eq_of_testBit_eq
  intro i
  rw [Nat.testBit_and, Nat.testBit_two_pow_mul_add c ha, Nat.testBit_two_pow_mul_add e hd, Nat.testBit_two_pow_mul_add (c &&& e) hx]
  by_cases h : i < 8
  · rw [if_pos h, if_pos h, if_pos h, Nat.testBit_and]
  · rw [if_neg h, if_neg h, if_neg h, Nat.testBit_and]
/-- the word's bytes from the lowest, k of them -/
def rep (k : Nat) (m : Nat) : Nat := match k with
  | 0 => 0
  | k + 1 => m + 256 * rep k m
def pc1 (x m : Nat) : Nat := (x / 2 &&& m) + (x &&& m)
def pc2 (x m : Nat) : Nat := (x / 4 &&& m) + (x &&& m)
theorem pc1_byte : ∀ (b : Fin 256) (q : Fin 2), (b.val / 2 + 128 * q.val) &&& 0x55 = (b.val / 2 &&& 0x55) := by decide +kernel
theorem pc2_byte : ∀ (b : Fin 256) (q : Fin 4), (b.val / 4 + 64 * q.val) &&& 0x33 = (b.val / 4 &&& 0x33) := by decide +kernel
theorem pc1_split (b y M : Nat) (hb : b < 256) : pc1 (b + 256 * y) (0x55 + 256 * M) = pc1 b 0x55 + 256 * pc1 y M := by
  unfold pc1
  rw [show (b + 256 * y) / 2 = (b / 2 + 128 * (y % 2)) + 256 * (y / 2) by omega, and_split _ _ _ _ (by omega) (by decide), and_split _ _ _ _ hb (by decide)]
  have h := pc1_byte ⟨b, hb⟩ ⟨y % 2, by omega⟩
  simp only at h
  rw [h]
  omega
theorem pc2_split (b y M : Nat) (hb : b < 256) : pc2 (b + 256 * y) (0x33 + 256 * M) = pc2 b 0x33 + 256 * pc2 y M := by
  unfold pc2
  rw [show (b + 256 * y) / 4 = (b / 4 + 64 * (y % 4)) + 256 * (y / 4) by omega, and_split _ _ _ _ (by omega) (by decide), and_split _ _ _ _ hb (by decide)]
  have h := pc2_byte ⟨b, hb⟩ ⟨y % 4, by omega⟩
  simp only at h
  rw [h]
  omega

/-- a number by its bytes, the lowest first -/
def dig : List Nat → Nat
  | [] => 0
  | b :: r => b + 256 * dig r
theorem pc1_small : ∀ b : Fin 256, pc1 b.val 0x55 < 256 := by decide +kernel
theorem pc2_small : ∀ b : Fin 256, pc2 b.val 0x33 < 256 := by decide +kernel
theorem pc1_dig : ∀ bs : List Nat, (∀ b ∈ bs, b < 256) → pc1 (dig bs) (rep bs.length 0x55) = dig (bs.map fun b => pc1 b 0x55)
  | [], _ => rfl
  | b :: r, h => by
    show pc1 (b + 256 * dig r) (0x55 + 256 * rep r.length 0x55) = _
    rw [pc1_split _ _ _ (h b (by simp)), pc1_dig r (fun x hx => h x (by simp [hx]))]
    rfl
theorem pc2_dig : ∀ bs : List Nat, (∀ b ∈ bs, b < 256) → pc2 (dig bs) (rep bs.length 0x33) = dig (bs.map fun b => pc2 b 0x33)
  | [], _ => rfl
  | b :: r, h => by
    show pc2 (b + 256 * dig r) (0x33 + 256 * rep r.length 0x33) = _
    rw [pc2_split _ _ _ (h b (by simp)), pc2_dig r (fun x hx => h x (by simp [hx]))]
    rfl
/-- a byte's bits, in its halves -/
def half (b : Nat) : Nat := pc2 (pc1 b 0x55) 0x33
theorem half_small : ∀ b : Fin 256, half b.val % 16 ≤ 4 ∧ half b.val / 16 ≤ 4 := by decide +kernel
def pc3 (x m : Nat) : Nat := (x / 16 + x) &&& m
theorem and15 (a : Nat) : a &&& 0x0f = a % 16 := Nat.and_two_pow_sub_one_eq_mod a 4
theorem pc3_dig : ∀ bs : List Nat, (∀ b ∈ bs, b % 16 ≤ 4 ∧ b / 16 ≤ 4) → pc3 (dig bs) (rep bs.length 0x0f) = dig (bs.map fun b => pc3 b 0x0f)
  | [], _ => rfl
  | b :: r, h => by
    have hb := h b (by simp)
    have ih := pc3_dig r (fun x hx => h x (by simp [hx]))
    have hr : dig r % 16 ≤ 4 := by
      cases r with
      | nil => simp [dig]
      | cons c r => have := h c (by simp); simp [dig]; omega
    show ((b + 256 * dig r) / 16 + (b + 256 * dig r)) &&& (0x0f + 256 * rep r.length 0x0f) = _
    rw [show (b + 256 * dig r) / 16 + (b + 256 * dig r) = (b / 16 + 16 * (dig r % 16) + b) + 256 * (dig r / 16 + dig r) by omega, and_split _ _ _ _ (by omega) (by decide)]
    unfold pc3 at ih ⊢
    rw [ih, and15]
    show (b / 16 + 16 * (dig r % 16) + b) % 16 + 256 * dig (r.map fun b => (b / 16 + b) &&& 0x0f) = ((b / 16 + b) &&& 0x0f) + 256 * dig (r.map fun b => (b / 16 + b) &&& 0x0f)
    rw [and15]
    omega
/-- how many bits of a byte are set -/
def popB (b : Nat) : Nat := ((List.range 8).filter fun i => b.testBit i).length
theorem popB_eq : ∀ b : Fin 256, pc3 (half b.val) 0x0f = popB b.val ∧ popB b.val ≤ 8 := by decide +kernel
/-- a word of eight bytes, counted in its bytes -/
theorem pop_bytes (bs : List Nat) (h : ∀ b ∈ bs, b < 256) : pc3 (pc2 (pc1 (dig bs) (rep bs.length 0x55)) (rep bs.length 0x33)) (rep bs.length 0x0f) = dig (bs.map popB) := by
  have h1 : ∀ b ∈ bs.map (fun b => pc1 b 0x55), b < 256 := by
    intro b hb
    obtain ⟨x, hx, rfl⟩ := List.mem_map.1 hb
    exact pc1_small ⟨x, h x hx⟩
  have h2 : ∀ b ∈ bs.map half, b % 16 ≤ 4 ∧ b / 16 ≤ 4 := by
    intro b hb
    obtain ⟨x, hx, rfl⟩ := List.mem_map.1 hb
    exact half_small ⟨x, h x hx⟩
  have e2 := pc2_dig (bs.map fun b => pc1 b 0x55) h1
  have e3 := pc3_dig (bs.map half) h2
  rw [List.length_map] at e2 e3
  rw [pc1_dig bs h, e2, List.map_map]
  show pc3 (dig (bs.map half)) (rep bs.length 0x0f) = _
  rw [e3, List.map_map]
  congr 1
  apply List.map_congr_left
  intro b hb
  exact (popB_eq ⟨b, h b hb⟩).1
theorem addn (a A b B : Nat) : (a + 256 * A) + (b + 256 * B) = (a + b) + 256 * (A + B) := by omega
theorem adde (a A b : Nat) : (a + 256 * A) + b = (a + b) + 256 * A := by omega
theorem div1 (a b : Nat) (h : a < 256) : (a + 256 * b) / 256 = b := by omega
theorem div2 (a b c : Nat) (h : a < 256) (h2 : b < 256) : (a + 256 * (b + 256 * c)) / 65536 = c := by omega
theorem div4 (a b c d e : Nat) (h : a < 256) (h2 : b < 256) (h3 : c < 256) (h4 : d < 256) : (a + 256 * (b + 256 * (c + 256 * (d + 256 * e)))) / 4294967296 = e := by omega
theorem low7 (a b : Nat) (h : a < 128) : (a + 256 * b) % 128 = a := by omega
theorem lt2 {a b : Nat} (ha : a ≤ 8) (hb : b ≤ 8) : a + b < 256 := by omega
theorem sum_bytes (p0 p1 p2 p3 p4 p5 p6 p7 : Nat) (h0 : p0 ≤ 8) (h1 : p1 ≤ 8) (h2 : p2 ≤ 8) (h3 : p3 ≤ 8) (h4 : p4 ≤ 8) (h5 : p5 ≤ 8) (h6 : p6 ≤ 8) (h7 : p7 ≤ 8) (x y z u : Nat)
    (hx : x = p0 + 256 * (p1 + 256 * (p2 + 256 * (p3 + 256 * (p4 + 256 * (p5 + 256 * (p6 + 256 * (p7)))))))) (hy : y = x + x / 256) (hz : z = y + y / 65536) (hu : u = z + z / 4294967296) : u = (((p0 + p1) + (p2 + p3)) + ((p4 + p5) + (p6 + p7))) + 256 * ((((p1 + p2) + (p3 + p4)) + ((p5 + p6) + p7)) + 256 * ((((p2 + p3) + (p4 + p5)) + (p6 + p7)) + 256 * ((((p3 + p4) + (p5 + p6)) + p7) + 256 * (((p4 + p5) + (p6 + p7)) + 256 * (((p5 + p6) + p7) + 256 * ((p6 + p7) + 256 * (p7))))))) := by
  have e1 : x / 256 = p1 + 256 * (p2 + 256 * (p3 + 256 * (p4 + 256 * (p5 + 256 * (p6 + 256 * (p7)))))) := by
    rw [hx]
    exact div1 _ _ (by clear hx hy hz hu; omega)
  have f1 : y = (p0 + p1) + 256 * ((p1 + p2) + 256 * ((p2 + p3) + 256 * ((p3 + p4) + 256 * ((p4 + p5) + 256 * ((p5 + p6) + 256 * ((p6 + p7) + 256 * (p7))))))) := by
    rw [hy, e1, hx, addn, addn, addn, addn, addn, addn, adde]
  have e2 : y / 65536 = (p2 + p3) + 256 * ((p3 + p4) + 256 * ((p4 + p5) + 256 * ((p5 + p6) + 256 * ((p6 + p7) + 256 * (p7))))) := by
    rw [f1]
    exact div2 _ _ _ (lt2 h0 h1) (lt2 h1 h2)
  have f2 : z = ((p0 + p1) + (p2 + p3)) + 256 * (((p1 + p2) + (p3 + p4)) + 256 * (((p2 + p3) + (p4 + p5)) + 256 * (((p3 + p4) + (p5 + p6)) + 256 * (((p4 + p5) + (p6 + p7)) + 256 * (((p5 + p6) + p7) + 256 * ((p6 + p7) + 256 * (p7))))))) := by
    rw [hz, e2, f1, addn, addn, addn, addn, addn, adde]
  have e3 : z / 4294967296 = ((p4 + p5) + (p6 + p7)) + 256 * (((p5 + p6) + p7) + 256 * ((p6 + p7) + 256 * (p7))) := by
    rw [f2]
    exact div4 _ _ _ _ _ (by clear e1 e2 f1 f2 hx hy hz hu; omega) (by clear e1 e2 f1 f2 hx hy hz hu; omega) (by clear e1 e2 f1 f2 hx hy hz hu; omega) (by clear e1 e2 f1 f2 hx hy hz hu; omega)
  rw [hu, e3, f2, addn, addn, addn, adde]

/-- a word is its digits -/
theorem dig_mod : ∀ (n x : Nat), dig ((List.range n).map fun k => x / 256 ^ k % 256) = x % 256 ^ n
  | 0, x => by
    rw [Nat.pow_zero, Nat.mod_one]
    rfl
  | n + 1, x => by
    have e : (List.range n).map ((fun k => x / 256 ^ k % 256) ∘ Nat.succ) = (List.range n).map fun k => x / 256 / 256 ^ k % 256 := by
      apply List.map_congr_left
      intro k _
      show x / 256 ^ (k + 1) % 256 = _
      rw [Nat.pow_succ', Nat.div_div_eq_div_mul]
    have ih := dig_mod n (x / 256)
    rw [List.range_succ_eq_map, List.map_cons, List.map_map, e]
    show x / 256 ^ 0 % 256 + 256 * dig _ = _
    rw [ih, Nat.pow_zero, Nat.div_one, Nat.pow_succ', Nat.mod_mul]

/-- how many of the n lowest bits stand -/
def popN (n x : Nat) : Nat := (List.range n).countP fun i => x.testBit i
theorem popB_popN : ∀ b : Fin 256, popB b.val = popN 8 b.val := by decide +kernel
theorem popN_split (n x : Nat) : popN (8 + n) x = popN 8 (x % 256) + popN n (x / 256) := by
  unfold popN
  rw [List.range_add, List.countP_append, List.countP_map]
  congr 1
  · apply List.countP_congr
    intro i hi
    have hi := List.mem_range.1 hi
    rw [show (256 : Nat) = 2 ^ 8 from rfl, Nat.testBit_mod_two_pow]
    simp [hi]
  · apply List.countP_congr
    intro i _
    show x.testBit (8 + i) = true ↔ _
    rw [show (256 : Nat) = 2 ^ 8 from rfl, Nat.testBit_div_two_pow, Nat.add_comm i 8]

/-- the bits of n bytes are the bytes' bits -/
theorem popN_digs : ∀ (n x : Nat), popN (8 * n) x = ((List.range n).map fun k => popB (x / 256 ^ k % 256)).sum
  | 0, _ => rfl
  | n + 1, x => by
    have e : (List.range n).map ((fun k => popB (x / 256 ^ k % 256)) ∘ Nat.succ) = (List.range n).map fun k => popB (x / 256 / 256 ^ k % 256) := by
      apply List.map_congr_left
      intro k _
      show popB (x / 256 ^ (k + 1) % 256) = _
      rw [Nat.pow_succ', Nat.div_div_eq_div_mul]
    have h := popB_popN ⟨x % 256, Nat.mod_lt _ (by decide)⟩
    simp only at h
    rw [show 8 * (n + 1) = 8 + 8 * n by omega, popN_split, popN_digs n (x / 256), List.range_succ_eq_map, List.map_cons, List.map_map, e, List.sum_cons, Nat.pow_zero, Nat.div_one, h]

/-- are n free from f on? (t tells what is taken) -/
def freeB (t : Nat → Bool) (f n : Nat) : Bool := (List.range n).all fun i => !t (f + i)
/-- the first place, of all, where n are free -/
def firstB (t : Nat → Bool) (all n : Nat) : Option Nat := (List.range (all + 1)).find? fun f => decide (f + n ≤ all) && freeB t f n
theorem freeB_iff {t : Nat → Bool} {f n : Nat} : freeB t f n = true ↔ ∀ i, i < n → t (f + i) = false := by
  simp [freeB]
theorem firstB_some {t : Nat → Bool} {all n f : Nat} (h : firstB t all n = some f) : f + n ≤ all ∧ freeB t f n = true ∧ ∀ g, g < f → ¬ (g + n ≤ all ∧ freeB t g n = true) := by
  unfold firstB at h
  rw [List.find?_eq_some_iff_getElem] at h
  obtain ⟨h1, i, hi, he, hb⟩ := h
  simp only [List.length_range] at hi
  rw [List.getElem_range] at he
  subst he
  rw [Bool.and_eq_true, decide_eq_true_eq] at h1
  refine ⟨h1.1, h1.2, fun g hg hgg => ?_⟩
  have h2 := hb g hg
  rw [List.getElem_range] at h2
  rw [decide_eq_true hgg.1, hgg.2] at h2
  simp at h2
theorem firstB_none {t : Nat → Bool} {all n : Nat} (h : firstB t all n = none) : ∀ g, ¬ (g + n ≤ all ∧ freeB t g n = true) := by
  unfold firstB at h
  rw [List.find?_eq_none] at h
  intro g hg
  have := h g (List.mem_range.2 (by omega))
  rw [decide_eq_true hg.1, hg.2] at this
  simp at this
/-- what has the first place's marks is it -/
theorem firstB_is {t : Nat → Bool} {all n f : Nat} (h1 : f + n ≤ all) (h2 : freeB t f n = true) (h3 : ∀ g, g < f → ¬ (g + n ≤ all ∧ freeB t g n = true)) : firstB t all n = some f := by
  cases hc : firstB t all n with
  | none => exact absurd ⟨h1, h2⟩ (firstB_none hc f)
  | some g =>
    obtain ⟨a, b, c⟩ := firstB_some hc
    rcases Nat.lt_trichotomy f g with h | h | h
    · exact absurd ⟨h1, h2⟩ (c f h)
    · rw [h]
    · exact absurd ⟨a, b⟩ (h3 g h)
theorem firstB_isnt {t : Nat → Bool} {all n : Nat} (h : ∀ g, ¬ (g + n ≤ all ∧ freeB t g n = true)) : firstB t all n = none := by
  cases hc : firstB t all n with
  | none => rfl
  | some g => exact absurd ⟨(firstB_some hc).1, (firstB_some hc).2.1⟩ (h g)
/-- a place that is taken bars all runs over it -/
theorem freeB_bar {t : Nat → Bool} {f n i : Nat} (hi : i < n) (h : t (f + i) = true) {g : Nat} (h1 : f ≤ g) (h2 : g ≤ f + i) : freeB t g n = false := by
  cases hc : freeB t g n
  · rfl
  · have := freeB_iff.1 hc (f + i - g) (by omega)
    rw [show g + (f + i - g) = f + i by omega, h] at this
    cases this
/-- an extent: where, how many sectors, how many bytes -/
abbrev Ex := Int × Int × Int
/-- t tells what the extents of R take, which have at least a sector each -/
def Covers (t : Nat → Bool) (R : List (Nat × Nat)) : Prop := (∀ r ∈ R, 1 ≤ r.2) ∧ ∀ i, t i = true ↔ ∃ r ∈ R, r.1 ≤ i ∧ i < r.1 + r.2
/-- no extent of R meets the run -/
def apartB (R : List (Nat × Nat)) (f n : Nat) : Bool := R.all fun r => !(decide (f < r.1 + r.2) && decide (r.1 < f + n))
theorem free_apart {t : Nat → Bool} {R : List (Nat × Nat)} (h : Covers t R) {f n : Nat} (hn : 1 ≤ n) : freeB t f n = apartB R f n := by
  rw [Bool.eq_iff_iff, freeB_iff]
  unfold apartB
  rw [List.all_eq_true]
  constructor
  · intro hf r hr
    have h1 := h.1 r hr
    cases hc : decide (f < r.1 + r.2) && decide (r.1 < f + n)
    · rfl
    · simp only [Bool.and_eq_true, decide_eq_true_eq] at hc
      have h2 := hf (max f r.1 - f) (by omega)
      have h3 := (h.2 (f + (max f r.1 - f))).2 ⟨r, hr, by omega, by omega⟩
      rw [h2] at h3
      cases h3
  · intro ha i hi
    cases hc : t (f + i)
    · rfl
    · obtain ⟨r, hr, h1, h2⟩ := (h.2 (f + i)).1 hc
      have h3 := ha r hr
      rw [decide_eq_true (show f < r.1 + r.2 by omega), decide_eq_true (show r.1 < f + n by omega)] at h3
      cases h3

end Go.Proofs.YtdpmmafkomchaaaGreat
