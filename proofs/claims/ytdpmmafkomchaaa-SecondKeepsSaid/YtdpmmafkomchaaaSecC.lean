/- The plain law of counting the bits of a word (math/bits.OnesCount64). No program is named here. -/
import Derived.Test.YtdpmmafkomchaaaSecB
namespace Go.Proofs.Ytdpmmafkomchaaa
set_option linter.unusedVariables false
set_option linter.unusedSimpArgs false
open Go.RowKit

theorem and_split (a c d e : Nat) (ha : a < 256) (hd : d < 256) : (a + 256 * c) &&& (d + 256 * e) = (a &&& d) + 256 * (c &&& e) := by
  have hx : a &&& d < 2 ^ 8 := Nat.and_lt_two_pow _ hd
  rw [Nat.add_comm a, Nat.add_comm d, Nat.add_comm (a &&& d), show (256 : Nat) = 2 ^ 8 from rfl]
  apply Nat.eq_of_testBit_eq
  intro i
  rw [Nat.testBit_and, Nat.testBit_two_pow_mul_add c ha, Nat.testBit_two_pow_mul_add e hd, Nat.testBit_two_pow_mul_add (c &&& e) hx]
  by_cases h : i < 8
  · rw [if_pos h, if_pos h, if_pos h, Nat.testBit_and]
  · rw [if_neg h, if_neg h, if_neg h, Nat.testBit_and]
/-- the word's bytes from the lowest, k of them -/
def rep (k : Nat) (m : Nat) : Nat := match k with
  | 0 => 0
  | k + 1 => m + 256 * rep k m
def pc1 (x m : Nat) : Nat := (x / 2 &&& m) + (x &&& m)
def pc2 (x m : Nat) : Nat := (x / 4 &&& m) + (x &&& m)
theorem pc1_byte : ∀ (b : Fin 256) (q : Fin 2), (b.val / 2 + 128 * q.val) &&& 0x55 = (b.val / 2 &&& 0x55) := by decide +kernel
theorem pc2_byte : ∀ (b : Fin 256) (q : Fin 4), (b.val / 4 + 64 * q.val) &&& 0x33 = (b.val / 4 &&& 0x33) := by decide +kernel
theorem pc1_split (b y M : Nat) (hb : b < 256) : pc1 (b + 256 * y) (0x55 + 256 * M) = pc1 b 0x55 + 256 * pc1 y M := by
  unfold pc1
  rw [show (b + 256 * y) / 2 = (b / 2 + 128 * (y % 2)) + 256 * (y / 2) by omega, and_split _ _ _ _ (by omega) (by decide), and_split _ _ _ _ hb (by decide)]
  have h := pc1_byte ⟨b, hb⟩ ⟨y % 2, by omega⟩
  simp only at h
  rw [h]
  omega
theorem pc2_split (b y M : Nat) (hb : b < 256) : pc2 (b + 256 * y) (0x33 + 256 * M) = pc2 b 0x33 + 256 * pc2 y M := by
  unfold pc2
  rw [show (b + 256 * y) / 4 = (b / 4 + 64 * (y % 4)) + 256 * (y / 4) by omega, and_split _ _ _ _ (by omega) (by decide), and_split _ _ _ _ hb (by decide)]
  have h := pc2_byte ⟨b, hb⟩ ⟨y % 4, by omega⟩
  simp only at h
  rw [h]
  omega

/-- a number by its bytes, the lowest first -/
def dig : List Nat → Nat
  | [] => 0
  | b :: r => b + 256 * dig r
theorem pc1_small : ∀ b : Fin 256, pc1 b.val 0x55 < 256 := by decide +kernel
theorem pc2_small : ∀ b : Fin 256, pc2 b.val 0x33 < 256 := by decide +kernel
theorem pc1_dig : ∀ bs : List Nat, (∀ b ∈ bs, b < 256) → pc1 (dig bs) (rep bs.length 0x55) = dig (bs.map fun b => pc1 b 0x55)
  | [], _ => rfl
  | b :: r, h => by
    show pc1 (b + 256 * dig r) (0x55 + 256 * rep r.length 0x55) = _
    rw [pc1_split _ _ _ (h b (by simp)), pc1_dig r (fun x hx => h x (by simp [hx]))]
    rfl
theorem pc2_dig : ∀ bs : List Nat, (∀ b ∈ bs, b < 256) → pc2 (dig bs) (rep bs.length 0x33) = dig (bs.map fun b => pc2 b 0x33)
  | [], _ => rfl
  | b :: r, h => by
    show pc2 (b + 256 * dig r) (0x33 + 256 * rep r.length 0x33) = _
    rw [pc2_split _ _ _ (h b (by simp)), pc2_dig r (fun x hx => h x (by simp [hx]))]
    rfl
/-- a byte's bits, in its halves -/
def half (b : Nat) : Nat := pc2 (pc1 b 0x55) 0x33
theorem half_small : ∀ b : Fin 256, half b.val % 16 ≤ 4 ∧ half b.val / 16 ≤ 4 := by decide +kernel
def pc3 (x m : Nat) : Nat := (x / 16 + x) &&& m
theorem and15 (a : Nat) : a &&& 0x0f = a % 16 := Nat.and_two_pow_sub_one_eq_mod a 4
theorem pc3_dig : ∀ bs : List Nat, (∀ b ∈ bs, b % 16 ≤ 4 ∧ b / 16 ≤ 4) → pc3 (dig bs) (rep bs.length 0x0f) = dig (bs.map fun b => pc3 b 0x0f)
  | [], _ => rfl
  | b :: r, h => by
    have hb := h b (by simp)
    have ih := pc3_dig r (fun x hx => h x (by simp [hx]))
    have hr : dig r % 16 ≤ 4 := by
      cases r with
      | nil => simp [dig]
      | cons c r => have := h c (by simp); simp [dig]; omega
    show ((b + 256 * dig r) / 16 + (b + 256 * dig r)) &&& (0x0f + 256 * rep r.length 0x0f) = _
    rw [show (b + 256 * dig r) / 16 + (b + 256 * dig r) = (b / 16 + 16 * (dig r % 16) + b) + 256 * (dig r / 16 + dig r) by omega, and_split _ _ _ _ (by omega) (by decide)]
    unfold pc3 at ih ⊢
    rw [ih, and15]
    show (b / 16 + 16 * (dig r % 16) + b) % 16 + 256 * dig (r.map fun b => (b / 16 + b) &&& 0x0f) = ((b / 16 + b) &&& 0x0f) + 256 * dig (r.map fun b => (b / 16 + b) &&& 0x0f)
    rw [and15]
    omega
/-- how many bits of a byte are set -/
def popB (b : Nat) : Nat := ((List.range 8).filter fun i => b.testBit i).length
theorem popB_eq : ∀ b : Fin 256, pc3 (half b.val) 0x0f = popB b.val ∧ popB b.val ≤ 8 := by decide +kernel
/-- a word of eight bytes, counted in its bytes -/
theorem pop_bytes (bs : List Nat) (h : ∀ b ∈ bs, b < 256) : pc3 (pc2 (pc1 (dig bs) (rep bs.length 0x55)) (rep bs.length 0x33)) (rep bs.length 0x0f) = dig (bs.map popB) := by
  have h1 : ∀ b ∈ bs.map (fun b => pc1 b 0x55), b < 256 := by
    intro b hb
    obtain ⟨x, hx, rfl⟩ := List.mem_map.1 hb
    exact pc1_small ⟨x, h x hx⟩
  have h2 : ∀ b ∈ bs.map half, b % 16 ≤ 4 ∧ b / 16 ≤ 4 := by
    intro b hb
    obtain ⟨x, hx, rfl⟩ := List.mem_map.1 hb
    exact half_small ⟨x, h x hx⟩
  have e2 := pc2_dig (bs.map fun b => pc1 b 0x55) h1
  have e3 := pc3_dig (bs.map half) h2
  rw [List.length_map] at e2 e3
  rw [pc1_dig bs h, e2, List.map_map]
  show pc3 (dig (bs.map half)) (rep bs.length 0x0f) = _
  rw [e3, List.map_map]
  congr 1
  apply List.map_congr_left
  intro b hb
  exact (popB_eq ⟨b, h b hb⟩).1
theorem addn (a A b B : Nat) : (a + 256 * A) + (b + 256 * B) = (a + b) + 256 * (A + B) := by omega
theorem adde (a A b : Nat) : (a + 256 * A) + b = (a + b) + 256 * A := by omega
theorem div1 (a b : Nat) (h : a < 256) : (a + 256 * b) / 256 = b := by omega
theorem div2 (a b c : Nat) (h : a < 256) (h2 : b < 256) : (a + 256 * (b + 256 * c)) / 65536 = c := by omega
theorem div4 (a b c d e : Nat) (h : a < 256) (h2 : b < 256) (h3 : c < 256) (h4 : d < 256) : (a + 256 * (b + 256 * (c + 256 * (d + 256 * e)))) / 4294967296 = e := by omega
theorem low7 (a b : Nat) (h : a < 128) : (a + 256 * b) % 128 = a := by omega
theorem lt2 {a b : Nat} (ha : a ≤ 8) (hb : b ≤ 8) : a + b < 256 := by omega
theorem sum_bytes (p0 p1 p2 p3 p4 p5 p6 p7 : Nat) (h0 : p0 ≤ 8) (h1 : p1 ≤ 8) (h2 : p2 ≤ 8) (h3 : p3 ≤ 8) (h4 : p4 ≤ 8) (h5 : p5 ≤ 8) (h6 : p6 ≤ 8) (h7 : p7 ≤ 8) (x y z u : Nat)
    (hx : x = p0 + 256 * (p1 + 256 * (p2 + 256 * (p3 + 256 * (p4 + 256 * (p5 + 256 * (p6 + 256 * (p7)))))))) (hy : y = x + x / 256) (hz : z = y + y / 65536) (hu : u = z + z / 4294967296) : u = (((p0 + p1) + (p2 + p3)) + ((p4 + p5) + (p6 + p7))) + 256 * ((((p1 + p2) + (p3 + p4)) + ((p5 + p6) + p7)) + 256 * ((((p2 + p3) + (p4 + p5)) + (p6 + p7)) + 256 * ((((p3 + p4) + (p5 + p6)) + p7) + 256 * (((p4 + p5) + (p6 + p7)) + 256 * (((p5 + p6) + p7) + 256 * ((p6 + p7) + 256 * (p7))))))) := by
  have e1 : x / 256 = p1 + 256 * (p2 + 256 * (p3 + 256 * (p4 + 256 * (p5 + 256 * (p6 + 256 * (p7)))))) := by
    rw [hx]
    exact div1 _ _ (by clear hx hy hz hu; omega)
  have f1 : y = (p0 + p1) + 256 * ((p1 + p2) + 256 * ((p2 + p3) + 256 * ((p3 + p4) + 256 * ((p4 + p5) + 256 * ((p5 + p6) + 256 * ((p6 + p7) + 256 * (p7))))))) := by
    rw [hy, e1, hx, addn, addn, addn, addn, addn, addn, adde]
  have e2 : y / 65536 = (p2 + p3) + 256 * ((p3 + p4) + 256 * ((p4 + p5) + 256 * ((p5 + p6) + 256 * ((p6 + p7) + 256 * (p7))))) := by
    rw [f1]
    exact div2 _ _ _ (lt2 h0 h1) (lt2 h1 h2)
  have f2 : z = ((p0 + p1) + (p2 + p3)) + 256 * (((p1 + p2) + (p3 + p4)) + 256 * (((p2 + p3) + (p4 + p5)) + 256 * (((p3 + p4) + (p5 + p6)) + 256 * (((p4 + p5) + (p6 + p7)) + 256 * (((p5 + p6) + p7) + 256 * ((p6 + p7) + 256 * (p7))))))) := by
    rw [hz, e2, f1, addn, addn, addn, addn, addn, adde]
  have e3 : z / 4294967296 = ((p4 + p5) + (p6 + p7)) + 256 * (((p5 + p6) + p7) + 256 * ((p6 + p7) + 256 * (p7))) := by
    rw [f2]
    exact div4 _ _ _ _ _ (by clear e1 e2 f1 f2 hx hy hz hu; omega) (by clear e1 e2 f1 f2 hx hy hz hu; omega) (by clear e1 e2 f1 f2 hx hy hz hu; omega) (by clear e1 e2 f1 f2 hx hy hz hu; omega)
  rw [hu, e3, f2, addn, addn, addn, adde]

/-- a word is its digits -/
theorem dig_mod : ∀ (n x : Nat), dig ((List.range n).map fun k => x / 256 ^ k % 256) = x % 256 ^ n
  | 0, x => by
    rw [Nat.pow_zero, Nat.mod_one]
    rfl
  | n + 1, x => by
    have e : (List.range n).map ((fun k => x / 256 ^ k % 256) ∘ Nat.succ) = (List.range n).map fun k => x / 256 / 256 ^ k % 256 := by
      apply List.map_congr_left
      intro k _
      show x / 256 ^ (k + 1) % 256 = _
      rw [Nat.pow_succ', Nat.div_div_eq_div_mul]
    have ih := dig_mod n (x / 256)
    rw [List.range_succ_eq_map, List.map_cons, List.map_map, e]
    show x / 256 ^ 0 % 256 + 256 * dig _ = _
    rw [ih, Nat.pow_zero, Nat.div_one, Nat.pow_succ', Nat.mod_mul]

/-- how many of the n lowest bits stand -/
def popN (n x : Nat) : Nat := (List.range n).countP fun i => x.testBit i
theorem popB_popN : ∀ b : Fin 256, popB b.val = popN 8 b.val := by decide +kernel
theorem popN_split (n x : Nat) : popN (8 + n) x = popN 8 (x % 256) + popN n (x / 256) := by
  unfold popN
  rw [List.range_add, List.countP_append, List.countP_map]
  congr 1
  · apply List.countP_congr
    intro i hi
    have hi := List.mem_range.1 hi
    rw [show (256 : Nat) = 2 ^ 8 from rfl, Nat.testBit_mod_two_pow]
    simp [hi]
  · apply List.countP_congr
    intro i _
    show x.testBit (8 + i) = true ↔ _
    rw [show (256 : Nat) = 2 ^ 8 from rfl, Nat.testBit_div_two_pow, Nat.add_comm i 8]

/-- the bits of n bytes are the bytes' bits -/
theorem popN_digs : ∀ (n x : Nat), popN (8 * n) x = ((List.range n).map fun k => popB (x / 256 ^ k % 256)).sum
  | 0, _ => rfl
  | n + 1, x => by
    have e : (List.range n).map ((fun k => popB (x / 256 ^ k % 256)) ∘ Nat.succ) = (List.range n).map fun k => popB (x / 256 / 256 ^ k % 256) := by
      apply List.map_congr_left
      intro k _
      show popB (x / 256 ^ (k + 1) % 256) = _
      rw [Nat.pow_succ', Nat.div_div_eq_div_mul]
    have h := popB_popN ⟨x % 256, Nat.mod_lt _ (by decide)⟩
    simp only at h
    rw [show 8 * (n + 1) = 8 + 8 * n by omega, popN_split, popN_digs n (x / 256), List.range_succ_eq_map, List.map_cons, List.map_map, e, List.sum_cons, Nat.pow_zero, Nat.div_one, h]

end Go.Proofs.Ytdpmmafkomchaaa
