/- Large numbers, plainly: the digits of a number to the base 256, the least first; no walk here. · Large numbers: cut, Right, told, digit, Of. -/
import Derived.Test.YtncoanmgifgcbaaDoorMath
import Derived.Test.YtncoanmgifgcbaaDoorLibA
import Derived.WalkMore
namespace Go.Proofs.YtncoanmgifgcbaaDoor
set_option linter.unusedVariables false
set_option linter.unusedSimpArgs false
open Go.RowKit

/-- what a list of digits comes to -/
def val : List Int → Int
  | [] => 0
  | x :: l => x + 256 * val l
def By (l : List Int) : Prop := ∀ x ∈ l, 0 ≤ x ∧ x ≤ 255
def pw (n : Nat) : Int := (256 : Int) ^ n
/-- no nought at the end -/
def canon : List Int → Bool
  | [] => true
  | x :: l => if l = [] then x != 0 else canon l
/-- the digits of a number -/
def dg (n : Nat) : List Int := if h : n = 0 then [] else ((n % 256 : Nat) : Int) :: dg (n / 256)
  termination_by n
  decreasing_by omega
theorem pw_pos (n : Nat) : 0 < pw n := Int.pow_pos (by omega)
theorem pw_succ (n : Nat) : pw (n + 1) = 256 * pw n := by unfold pw; rw [Int.pow_succ, Int.mul_comm]
theorem pw_zero : pw 0 = 1 := rfl
theorem pw_add (a b : Nat) : pw (a + b) = pw a * pw b := by unfold pw; rw [Int.pow_add]
theorem pw_le {a b : Nat} (h : a ≤ b) : pw a ≤ pw b := by
  induction h with
  | refl => exact Int.le_refl _
  | @step c _ ih => rw [pw_succ]; have := pw_pos c; omega
theorem By.tail {x : Int} {l : List Int} (h : By (x :: l)) : By l := fun y hy => h y (List.mem_cons_of_mem _ hy)
theorem By.head {x : Int} {l : List Int} (h : By (x :: l)) : 0 ≤ x ∧ x ≤ 255 := h x (List.mem_cons_self ..)
theorem By.nil : By [] := fun _ h => by cases h
theorem By.cons {x : Int} {l : List Int} (h1 : 0 ≤ x ∧ x ≤ 255) (h : By l) : By (x :: l) := fun y hy => by
  rcases List.mem_cons.1 hy with rfl | hy
  · exact h1
  · exact h y hy
theorem By.append {l k : List Int} (h : By l) (h2 : By k) : By (l ++ k) := fun y hy => (List.mem_append.1 hy).elim (h y) (h2 y)
theorem By.take {l : List Int} (h : By l) (n : Nat) : By (l.take n) := fun y hy => h y (List.mem_of_mem_take hy)
theorem By.drop {l : List Int} (h : By l) (n : Nat) : By (l.drop n) := fun y hy => h y (List.mem_of_mem_drop hy)
theorem By.set {l : List Int} (h : By l) (n : Nat) {x : Int} (hx : 0 ≤ x ∧ x ≤ 255) : By (l.set n x) := fun y hy => by
  rcases List.mem_or_eq_of_mem_set hy with hy | rfl
  · exact h y hy
  · exact hx
theorem By.at {l : List Int} (h : By l) (n : Nat) : 0 ≤ l[n]?.getD 0 ∧ l[n]?.getD 0 ≤ 255 := by
  rcases Nat.lt_or_ge n l.length with hn | hn
  · rw [List.getElem?_eq_getElem hn]; exact h _ (List.getElem_mem hn)
  · rw [List.getElem?_eq_none hn]; simp
theorem By.zeros (n : Nat) : By (List.replicate n 0) := fun y hy => by obtain rfl := List.eq_of_mem_replicate hy; omega
theorem val_bd : ∀ {l : List Int}, By l → 0 ≤ val l ∧ val l < pw l.length
  | [], _ => ⟨Int.le_refl _, by rw [List.length_nil, pw_zero]; decide⟩
  | x :: l, h => by
    have h1 := val_bd h.tail
    have h2 := h.head
    rw [List.length_cons, pw_succ, val]
    omega
theorem val_append : ∀ (l k : List Int), val (l ++ k) = val l + pw l.length * val k
  | [], k => by rw [List.nil_append, List.length_nil, pw_zero, val]; omega
  | x :: l, k => by
    rw [List.cons_append, val, val_append l k, val, List.length_cons, pw_succ, Int.mul_add, Int.mul_assoc]
    omega
theorem val_zeros : ∀ n, val (List.replicate n 0) = 0
  | 0 => rfl
  | n + 1 => by rw [List.replicate_succ, val, val_zeros n]; rfl
theorem val_take_succ (l : List Int) (i : Nat) : val (l.take (i + 1)) = val (l.take i) + pw i * l[i]?.getD 0 := by
  rcases Nat.lt_or_ge i l.length with hi | hi
  · rw [List.take_add_one, List.getElem?_eq_getElem hi, val_append]
    simp only [Option.toList_some, List.length_take, Nat.min_eq_left (Nat.le_of_lt hi), val, Option.getD_some, Int.mul_zero, Int.add_zero]
  · rw [List.getElem?_eq_none hi, List.take_of_length_le hi, List.take_of_length_le (by omega)]; simp
theorem val_set : ∀ (l : List Int) (i : Nat) (x : Int), i < l.length → val (l.set i x) = val l + pw i * (x - l[i]?.getD 0)
  | [], i, x, h => by simp at h
  | y :: l, 0, x, _ => by simp only [List.set_cons_zero, val, pw_zero, List.getElem?_cons_zero, Option.getD_some]; omega
  | y :: l, i + 1, x, h => by
    have := val_set l i x (by simpa using h)
    simp only [List.set_cons_succ, val, this, pw_succ, List.getElem?_cons_succ, Int.mul_add, Int.mul_assoc]
    omega
theorem val_drop (l : List Int) (i : Nat) (hi : i < l.length) : val (l.drop i) = l[i]?.getD 0 + 256 * val (l.drop (i + 1)) := by
  rw [List.drop_eq_getElem_cons hi, val, List.getElem?_eq_getElem hi]; rfl
theorem canon_tail {x : Int} {l : List Int} (h : canon (x :: l) = true) : canon l = true := by
  unfold canon at h
  split at h
  · subst l; rfl
  · exact h
theorem canon_pos : ∀ {l : List Int}, By l → canon l = true → l ≠ [] → 0 < val l
  | [], _, _, h => absurd rfl h
  | x :: l, hb, hc, _ => by
    have h2 := hb.head
    rw [val]
    by_cases hl : l = []
    · subst hl
      simp [canon] at hc
      rw [val]; omega
    · have := canon_pos hb.tail (canon_tail hc) hl
      omega
theorem dg_val : ∀ {l : List Int}, By l → canon l = true → dg (val l).toNat = l
  | [], _, _ => by rw [dg]; rfl
  | x :: l, hb, hc => by
    have h2 := hb.head
    have hv := val_bd hb.tail
    have hp := canon_pos hb hc (by simp)
    have ih := dg_val hb.tail (canon_tail hc)
    rw [val] at hp ⊢
    obtain ⟨v, hv'⟩ : ∃ v : Nat, val l = v := ⟨(val l).toNat, by omega⟩
    obtain ⟨y, hy'⟩ : ∃ y : Nat, x = y := ⟨x.toNat, by omega⟩
    rw [hv'] at ih hp ⊢
    subst hy'
    rw [show ((y : Int) + 256 * (v : Int)).toNat = y + 256 * v by omega, dg, dif_neg (by omega), show (y + 256 * v) % 256 = y by omega, show (y + 256 * v) / 256 = v by omega]
    rw [show ((v : Int)).toNat = v by omega] at ih
    rw [ih]
theorem dg_spec (n : Nat) : By (dg n) ∧ canon (dg n) = true ∧ val (dg n) = n := by
  induction n using Nat.strongRecOn with
  | _ n ih =>
    rw [dg]
    split
    · rename_i h; subst h; exact ⟨By.nil, rfl, rfl⟩
    · rename_i h
      obtain ⟨h1, h2, h3⟩ := ih (n / 256) (by omega)
      refine ⟨By.cons (by omega) h1, ?_, ?_⟩
      · unfold canon
        split
        · rename_i hnil
          rw [hnil] at h3
          simp only [val] at h3
          simp
          omega
        · exact h2
      · rw [val, h3]; omega
theorem dg_by (n : Nat) : By (dg n) := (dg_spec n).1
theorem dg_canon (n : Nat) : canon (dg n) = true := (dg_spec n).2.1
theorem val_dg (n : Nat) : val (dg n) = n := (dg_spec n).2.2
theorem canon_low : ∀ {l : List Int}, By l → canon l = true → l ≠ [] → pw (l.length - 1) ≤ val l
  | [], _, _, h => absurd rfl h
  | x :: l, hb, hc, _ => by
    have h2 := hb.head
    by_cases hl : l = []
    · subst hl
      simp [canon] at hc
      simp [val, pw_zero]; omega
    · have ih := canon_low hb.tail (canon_tail hc) hl
      have hlen : 0 < l.length := List.length_pos_iff.2 hl
      rw [List.length_cons, show l.length + 1 - 1 = (l.length - 1) + 1 by omega, pw_succ, val]
      omega
/-- so many digits, at most: just where it is less than the power -/
theorem dg_len (n k : Nat) : (dg n).length ≤ k ↔ (n : Int) < pw k := by
  have hb := val_bd (dg_by n)
  rw [val_dg] at hb
  constructor
  · intro h; have := pw_le h; omega
  · intro h
    by_cases h0 : dg n = []
    · rw [h0]; exact Nat.zero_le _
    · have h1 := canon_low (dg_by n) (dg_canon n) h0
      rw [val_dg] at h1
      rcases Nat.lt_or_ge k (dg n).length with h2 | h2
      · have := pw_le (show k ≤ (dg n).length - 1 by omega); omega
      · exact h2
theorem dg_nil {n : Nat} : dg n = [] ↔ n = 0 := by
  constructor
  · intro h; have := val_dg n; rw [h, val] at this; omega
  · rintro rfl; rw [dg]; rfl
theorem canon_last : ∀ (l : List Int), canon l = (decide (l = []) || (l[l.length - 1]?.getD 0 != 0))
  | [] => rfl
  | x :: l => by
    unfold canon
    by_cases hl : l = []
    · subst hl; simp
    · rw [if_neg hl, canon_last l]
      have hlen : 0 < l.length := List.length_pos_iff.2 hl
      rw [decide_eq_false hl, decide_eq_false (by simp : ¬ x :: l = []), List.length_cons, show l.length + 1 - 1 = (l.length - 1) + 1 by omega, List.getElem?_cons_succ]
/-- cut: as many as there are without noughts at the end -/
theorem cut_dg {l : List Int} {n : Nat} (hb : By l) (hn : n ≤ l.length) (hz : ∀ i, n ≤ i → i < l.length → l[i]?.getD 0 = 0) (hl : n = 0 ∨ l[n - 1]?.getD 0 ≠ 0) : l.take n = dg (val l).toNat := by
  have hd : l.drop n = List.replicate (l.length - n) 0 := by
    apply List.ext_getElem
    · simp
    · intro i h1 h2
      have h3 : n + i < l.length := by simp at h1; omega
      have := hz (n + i) (by omega) h3
      rw [List.getElem?_eq_getElem h3] at this
      simpa using this
  have hv : val l = val (l.take n) := by
    conv => lhs; rw [← List.take_append_drop n l, val_append, hd, val_zeros]
    omega
  have hc : canon (l.take n) = true := by
    rw [canon_last]
    rcases hl with rfl | hl
    · simp
    · have hlen : (l.take n).length = n := by simp; omega
      rw [hlen]
      rcases Nat.eq_zero_or_pos n with rfl | hp
      · simp
      · rw [List.getElem?_take_of_lt (by omega)]
        simp [hl]
  rw [hv, dg_val (hb.take n) hc]
/-- one digit more of a sum: what is laid, and what is carried on -/
theorem carry_step {q c A B i x : Int} (P : Int) (h : q + P * c = A + B) : (q + P * ((c + x) % 256)) + 256 * P * ((c + x) / 256) = A + B + P * x := by
  have h1 : 256 * ((c + x) / 256) + (c + x) % 256 = c + x := Int.mul_ediv_add_emod _ _
  have h2 : P * ((c + x) % 256) + 256 * P * ((c + x) / 256) = P * (c + x) := by
    rw [← h1]
    simp only [Int.mul_add]
    rw [h1, ← Int.mul_assoc, Int.mul_comm P 256]
    omega
  rw [Int.mul_add] at h2
  omega
theorem val_cmp {a b : List Int} (ha : By a) (hb : By b) (hl : a.length = b.length) {i : Nat} (hi : i < a.length) (heq : a.drop (i + 1) = b.drop (i + 1)) (hlt : a[i]?.getD 0 < b[i]?.getD 0) : val a < val b := by
  have key : ∀ l : List Int, i < l.length → val l = val (l.take i) + pw i * (l[i]?.getD 0 + 256 * val (l.drop (i + 1))) := fun l hil => by
    conv => lhs; rw [← List.take_append_drop i l, val_append, val_drop l i hil]
    rw [List.length_take, Nat.min_eq_left (Nat.le_of_lt hil)]
  rw [key a hi, key b (by omega), heq]
  have h1 := val_bd (ha.take i)
  have h2 := val_bd (hb.take i)
  rw [List.length_take, Nat.min_eq_left (Nat.le_of_lt hi)] at h1
  generalize val (b.drop (i + 1)) = D at *
  generalize a[i]?.getD 0 = x at *
  generalize b[i]?.getD 0 = y at *
  have h3 : pw i * (x + 256 * D) + pw i ≤ pw i * (y + 256 * D) := by
    have : pw i * (x + 256 * D + 1) ≤ pw i * (y + 256 * D) := Int.mul_le_mul_of_nonneg_left (by omega) (Int.le_of_lt (pw_pos i))
    rw [Int.mul_add (pw i) (x + 256 * D) 1] at this
    omega
  omega
/-- fewer digits: less -/
theorem dg_len_lt {a b : Nat} (h : (dg a).length < (dg b).length) : a < b := by
  rcases Nat.lt_or_ge a b with h1 | h1
  · exact h1
  · have h2 := (dg_len a (dg a).length).1 (Nat.le_refl _)
    have h3 := (dg_len b (dg a).length).2 (by omega)
    omega
theorem dg_inj {a b : Nat} (h : dg a = dg b) : a = b := by
  have h1 := val_dg a
  have h2 := val_dg b
  rw [h] at h1
  omega

def rightD (l : List Int) : Bool := decide (l.length ≤ 400) && canon l
theorem ByteS.by {w : World} {S : Nat → Prop} {v : Value} {l : List Int} (h : ByteS w S v l) : By l := h.2
/-- the first k of them, with no room behind -/
theorem ByteS.front {w : World} {S : Nat → Prop} {A : Option Addr} {n c : Nat} {l : List Int} (h : ByteS w S (.slice A n c) l) (k : Nat) (hk : k ≤ l.length) : ByteS w S (.slice A k k) (l.take k) := by
  obtain ⟨⟨A', c', e, hl, h1, h2, h0, h3⟩, hw⟩ := h
  obtain ⟨rfl, rfl, rfl⟩ := Value.slice.inj e
  have hlen : (l.take k).length = k := by simp; omega
  refine ⟨⟨A, k, by rw [hlen], by simp, by omega, by omega, fun hA => by have := h0 hA; omega, fun hn => ?_⟩, fun x hx => hw x (List.mem_of_mem_take hx)⟩
  obtain ⟨b, off, hA, hS, hb, hc⟩ := h3 (by omega)
  refine ⟨b, off, hA, hS, hb, fun i u hu => hc i u ?_⟩
  rw [List.getElem?_map, List.getElem?_take] at hu
  rw [List.getElem?_map]
  split at hu
  · exact hu
  · cases hu
theorem ByteS.getAt {w : World} {S : Nat → Prop} {A : Option Addr} {n c : Nat} {l : List Int} (h : ByteS w S (.slice A n c) l) {i : Nat} (hi : i < l.length) : ∃ b off, A = some ⟨b, off, none⟩ ∧ S b ∧ b < w.heap.size ∧ w.cell? ⟨b, off + i, none⟩ = some (.int .u8 (l[i]?.getD 0)) ∧ 0 ≤ l[i]?.getD 0 ∧ l[i]?.getD 0 ≤ 255 := by
  obtain ⟨A', c', e, -, -, -, hat⟩ := h.form
  obtain ⟨rfl, -, -⟩ := Value.slice.inj e
  exact hat i hi
theorem cut_slice (A : Option Addr) (n c k : Nat) (h : k ≤ c) (w : World) : (Instr.slice 39 (.slice A n c) none (some (.int .i64 (k : Int))) (some (.int .i64 (k : Int)))).run Tryd.prog w = .ok (.slice A k k) w := by
  have ht : Tryd.prog.underlying 39 = some (.slice (Tryd.prog.elem 39)) := by kernel_rfl
  have hs : ∀ w, ((sizeOf (Tryd.prog.elem 39)).run Tryd.prog w) = .ok 1 w := fun w => by kernel_rfl
  rw [run_slice_hm w 39 A n c ht .i64 .i64 k k (by omega) (Int.le_refl _) (by omega), hs]
  simp only [Result.andThen, sliced, Int.toNat_natCast, Nat.sub_zero, Nat.zero_mul]
  cases A with
  | none => simp
  | some a =>
    cases a
    simp [Addr.add]

set_option maxRecDepth 100000 in
set_option maxHeartbeats 600000 in
theorem cut_eq (v : Value) (l : List Int) (S : Nat → Prop) (w : World) (h : ByteS w S v l) :
    Calls Tryd.prog 125 #[v] w fun e w' => ∃ v', e = .returned v' ∧ ByteS w' S v' (dg (val l).toNat) ∧ w = w' := by
  obtain ⟨A, c, rfl, hlc, hcm, -⟩ := h.form
  have hmax : l.length ≤ 9223372036854775807 := by unfold maxLen at hcm; simp at hcm; omega
  have HB := Lib.hid h
  have hsl : ∀ (k : Nat), k ≤ c → ∀ w, _ := fun k hk w => cut_slice A l.length c k hk w
  have HSL := Lib.hid hsl
  clear h hcm hsl
  generalize hn : l.length = n at *
  have HN := Lib.hid hn
  clear hn
  go_enter Tryd.func125, Tryd.ntmps125
  go_wp2_with fail
  go_step3
  go_wp2_with fail
  go_step3
  go_wp2_with fail
  go_loopg [3] n (fun j v3 wr => ∃ k : Nat, v3 = .int .i64 (k : Int) ∧ k ≤ n ∧ k ≤ j ∧ (∀ i, k ≤ i → i < n → l[i]?.getD 0 = 0) ∧ w = wr)
  case atStart => exact ⟨n, rfl, Nat.le_refl _, Nat.le_refl _, fun i h1 h2 => by omega, rfl⟩
  case round =>
    obtain ⟨k, rfl, k1, k2, hz, rfl⟩ := hrel
    have HC := Lib.hid hz
    clear hz
    have fin : (k = 0 ∨ l[k - 1]?.getD 0 ≠ 0) → ByteS w S (.slice A k k) (dg (val l).toNat) := fun hk => by
      have h1 := HB.out.front k (by rw [HN.out]; exact k1)
      rw [cut_dg HB.out.by (by rw [HN.out]; exact k1) (fun i a b => HC.out i a (by rw [← HN.out]; exact b)) hk] at h1
      exact h1
    have FIN := Lib.hid fin
    clear fin
    have hs1 := fun w => HSL.out k (by omega) w
    by_cases h0 : k = 0
    · subst h0
      go_wp2_with fail
      try rw [Exit.noGoto_ret]
      go_ret
      exact ⟨_, rfl, FIN.out (by first | exact .inl rfl | exact .inl trivial), rfl⟩
    · obtain ⟨b, off, rfl, -, hb, hc, z0, z1⟩ := HB.out.getAt (i := k - 1) (by rw [HN.out]; omega)
      have t1 : decide (0 < (k : Int)) = true := decide_eq_true (by omega)
      have u1 : IntKind.i64.wrap ((k : Int) - 1) = ((k - 1 : Nat) : Int) := (IntWalk.i64_in _ (by omega)).trans (by omega)
      have u2 : ((k - 1 : Nat) : Int) < (n : Int) := by omega
      obtain ⟨x, hx⟩ : ∃ x, l[k - 1]?.getD 0 = x := ⟨_, rfl⟩
      rw [hx] at hc
      have HX := Lib.hid hx
      clear hx z0 z1
      by_cases hx0 : x = 0
      · subst hx0
        go_wp2_with fail
        go_roundg (k - 1)
        case measure => omega
        case rel => exact ⟨k - 1, rfl, by omega, by omega, fun i a b => (by
          rcases Nat.eq_or_lt_of_le a with e | e
          · subst e; exact HX.out
          · exact HC.out i (by omega) b), rfl⟩
      · have t2 : (x != 0) = true := by simpa using hx0
        go_wp2_with fail
        try rw [Exit.noGoto_ret]
        go_ret
        exact ⟨_, rfl, FIN.out (.inr (by rw [HX.out]; exact hx0)), rfl⟩

theorem cut_any (v : Value) (l : List Int) (S : Nat → Prop) (w : World) (h : ByteS w S v l) :
    Calls Tryd.prog 125 #[v] w fun e w' => ∃ v', e = .returned v' ∧ ByteS w' S v' (dg (val l).toNat) ∧ Chg No w w' :=
  (cut_eq v l S w h).mono fun e w' ⟨v', h1, h2, h3⟩ => ⟨v', h1, h2, by rw [← h3]; exact Chg.refl _ _⟩

set_option maxRecDepth 100000 in
set_option maxHeartbeats 600000 in
theorem Right_any (v : Value) (l : List Int) (S : Nat → Prop) (w : World) (h : ByteS w S v l) :
    Calls Tryd.prog 97 #[v] w fun e w' => e = .returned (.bool (rightD l)) ∧ w = w' := by
  obtain ⟨A, c, rfl, hlc, hcm, -⟩ := h.form
  have hmax : l.length ≤ 9223372036854775807 := by unfold maxLen at hcm; simp at hcm; omega
  obtain ⟨r, hr⟩ : ∃ r, rightD l = r := ⟨_, rfl⟩
  rw [hr]
  unfold rightD at hr
  rw [canon_last] at hr
  have HB := Lib.hid h
  clear h hcm hlc
  by_cases h4 : l.length ≤ 400
  · by_cases h0 : l.length = 0
    · obtain rfl : l = [] := List.eq_nil_of_length_eq_zero h0
      obtain rfl : true = r := by simpa using hr
      clear hr
      go_enter Tryd.func97, Tryd.ntmps97
      go_wp2_with fail
      go_ret
      exact ⟨rfl, rfl⟩
    · obtain ⟨b, off, rfl, -, hb, hc, z0, z1⟩ := HB.out.getAt (i := l.length - 1) (by omega)
      rw [decide_eq_true h4, decide_eq_false (by rintro rfl; exact h0 rfl), Bool.true_and, Bool.false_or] at hr
      generalize l[l.length - 1]?.getD 0 = x at *
      generalize hn : l.length = n at *
      have t1 : decide ((n : Int) ≤ 400) = true := decide_eq_true (by omega)
      have t0 : ((n : Int) == 0) = false := by simp; omega
      have u1 : IntKind.i64.wrap ((n : Int) - 1) = ((n - 1 : Nat) : Int) := (IntWalk.i64_in _ (by omega)).trans (by omega)
      have u2 : ((n - 1 : Nat) : Int) < (n : Int) := by omega
      have HR := Lib.hid hr
      clear hr hn HB z0 z1
      cases r with
      | false =>
        have hx : (x != 0) = false := HR.out
        go_enter Tryd.func97, Tryd.ntmps97
        go_wp2_with fail
        go_ret
        exact ⟨rfl, rfl⟩
      | true =>
        have hx : (x != 0) = true := HR.out
        go_enter Tryd.func97, Tryd.ntmps97
        go_wp2_with fail
        go_ret
        exact ⟨rfl, rfl⟩
  · rw [decide_eq_false h4, Bool.false_and] at hr
    subst hr
    have t1 : decide ((l.length : Int) ≤ 400) = false := decide_eq_false (by omega)
    generalize l.length = n at *
    clear HB
    go_enter Tryd.func97, Tryd.ntmps97
    go_wp2_with fail
    go_ret
    exact ⟨rfl, rfl⟩

set_option maxRecDepth 100000 in
set_option maxHeartbeats 600000 in
theorem digit_any (v : Value) (l : List Int) (S : Nat → Prop) (w : World) (h : ByteS w S v l) (i : Nat) :
    Calls Tryd.prog 105 #[v, .int .i64 (i : Int)] w fun e w' => e = .returned (.int .i64 (l[i]?.getD 0)) ∧ w = w' := by
  obtain ⟨A, c, rfl, hlc, hcm, -⟩ := h.form
  by_cases hi : i < l.length
  · obtain ⟨b, off, rfl, -, hb, hc, z0, z1⟩ := h.getAt hi
    generalize l[i]?.getD 0 = x at *
    have t1 : decide ((i : Int) < (l.length : Int)) = true := decide_eq_true (by omega)
    have u2 : (i : Int) < (l.length : Int) := by omega
    have u3 : IntKind.i64.wrap x = x := IntWalk.i64_in _ (by omega)
    generalize l.length = n at *
    clear h hlc hcm
    go_enter Tryd.func105, Tryd.ntmps105
    go_wp2_with fail
    go_ret
    exact ⟨rfl, rfl⟩
  · rw [List.getElem?_eq_none (by omega)]
    have t1 : decide ((i : Int) < (l.length : Int)) = false := decide_eq_false (by omega)
    generalize l.length = n at *
    clear h hlc hcm
    go_enter Tryd.func105, Tryd.ntmps105
    go_wp2_with fail
    go_ret
    exact ⟨rfl, rfl⟩

/-- what is told: the number, unless it is too long -/
def Told (w' : World) (S : Nat → Prop) (n : Nat) (e : Ending) : Prop :=
  ((dg n).length ≤ 400 ∧ ∃ v', e = .returned (.tuple #[v', .int .i64 0]) ∧ ByteS w' S v' (dg n)) ∨ (400 < (dg n).length ∧ e = .returned (.tuple #[.slice none 0 0, .int .i64 3]))
set_option maxRecDepth 100000 in
set_option maxHeartbeats 600000 in
theorem told_any (v : Value) (l : List Int) (S : Nat → Prop) (w : World) (h : ByteS w S v l) :
    Calls Tryd.prog 102 #[v] w fun e w' => Told w' S (val l).toNat e ∧ Chg No w w' := by
  have HC := Lib.hid (cut_any v l S w h)
  generalize (val l).toNat = n at *
  clear h
  unfold Told
  by_cases h4 : (dg n).length ≤ 400
  · have t1 : decide (400 < ((dg n).length : Int)) = false := decide_eq_false (by omega)
    go_enter Tryd.func102, Tryd.ntmps102
    go_wp2_with (first
      | (go_at_call 125
         refine HC.out.mono ?_
         rintro e w1 ⟨v', rfl, hb, c1⟩
         obtain ⟨A, c, rfl, -⟩ := hb.form
         have HB := Lib.hid (And.intro hb c1)
         clear hb c1
         generalize hm : (dg n).length = m at *)
      | fail)
    go_ret2
    subst hm
    exact ⟨.inl ⟨h4, _, rfl, HB.out.1⟩, HB.out.2⟩
  · have t1 : decide (400 < ((dg n).length : Int)) = true := decide_eq_true (by omega)
    go_enter Tryd.func102, Tryd.ntmps102
    go_wp2_with (first
      | (go_at_call 125
         refine HC.out.mono ?_
         rintro e w1 ⟨v', rfl, hb, c1⟩
         obtain ⟨A, c, rfl, -⟩ := hb.form
         have HB := Lib.hid (And.intro hb c1)
         clear hb c1
         generalize hm : (dg n).length = m at *)
      | fail)
    go_ret2
    exact ⟨.inr ⟨by omega, rfl⟩, HB.out.2⟩

end Go.Proofs.YtncoanmgifgcbaaDoor
