/- The plain law of rows of bytes in runs of sectors: what is laid, wiped, and still there. No walk here. -/
import Derived.Test.YtdpmmafkomchaaaSecF
import Derived.Test.YtdpmmafkomchaaaKey3
namespace Go.Proofs.Ytdpmmafkomchaaa
set_option linter.unusedVariables false
set_option linter.unusedSimpArgs false
open Go.RowKit

/-- how many sectors so many bytes take -/
def secN (k : Nat) : Nat := max ((k + 63) / 64) 1
/-- bytes, and the sector where they begin -/
structure Xt where
  f : Nat
  b : List Int
def Xt.n (x : Xt) : Nat := secN x.b.length
def Xt.ex (x : Xt) : Ex := ((x.f : Int), (x.n : Int), (x.b.length : Int))
theorem secN_pos (k : Nat) : 1 ≤ secN k := by unfold secN; omega
def apartX (x y : Xt) : Prop := x.f + x.n ≤ y.f ∨ y.f + y.n ≤ x.f
theorem apartX.symm {x y : Xt} (h : apartX x y) : apartX y x := h.elim .inr .inl
theorem apartX.ne {x y : Xt} (h : apartX x y) : x.ex ≠ y.ex := by
  intro e
  have h1 : 1 ≤ x.n := secN_pos _
  have h2 : 1 ≤ y.n := secN_pos _
  unfold Xt.ex at e
  simp only [Prod.mk.injEq] at e
  unfold apartX at h
  omega

/-- the rows X stand on the disk -/
structure ExtV (N : Nat) (D : List Int) (t : Nat → Bool) (E : List (Ex × Value)) (X : List Xt) : Prop where
  cov : Covers t (X.map fun x => (x.f, x.n))
  apart : X.Pairwise apartX
  fits : ∀ x ∈ X, x.f + x.n ≤ N
  live : ∀ x ∈ X, gget x.ex E = some (.bool true)
  data : ∀ x ∈ X, ∀ j, j < x.b.length → D[x.f * 64 + j]? = x.b[j]?
  byte : ∀ x ∈ X, ∀ y ∈ x.b, 0 ≤ y ∧ y ≤ 255
theorem Covers.ext {t : Nat → Bool} {R R' : List (Nat × Nat)} (h : Covers t R) (e : ∀ r, r ∈ R ↔ r ∈ R') : Covers t R' :=
  ⟨fun r hr => h.1 r ((e r).2 hr), fun i => (h.2 i).trans ⟨fun ⟨r, hr, h⟩ => ⟨r, (e r).1 hr, h⟩, fun ⟨r, hr, h⟩ => ⟨r, (e r).2 hr, h⟩⟩⟩
section
variable {N : Nat} {D D' : List Int} {t t' : Nat → Bool} {E : List (Ex × Value)} {X Y : List Xt} {x : Xt}
theorem ExtV.perm (h : ExtV N D t E X) (p : X.Perm Y) : ExtV N D t E Y where
  cov := h.cov.ext fun r => (p.map _).mem_iff
  apart := h.apart.perm p apartX.symm
  fits := fun x hx => h.fits x (p.mem_iff.2 hx)
  live := fun x hx => h.live x (p.mem_iff.2 hx)
  data := fun x hx => h.data x (p.mem_iff.2 hx)
  byte := fun x hx => h.byte x (p.mem_iff.2 hx)
theorem ExtV.mid {X1 X2 : List Xt} (h : ExtV N D t E (X1 ++ x :: X2)) : ExtV N D t E (x :: (X1 ++ X2)) := h.perm List.perm_middle
theorem ExtV.unmid {X1 X2 : List Xt} (h : ExtV N D t E (x :: (X1 ++ X2))) : ExtV N D t E (X1 ++ x :: X2) := h.perm List.perm_middle.symm
theorem ExtV.last (h : ExtV N D t E (x :: X)) : ExtV N D t E (X ++ [x]) := h.perm (List.perm_append_comm (l₁ := [x]) (l₂ := X))
/-- nothing stands there -/
theorem ExtV.nil (N : Nat) (D : List Int) (t : Nat → Bool) (ht : ∀ i, t i = false) : ExtV N D t [] [] :=
  ⟨⟨fun r hr => by simp at hr, fun i => by rw [ht]; simp⟩, List.Pairwise.nil, (by simp), (by simp), (by simp), (by simp)⟩
theorem ExtV.taken (h : ExtV N D t E X) (hx : x ∈ X) {i : Nat} (h1 : x.f ≤ i) (h2 : i < x.f + x.n) : t i = true :=
  (h.cov.2 i).2 ⟨_, List.mem_map.2 ⟨x, hx, rfl⟩, h1, h2⟩
/-- a run that is free is apart from all -/
theorem ExtV.away (h : ExtV N D t E X) {y : Xt} (hf : ∀ i, i < y.n → t (y.f + i) = false) : ∀ x ∈ X, apartX x y := by
  intro x hx
  have h1 : 1 ≤ x.n := secN_pos _
  have h2 : 1 ≤ y.n := secN_pos _
  unfold apartX
  apply Classical.byContradiction
  intro hn
  have hm : x.f ≤ max x.f y.f ∧ max x.f y.f < x.f + x.n ∧ y.f ≤ max x.f y.f ∧ max x.f y.f < y.f + y.n := by omega
  have e1 := h.taken hx hm.1 hm.2.1
  have e2 := hf (max x.f y.f - y.f) (by omega)
  rw [show y.f + (max x.f y.f - y.f) = max x.f y.f by omega, e1] at e2
  cases e2
/-- one row more -/
theorem ExtV.put (h : ExtV N D t E X) {y : Xt} (hf : ∀ i, i < y.n → t (y.f + i) = false) (hN : y.f + y.n ≤ N) (ht : ∀ j, t' j = if y.f ≤ j ∧ j < y.f + y.n then !t j else t j)
    (hin : ∀ j, j < y.b.length → D'[y.f * 64 + j]? = y.b[j]?) (hout : ∀ j, j < y.f * 64 ∨ (y.f + y.n) * 64 ≤ j → D'[j]? = D[j]?) (hb : ∀ z ∈ y.b, 0 ≤ z ∧ z ≤ 255) : ExtV N D' t' (gset y.ex (.bool true) E) (y :: X) := by
  have aw := h.away hf
  have hlen : ∀ z : Xt, z.b.length ≤ z.n * 64 := fun z => by unfold Xt.n secN; omega
  refine ⟨⟨?_, fun i => ?_⟩, List.pairwise_cons.2 ⟨fun x hx => (aw x hx).symm, h.apart⟩, ?_, ?_, ?_, ?_⟩
  · intro r hr
    rw [List.map_cons, List.mem_cons] at hr
    rcases hr with rfl | hr
    · exact secN_pos _
    · exact h.cov.1 r hr
  · rw [ht, List.map_cons]
    by_cases e : y.f ≤ i ∧ i < y.f + y.n
    · rw [if_pos e]
      have := hf (i - y.f) (by omega)
      rw [show y.f + (i - y.f) = i by omega] at this
      rw [this]
      exact ⟨fun _ => ⟨_, List.mem_cons_self, e⟩, fun _ => rfl⟩
    · rw [if_neg e, h.cov.2 i]
      constructor
      · rintro ⟨r, hr, h1⟩
        exact ⟨r, List.mem_cons_of_mem _ hr, h1⟩
      · rintro ⟨r, hr, h1⟩
        rw [List.mem_cons] at hr
        rcases hr with rfl | hr
        · exact absurd h1 e
        · exact ⟨r, hr, h1⟩
  · intro x hx
    rw [List.mem_cons] at hx
    rcases hx with rfl | hx
    · exact hN
    · exact h.fits x hx
  · intro x hx
    rw [gget_gset]
    rw [List.mem_cons] at hx
    rcases hx with rfl | hx
    · simp
    · rw [if_neg (by simpa using (aw x hx).ne)]
      exact h.live x hx
  · intro x hx j hj
    rw [List.mem_cons] at hx
    rcases hx with rfl | hx
    · exact hin j hj
    · rw [hout _ (by
        have h1 := aw x hx
        have h2 := hlen x
        unfold apartX at h1
        rcases h1 with h1 | h1
        · left
          have := Nat.mul_le_mul_right 64 h1
          omega
        · right
          have := Nat.mul_le_mul_right 64 h1
          omega)]
      exact h.data x hx j hj
  · intro x hx
    rw [List.mem_cons] at hx
    rcases hx with rfl | hx
    · exact hb
    · exact h.byte x hx
/-- one row less -/
theorem ExtV.cut (h : ExtV N D t E (x :: X)) (hE : (E.map (·.1)).Nodup) (ht : ∀ j, t' j = if x.f ≤ j ∧ j < x.f + x.n then !t j else t j) (hout : ∀ j, j < x.f * 64 ∨ (x.f + x.n) * 64 ≤ j → D'[j]? = D[j]?) : ExtV N D' t' (gdel x.ex E) X := by
  have hap := List.pairwise_cons.1 h.apart
  have hlen : ∀ z : Xt, z.b.length ≤ z.n * 64 := fun z => by unfold Xt.n secN; omega
  refine ⟨⟨fun r hr => h.cov.1 r (by rw [List.map_cons]; exact List.mem_cons_of_mem _ hr), fun i => ?_⟩, hap.2, fun y hy => h.fits y (List.mem_cons_of_mem _ hy), ?_, ?_, fun y hy => h.byte y (List.mem_cons_of_mem _ hy)⟩
  · rw [ht]
    have hc := h.cov.2 i
    rw [List.map_cons] at hc
    by_cases e : x.f ≤ i ∧ i < x.f + x.n
    · rw [if_pos e, hc.2 ⟨_, List.mem_cons_self, e⟩]
      constructor
      · intro h; cases h
      · rintro ⟨r, hr, h1⟩
        obtain ⟨y, hy, rfl⟩ := List.mem_map.1 hr
        have := hap.1 y hy
        unfold apartX at this
        dsimp only at h1
        omega
    · rw [if_neg e, hc]
      constructor
      · rintro ⟨r, hr, h1⟩
        rw [List.mem_cons] at hr
        rcases hr with rfl | hr
        · exact absurd h1 e
        · exact ⟨r, hr, h1⟩
      · rintro ⟨r, hr, h1⟩
        exact ⟨r, List.mem_cons_of_mem _ hr, h1⟩
  · intro y hy
    rw [gget_gdel _ _ hE, if_neg (by simpa using (hap.1 y hy).ne.symm)]
    exact h.live y (List.mem_cons_of_mem _ hy)
  · intro y hy j hj
    rw [hout _ (by
      have h1 := hap.1 y hy
      have h2 := hlen y
      unfold apartX at h1
      rcases h1 with h1 | h1
      · right
        have := Nat.mul_le_mul_right 64 h1
        omega
      · left
        have := Nat.mul_le_mul_right 64 h1
        omega)]
    exact h.data y (List.mem_cons_of_mem _ hy) j hj
/-- what takes no notice of how it is told -/
theorem ExtV.same (h : ExtV N D t E X) (ht : ∀ i, t' i = t i) : ExtV N D t' E X :=
  ⟨⟨h.cov.1, fun i => by rw [ht]; exact h.cov.2 i⟩, h.apart, h.fits, h.live, h.data, h.byte⟩
end

/-- bytes laid into the first i of their sectors -/
def layD (D : List Int) (f : Nat) (l : List Int) : Nat → List Int
  | 0 => D
  | i + 1 => wrD (layD D f l i) (f + i) ((l.drop (i * 64)).take 64)
section
variable {D l : List Int} {f N : Nat}
theorem part_len (l : List Int) (i : Nat) : ((l.drop (i * 64)).take 64).length = min 64 (l.length - i * 64) := by simp
theorem layD_len (hD : D.length = N * 64) : ∀ i, f + i ≤ N → (layD D f l i).length = N * 64
  | 0, _ => hD
  | i + 1, h => wrD_len (layD_len hD i (by omega)) (by omega) (by rw [part_len]; omega)
theorem layD_in (hD : D.length = N * 64) : ∀ i, f + i ≤ N → ∀ j, j < i * 64 → j < l.length → (layD D f l i)[f * 64 + j]? = l[j]?
  | 0, _, j, h, _ => by omega
  | i + 1, h, j, hj, hl => by
    have hlen := layD_len (l := l) (f := f) hD i (by omega)
    have hp := part_len l i
    by_cases e : j < i * 64
    · show (wrD _ _ _)[_]? = _
      rw [wrD_out (i := f + i) hlen (by omega) (by omega) (by omega)]
      exact layD_in hD i (by omega) j e hl
    · show (wrD _ _ _)[_]? = _
      rw [show f * 64 + j = (f + i) * 64 + (j - i * 64) by omega, wrD_in (i := f + i) hlen (by omega) (by omega) (by omega), List.getElem?_take, if_pos (by omega), List.getElem?_drop]
      congr 1
      omega
theorem layD_out (hD : D.length = N * 64) : ∀ i, f + i ≤ N → ∀ j, j < f * 64 ∨ (f + i) * 64 ≤ j → (layD D f l i)[j]? = D[j]?
  | 0, _, _, _ => rfl
  | i + 1, h, j, hj => by
    show (wrD _ _ _)[_]? = _
    rw [wrD_out (layD_len hD i (by omega)) (by omega) (by rw [part_len]; omega) (by omega)]
    exact layD_out hD i (by omega) j (by omega)
end
/-- sectors wiped -/
def wipeD (D : List Int) (f : Nat) : Nat → List Int
  | 0 => D
  | i + 1 => clD (wipeD D f i) (f + i)
section
variable {D : List Int} {f N : Nat}
theorem wipeD_len (hD : D.length = N * 64) : ∀ i, f + i ≤ N → (wipeD D f i).length = N * 64
  | 0, _ => hD
  | i + 1, h => clD_len (wipeD_len hD i (by omega)) (by omega)
theorem wipeD_out (hD : D.length = N * 64) : ∀ i, f + i ≤ N → ∀ j, j < f * 64 ∨ (f + i) * 64 ≤ j → (wipeD D f i)[j]? = D[j]?
  | 0, _, _, _ => rfl
  | i + 1, h, j, hj => by
    show (clD _ _)[_]? = _
    rw [clD_out (wipeD_len hD i (by omega)) (by omega) (by omega)]
    exact wipeD_out hD i (by omega) j (by omega)
end
/-- bytes read out of the first i of their sectors -/
def readD (D : List Int) (f i : Nat) : List Int := (D.drop (f * 64)).take (i * 64)
theorem readD_succ (D : List Int) (f i : Nat) : readD D f (i + 1) = readD D f i ++ secB D (f + i) := by
  unfold readD secB
  rw [show (i + 1) * 64 = i * 64 + 64 by omega, List.take_add, List.drop_drop, show f * 64 + i * 64 = (f + i) * 64 by omega]
theorem readD_len {D : List Int} {f i N : Nat} (hD : D.length = N * 64) (h : f + i ≤ N) : (readD D f i).length = i * 64 := by
  simp [readD]; omega
theorem readD_take {D l : List Int} {f i N : Nat} (hD : D.length = N * 64) (h : f + i ≤ N) (hl : l.length ≤ i * 64) (hin : ∀ j, j < l.length → D[f * 64 + j]? = l[j]?) : (readD D f i).take l.length = l := by
  apply List.ext_getElem?
  intro j
  rw [List.getElem?_take]
  split
  · rename_i hj
    unfold readD
    rw [List.getElem?_take, if_pos (by omega), List.getElem?_drop]
    exact hin j hj
  · rename_i hj
    rw [List.getElem?_eq_none (by omega)]

/-! how many bits are set: the sectors of all rows -/
theorem countP_apart {α : Type} {p q : α → Bool} (h : ∀ x, ¬ (p x = true ∧ q x = true)) : ∀ l : List α, l.countP (fun x => p x || q x) = l.countP p + l.countP q
  | [] => rfl
  | x :: l => by
    have ih := countP_apart h l
    have hx := h x
    simp only [List.countP_cons, ih]
    cases hp : p x <;> cases hq : q x <;> simp [hp, hq] at hx ⊢ <;> omega
theorem countP_run (f n : Nat) : ∀ M, (List.range M).countP (fun i => decide (f ≤ i) && decide (i < f + n)) = min (M - f) n
  | 0 => by simp
  | M + 1 => by
    rw [List.range_succ, List.countP_append, countP_run f n M, List.countP_cons, List.countP_nil]
    by_cases h1 : f ≤ M <;> by_cases h2 : M < f + n <;> simp [h1, h2] <;> omega
theorem countP_covers : ∀ (X : List Xt) (t : Nat → Bool) (M : Nat), Covers t (X.map fun x => (x.f, x.n)) → X.Pairwise apartX → (∀ x ∈ X, x.f + x.n ≤ M) → (List.range M).countP t = (X.map Xt.n).sum
  | [], t, M, hc, _, _ => by
    rw [List.countP_eq_zero.2]
    · rfl
    · intro i _ h
      obtain ⟨r, hr, _⟩ := (hc.2 i).1 h
      simp at hr
  | x :: X, t, M, hc, hp, hf => by
    rw [List.pairwise_cons] at hp
    have e : ∀ i, t i = ((decide (x.f ≤ i) && decide (i < x.f + x.n)) || X.any fun y => decide (y.f ≤ i) && decide (i < y.f + y.n)) := by
      intro i
      rw [Bool.eq_iff_iff, hc.2 i]
      simp only [List.map_cons, List.mem_cons, List.mem_map, Bool.or_eq_true, Bool.and_eq_true, decide_eq_true_eq, List.any_eq_true]
      constructor
      · rintro ⟨r, rfl | ⟨y, hy, rfl⟩, h⟩
        · exact .inl h
        · exact .inr ⟨y, hy, h⟩
      · rintro (h | ⟨y, hy, h⟩)
        · exact ⟨_, .inl rfl, h⟩
        · exact ⟨_, .inr ⟨y, hy, rfl⟩, h⟩
    have hX : Covers (fun i => X.any fun y => decide (y.f ≤ i) && decide (i < y.f + y.n)) (X.map fun x => (x.f, x.n)) := by
      refine ⟨fun r hr => hc.1 r (by rw [List.map_cons]; exact List.mem_cons_of_mem _ hr), fun i => ?_⟩
      simp only [List.any_eq_true, Bool.and_eq_true, decide_eq_true_eq, List.mem_map]
      constructor
      · rintro ⟨y, hy, h⟩
        exact ⟨_, ⟨y, hy, rfl⟩, h⟩
      · rintro ⟨r, ⟨y, hy, rfl⟩, h⟩
        exact ⟨y, hy, h⟩
    have ih := countP_covers X _ M hX hp.2 (fun y hy => hf y (List.mem_cons_of_mem _ hy))
    have hfx := hf x List.mem_cons_self
    rw [show t = fun i => ((decide (x.f ≤ i) && decide (i < x.f + x.n)) || X.any fun y => decide (y.f ≤ i) && decide (i < y.f + y.n)) from funext e, countP_apart, countP_run, ih, List.map_cons, List.sum_cons]
    · omega
    · rintro i ⟨h1, h2⟩
      simp only [Bool.and_eq_true, decide_eq_true_eq, List.any_eq_true] at h1 h2
      obtain ⟨y, hy, h3⟩ := h2
      have := hp.1 y hy
      unfold apartX at this
      omega
/-- the words' bits, counted -/
theorem takenN_eq : ∀ ws : List Nat, takenN ws = (List.range (64 * ws.length)).countP (bitT ws)
  | [] => rfl
  | x :: ws => by
    have ih := takenN_eq ws
    have e1 : takenN (x :: ws) = popN 64 x + takenN ws := by simp [takenN]
    have e2 : 64 * (x :: ws).length = 64 + 64 * ws.length := by rw [List.length_cons]; omega
    rw [e1, e2, List.range_add, List.countP_append, List.countP_map, ih]
    have e3 : popN 64 x = (List.range 64).countP (bitT (x :: ws)) := by
      unfold popN
      refine List.countP_congr fun i hi => ?_
      rw [List.mem_range] at hi
      unfold bitT
      rw [Nat.div_eq_of_lt hi, Nat.mod_eq_of_lt hi]
      rfl
    rw [e3]
    congr 1
    · refine List.countP_congr fun i _ => ?_
      unfold bitT
      simp only [Function.comp]
      rw [show (64 + i) / 64 = i / 64 + 1 by omega, show (64 + i) % 64 = i % 64 by omega]
      rfl
theorem taken_sum {w : World} {b h N : Nat} {ws : List Nat} {D : List Int} {E : List (Ex × Value)} {X : List Xt} (H : BitI w b h N ws) (V : ExtV N D (bitT ws) E X) : takenN ws = (X.map Xt.n).sum := by
  have hl := H.len
  rw [takenN_eq, countP_covers X _ _ V.cov V.apart (fun x hx => by have := V.fits x hx; omega)]

end Go.Proofs.Ytdpmmafkomchaaa
