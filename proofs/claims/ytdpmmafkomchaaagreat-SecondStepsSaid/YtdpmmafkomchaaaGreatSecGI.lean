/- The plain law of rows of bytes in runs of sectors: what is laid, wiped, and still there. No walk here. · Rows of bytes in runs of sectors: extent.Space, its walks. · Rows of bytes in runs of sectors: extent.Space: Put, wipe, Get, Set, New, Used. -/
import Derived.Test.YtdpmmafkomchaaaGreatSecDE
import Derived.Test.YtdpmmafkomchaaaGreatKey3
import Derived.Test.YtdpmmafkomchaaaGreatImgR
import Derived.BigRegion
namespace Go.Proofs.YtdpmmafkomchaaaGreat
set_option linter.unusedVariables false
set_option linter.unusedSimpArgs false
open Go.RowKit
open Go.ChangeMaps (setBlock)

/-- how many sectors so many bytes take -/
def secN (k : Nat) : Nat := max ((k + 63) / 64) 1
/-- bytes, and the sector where they begin -/
structure Xt where
  f : Nat
  b : List Int
def Xt.n (x : Xt) : Nat := secN x.b.length
def Xt.ex (x : Xt) : Ex := ((x.f : Int), (x.n : Int), (x.b.length : Int))
theorem secN_pos (k : Nat) : 1 ≤ secN k := by unfold secN; omega
def apartX (x y : Xt) : Prop := x.f + x.n ≤ y.f ∨ y.f + y.n ≤ x.f
theorem apartX.symm {x y : Xt} (h : apartX x y) : apartX y x := h.elim .inr .inl
theorem apartX.ne {x y : Xt} (h : apartX x y) : x.ex ≠ y.ex := by
  intro e
  have h1 : 1 ≤ x.n := secN_pos _
  have h2 : 1 ≤ y.n := secN_pos _
  unfold Xt.ex at e
  simp only [Prod.mk.injEq] at e
  unfold apartX at h
  omega

/-- the rows X stand on the disk -/
structure ExtV (N : Nat) (D : List Int) (t : Nat → Bool) (E : List (Ex × Value)) (X : List Xt) : Prop where
  cov : Covers t (X.map fun x => (x.f, x.n))
  apart : X.Pairwise apartX
  fits : ∀ x ∈ X, x.f + x.n ≤ N
  live : ∀ x ∈ X, gget x.ex E = some (.bool true)
  data : ∀ x ∈ X, ∀ j, j < x.b.length → D[x.f * 64 + j]? = x.b[j]?
  byte : ∀ x ∈ X, ∀ y ∈ x.b, 0 ≤ y ∧ y ≤ 255
theorem Covers.ext {t : Nat → Bool} {R R' : List (Nat × Nat)} (h : Covers t R) (e : ∀ r, r ∈ R ↔ r ∈ R') : Covers t R' :=
  ⟨fun r hr => h.1 r ((e r).2 hr), fun i => (h.2 i).trans ⟨fun ⟨r, hr, h⟩ => ⟨r, (e r).1 hr, h⟩, fun ⟨r, hr, h⟩ => ⟨r, (e r).2 hr, h⟩⟩⟩
section
variable {N : Nat} {D D' : List Int} {t t' : Nat → Bool} {E : List (Ex × Value)} {X Y : List Xt} {x : Xt}
theorem ExtV.perm (h : ExtV N D t E X) (p : X.Perm Y) : ExtV N D t E Y where
  cov := h.cov.ext fun r => (p.map _).mem_iff
  apart := h.apart.perm p apartX.symm
  fits := fun x hx => h.fits x (p.mem_iff.2 hx)
  live := fun x hx => h.live x (p.mem_iff.2 hx)
  data := fun x hx => h.data x (p.mem_iff.2 hx)
  byte := fun x hx => h.byte x (p.mem_iff.2 hx)
theorem ExtV.mid {X1 X2 : List Xt} (h : ExtV N D t E (X1 ++ x :: X2)) : ExtV N D t E (x :: (X1 ++ X2)) := h.perm List.perm_middle
theorem ExtV.unmid {X1 X2 : List Xt} (h : ExtV N D t E (x :: (X1 ++ X2))) : ExtV N D t E (X1 ++ x :: X2) := h.perm List.perm_middle.symm
theorem ExtV.last (h : ExtV N D t E (x :: X)) : ExtV N D t E (X ++ [x]) := h.perm (List.perm_append_comm (l₁ := [x]) (l₂ := X))
/-- nothing stands there -/
theorem ExtV.nil (N : Nat) (D : List Int) (t : Nat → Bool) (ht : ∀ i, t i = false) : ExtV N D t [] [] :=
  ⟨⟨fun r hr => by simp at hr, fun i => by rw [ht]; simp⟩, List.Pairwise.nil, (by simp), (by simp), (by simp), (by simp)⟩
theorem ExtV.taken (h : ExtV N D t E X) (hx : x ∈ X) {i : Nat} (h1 : x.f ≤ i) (h2 : i < x.f + x.n) : t i = true :=
  (h.cov.2 i).2 ⟨_, List.mem_map.2 ⟨x, hx, rfl⟩, h1, h2⟩
/-- a run that is free is apart from all -/
theorem ExtV.away (h : ExtV N D t E X) {y : Xt} (hf : ∀ i, i < y.n → t (y.f + i) = false) : ∀ x ∈ X, apartX x y := by
  intro x hx
  have h1 : 1 ≤ x.n := secN_pos _
  have h2 : 1 ≤ y.n := secN_pos _
  unfold apartX
  apply Classical.byContradiction
  intro hn
  have hm : x.f ≤ max x.f y.f ∧ max x.f y.f < x.f + x.n ∧ y.f ≤ max x.f y.f ∧ max x.f y.f < y.f + y.n := by omega
  have e1 := h.taken hx hm.1 hm.2.1
  have e2 := hf (max x.f y.f - y.f) (by omega)
  rw [show y.f + (max x.f y.f - y.f) = max x.f y.f by omega, e1] at e2
  cases e2
/-- one row more -/
theorem ExtV.put (h : ExtV N D t E X) {y : Xt} (hf : ∀ i, i < y.n → t (y.f + i) = false) (hN : y.f + y.n ≤ N) (ht : ∀ j, t' j = if y.f ≤ j ∧ j < y.f + y.n then !t j else t j)
    (hin : ∀ j, j < y.b.length → D'[y.f * 64 + j]? = y.b[j]?) (hout : ∀ j, j < y.f * 64 ∨ (y.f + y.n) * 64 ≤ j → D'[j]? = D[j]?) (hb : ∀ z ∈ y.b, 0 ≤ z ∧ z ≤ 255) : ExtV N D' t' (gset y.ex (.bool true) E) (y :: X) := by
  have aw := h.away hf
  have hlen : ∀ z : Xt, z.b.length ≤ z.n * 64 := fun z => by unfold Xt.n secN; omega
  refine ⟨⟨?_, fun i => ?_⟩, List.pairwise_cons.2 ⟨fun x hx => (aw x hx).symm, h.apart⟩, ?_, ?_, ?_, ?_⟩
  · intro r hr
    rw [List.map_cons, List.mem_cons] at hr
    rcases hr with rfl | hr
    · exact secN_pos _
    · exact h.cov.1 r hr
  · rw [ht, List.map_cons]
    by_cases e : y.f ≤ i ∧ i < y.f + y.n
    · rw [if_pos e]
      have := hf (i - y.f) (by omega)
      rw [show y.f + (i - y.f) = i by omega] at this
      rw [this]
      exact ⟨fun _ => ⟨_, List.mem_cons_self, e⟩, fun _ => rfl⟩
    · rw [if_neg e, h.cov.2 i]
      constructor
      · rintro ⟨r, hr, h1⟩
        exact ⟨r, List.mem_cons_of_mem _ hr, h1⟩
      · rintro ⟨r, hr, h1⟩
        rw [List.mem_cons] at hr
        rcases hr with rfl | hr
        · exact absurd h1 e
        · exact ⟨r, hr, h1⟩
  · intro x hx
    rw [List.mem_cons] at hx
    rcases hx with rfl | hx
    · exact hN
    · exact h.fits x hx
  · intro x hx
    rw [gget_gset]
    rw [List.mem_cons] at hx
    rcases hx with rfl | hx
    · simp
    · rw [if_neg (by simpa using (aw x hx).ne)]
      exact h.live x hx
  · intro x hx j hj
    rw [List.mem_cons] at hx
    rcases hx with rfl | hx
    · exact hin j hj
    · rw [hout _ (by
        have h1 := aw x hx
        have h2 := hlen x
        unfold apartX at h1
        rcases h1 with h1 | h1
        · left
          have := Nat.mul_le_mul_right 64 h1
          omega
        · right
          have := Nat.mul_le_mul_right 64 h1
          omega)]
      exact h.data x hx j hj
  · intro x hx
    rw [List.mem_cons] at hx
    rcases hx with rfl | hx
    · exact hb
    · exact h.byte x hx
/-- one row less -/
theorem ExtV.cut (h : ExtV N D t E (x :: X)) (hE : (E.map (·.1)).Nodup) (ht : ∀ j, t' j = if x.f ≤ j ∧ j < x.f + x.n then !t j else t j) (hout : ∀ j, j < x.f * 64 ∨ (x.f + x.n) * 64 ≤ j → D'[j]? = D[j]?) : ExtV N D' t' (gdel x.ex E) X := by
  have hap := List.pairwise_cons.1 h.apart
  have hlen : ∀ z : Xt, z.b.length ≤ z.n * 64 := fun z => by unfold Xt.n secN; omega
  refine ⟨⟨fun r hr => h.cov.1 r (by rw [List.map_cons]; exact List.mem_cons_of_mem _ hr), fun i => ?_⟩, hap.2, fun y hy => h.fits y (List.mem_cons_of_mem _ hy), ?_, ?_, fun y hy => h.byte y (List.mem_cons_of_mem _ hy)⟩
  · rw [ht]
    have hc := h.cov.2 i
    rw [List.map_cons] at hc
    by_cases e : x.f ≤ i ∧ i < x.f + x.n
    · rw [if_pos e, hc.2 ⟨_, List.mem_cons_self, e⟩]
      constructor
      · intro h; cases h
      · rintro ⟨r, hr, h1⟩
        obtain ⟨y, hy, rfl⟩ := List.mem_map.1 hr
        have := hap.1 y hy
        unfold apartX at this
        dsimp only at h1
        omega
    · rw [if_neg e, hc]
      constructor
      · rintro ⟨r, hr, h1⟩
        rw [List.mem_cons] at hr
        rcases hr with rfl | hr
        · exact absurd h1 e
        · exact ⟨r, hr, h1⟩
      · rintro ⟨r, hr, h1⟩
        exact ⟨r, List.mem_cons_of_mem _ hr, h1⟩
  · intro y hy
    rw [gget_gdel _ _ hE, if_neg (by simpa using (hap.1 y hy).ne.symm)]
    exact h.live y (List.mem_cons_of_mem _ hy)
  · intro y hy j hj
    rw [hout _ (by
      have h1 := hap.1 y hy
      have h2 := hlen y
      unfold apartX at h1
      rcases h1 with h1 | h1
      · right
        have := Nat.mul_le_mul_right 64 h1
        omega
      · left
        have := Nat.mul_le_mul_right 64 h1
        omega)]
    exact h.data y (List.mem_cons_of_mem _ hy) j hj
/-- what takes no notice of how it is told -/
theorem ExtV.same (h : ExtV N D t E X) (ht : ∀ i, t' i = t i) : ExtV N D t' E X :=
  ⟨⟨h.cov.1, fun i => by rw [ht]; exact h.cov.2 i⟩, h.apart, h.fits, h.live, h.data, h.byte⟩
end

/-- bytes laid into the first i of their sectors -/
def layD (D : List Int) (f : Nat) (l : List Int) : Nat → List Int
  | 0 => D
  | i + 1 => wrD (layD D f l i) (f + i) ((l.drop (i * 64)).take 64)
section
variable {D l : List Int} {f N : Nat}
theorem part_len (l : List Int) (i : Nat) : ((l.drop (i * 64)).take 64).length = min 64 (l.length - i * 64) := by simp
theorem layD_len (hD : D.length = N * 64) : ∀ i, f + i ≤ N → (layD D f l i).length = N * 64
  | 0, _ => hD
  | i + 1, h => wrD_len (layD_len hD i (by omega)) (by omega) (by rw [part_len]; omega)
theorem layD_in (hD : D.length = N * 64) : ∀ i, f + i ≤ N → ∀ j, j < i * 64 → j < l.length → (layD D f l i)[f * 64 + j]? = l[j]?
  | 0, _, j, h, _ => by omega
  | i + 1, h, j, hj, hl => by
    have hlen := layD_len (l := l) (f := f) hD i (by omega)
    have hp := part_len l i
    by_cases e : j < i * 64
    · show (wrD _ _ _)[_]? = _
      rw [wrD_out (i := f + i) hlen (by omega) (by omega) (by omega)]
      exact layD_in hD i (by omega) j e hl
    · show (wrD _ _ _)[_]? = _
      rw [show f * 64 + j = (f + i) * 64 + (j - i * 64) by omega, wrD_in (i := f + i) hlen (by omega) (by omega) (by omega), List.getElem?_take, if_pos (by omega), List.getElem?_drop]
      congr 1
      omega
theorem layD_out (hD : D.length = N * 64) : ∀ i, f + i ≤ N → ∀ j, j < f * 64 ∨ (f + i) * 64 ≤ j → (layD D f l i)[j]? = D[j]?
  | 0, _, _, _ => rfl
  | i + 1, h, j, hj => by
    show (wrD _ _ _)[_]? = _
    rw [wrD_out (layD_len hD i (by omega)) (by omega) (by rw [part_len]; omega) (by omega)]
    exact layD_out hD i (by omega) j (by omega)
end
/-- sectors wiped -/
def wipeD (D : List Int) (f : Nat) : Nat → List Int
  | 0 => D
  | i + 1 => clD (wipeD D f i) (f + i)
section
variable {D : List Int} {f N : Nat}
theorem wipeD_len (hD : D.length = N * 64) : ∀ i, f + i ≤ N → (wipeD D f i).length = N * 64
  | 0, _ => hD
  | i + 1, h => clD_len (wipeD_len hD i (by omega)) (by omega)
theorem wipeD_out (hD : D.length = N * 64) : ∀ i, f + i ≤ N → ∀ j, j < f * 64 ∨ (f + i) * 64 ≤ j → (wipeD D f i)[j]? = D[j]?
  | 0, _, _, _ => rfl
  | i + 1, h, j, hj => by
    show (clD _ _)[_]? = _
    rw [clD_out (wipeD_len hD i (by omega)) (by omega) (by omega)]
    exact wipeD_out hD i (by omega) j (by omega)
end
/-- bytes read out of the first i of their sectors -/
def readD (D : List Int) (f i : Nat) : List Int := (D.drop (f * 64)).take (i * 64)
theorem readD_succ (D : List Int) (f i : Nat) : readD D f (i + 1) = readD D f i ++ secB D (f + i) := by
  unfold readD secB
  rw [show (i + 1) * 64 = i * 64 + 64 by omega, List.take_add, List.drop_drop, show f * 64 + i * 64 = (f + i) * 64 by omega]
theorem readD_len {D : List Int} {f i N : Nat} (hD : D.length = N * 64) (h : f + i ≤ N) : (readD D f i).length = i * 64 := by
  simp [readD]; omega
theorem readD_take {D l : List Int} {f i N : Nat} (hD : D.length = N * 64) (h : f + i ≤ N) (hl : l.length ≤ i * 64) (hin : ∀ j, j < l.length → D[f * 64 + j]? = l[j]?) : (readD D f i).take l.length = l := by
  apply List.ext_getElem?
  intro j
  rw [List.getElem?_take]
  split
  · rename_i hj
    unfold readD
    rw [List.getElem?_take, if_pos (by omega), List.getElem?_drop]
    exact hin j hj
  · rename_i hj
    rw [List.getElem?_eq_none (by omega)]

/-! how many bits are set: the sectors of all rows -/
theorem countP_apart {α : Type} {p q : α → Bool} (h : ∀ x, ¬ (p x = true ∧ q x = true)) : ∀ l : List α, l.countP (fun x => p x || q x) = l.countP p + l.countP q
  | [] => rfl
  | x :: l => by
    have ih := countP_apart h l
    have hx := h x
    simp only [List.countP_cons, ih]
    cases hp : p x <;> cases hq : q x <;> simp [hp, hq] at hx ⊢ <;> omega
theorem countP_run (f n : Nat) : ∀ M, (List.range M).countP (fun i => decide (f ≤ i) && decide (i < f + n)) = min (M - f) n
  | 0 => by simp
  | M + 1 => by
    rw [List.range_succ, List.countP_append, countP_run f n M, List.countP_cons, List.countP_nil]
    by_cases h1 : f ≤ M <;> by_cases h2 : M < f + n <;> simp [h1, h2] <;> omega
theorem countP_covers : ∀ (X : List Xt) (t : Nat → Bool) (M : Nat), Covers t (X.map fun x => (x.f, x.n)) → X.Pairwise apartX → (∀ x ∈ X, x.f + x.n ≤ M) → (List.range M).countP t = (X.map Xt.n).sum
  | [], t, M, hc, _, _ => by
    rw [List.countP_eq_zero.2]
    · rfl
    · intro i _ h
      obtain ⟨r, hr, _⟩ := (hc.2 i).1 h
      simp at hr
  | x :: X, t, M, hc, hp, hf => by
    rw [List.pairwise_cons] at hp
    have e : ∀ i, t i = ((decide (x.f ≤ i) && decide (i < x.f + x.n)) || X.any fun y => decide (y.f ≤ i) && decide (i < y.f + y.n)) := by
      intro i
      rw [Bool.eq_iff_iff, hc.2 i]
      simp only [List.map_cons, List.mem_cons, List.mem_map, Bool.or_eq_true, Bool.and_eq_true, decide_eq_true_eq, List.any_eq_true]
      constructor
      · rintro ⟨r, rfl | ⟨y, hy, rfl⟩, h⟩
        · exact .inl h
        · exact .inr ⟨y, hy, h⟩
      · rintro (h | ⟨y, hy, h⟩)
        · exact ⟨_, .inl rfl, h⟩
        · exact ⟨_, .inr ⟨y, hy, rfl⟩, h⟩
    have hX : Covers (fun i => X.any fun y => decide (y.f ≤ i) && decide (i < y.f + y.n)) (X.map fun x => (x.f, x.n)) := by
      refine ⟨fun r hr => hc.1 r (by rw [List.map_cons]; exact List.mem_cons_of_mem _ hr), fun i => ?_⟩
      simp only [List.any_eq_true, Bool.and_eq_true, decide_eq_true_eq, List.mem_map]
      constructor
      · rintro ⟨y, hy, h⟩
        exact ⟨_, ⟨y, hy, rfl⟩, h⟩
      · rintro ⟨r, ⟨y, hy, rfl⟩, h⟩
        exact ⟨y, hy, h⟩
    have ih := countP_covers X _ M hX hp.2 (fun y hy => hf y (List.mem_cons_of_mem _ hy))
    have hfx := hf x List.mem_cons_self
    rw [show t = fun i => ((decide (x.f ≤ i) && decide (i < x.f + x.n)) || X.any fun y => decide (y.f ≤ i) && decide (i < y.f + y.n)) from funext e, countP_apart, countP_run, ih, List.map_cons, List.sum_cons]
    · omega
    · rintro i ⟨h1, h2⟩
      simp only [Bool.and_eq_true, decide_eq_true_eq, List.any_eq_true] at h1 h2
      obtain ⟨y, hy, h3⟩ := h2
      have := hp.1 y hy
      unfold apartX at this
      omega
/-- the words' bits, counted -/
theorem takenN_eq : ∀ ws : List Nat, takenN ws = (List.range (64 * ws.length)).countP (bitT ws)
  | [] => rfl
  | x :: ws => by
    have ih := takenN_eq ws
    have e1 : takenN (x :: ws) = popN 64 x + takenN ws := by simp [takenN]
    have e2 : 64 * (x :: ws).length = 64 + 64 * ws.length := by rw [List.length_cons]; omega
    rw [e1, e2, List.range_add, List.countP_append, List.countP_map, ih]
    have e3 : popN 64 x = (List.range 64).countP (bitT (x :: ws)) := by
      unfold popN
      refine List.countP_congr fun i hi => ?_
      rw [List.mem_range] at hi
      unfold bitT
      rw [Nat.div_eq_of_lt hi, Nat.mod_eq_of_lt hi]
      rfl
    rw [e3]
    congr 1
    · refine List.countP_congr fun i _ => ?_
      unfold bitT
      simp only [Function.comp]
      rw [show (64 + i) / 64 = i / 64 + 1 by omega, show (64 + i) % 64 = i % 64 by omega]
      rfl
theorem taken_sum {w : World} {b h N : Nat} {ws : List Nat} {D : List Int} {E : List (Ex × Value)} {X : List Xt} (H : BitI w b h N ws) (V : ExtV N D (bitT ws) E X) : takenN ws = (X.map Xt.n).sum := by
  have hl := H.len
  rw [takenN_eq, countP_covers X _ _ V.cov V.apart (fun x hx => by have := V.fits x hx; omega)]


/-- a space's blocks -/
structure Blk where
  r : Nat
  d : Nat
  g : Nat
  b : Nat
  h : Nat
  v : Nat
def Blk.has (B : Blk) (k : Nat) : Prop := k = B.r ∨ k = B.d ∨ k = B.g ∨ k = B.b ∨ k = B.h ∨ k = B.v
/-- block B.r is a space of N sectors: the disk's bytes D, the words ws of what is taken, the map E of what lives -/
structure ExtI (w : World) (B : Blk) (N : Nat) (D : List Int) (ws : List Nat) (E : List (Ex × Value)) : Prop where
  row : Row w B.r 107 #[.pointer (some ⟨B.d, 0, none⟩), .pointer (some ⟨B.b, 0, none⟩), .map (some B.v)]
  disk : DiskI w B.d B.g N D
  bits : BitI w B.b B.h N ws
  live : GMap kv3 w B.v E
section
variable {w w' : World} {B : Blk} {N : Nat} {D : List Int} {ws : List Nat} {E : List (Ex × Value)} {F : Nat → Prop}
theorem ExtI.keep (H : ExtI w B N D ws E) (c : Chg F w w') (hF : ∀ k, B.has k → ¬ F k) : ExtI w' B N D ws E :=
  ⟨H.row.keep c (hF _ (.inl rfl)), H.disk.keep c (hF _ (.inr (.inl rfl))) (hF _ (.inr (.inr (.inl rfl)))), H.bits.keep c (hF _ (.inr (.inr (.inr (.inl rfl))))) (hF _ (.inr (.inr (.inr (.inr (.inl rfl)))))), H.live.keep c (hF _ (.inr (.inr (.inr (.inr (.inr rfl))))))⟩
theorem ExtI.lt (H : ExtI w B N D ws E) {k : Nat} (hk : B.has k) : k < w.heap.size := by
  obtain ⟨r, u, hd⟩ := H.disk.row
  rcases hk with rfl | rfl | rfl | rfl | rfl | rfl
  · exact H.row.lt
  · exact hd.lt
  · exact H.disk.brow.lt
  · exact H.bits.row.lt
  · exact H.bits.wrow.lt
  · exact H.live.lt
/-- the blocks are not the same -/
theorem ExtI.ne (H : ExtI w B N D ws E) : (B.r ≠ B.d ∧ B.r ≠ B.g ∧ B.r ≠ B.b ∧ B.r ≠ B.h ∧ B.r ≠ B.v) ∧ (B.d ≠ B.g ∧ B.d ≠ B.b ∧ B.d ≠ B.h ∧ B.d ≠ B.v) ∧ (B.g ≠ B.b ∧ B.g ≠ B.h ∧ B.g ≠ B.v) ∧ (B.b ≠ B.h ∧ B.b ≠ B.v) ∧ B.h ≠ B.v := by
  obtain ⟨r, u, hd⟩ := H.disk.row
  have hr := H.row
  have hg := H.disk.brow
  have hb := H.bits.row
  have hh := H.bits.wrow
  have hv := H.live
  exact ⟨⟨hr.ne hd (by decide), hr.ne hg (by decide), hr.ne hb (by decide), hr.ne hh (by decide), (hv.ne_row hr).symm⟩, ⟨hd.ne hg (by decide), hd.ne hb (by decide), hd.ne hh (by decide), (hv.ne_row hd).symm⟩, ⟨hg.ne hb (by decide), hg.ne hh (by decide), (hv.ne_row hg).symm⟩, ⟨hb.ne hh (by decide), (hv.ne_row hb).symm⟩, (hv.ne_row hh).symm⟩
end

set_option maxHeartbeats 400000 in
theorem Sectors_any (k : Nat) (hk : k ≤ 1000000000) (w : World) : Calls Tryz.prog 55 #[.int .i64 k] w fun e w' => e = .returned (.int .i64 (secN k)) ∧ w = w' := by
  have e1 : ((k : Int) + 64 - 1) / 64 = ((k + 63) / 64 : Nat) := by omega
  by_cases hc : 1 ≤ (k + 63) / 64
  · have e2 : secN k = (k + 63) / 64 := by unfold secN; omega
    rw [e2]
    generalize (k + 63) / 64 = m at *
    clear e2
    go_enter Tryz.func55, Tryz.ntmps55
    go_wp2_with fail
    go_ret
    exact ⟨rfl, rfl⟩
  · obtain rfl : k = 0 := by omega
    show Calls Tryz.prog 55 #[.int .i64 0] w fun e w' => e = .returned (.int .i64 1) ∧ w = w'
    clear e1 hc hk
    go_enter Tryz.func55, Tryz.ntmps55
    go_wp2_with fail
    go_ret
    exact ⟨rfl, rfl⟩

theorem elem_live : Tryz.prog.underlying 105 = some (.map 47 4) := Tryz.underlying105
theorem zero_bool (w : World) : (zeroValue 4).run Tryz.prog w = .ok (.bool false) w := by kernel_rfl

set_option maxRecDepth 100000 in
set_option maxHeartbeats 1000000 in
theorem lives_ok {w : World} {B : Blk} {N : Nat} {D : List Int} {ws : List Nat} {E : List (Ex × Value)} (H : ExtI w B N D ws E) (x : Ex) (hx : gget x E = some (.bool true)) :
    Calls Tryz.prog 65 #[.pointer (some ⟨B.r, 0, none⟩), .agg #[.int .i64 x.1, .int .i64 x.2.1, .int .i64 x.2.2]] w fun e w' => e = .returned (.int .i64 0) ∧ Chg No w w' := by
  obtain ⟨x1, x2, x3⟩ := x
  have hlk := H.live.lookup (P := Tryz.prog) elem_live key3 zero_bool (x1, x2, x3)
  rw [hx] at hlk
  simp only [Option.getD_some] at hlk
  show Calls Tryz.prog 65 #[.pointer (some ⟨B.r, 0, none⟩), kv3 (x1, x2, x3)] w _
  unfold kv3 at hlk ⊢
  dsimp only at hlk ⊢
  obtain ⟨W1, hW1⟩ : ∃ W, w.alloc (.cells #[.int .i64 x1, .int .i64 x2, .int .i64 x3] 47) = W := ⟨_, rfl⟩
  have c1 : Chg No w W1 := by rw [← hW1]; exact (Chg.refl _ _).alloc _
  have rx : Row W1 w.heap.size 47 #[.int .i64 x1, .int .i64 x2, .int .i64 x3] := by rw [← hW1]; exact Row.new w _ _
  have HW := Lib.hid hW1
  have HC := Lib.hid c1
  have hl : ∀ v, Chg No W1 v → (Instr.lookup 105 (.map (some B.v)) (.agg #[.int .i64 x1, .int .i64 x2, .int .i64 x3]) false).run Tryz.prog v = .ok (.bool true) v := fun v hv => by
    have := (H.keep (c1.trans hv) (fun _ _ f => f)).live.lookup (P := Tryz.prog) elem_live key3 zero_bool (x1, x2, x3)
    rw [hx] at this
    exact this
  have f2 : ∀ v, Chg No W1 v → v.cell? ⟨B.r, 2, none⟩ = some (.map (some B.v)) := fun v hv => (H.keep (c1.trans hv) (fun _ _ f => f)).row.cell 2
  have g0 : ∀ v, Chg No W1 v → v.cell? ⟨w.heap.size, 0, none⟩ = some (.int .i64 x1) := fun v hv => (rx.keep hv (fun f => f)).cell 0
  have g1 : ∀ v, Chg No W1 v → v.cell? ⟨w.heap.size, 1, none⟩ = some (.int .i64 x2) := fun v hv => (rx.keep hv (fun f => f)).cell 1
  have g2 : ∀ v, Chg No W1 v → v.cell? ⟨w.heap.size, 2, none⟩ = some (.int .i64 x3) := fun v hv => (rx.keep hv (fun f => f)).cell 2
  clear hlk H hx hW1 c1 rx
  go_enter Tryz.func65, Tryz.ntmps65
  go_wp2_with (first | (rw [HW.out]) | fail)
  refine q_region (C := (Chg No W1)) (by kernel_rfl) (by kernel_rfl) ?_ ?_
  · exact (Chg.refl _ _).drew
  repeat
    refine q_step (fun K hK => ?_)
    go_simp
    first
      | ((with_reducible refine hK _ ?_); clear hK K)
      | (refine (if_neg (by simp [undef])).mpr ?_; (with_reducible refine hK _ ?_); clear hK K)
      | (apply Exists.intro
         with_reducible refine ⟨fun v hv => ?_, hK _ ?_⟩
         · first
             | with_reducible exact rfl
             | with_reducible exact ⟨rfl, rfl⟩
             | (go_simp
                first
                  | done
                  | with_reducible exact rfl
                  | with_reducible exact ⟨rfl, rfl⟩
                  | fail)
         clear hK K)
  refine q_nil ?_
  intro V hV
  go_wp2_with fail
  go_ret
  exact ⟨rfl, HC.out.trans hV⟩

theorem IExt.cells {w : World} {k : Nat} {x y z : Value} {t : TypeId} (h : Row w k t #[x, y, z]) : w.cell? ⟨k, 0, none⟩ = some x ∧ w.cell? ⟨k, 1, none⟩ = some y ∧ w.cell? ⟨k, 2, none⟩ = some z ∧ ∀ i, w.frozen? ⟨k, i, none⟩ = false :=
  ⟨h.cell 0, h.cell 1, h.cell 2, h.frozen⟩

set_option maxRecDepth 100000 in
set_option maxHeartbeats 1000000 in
theorem lay_ok {w : World} {B : Blk} {N : Nat} {D : List Int} {ws : List Nat} {E : List (Ex × Value)} (H : ExtI w B N D ws E) (f n : Nat) (z : Int) (bv : Value) (l : List Int) (S : Nat → Prop) (hb : ByteS w S bv l) (hS : ∀ k, S k → ¬ B.has k) (hn : n = secN l.length) (hl1 : 1 ≤ l.length) (hl2 : l.length ≤ 1000000) (hf : f + n ≤ N) :
    Calls Tryz.prog 58 #[.pointer (some ⟨B.r, 0, none⟩), .agg #[.int .i64 f, .int .i64 n, .int .i64 z], bv] w fun e w' => e = .returned (.agg #[.int .i64 f, .int .i64 n, .int .i64 l.length]) ∧
      ExtI w' B N (layD D f l n) ws (gset ((f : Int), (n : Int), (l.length : Int)) (.bool true) E) ∧ Chg (fun k => k = B.d ∨ k = B.g ∨ k = B.v) w w' := by
  obtain ⟨A, c, rfl, hcap, hcapm, -⟩ := hb.form
  obtain ⟨sb, so, rfl⟩ := hb.some hl1
  have hmax := H.disk.max
  obtain ⟨W1, hW1⟩ : ∃ W, (w.alloc (.cells #[.int .i64 f, .int .i64 n, .int .i64 z] 47)).alloc (.cells #[.int .i64 0, .int .i64 0, .int .i64 0] 47) = W := ⟨_, rfl⟩
  have c1 : Chg No w W1 := by rw [← hW1]; exact ((Chg.refl _ _).alloc _).alloc _
  have hs1 : W1.heap.size = w.heap.size + 2 := by rw [← hW1]; simp
  have rx : Row W1 w.heap.size 47 #[.int .i64 f, .int .i64 n, .int .i64 z] := by rw [← hW1]; exact (Row.new w _ _).alloc _
  have ry : Row W1 (w.heap.size + 1) 47 #[.int .i64 0, .int .i64 0, .int .i64 0] := by
    rw [← hW1]
    have := Row.new (w.alloc (.cells #[.int .i64 f, .int .i64 n, .int .i64 z] 47)) 47 #[.int .i64 0, .int .i64 0, .int .i64 0]
    simpa using this
  have HW := Lib.hid hW1
  have H1 := Lib.hid (And.intro (H.keep c1 (fun _ _ f => f)) (And.intro c1 (And.intro rx (And.intro ry (hb.keep c1 (fun _ _ f => f))))))
  have hlt := fun k (hk : B.has k) => H.lt hk
  have HLT := Lib.hid hlt
  have HS := Lib.hid hS
  have HNE := Lib.hid H.ne
  obtain ⟨y0, y1, y2, yf⟩ := IExt.cells rx
  generalize hm : l.length = m at *
  have HM := Lib.hid hm
  have hcap2 : c ≤ 9223372036854775807 := by unfold maxLen at hcapm; simp at hcapm; omega
  have hnm : n * 64 ≤ m + 64 ∧ m ≤ n * 64 ∧ 1 ≤ n ∧ (n - 1) * 64 < m := by rw [hn]; unfold secN; omega
  clear hW1 c1 H hb hS rx ry hlt hm hcapm hn yf
  go_enter Tryz.func58, Tryz.ntmps58
  go_wp2_with (first | (rw [HW.out]) | fail)
  go_loopg [11] n (fun j v11 wr => ∃ i : Nat, v11 = .int .i64 (i : Int) ∧ i ≤ n ∧ n - i ≤ j ∧ DiskI wr B.d B.g N (layD D f l i) ∧ Chg (fun k => k = B.d ∨ k = B.g) W1 wr)
  case atStart => exact ⟨0, rfl, by omega, by omega, H1.out.1.disk, Chg.refl _ _⟩
  case round =>
    clear y0 y1 y2
    obtain ⟨i, rfl, i1, i2, hd, cw⟩ := hrel
    by_cases hi : i < n
    · have e1 : min ((i : Int) * 64) (m : Int) = (i : Int) * 64 := by omega
      obtain ⟨e, he, he1, he2, he3⟩ : ∃ e : Nat, e = min (i * 64 + 64) m ∧ i * 64 < e ∧ e ≤ i * 64 + 64 ∧ e ≤ m := ⟨_, rfl, by omega, by omega, by omega⟩
      have e2 : (if (m : Int) < (i : Int) * 64 + 64 then (m : Int) else (i : Int) * 64 + 64) = (e : Int) := by split <;> omega
      have e3 : IntKind.i64.wrap ((i : Int) * 64 + 64) = (i : Int) * 64 + 64 := IntWalk.i64_in _ (by omega)
      have e4 : IntKind.i64.wrap ((f : Int) + (i : Int)) = (f : Int) + (i : Int) := IntWalk.i64_in _ (by omega)
      have t2 : 0 ≤ (i : Int) * 64 ∧ (i : Int) * 64 ≤ (e : Int) := by omega
      have t3 : 0 ≤ (e : Int) ∧ (e : Int) ≤ (c : Int) := by omega
      have t4 : (e : Int) ≤ (c : Int) := by omega
      have t5 : (i : Int) * 64 ≤ (e : Int) := by omega
      have t1 : decide ((i : Int) < (n : Int)) = true := decide_eq_true (by omega)
      have fr : ∀ v, Chg No wr v → v.cell? ⟨B.r, 0, none⟩ = some (.pointer (some ⟨B.d, 0, none⟩)) := fun v hv => ((H1.out.1.row.keep cw (fun h => h.elim HNE.out.1.1 HNE.out.1.2.1)).keep hv (fun f => f)).cell 0
      have hxd : ∀ v, Chg No wr v → Row v w.heap.size 47 #[.int .i64 f, .int .i64 n, .int .i64 z] := fun v hv => (H1.out.2.2.1.keep cw (fun h => by
        have h1 := HLT.out B.d (.inr (.inl rfl))
        have h2 := HLT.out B.g (.inr (.inr (.inl rfl)))
        omega)).keep hv (fun f => f)
      have fx : ∀ v, Chg No wr v → v.cell? ⟨w.heap.size, 0, none⟩ = some (.int .i64 f) := fun v hv => (hxd v hv).cell 0
      have HD := Lib.hid (And.intro hd cw)
      have hcc : ¬ c = i * 64 := by omega
      clear hxd hd cw he
      go_wp2_with fail
      refine rem_start (by kernel_rfl) (by kernel_rfl) ?_
      refine rem_quiet 16 (C := (Chg No wr)) (by kernel_rfl) (by simp only [List.toList_toArray, List.drop_succ_cons, List.drop_zero, List.take_succ_cons, List.take_zero, Nat.reduceSub, Nat.reduceAdd]; rfl) ?_ ?_
      · exact (Chg.refl _ _).drew
      repeat
        refine q_step (fun K hK => ?_)
        go_simp
        first
          | ((with_reducible refine hK _ ?_); clear hK K)
          | (refine (if_neg (by simp [undef])).mpr ?_; (with_reducible refine hK _ ?_); clear hK K)
          | (apply Exists.intro
             with_reducible refine ⟨fun v hv => ?_, hK _ ?_⟩
             · first
                 | with_reducible exact rfl
                 | with_reducible exact ⟨rfl, rfl⟩
                 | (go_simp
                    first
                      | done
                      | with_reducible exact rfl
                      | with_reducible exact ⟨rfl, rfl⟩
                      | fail)
             clear hK K)
      refine q_nil ?_
      intro V hV
      have hb0 : ByteS V S (.slice (some ⟨sb, so, none⟩) m c) l := H1.out.2.2.2.2.keep (HD.out.2.trans hV.no) (fun k hk h => HS.out k hk (h.elim (fun h => .inr (.inl h)) (fun h => .inr (.inr (.inl h)))))
      have hb1 := hb0.drop (i * 64) (by rw [HM.out]; omega)
      have hb2 := hb1.take (e - i * 64) (by rw [List.length_drop, HM.out]; omega)
      have hl3 : ((l.drop (i * 64)).take (e - i * 64)).length = e - i * 64 := by rw [List.length_take, List.length_drop, HM.out]; omega
      have hq := diskWrite_ok (HD.out.1.keep hV (fun f => f) (fun f => f)) (f + i) (by omega) _ _ S hb2 (by rw [hl3]; omega) (by rw [hl3]; omega)
      rw [show ((f + i : Nat) : Int) = (f : Int) + (i : Int) by omega] at hq
      have HQ := Lib.hid hq
      clear hq
      clear hb0 hb1 hb2 hl3
      refine rem_one (by kernel_rfl) (by kernel_rfl) rfl (by kernel_rfl) (fun K hK => ?_)
      go_wp2_with (first
        | (go_at_call 90
           (with_reducible refine HQ.out.mono ?_)
           rintro e1 w3 ⟨rfl, hd3, c3⟩
           have H3 := Lib.hid (And.intro hd3 ((HD.out.2.trans hV.no).trans c3))
           clear hd3 c3)
        | fail)
      refine rem_end (by kernel_rfl) ?_
      go_wp2_with fail
      go_roundg (n - (i + 1))
      case measure => omega
      case rel =>
        refine ⟨i + 1, by go_num, by omega, by omega, ?_, H3.out.2⟩
        have e9 : (l.drop (i * 64)).take (e - i * 64) = (l.drop (i * 64)).take 64 := by
          rcases Nat.lt_or_ge m (i * 64 + 64) with h | h
          · rw [List.take_of_length_le (by rw [List.length_drop, HM.out]; omega), List.take_of_length_le (by rw [List.length_drop, HM.out]; omega)]
          · rw [show e - i * 64 = 64 by omega]
        have := H3.out.1
        rw [e9] at this
        exact this
    · obtain rfl : i = n := by omega
      have t1 : decide ((i : Int) < (i : Int)) = false := decide_eq_false (by omega)
      have hbx : ∀ k, w.heap.size ≤ k → ¬ (k = B.d ∨ k = B.g) := fun k hk h => by
        have h1 := HLT.out B.d (.inr (.inl rfl))
        have h2 := HLT.out B.g (.inr (.inr (.inl rfl)))
        omega
      have rxw := H1.out.2.2.1.keep cw (hbx _ (Nat.le_refl _))
      have ryw := H1.out.2.2.2.1.keep cw (hbx _ (Nat.le_succ _))
      have hv := H1.out.1.live.keep cw (fun h => h.elim (fun h => HNE.out.2.1.2.2.2 h.symm) (fun h => HNE.out.2.2.1.2.2 h.symm))
      have hr := H1.out.1.row.keep cw (fun h => h.elim HNE.out.1.1 HNE.out.1.2.1)
      have hB := H1.out.1.bits.keep cw (fun h => h.elim (fun h => HNE.out.2.1.2.1 h.symm) (fun h => HNE.out.2.2.1.1 h.symm)) (fun h => h.elim (fun h => HNE.out.2.1.2.2.1 h.symm) (fun h => HNE.out.2.2.1.2.1 h.symm))
      obtain ⟨V1, hV1⟩ : ∃ V, wr.setCell ⟨w.heap.size, 2, none⟩ (.int .i64 (m : Int)) = V := ⟨_, rfl⟩
      have cV : Chg (fun k => k = w.heap.size) wr V1 := by rw [← hV1]; exact Chg.setCell (F := fun k => k = w.heap.size) (Chg.refl _ _) (.inl rfl) _
      have hnb : ∀ k, B.has k → ¬ k = w.heap.size := fun k hk => by have := HLT.out k hk; omega
      have rxV : Row V1 w.heap.size 47 #[.int .i64 f, .int .i64 i, .int .i64 m] := by rw [← hV1]; exact rxw.set 2 _
      have ryV := ryw.keep cV (by omega)
      have hvV := hv.keep cV (hnb _ (.inr (.inr (.inr (.inr (.inr rfl))))))
      have hrV := hr.keep cV (hnb _ (.inl rfl))
      have hBV := hB.keep cV (hnb _ (.inr (.inr (.inr (.inl rfl))))) (hnb _ (.inr (.inr (.inr (.inr (.inl rfl))))))
      have hdV := hd.keep cV (hnb _ (.inr (.inl rfl))) (hnb _ (.inr (.inr (.inl rfl))))
      obtain ⟨o, ho⟩ := hvV.updates (P := Tryz.prog) elem_live key3 ((f : Int), (i : Int), (m : Int)) (.bool true)
      obtain ⟨hrun, hmap⟩ := ho V1.drew rfl
      simp only [kv3] at hrun
      have c3 : Chg (fun k => k = B.v) V1 (setBlock V1.drew B.v o) := Chg.setBlock (F := fun k => k = B.v) (Chg.refl _ _).drew (.inl rfl) _
      generalize setBlock V1.drew B.v o = W3 at *
      have hne := HNE.out
      have hvs := HLT.out B.v (.inr (.inr (.inr (.inr (.inr rfl)))))
      have rx3 := rxV.keep c3 (by omega)
      have ry3 := ryV.keep c3 (by omega)
      have f2 : V1.cell? ⟨B.r, 2, none⟩ = some (.map (some B.v)) := hrV.cell 2
      obtain ⟨x0, x1, x2, -⟩ := IExt.cells rxV
      obtain ⟨x3, x4, x5, -⟩ := IExt.cells rx3
      obtain ⟨y3, y4, y5, yf⟩ := IExt.cells ry3
      have g2 := (IExt.cells rxw).2.2.1
      have g3 := (IExt.cells rxw).2.2.2
      have HF := Lib.hid (show ExtI W3 B N (layD D f l i) ws (gset ((f : Int), (i : Int), (m : Int)) (.bool true) E) ∧ Chg (fun k => k = B.d ∨ k = B.g ∨ k = B.v) w W3 from
        ⟨⟨hrV.keep c3 hne.1.2.2.2.2, hdV.keep c3 hne.2.1.2.2.2 hne.2.2.1.2.2, hBV.keep c3 hne.2.2.2.1.2 hne.2.2.2.2, hmap⟩,
         (((H1.out.2.1.no.trans (cw.mono fun k _ h => h.elim .inl (fun h => .inr (.inl h)))).then cV (fun k hk h => by omega)).trans (c3.mono fun k _ h => .inr (.inr h)))⟩)
      have HV1 := Lib.hid hV1
      clear cV hnb rxV ryV hvV hrV hBV hdV hmap c3 hv hr hB rxw ryw hd cw hbx rx3 ry3 hV1 hne ho
      go_wp2_with (first | (rw [HV1.out]) | fail)
      go_region
      go_wp2_with fail
      have cF : ∀ U, Chg (fun k => k = w.heap.size + 1) W3 U → ExtI U B N (layD D f l i) ws (gset ((f : Int), (i : Int), (m : Int)) (.bool true) E) ∧ Chg (fun k => k = B.d ∨ k = B.g ∨ k = B.v) w U := fun U hU =>
        ⟨HF.out.1.keep hU (fun k hk => by have := HLT.out k hk; omega), HF.out.2.then hU (fun k hk h => by omega)⟩
      refine bodyPost_ret (v := .agg #[.int .i64 f, .int .i64 i, .int .i64 m]) (by simp [results, Tryz.results58, go_sem, y3, y4, y5]) rfl ⟨rfl, cF _ ?_⟩
      repeat (with_reducible first | exact Chg.refl _ _ | refine Chg.setCell ?_ (.inl (by simp)) _)



/-- what the rows take -/
def tX (X : List Xt) (i : Nat) : Bool := X.any fun x => decide (x.f ≤ i) && decide (i < x.f + x.n)
/-- the first place, of N sectors, where n are free -/
def placeX (X : List Xt) (N n : Nat) : Option Nat := firstB (tX X) N n
theorem ExtV.t_eq {N : Nat} {D : List Int} {t : Nat → Bool} {E : List (Ex × Value)} {X : List Xt} (h : ExtV N D t E X) : t = tX X := by
  funext i
  rw [Bool.eq_iff_iff, h.cov.2 i]
  unfold tX
  simp only [List.any_eq_true, Bool.and_eq_true, decide_eq_true_eq, List.mem_map]
  constructor
  · rintro ⟨r, ⟨y, hy, rfl⟩, h⟩
    exact ⟨y, hy, h⟩
  · rintro ⟨y, hy, h⟩
    exact ⟨_, ⟨y, hy, rfl⟩, h⟩
/-- the space B has N sectors, on which X stands -/
def ExtS (w : World) (B : Blk) (N : Nat) (X : List Xt) : Prop := ∃ D ws E, ExtI w B N D ws E ∧ ExtV N D (bitT ws) E X
section
variable {w w' : World} {B : Blk} {N : Nat} {X Y : List Xt} {F : Nat → Prop}
theorem ExtS.keep (H : ExtS w B N X) (c : Chg F w w') (hF : ∀ k, B.has k → ¬ F k) : ExtS w' B N X := by
  obtain ⟨D, ws, E, h1, h2⟩ := H
  exact ⟨D, ws, E, h1.keep c hF, h2⟩
theorem ExtS.lt (H : ExtS w B N X) {k : Nat} (hk : B.has k) : k < w.heap.size := by
  obtain ⟨D, ws, E, h1, h2⟩ := H
  exact h1.lt hk
theorem ExtS.perm (H : ExtS w B N X) (p : X.Perm Y) : ExtS w B N Y := by
  obtain ⟨D, ws, E, h1, h2⟩ := H
  exact ⟨D, ws, E, h1, h2.perm p⟩
end

set_option maxRecDepth 100000 in
set_option maxHeartbeats 1000000 in
theorem Put_none {w : World} {B : Blk} {N : Nat} {X : List Xt} (H : ExtS w B N X) (bv : Value) (l : List Int) (S : Nat → Prop) (hb : ByteS w S bv l) (hl2 : l.length ≤ 1000000) (hp : placeX X N (secN l.length) = none) :
    Calls Tryz.prog 27 #[.pointer (some ⟨B.r, 0, none⟩), bv] w fun e w' => e = .returned (.tuple #[.agg #[.int .i64 0, .int .i64 0, .int .i64 0], .int .i64 3]) ∧ Chg No w w' := by
  obtain ⟨D, ws, E, H, V⟩ := H
  obtain ⟨A, c, rfl, -⟩ := hb.form
  have hp2 : firstB (bitT ws) N (secN l.length) = none := by rw [V.t_eq]; exact hp
  generalize l.length = m at *
  obtain ⟨W1, hW1⟩ : ∃ W, w.alloc (.cells #[.int .i64 0, .int .i64 0, .int .i64 0] 47) = W := ⟨_, rfl⟩
  have c1 : Chg No w W1 := by rw [← hW1]; exact (Chg.refl _ _).alloc _
  have ry : Row W1 w.heap.size 47 #[.int .i64 0, .int .i64 0, .int .i64 0] := by rw [← hW1]; exact Row.new w _ _
  have H1 := H.keep c1 (fun _ _ f => f)
  have f1 : W1.cell? ⟨B.r, 1, none⟩ = some (.pointer (some ⟨B.b, 0, none⟩)) := H1.row.cell 1
  have hq := First_any H1.bits (secN m) (secN_pos _) (by unfold secN; omega)
  rw [hp2] at hq
  obtain ⟨y0, y1, y2, yf⟩ := IExt.cells ry
  have HQ := Lib.hid hq
  have HY := Lib.hid c1
  have HW := Lib.hid hW1
  clear hb V H H1 hq hp hp2 c1 ry hW1
  go_enter Tryz.func27, Tryz.ntmps27
  go_wp2_with (first
    | (rw [HW.out])
    | (go_at_call 55; refine (Sectors_any m (by omega) _).mono ?_; rintro e w' ⟨rfl, rfl⟩)
    | (go_at_call 56; refine HQ.out.mono ?_; rintro e w' ⟨rfl, rfl⟩)
    | fail)
  have cF : ∀ U, Chg (fun k => k = w.heap.size) W1 U → Chg No w U := fun U hU => HY.out.then hU (fun k hk h => by omega)
  refine bodyPost_ret (v := .tuple #[.agg #[.int .i64 0, .int .i64 0, .int .i64 0], .int .i64 3]) (by simp [results, Tryz.results27, go_sem, y0, y1, y2]) rfl ⟨rfl, cF _ ?_⟩
  repeat (with_reducible first | exact Chg.refl _ _ | refine Chg.setCell ?_ (.inl (by simp)) _)

/-- what Put gives -/
def Stood (w : World) (B : Blk) (N : Nat) (X : List Xt) (x : Xt) (v : Value) (w' : World) : Prop := v = .tuple #[.agg #[.int .i64 x.f, .int .i64 x.n, .int .i64 x.b.length], .int .i64 0] ∧ ExtS w' B N (x :: X) ∧ Chg B.has w w'
theorem has_dgv {B : Blk} {k : Nat} (h : k = B.d ∨ k = B.g ∨ k = B.v) : B.has k := by
  rcases h with h | h | h
  · exact .inr (.inl h)
  · exact .inr (.inr (.inl h))
  · exact .inr (.inr (.inr (.inr (.inr h))))
theorem flips_eq {w : World} {b h N : Nat} {ws : List Nat} (H : BitI w b h N ws) {f n : Nat} (hf : f + n ≤ N) (j : Nat) : bitT (flips ws f n) j = if f ≤ j ∧ j < f + n then !bitT ws j else bitT ws j :=
  flips_bit n (by have := H.words; omega) j
/-- the rows behind a lay -/
theorem ExtI.stood {w w1 : World} {B : Blk} {N : Nat} {D : List Int} {ws ws' : List Nat} {E : List (Ex × Value)} {X : List Xt} (V : ExtV N D (bitT ws) E X) (f : Nat) (l : List Int) (hl : ∀ z ∈ l, 0 ≤ z ∧ z ≤ 255) (hf : f + secN l.length ≤ N) (hfree : freeB (bitT ws) f (secN l.length) = true)
    (hD : D.length = N * 64) (ht : ∀ j, bitT ws' j = if f ≤ j ∧ j < f + secN l.length then !bitT ws j else bitT ws j)
    (H : ExtI w1 B N (layD D f l (secN l.length)) ws' (gset ((f : Int), (secN l.length : Int), (l.length : Int)) (.bool true) E)) : ExtS w1 B N (⟨f, l⟩ :: X) := by
  have hl2 : l.length ≤ secN l.length * 64 := by unfold secN; omega
  exact ⟨_, _, _, H, V.put (y := ⟨f, l⟩) (fun i hi => freeB_iff.1 hfree i hi) hf ht (fun j hj => layD_in hD _ hf j (by dsimp only at hj; omega) hj) (fun j hj => layD_out hD _ hf j hj) hl⟩

set_option maxRecDepth 100000 in
set_option maxHeartbeats 1000000 in
theorem Put_some {w : World} {B : Blk} {N : Nat} {X : List Xt} (H : ExtS w B N X) (bv : Value) (l : List Int) (S : Nat → Prop) (hb : ByteS w S bv l) (hS : ∀ k, S k → ¬ B.has k) (hl1 : 1 ≤ l.length) (hl2 : l.length ≤ 1000000) {f : Nat} (hp : placeX X N (secN l.length) = some f) :
    Calls Tryz.prog 27 #[.pointer (some ⟨B.r, 0, none⟩), bv] w (Ret (Stood w B N X ⟨f, l⟩)) := by
  obtain ⟨D, ws, E, H, V⟩ := H
  obtain ⟨A, c, rfl, -⟩ := hb.form
  have hp2 : firstB (bitT ws) N (secN l.length) = some f := by rw [V.t_eq]; exact hp
  obtain ⟨hf, hfree, -⟩ := firstB_some hp2
  have HV := Lib.hid (And.intro V (And.intro hfree hb.2))
  obtain ⟨W1, hW1⟩ : ∃ W, w.alloc (.cells #[.int .i64 0, .int .i64 0, .int .i64 0] 47) = W := ⟨_, rfl⟩
  have c1 : Chg No w W1 := by rw [← hW1]; exact (Chg.refl _ _).alloc _
  have ry : Row W1 w.heap.size 47 #[.int .i64 0, .int .i64 0, .int .i64 0] := by rw [← hW1]; exact Row.new w _ _
  have H1 := H.keep c1 (fun _ _ f => f)
  have f1 : W1.cell? ⟨B.r, 1, none⟩ = some (.pointer (some ⟨B.b, 0, none⟩)) := H1.row.cell 1
  have hq := First_any H1.bits (secN l.length) (secN_pos _) (by unfold secN; omega)
  rw [hp2] at hq
  have HT := Lib.hid (Take_ok H1.bits f (secN l.length) (secN_pos _) hf (freeB_iff.1 hfree))
  have HLT := Lib.hid (fun k (hk : B.has k) => H.lt hk)
  have HNE := Lib.hid H.ne
  have HS := Lib.hid hS
  have HI := Lib.hid (And.intro H1 (And.intro c1 (And.intro ry (hb.keep c1 (fun _ _ f => f)))))
  have HQ := Lib.hid hq
  have HW := Lib.hid hW1
  generalize hm : l.length = m at *
  have HM := Lib.hid hm
  generalize hsn : secN m = n at *
  have HN := Lib.hid hsn
  clear hb V H H1 hq hp hp2 c1 ry hW1 hfree hS hm hsn
  go_enter Tryz.func27, Tryz.ntmps27
  go_wp2_with (first
    | (rw [HW.out])
    | (go_at_call 55; refine (Sectors_any m (by omega) _).mono ?_; rw [HN.out]; rintro e w' ⟨rfl, rfl⟩)
    | (go_at_call 56; refine HQ.out.mono ?_; rintro e w' ⟨rfl, rfl⟩)
    | (go_at_call 57
       refine HT.out.mono ?_
       rintro e w2 ⟨rfl, hb2, c2⟩
       have h2 : ExtI w2 B N D (flips ws f n) E := ⟨HI.out.1.row.keep c2 HNE.out.1.2.2.2.1, HI.out.1.disk.keep c2 HNE.out.2.1.2.2.1 HNE.out.2.2.1.2.1, hb2, HI.out.1.live.keep c2 HNE.out.2.2.2.2.symm⟩
       have hl := lay_ok h2 f n 0 _ l S (HI.out.2.2.2.keep c2 (fun k hk h => HS.out k hk (.inr (.inr (.inr (.inr (.inl h))))))) HS.out (by rw [HM.out, HN.out]) (by rw [HM.out]; exact hl1) (by rw [HM.out]; exact hl2) hf
       rw [HM.out] at hl
       have HL := Lib.hid hl
       have H2 := Lib.hid (And.intro h2 c2)
       clear hb2 c2 h2 hl)
    | (go_at_call 58
       (with_reducible refine HL.out.mono ?_)
       rintro e w3 ⟨rfl, h3, c3⟩
       have y3 := HI.out.2.2.1.keep H2.out.2 (fun e => by have := HLT.out B.h (.inr (.inr (.inr (.inr (.inl rfl))))); omega)
       have y4 := IExt.cells (y3.keep c3 (fun e => by have := HLT.out _ (has_dgv e); omega))
       have H3 := Lib.hid (And.intro h3 (Chg.trans (HI.out.2.1.no.trans (H2.out.2.mono fun k _ h => .inr (.inr (.inr (.inr (.inl h)))))) (c3.mono fun k _ h => has_dgv h)))
       clear h3 c3 y3)
    | fail)
  have en : Xt.n ⟨f, l⟩ = n := by show secN l.length = n; rw [HM.out, HN.out]
  have cF : ∀ U, Chg (fun k => k = w.heap.size) w3 U → ExtS U B N (⟨f, l⟩ :: X) ∧ Chg B.has w U := fun U hU => by
    have hb2 : BitI W1 B.b B.h N ws := HI.out.1.bits
    have hx := H3.out.1.keep hU (fun k hk e => by have := HLT.out k hk; omega)
    refine ⟨ExtI.stood (w := w) HV.out.1 f l HV.out.2.2 (by rw [HM.out, HN.out]; exact hf) (by rw [HM.out, HN.out]; exact HV.out.2.1) HI.out.1.disk.len (ws' := flips ws f n) (fun j => by rw [HM.out, HN.out]; exact flips_eq hb2 hf j) (by rw [HM.out, HN.out]; exact hx), H3.out.2.then hU (fun k hk e => by omega)⟩
  refine bodyPost_ret (v := .tuple #[.agg #[.int .i64 f, .int .i64 n, .int .i64 m], .int .i64 0]) (by simp [results, Tryz.results27, go_sem, y4]) rfl (Ret.mk ⟨by rw [en, HM.out], cF _ ?_⟩)
  repeat (with_reducible first | exact Chg.refl _ _ | refine Chg.setCell ?_ (.inl (by simp)) _)

set_option maxRecDepth 100000 in
set_option maxHeartbeats 1000000 in
theorem wipe_ok {w : World} {B : Blk} {N : Nat} {D : List Int} {ws : List Nat} {E : List (Ex × Value)} (H : ExtI w B N D ws E) (f n : Nat) (z : Int) (hf : f + n ≤ N) :
    Calls Tryz.prog 71 #[.pointer (some ⟨B.r, 0, none⟩), .agg #[.int .i64 f, .int .i64 n, .int .i64 z]] w fun e w' => e = .returned (.tuple #[]) ∧
      ExtI w' B N (wipeD D f n) ws (gdel ((f : Int), (n : Int), z) E) ∧ Chg (fun k => k = B.g ∨ k = B.v) w w' := by
  have hmax := H.disk.max
  obtain ⟨W1, hW1⟩ : ∃ W, w.alloc (.cells #[.int .i64 f, .int .i64 n, .int .i64 z] 47) = W := ⟨_, rfl⟩
  have c1 : Chg No w W1 := by rw [← hW1]; exact (Chg.refl _ _).alloc _
  have hs1 : W1.heap.size = w.heap.size + 1 := by rw [← hW1]; simp
  have rx : Row W1 w.heap.size 47 #[.int .i64 f, .int .i64 n, .int .i64 z] := by rw [← hW1]; exact Row.new w _ _
  have HW := Lib.hid hW1
  have H1 := Lib.hid (And.intro (H.keep c1 (fun _ _ f => f)) (And.intro c1 rx))
  have HLT := Lib.hid (fun k (hk : B.has k) => H.lt hk)
  have HNE := Lib.hid H.ne
  obtain ⟨y0, y1, y2, yf⟩ := IExt.cells rx
  clear hW1 c1 H rx yf
  go_enter Tryz.func71, Tryz.ntmps71
  go_wp2_with (first | (rw [HW.out]) | fail)
  go_loopg [7] n (fun j v7 wr => ∃ i : Nat, v7 = .int .i64 (i : Int) ∧ i ≤ n ∧ n - i ≤ j ∧ DiskI wr B.d B.g N (wipeD D f i) ∧ Chg (fun k => k = B.g) W1 wr)
  case atStart => exact ⟨0, rfl, by omega, by omega, H1.out.1.disk, Chg.refl _ _⟩
  case round =>
    clear y0 y1 y2
    obtain ⟨i, rfl, i1, i2, hd, cw⟩ := hrel
    have hbx : ∀ k, w.heap.size ≤ k → ¬ (k = B.g) := fun k hk h => by
      have h2 := HLT.out B.g (.inr (.inr (.inl rfl)))
      omega
    by_cases hi : i < n
    · have e4 : IntKind.i64.wrap ((f : Int) + (i : Int)) = (f : Int) + (i : Int) := IntWalk.i64_in _ (by omega)
      have t1 : decide ((i : Int) < (n : Int)) = true := decide_eq_true (by omega)
      have fr : ∀ v, Chg (fun k => k = B.g) wr v → v.cell? ⟨B.r, 0, none⟩ = some (.pointer (some ⟨B.d, 0, none⟩)) := fun v hv => ((H1.out.1.row.keep cw HNE.out.1.2.1).keep hv HNE.out.1.2.1).cell 0
      have hxd : ∀ v, Chg (fun k => k = B.g) wr v → Row v w.heap.size 47 #[.int .i64 f, .int .i64 n, .int .i64 z] := fun v hv => (H1.out.2.2.keep cw (hbx _ (Nat.le_refl _))).keep hv (hbx _ (Nat.le_refl _))
      have fx : ∀ v, Chg (fun k => k = B.g) wr v → v.cell? ⟨w.heap.size, 0, none⟩ = some (.int .i64 f) := fun v hv => (hxd v hv).cell 0
      have HD := Lib.hid (And.intro hd cw)
      clear hxd hd cw
      go_wp2_with fail
      go_region_held3 (fun w' => Chg (fun k => k = B.g) wr w') (repeat (with_reducible first | assumption | exact Chg.refl _ _ | refine Chg.drew ?_ | refine Chg.alloc ?_ _))
        (first
        | (go_at_call 93
           refine (Calls.heldC (F := No) (W := wr) (by (repeat (with_reducible first | assumption | exact Chg.refl _ _ | refine Chg.drew ?_ | refine Chg.alloc ?_ _))) (diskClear_ok (HD.out.1.keep (F := No) (by (repeat (with_reducible first | assumption | exact Chg.refl _ _ | refine Chg.drew ?_ | refine Chg.alloc ?_ _))) (fun f => f) (fun f => f)) (f + i) (by omega) ((f : Int) + (i : Int)) (by omega) _ (Row.drew2 (Row.new _ _ _)))).mono ?_
           rintro e1 w3 ⟨⟨rfl, hd3, c3⟩, hh3⟩
           have H3 := Lib.hid (And.intro hd3 ((HD.out.2.trans hh3.no).trans c3))
           have c9 : Chg (fun k => k = B.g) wr w3 := hh3.no.trans c3
           clear hd3 c3 hh3)
        | fail)
      all_goals
        go_wp2_with fail
        go_roundg (n - (i + 1))
        case measure => omega
        case rel => exact ⟨i + 1, by go_num, by omega, by omega, H3.out.1, H3.out.2⟩
    · obtain rfl : i = n := by omega
      have t1 : decide ((i : Int) < (i : Int)) = false := decide_eq_false (by omega)
      have rxw := H1.out.2.2.keep cw (hbx _ (Nat.le_refl _))
      have hv := H1.out.1.live.keep cw (fun h => HNE.out.2.2.1.2.2 h.symm)
      have hr := H1.out.1.row.keep cw HNE.out.1.2.1
      have hB := H1.out.1.bits.keep cw (fun h => HNE.out.2.2.1.1 h.symm) (fun h => HNE.out.2.2.1.2.1 h.symm)
      have fr : ∀ v, Chg No wr v → v.cell? ⟨B.r, 2, none⟩ = some (.map (some B.v)) := fun v hv => (hr.keep hv (fun f => f)).cell 2
      have fx : ∀ v, Chg No wr v → v.cell? ⟨w.heap.size, 0, none⟩ = some (.int .i64 f) := fun v hv => (rxw.keep hv (fun f => f)).cell 0
      have fx1 : ∀ v, Chg No wr v → v.cell? ⟨w.heap.size, 1, none⟩ = some (.int .i64 i) := fun v hv => (rxw.keep hv (fun f => f)).cell 1
      have fx2 : ∀ v, Chg No wr v → v.cell? ⟨w.heap.size, 2, none⟩ = some (.int .i64 z) := fun v hv => (rxw.keep hv (fun f => f)).cell 2
      have HR := Lib.hid (And.intro (And.intro hv (And.intro hr (And.intro hB hd))) cw)
      clear hv hr hB hd cw rxw
      go_wp2_with fail
      refine rem_start (by kernel_rfl) (by kernel_rfl) ?_
      refine rem_quiet 5 (C := (Chg No wr)) (by kernel_rfl) (by simp only [List.toList_toArray, List.drop_succ_cons, List.drop_zero, List.take_succ_cons, List.take_zero, Nat.reduceSub, Nat.reduceAdd]; rfl) ?_ ?_
      · exact (Chg.refl _ _).drew
      repeat
        refine q_step (fun K hK => ?_)
        go_simp
        first
          | ((with_reducible refine hK _ ?_); clear hK K)
          | (refine (if_neg (by simp [undef])).mpr ?_; (with_reducible refine hK _ ?_); clear hK K)
          | (apply Exists.intro
             with_reducible refine ⟨fun v hv => ?_, hK _ ?_⟩
             · first
                 | with_reducible exact rfl
                 | with_reducible exact ⟨rfl, rfl⟩
                 | (go_simp
                    first
                      | done
                      | with_reducible exact rfl
                      | with_reducible exact ⟨rfl, rfl⟩
                      | fail)
             clear hK K)
      refine q_nil ?_
      intro V hV
      obtain ⟨o, hrun, hmap⟩ := (HR.out.1.1.keep hV (fun f => f)).delete (P := Tryz.prog) elem_live key3 ((f : Int), (i : Int), z) 0 47
      simp only [kv3] at hrun
      have c3 : Chg (fun k => k = B.v) V (setBlock V B.v o) := Chg.setBlock (F := fun k => k = B.v) (Chg.refl _ _) (.inl rfl) _
      generalize setBlock V B.v o = W3 at *
      refine rem_one (by kernel_rfl) (by kernel_rfl) rfl (by kernel_rfl) (fun K hK => ?_)
      go_wp2_with fail
      refine rem_end (by kernel_rfl) ?_
      go_wp2_with fail
      go_end0
      have hne := HNE.out
      obtain ⟨⟨-, hr, hB, hd⟩, cw⟩ := HR.out
      exact ⟨rfl, ⟨(hr.keep hV (fun f => f)).keep c3 hne.1.2.2.2.2, (hd.keep hV (fun f => f) (fun f => f)).keep c3 hne.2.1.2.2.2 hne.2.2.1.2.2, (hB.keep hV (fun f => f) (fun f => f)).keep c3 hne.2.2.2.1.2 hne.2.2.2.2, hmap⟩,
        ((H1.out.2.1.no.trans (cw.mono fun k _ h => .inl h)).trans (hV.no)).trans (c3.mono fun k _ h => .inr h)⟩

end Go.Proofs.YtdpmmafkomchaaaGreat
