/- A disk: disk.Disk. -/
import Derived.Test.YtdpmmafkomchaaaSecE
import Derived.Test.YtdpmmafkomchaaaImgB
import Derived.Lib.SliceRun
import Derived.Laws.CopyRow
namespace Go.Proofs.Ytdpmmafkomchaaa
set_option linter.unusedVariables false
set_option linter.unusedSimpArgs false
open Go.RowKit

theorem splice_len {α : Type} (D m : List α) (o : Nat) (h : o + m.length ≤ D.length) : (Go.splice D o m).length = D.length := by
  simp [Go.splice]; omega
theorem splice_at {α : Type} (D m : List α) (o : Nat) (h : o + m.length ≤ D.length) (j : Nat) : (Go.splice D o m)[j]? = if o ≤ j ∧ j < o + m.length then m[j - o]? else D[j]? := by
  unfold Go.splice
  have h1 : (D.take o).length = o := by simp; omega
  by_cases e : j < o
  · rw [if_neg (by omega), List.getElem?_append_left (by omega), List.getElem?_take, if_pos e]
  · rw [List.getElem?_append_right (by omega), h1]
    by_cases e2 : j < o + m.length
    · rw [if_pos (by omega), List.getElem?_append_left (by omega)]
    · rw [if_neg (by omega), List.getElem?_append_right (by omega), List.getElem?_drop]
      congr 1
      omega
theorem splice_mem {α : Type} {D m : List α} {o : Nat} {p : α → Prop} (hD : ∀ x ∈ D, p x) (hm : ∀ x ∈ m, p x) : ∀ x ∈ Go.splice D o m, p x := by
  intro x hx
  simp only [Go.splice, List.mem_append] at hx
  rcases hx with hx | hx | hx
  · exact hD x (List.mem_of_mem_take hx)
  · exact hm x hx
  · exact hD x (List.mem_of_mem_drop hx)
theorem splice_map {α β : Type} (f : α → β) (D m : List α) (o : Nat) : (Go.splice D o m).map f = Go.splice (D.map f) o (m.map f) := by
  simp [Go.splice]

/-- cells stored one behind the other into a row -/
theorem setCells_row (g : Nat) (t : TypeId) : ∀ (vs cs : List Value) (o : Nat) (w : World), Row w g t cs.toArray → o + vs.length ≤ cs.length → Row (w.setCells g o vs) g t (Go.splice cs o vs).toArray
  | [], cs, o, w, h, _ => by simpa [World.setCells, Go.splice] using h
  | v :: r, cs, o, w, h, hl => by
    rw [List.length_cons] at hl
    have h1 := h.set o v
    rw [List.setIfInBounds_toArray] at h1
    have ih := setCells_row g t r (cs.set o v) (o + 1) (w.setCell ⟨g, o, none⟩ v) h1 (by rw [List.length_set]; omega)
    have e : Go.splice (cs.set o v) (o + 1) r = Go.splice cs o (v :: r) := by
      apply List.ext_getElem?
      intro j
      rw [splice_at _ _ _ (by rw [List.length_set]; omega), splice_at _ _ _ (by rw [List.length_cons]; omega), List.length_cons, List.getElem?_set]
      by_cases e1 : o + 1 ≤ j ∧ j < o + 1 + r.length
      · rw [if_pos e1, if_pos (by omega), show j - o = (j - (o + 1)) + 1 by omega, List.getElem?_cons_succ]
      · rw [if_neg e1]
        by_cases e2 : o = j
        · subst e2
          rw [if_pos rfl, if_pos (by omega), if_pos (by omega), Nat.sub_self]
          rfl
        · rw [if_neg e2, if_neg (by omega)]
    rw [← e]
    exact ih
theorem setCells_chg (g : Nat) : ∀ (vs : List Value) (o : Nat) (w : World), Chg (fun k => k = g) w (w.setCells g o vs)
  | [], _, _ => Chg.refl _ _
  | v :: r, o, w => Chg.trans (Chg.setCell (F := fun k => k = g) (Chg.refl _ w) (.inl rfl) v) (setCells_chg g r (o + 1) _)

section
variable {P : Program}
/-- 'clear(s)', s a stretch of a row -/
theorem run_clear_row (w : World) (t e ty : TypeId) (z : Value) (ht : P.underlying t = some (.slice e)) (hv : ∀ w, (zeroValue e).run P w = .ok z w) (hz : z.cells = #[z]) (h1 : z.oneCell' = true) (g o n c : Nat) (tt : TypeId) (cs : List Value) (hr : Row w g tt cs.toArray) (hf : o + n ≤ cs.length) :
    ∃ w', (Builtin.clear_ #[t] ty #[.slice (some ⟨g, o, none⟩) n c]).run P w = .ok (.tuple #[]) w' ∧ Row w' g tt (Go.splice cs o (List.replicate n z)).toArray ∧ Chg (fun k => k = g) w w' := by
  rcases Nat.eq_zero_or_pos n with rfl | hn
  · refine ⟨w, ?_, by simpa [Go.splice] using hr, Chg.refl _ _⟩
    simp [Builtin.clear_, run_underlying ht]
  · refine ⟨_, Lib.run_clear_slice w t e ty z ht hv hz h1 g o n c hn (fun j hj => ?_) (fun j _ => hr.frozen _), setCells_row g tt _ _ _ _ hr (by simpa using hf), setCells_chg _ _ _ _⟩
    rw [hr.cell]
    simp
    omega
/-- 'copy(s, b)', s a stretch of a row -/
theorem run_copy_row2 (w : World) (dT sT ty elem : TypeId) (g o dLen dCap : Nat) (a : Addr) (sLen sCap : Nat) (t : TypeId) (cur cs : List Value)
    (hu : P.underlying dT = some (.slice elem)) (hs : (P.info? elem).map (·.size) = some 1) (hr : Row w g t cur.toArray) (hn : cs.length = Nat.min sLen dLen)
    (hsrc : ∀ j v, cs[j]? = some v → w.cell? (a.add j) = some v) (hfit : o + cs.length ≤ cur.length) (h1 : ∀ v ∈ cs, v.oneCell' = true) :
    ∃ w', (Builtin.copy_ #[dT, sT] ty #[.slice (some ⟨g, o, none⟩) dLen dCap, .slice (some a) sLen sCap]).run P w = .ok (.int .i64 (cs.length : Int)) w' ∧ Row w' g t (Go.splice cur o cs).toArray ∧ Chg (fun k => k = g) w w' := by
  refine ⟨_, run_copy_row (P := P) w dT sT ty elem g o dLen dCap a sLen sCap cur.toArray t cs hu hs hr hn hsrc (by simpa using hfit) h1, ?_, ?_⟩
  · show _ = _
    rw [setRow_heap w g _ _ t _ hr]
    simp [Go.splice]
  · exact ⟨rfl, rfl, rfl, by simp [World.setRow], fun j _ hj => setRow_other w g j _ (fun e => hj (by rw [e]))⟩
end

/-- the disk in block d has N sectors, their bytes D in block g -/
structure DiskI (w : World) (d g N : Nat) (D : List Int) : Prop where
  row : ∃ r u : Int, Row w d 115 #[.int .i64 r, .int .i64 u, .slice (some ⟨g, 0, none⟩) (N * 64) (N * 64)]
  brow : Row w g 5 (D.map (Value.int .u8)).toArray
  len : D.length = N * 64
  byte : ∀ x ∈ D, 0 ≤ x ∧ x ≤ 255
  max : N ≤ 20000
theorem DiskI.keep {w w' : World} {d g N : Nat} {D : List Int} {F : Nat → Prop} (H : DiskI w d g N D) (c : Chg F w w') (hd : ¬ F d) (hg : ¬ F g) : DiskI w' d g N D := by
  obtain ⟨⟨r, u, h1⟩, h2, h3, h4, h5⟩ := H
  exact ⟨⟨r, u, h1.keep c hd⟩, h2.keep c hg, h3, h4, h5⟩
theorem DiskI.ne {w : World} {d g N : Nat} {D : List Int} (H : DiskI w d g N D) : d ≠ g := by
  obtain ⟨⟨r, u, h1⟩, h2, h3, h4, h5⟩ := H
  exact h1.ne h2 (by decide)

set_option maxRecDepth 100000 in
set_option maxHeartbeats 400000 in
theorem diskLen_any {w : World} {d g N : Nat} {D : List Int} (H : DiskI w d g N D) : Calls Try.prog 99 #[.pointer (some ⟨d, 0, none⟩)] w fun e w' => e = .returned (.int .i64 N) ∧ w = w' := by
  obtain ⟨⟨r, u, h1⟩, -, -, -, h5⟩ := H
  have c2 : w.cell? ⟨d, 2, none⟩ = some (.slice (some ⟨g, 0, none⟩) (N * 64) (N * 64)) := h1.cell 2
  have e1 : ((N * 64 : Nat) : Int) / 64 = (N : Int) := by omega
  have e2 : (N : Int) * 64 / 64 = (N : Int) := by omega
  clear h1
  go_enter Try.func99, Try.ntmps99
  go_wp2_with fail
  go_ret
  exact ⟨rfl, rfl⟩

set_option maxRecDepth 100000 in
set_option maxHeartbeats 400000 in
theorem diskAt_ok {w : World} {d g N : Nat} {D : List Int} (H : DiskI w d g N D) (i : Nat) (hi : i < N) : Calls Try.prog 84 #[.pointer (some ⟨d, 0, none⟩), .int .i64 i] w fun e w' => e = .returned (.tuple #[.slice (some ⟨g, i * 64, none⟩) 64 64, .int .i64 0]) ∧ w = w' := by
  have HL := Lib.hid (diskLen_any H)
  obtain ⟨⟨r, u, h1⟩, -, -, -, h5⟩ := H
  have c2 : w.cell? ⟨d, 2, none⟩ = some (.slice (some ⟨g, 0, none⟩) (N * 64) (N * 64)) := h1.cell 2
  have t1 : decide ((i : Int) < 0) = false := decide_eq_false (by omega)
  have t2 : decide ((N : Int) ≤ (i : Int)) = false := decide_eq_false (by omega)
  have t3 : decide (N ≤ i) = false := decide_eq_false (by omega)
  have e1 : (i + 1) * 64 - i * 64 = 64 := by omega
  clear h1
  go_enter Try.func84, Try.ntmps84
  go_wp2_with (first
    | (go_at_call 99; refine HL.out.mono ?_; rintro e w' ⟨rfl, rfl⟩)
    | fail)
  go_ret2
  refine ⟨?_, rfl⟩
  show Ending.returned (.tuple #[.slice (some ⟨g, i * 64, none⟩) ((i + 1) * 64 - i * 64) ((i + 1) * 64 - i * 64), .int .i64 0]) = _
  rw [e1]

/-- a sector's bytes -/
def secB (D : List Int) (i : Nat) : List Int := (D.drop (i * 64)).take 64
theorem secB_len {D : List Int} {i N : Nat} (hl : D.length = N * 64) (hi : i < N) : (secB D i).length = 64 := by
  simp [secB]; omega
theorem DiskI.sector {w : World} {d g N : Nat} {D : List Int} (H : DiskI w d g N D) {i : Nat} (hi : i < N) : ByteS w (fun b => b = g) (.slice (some ⟨g, i * 64, none⟩) 64 64) (secB D i) := by
  have hl := secB_len H.len hi
  refine ⟨⟨some ⟨g, i * 64, none⟩, 64, by rw [hl], by simp [hl], by rw [hl]; exact Nat.le_refl _, by unfold maxLen; decide, (by intro h; cases h), fun _ => ⟨g, i * 64, rfl, rfl, H.brow.lt, fun j u hj => ?_⟩⟩, fun x hx => H.byte x (List.mem_of_mem_drop (List.mem_of_mem_take hx))⟩
  rw [H.brow.cell]
  rw [List.getElem?_map] at hj
  have hj' : j < 64 := by
    rcases Nat.lt_or_ge j 64 with h | h
    · exact h
    · rw [List.getElem?_eq_none (by rw [hl]; exact h)] at hj
      cases hj
  unfold secB at hj
  rw [List.getElem?_take, if_pos hj', List.getElem?_drop] at hj
  simpa using hj

set_option maxRecDepth 100000 in
set_option maxHeartbeats 400000 in
theorem diskRead_ok {w : World} {d g N : Nat} {D : List Int} (H : DiskI w d g N D) (i : Nat) (hi : i < N) : Calls Try.prog 63 #[.pointer (some ⟨d, 0, none⟩), .int .i64 i] w (Ret fun v w' => ∃ u, v = .tuple #[u, .int .i64 0] ∧ OwnB w' w.heap.size u (secB D i) ∧ DiskI w' d g N D ∧ Chg (fun k => k = d) w w') := by
  have HA := Lib.hid (diskAt_ok H i hi)
  have hne := H.ne
  have HH := Lib.hid H
  have hl := secB_len H.len hi
  have HL := Lib.hid hl
  obtain ⟨⟨r, u, h1⟩, -, -, -, h5⟩ := H
  have c0 : w.cell? ⟨d, 0, none⟩ = some (.int .i64 r) := h1.cell 0
  have f0 : w.frozen? ⟨d, 0, none⟩ = false := h1.frozen 0
  obtain ⟨W1, hW1⟩ : ∃ W, w.setCell ⟨d, 0, none⟩ (.int .i64 (wrap64 (r + 1))) = W := ⟨_, rfl⟩
  have H1 : DiskI W1 d g N D ∧ Chg (fun k => k = d) w W1 := by
    rw [← hW1]
    exact ⟨⟨⟨_, u, h1.set 0 _⟩, HH.out.brow.other (fun e => hne e.symm) _, HH.out.len, HH.out.byte, HH.out.max⟩, Chg.setCell (F := fun k => k = d) (Chg.refl _ _) (.inl rfl) _⟩
  have HC := Lib.hid (CloneB_any _ (secB D i) _ W1 (H1.1.sector hi) (by rw [hl]; decide))
  rw [hl] at HC
  have H2 := Lib.hid H1
  have HW := Lib.hid hW1
  clear h1 H1 hl hW1
  go_enter Try.func63, Try.ntmps63
  go_wp2_with (first
    | (go_at_call 84; refine HA.out.mono ?_; rintro e w' ⟨rfl, rfl⟩)
    | (rw [HW.out])
    | (go_at_call 65; refine HC.out.mono ?_; rintro e w2 ⟨v2, rfl, c2, o2⟩; have H3 := Lib.hid (And.intro c2 o2); clear c2 o2)
    | fail)
  go_ret2
  have hs := H2.out.2.size
  refine Ret.mk ⟨_, rfl, ?_, H2.out.1.keep H3.out.1 (fun f => f) (fun f => f), Chg.trans H2.out.2 H3.out.1.no⟩
  have := own_base H3.out.2 hs
  show World.ownsRow _ _ _ _ _ (secB D i).length _
  rw [HL.out]
  exact this

/-- the bytes behind a sector that is written -/
def wrD (D : List Int) (i : Nat) (b : List Int) : List Int := Go.splice (Go.splice D (i * 64) b) (i * 64 + b.length) (List.replicate (64 - b.length) 0)
section
variable {D b : List Int} {i N : Nat}
theorem wrD_len (hD : D.length = N * 64) (hi : i < N) (hb : b.length ≤ 64) : (wrD D i b).length = N * 64 := by
  unfold wrD
  rw [splice_len, splice_len _ _ _ (by omega), hD]
  rw [splice_len _ _ _ (by omega), List.length_replicate]
  omega
theorem wrD_in (hD : D.length = N * 64) (hi : i < N) (hb : b.length ≤ 64) {j : Nat} (hj : j < b.length) : (wrD D i b)[i * 64 + j]? = b[j]? := by
  unfold wrD
  rw [splice_at _ _ _ (by rw [splice_len _ _ _ (by omega), List.length_replicate]; omega), if_neg (by omega), splice_at _ _ _ (by omega), if_pos (by omega), Nat.add_sub_cancel_left]
theorem wrD_out (hD : D.length = N * 64) (hi : i < N) (hb : b.length ≤ 64) {j : Nat} (hj : j < i * 64 ∨ i * 64 + 64 ≤ j) : (wrD D i b)[j]? = D[j]? := by
  unfold wrD
  rw [splice_at _ _ _ (by rw [splice_len _ _ _ (by omega), List.length_replicate]; omega), List.length_replicate, if_neg (by omega), splice_at _ _ _ (by omega), if_neg (by omega)]
theorem wrD_bd (h : ∀ x ∈ D, 0 ≤ x ∧ x ≤ 255) (h2 : ∀ x ∈ b, 0 ≤ x ∧ x ≤ 255) : ∀ x ∈ wrD D i b, 0 ≤ x ∧ x ≤ 255 := by
  refine splice_mem (splice_mem h h2) fun x hx => ?_
  rw [List.mem_replicate] at hx
  omega
end
theorem run_clear_none {P : Program} (w : World) (t e ty : TypeId) (ht : P.underlying t = some (.slice e)) (a : Addr) : (Builtin.clear_ #[t] ty #[.slice (some a) 0 0]).run P w = .ok (.tuple #[]) w := by
  simp [Builtin.clear_, run_underlying ht]
theorem zero_u8 (w : World) : (zeroValue 5).run Try.prog w = .ok (.int .u8 0) w := by kernel_rfl
theorem size_u8 : (Try.prog.info? 5).map (·.size) = some 1 := by kernel_rfl

set_option maxRecDepth 100000 in
set_option maxHeartbeats 400000 in
theorem diskWrite_ok {w : World} {d g N : Nat} {D : List Int} (H : DiskI w d g N D) (i : Nat) (hi : i < N) (bv : Value) (l : List Int) (S : Nat → Prop) (hb : ByteS w S bv l) (hl1 : 1 ≤ l.length) (hl2 : l.length ≤ 64) :
    Calls Try.prog 78 #[.pointer (some ⟨d, 0, none⟩), .int .i64 i, bv] w fun e w' => e = .returned (.int .i64 0) ∧ DiskI w' d g N (wrD D i l) ∧ Chg (fun k => k = d ∨ k = g) w w' := by
  have HA := Lib.hid (diskAt_ok H i hi)
  have hne := H.ne
  obtain ⟨A, c, rfl, -⟩ := hb.form
  obtain ⟨sb, so, rfl⟩ := hb.some hl1
  have hD := H.len
  obtain ⟨w1, hcp, hr1, hc1⟩ := run_copy_row2 (P := Try.prog) w 28 28 3 5 g (i * 64) 64 64 ⟨sb, so, none⟩ l.length c 5 (D.map (.int .u8)) (l.map (.int .u8)) Try.underlying28 size_u8 H.brow (by rw [List.length_map]; exact (Nat.min_eq_left hl2).symm) (fun j v hj => by
    have hj' : j < l.length := by
      rcases Nat.lt_or_ge j l.length with h | h
      · exact h
      · rw [List.getElem?_eq_none (by rw [List.length_map]; exact h)] at hj
        cases hj
    have := (hb.lay hj').1
    rw [Addr.add_lit]
    rw [List.getElem?_map, List.getElem?_eq_getElem hj', Option.map_some] at hj
    rw [← Option.some.inj hj, this, List.getElem?_eq_getElem hj', Option.getD_some]) (by simp; omega) (one_ints _ l)
  rw [List.length_map] at hcp
  obtain ⟨w2, hcl, hr2, hc2⟩ := run_clear_row (P := Try.prog) w1 28 5 0 (.int .u8 0) Try.underlying28 zero_u8 rfl rfl g (i * 64 + l.length) (64 - l.length) (64 - l.length) 5 _ hr1 (by
    rw [splice_len _ _ _ (by simp; omega)]; simp; omega)
  have e2 : Go.splice (Go.splice (D.map (Value.int .u8)) (i * 64) (l.map (Value.int .u8))) (i * 64 + l.length) (List.replicate (64 - l.length) (Value.int .u8 0)) = (wrD D i l).map (Value.int .u8) := by
    unfold wrD
    rw [splice_map, splice_map, List.map_replicate]
  rw [e2] at hr2
  have hc := hc1.trans hc2
  have HX := Lib.hid (And.intro H (And.intro hr2 (And.intro hc hb.2)))
  obtain ⟨⟨r, u, h1⟩, -, -, -, h5⟩ := H
  have c1 : w2.cell? ⟨d, 1, none⟩ = some (.int .i64 u) := (h1.keep hc hne).cell 1
  have f1 : w2.frozen? ⟨d, 1, none⟩ = false := (h1.keep hc hne).frozen 1
  have HR := Lib.hid (h1.keep hc hne)
  generalize hn : l.length = n at *
  have HN := Lib.hid hn
  have t1 : decide ((64 : Int) < (n : Int)) = false := decide_eq_false (by omega)
  have t2 : decide (64 < n) = false := decide_eq_false (by omega)
  have fin : ∀ V, V = w2.setCell ⟨d, 1, none⟩ (.int .i64 (wrap64 (u + 1))) → DiskI V d g N (wrD D i l) ∧ Chg (fun k => k = d ∨ k = g) w V := by
    intro V hV
    have hl := HX.out.1.len
    rw [hV]
    exact ⟨⟨⟨r, _, HR.out.set 1 _⟩, HX.out.2.1.other (fun e => hne e.symm) _, wrD_len hl hi (by rw [HN.out]; exact hl2), wrD_bd HX.out.1.byte HX.out.2.2.2, HX.out.1.max⟩, Chg.setCell (Chg.mono HX.out.2.2.1 fun k _ h => .inr h) (.inl (.inl rfl)) _⟩
  have FIN := Lib.hid fin
  clear hb hr1 hc1 hr2 hc2 hc e2 h1 hn hD fin
  by_cases h64 : 64 = n
  · subst h64
    have ew : w1 = w2 := by
      rw [run_clear_none w1 28 5 0 Try.underlying28] at hcl
      cases hcl
      rfl
    have hcl2 := run_clear_none (P := Try.prog) w2 28 5 0 Try.underlying28 ⟨g, i * 64, none⟩
    subst ew
    clear hcl
    go_enter Try.func78, Try.ntmps78
    go_wp2_with (first
      | (go_at_call 84; refine HA.out.mono ?_; rintro e w' ⟨rfl, rfl⟩)
      | fail)
    go_ret
    exact ⟨rfl, FIN.out _ rfl⟩
  · go_enter Try.func78, Try.ntmps78
    go_wp2_with (first
      | (go_at_call 84; refine HA.out.mono ?_; rintro e w' ⟨rfl, rfl⟩)
      | fail)
    go_ret
    exact ⟨rfl, FIN.out _ rfl⟩

/-- the bytes behind a sector that is cleared -/
def clD (D : List Int) (i : Nat) : List Int := Go.splice D (i * 64) (List.replicate 64 0)
section
variable {D : List Int} {i N : Nat}
theorem clD_len (hD : D.length = N * 64) (hi : i < N) : (clD D i).length = N * 64 := by
  unfold clD
  rw [splice_len _ _ _ (by simp; omega), hD]
theorem clD_out (hD : D.length = N * 64) (hi : i < N) {j : Nat} (hj : j < i * 64 ∨ i * 64 + 64 ≤ j) : (clD D i)[j]? = D[j]? := by
  unfold clD
  rw [splice_at _ _ _ (by simp; omega), List.length_replicate, if_neg (by omega)]
theorem clD_bd (h : ∀ x ∈ D, 0 ≤ x ∧ x ≤ 255) : ∀ x ∈ clD D i, 0 ≤ x ∧ x ≤ 255 := by
  refine splice_mem h fun x hx => ?_
  rw [List.mem_replicate] at hx
  omega
end

set_option maxRecDepth 100000 in
set_option maxHeartbeats 400000 in
theorem diskClear_ok {w : World} {d g N : Nat} {D : List Int} (H : DiskI w d g N D) (i : Nat) (hi : i < N) (x : Int) (hx : x = (i : Int)) (q : Nat) (hr : Row w q 3 #[.int .i64 x]) :
    Calls Try.prog 83 #[.pointer (some ⟨d, 0, none⟩), .slice (some ⟨q, 0, none⟩) 1 1] w fun e w' => e = .returned (.int .i64 0) ∧ DiskI w' d g N (clD D i) ∧ Chg (fun k => k = g) w w' := by
  subst hx
  have HA := Lib.hid (diskAt_ok H i hi)
  have hne := H.ne
  have hD := H.len
  have hq2 : q ≠ g := hr.ne H.brow (by decide)
  obtain ⟨w2, hcl, hr2, hc2⟩ := run_clear_row (P := Try.prog) w 28 5 0 (.int .u8 0) Try.underlying28 zero_u8 rfl rfl g (i * 64) 64 64 5 _ H.brow (by simp; omega)
  have e2 : Go.splice (D.map (Value.int .u8)) (i * 64) (List.replicate 64 (Value.int .u8 0)) = (clD D i).map (Value.int .u8) := by
    unfold clD
    rw [splice_map, List.map_replicate]
  rw [e2] at hr2
  have h2 : DiskI w2 d g N (clD D i) := by
    obtain ⟨⟨r, u, h1⟩, -, -, h4, h5⟩ := H
    exact ⟨⟨r, u, h1.keep hc2 hne⟩, hr2, clD_len hD hi, clD_bd h4, h5⟩
  have q0 : w.cell? ⟨q, 0, none⟩ = some (.int .i64 i) := hr.cell 0
  have q2 : w2.cell? ⟨q, 0, none⟩ = some (.int .i64 i) := (hr.keep hc2 hq2).cell 0
  have HX := Lib.hid (And.intro h2 hc2)
  have hmax := H.max
  clear H hr2 hc2 e2 hD h2 hr
  go_enter Try.func83, Try.ntmps83
  go_wp2_with fail
  refine wp_loop_rounds 2 ?_
  iterate 2 (rw [rounds_succ]; go_wp2_with (first | (go_at_call 84; refine HA.out.mono ?_; rintro e w' ⟨rfl, rfl⟩) | fail))
  refine wp_loop_rounds 2 ?_
  iterate 2 (rw [rounds_succ]; go_wp2_with (first | (go_at_call 84; refine HA.out.mono ?_; rintro e w' ⟨rfl, rfl⟩) | fail))
  go_ret
  exact ⟨rfl, HX.out⟩

/-- what New gives: a disk of N sectors, all noughts -/
def DiskNew (w : World) (N : Nat) (v : Value) (w' : World) : Prop := ∃ d g, v = .tuple #[.pointer (some ⟨d, 0, none⟩), .int .i64 0] ∧ w.heap.size ≤ d ∧ w.heap.size ≤ g ∧ DiskI w' d g N (List.replicate (N * 64) 0) ∧ Chg No w w'

set_option maxRecDepth 100000 in
set_option maxHeartbeats 400000 in
theorem diskNew_ok (N : Nat) (hN : N ≤ 20000) (w : World) : Calls Try.prog 46 #[.int .i64 N] w (Ret (DiskNew w N)) := by
  obtain ⟨i0, hi, hz0, hz1, hz2⟩ := info_parts info_u8
  have Hz := Lib.hid (And.intro hz0 (And.intro hz1 hz2))
  clear hz0 hz1 hz2
  have t1 : decide ((N : Int) < 0) = false := decide_eq_false (by omega)
  have t2 : decide ((20000 : Int) < N) = false := decide_eq_false (by omega)
  go_enter Try.func46, Try.ntmps46
  go_wp2_with (first
    | (at_make; refine wpList_make_full _ rfl _ _ _ rfl w.heap.size 5 i0 (.int .u8 0) 1 Try.underlying28 hi Hz.out.1 Hz.out.2.1 _ _ _ _ (N * 64) rfl rfl (by omega) (by omega) (by rw [Hz.out.2.2]; omega) (by unfold maxLen; omega) (Nat.le_refl _) ?_; intro w1 hown hgrow; have HO := Lib.hid (And.intro hown hgrow); clear hown hgrow)
    | fail)
  go_ret2
  have hr := own_row HO.out.1
  have hc : Chg No w w1 := (Chg.refl _ _).grown HO.out.2 (by simp)
  have e : (madeCells (Value.int IntKind.u8 0).cells (N * 64 * 1)).toList = (List.replicate (N * 64) (0 : Int)).map (Value.int .u8) := by
    rw [show (Value.int IntKind.u8 0).cells = #[Value.int .u8 0] from rfl, toList_madeCells_one, Nat.mul_one, List.map_replicate]
  rw [e] at hr
  have hr' : Row w1 w.heap.size 5 ((List.replicate (N * 64) (0 : Int)).map (Value.int .u8)).toArray := hr
  refine Ret.mk ⟨_, w.heap.size, rfl, hc.size, Nat.le_refl _, ⟨⟨0, 0, Row.new _ _ _⟩, hr'.alloc _, by simp, ?_, hN⟩, hc.alloc _⟩
  intro x hx
  rw [List.mem_replicate] at hx
  omega

set_option maxHeartbeats 400000 in
theorem diskNew_bad (n : Int) (hN : n < 0 ∨ 20000 < n) (w : World) : Calls Try.prog 46 #[.int .i64 n] w fun e w' => e = .returned (.tuple #[.pointer none, .int .i64 2]) ∧ w = w' := by
  by_cases h : n < 0
  · go_enter Try.func46, Try.ntmps46
    go_wp2_with fail
    go_ret2
    exact ⟨rfl, rfl⟩
  · have h2 : 20000 < n := by omega
    have t1 : decide (n < 0) = false := decide_eq_false h
    go_enter Try.func46, Try.ntmps46
    go_wp2_with fail
    go_ret2
    exact ⟨rfl, rfl⟩

end Go.Proofs.Ytdpmmafkomchaaa
