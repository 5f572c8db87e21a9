/- Objects on a disk: what a space stands for: rows of a number, an object, and where its bytes are. Plain laws; no walk here. · Objects on a disk: second.Space: at, Has, Made, Used, New, Fetch. · Objects on a disk: second.Space: New, Make. -/
import Derived.Test.YtdpmmafkomchaaaGreatSecMN
import Derived.Test.YtdpmmafkomchaaaGreatEncPl
namespace Go.Proofs.YtdpmmafkomchaaaGreat
set_option linter.unusedVariables false
set_option linter.unusedSimpArgs false
open Go.RowKit
open Go.ChangeMaps (setBlock)

/-- 'm[k]', and whether it is there -/
theorem IMap.lookupOk {w : World} {b : Nat} {l : List (Int × Value)} {P : Program} {T K E : TypeId} (h : IMap w b l) (hT : P.underlying T = some (.map K E)) (hK : P.underlying K = some (.int .i64)) {z : Value} (hz : ∀ w, (zeroValue E).run P w = .ok z w) (k : Int) :
    (Instr.lookup T (.map (some b)) (.int .i64 k) true).run P w = .ok (.tuple #[(mget k l).getD z, .bool (mget k l).isSome]) w := by
  obtain ⟨es, clock, hb, hl, _⟩ := h
  have hc : ∀ e w, (Instr.checkKey e 10000 K (.int .i64 k)).run P w = .ok () w := fun e w => run_checkKey hK e 9999 k w
  have hf := fun w => run_findKey (P := P) hK k es.toList l hl w
  rw [← mfind_mget k l 0]
  cases hm : mfind k l 0 with
  | none =>
    rw [hm] at hf
    simp [Instr.lookup, run_underlying hT, MapKept.run_getObj_map hb, hc, hf, hz]
  | some x =>
    rw [hm] at hf
    simp [Instr.lookup, run_underlying hT, MapKept.run_getObj_map hb, hc, hf]

/-- an object, its number, and the sector where its bytes begin -/
structure Rw where
  id : Int
  o : O
  f : Nat
def Rw.xt (r : Rw) : Xt := ⟨r.f, encB r.o⟩
def exV (x : Xt) : Value := .agg #[.int .i64 x.f, .int .i64 x.n, .int .i64 x.b.length]
/-- the row of a number -/
def lk (L : List Rw) (k : Int) : Option Rw := L.find? fun r => r.id == k
/-- without one; one another -/
def delR (L : List Rw) (k : Int) : List Rw := L.filter fun r => !(r.id == k)
def setR (L : List Rw) (k : Int) (x : Rw) : List Rw := L.map fun r => if r.id == k then x else r
abbrev Rising (L : List Rw) : Prop := L.Pairwise fun a b => a.id < b.id
section
variable {L : List Rw} {k j : Int} {r x : Rw}
theorem lk_mem (h : lk L k = some r) : r ∈ L ∧ r.id = k := by
  have h1 := List.mem_of_find?_eq_some h
  have h2 := List.find?_some h
  exact ⟨h1, by simpa using h2⟩
theorem lk_none : lk L k = none ↔ ∀ r ∈ L, r.id ≠ k := by
  unfold lk
  rw [List.find?_eq_none]
  simp
theorem Rising.inj (h : Rising L) {a b : Rw} (ha : a ∈ L) (hb : b ∈ L) (e : a.id = b.id) : a = b := by
  induction L with
  | nil => cases ha
  | cons y L ih =>
    rw [Rising, List.pairwise_cons] at h
    rcases List.mem_cons.1 ha with rfl | ha'
    · rcases List.mem_cons.1 hb with rfl | hb'
      · rfl
      · have := h.1 b hb'; omega
    · rcases List.mem_cons.1 hb with rfl | hb'
      · have := h.1 a ha'; omega
      · exact ih h.2 ha' hb'
theorem lk_of_mem (h : Rising L) (hr : r ∈ L) : lk L r.id = some r := by
  cases he : lk L r.id with
  | none => exact absurd rfl (lk_none.1 he r hr)
  | some y =>
    obtain ⟨h1, h2⟩ := lk_mem he
    rw [h.inj h1 hr h2]
theorem lk_last (hk : ∀ r ∈ L, r.id < x.id) (j : Int) : lk (L ++ [x]) j = if j = x.id then some x else lk L j := by
  unfold lk
  rw [List.find?_append]
  by_cases e : j = x.id
  · rw [if_pos e]
    have h1 : L.find? (fun r => r.id == j) = none := by
      rw [List.find?_eq_none]
      intro r hr
      have := hk r hr
      simp
      omega
    rw [h1]
    simp [e]
  · rw [if_neg e]
    have : ¬ x.id = j := fun h => e h.symm
    simp [this]
theorem lk_del (L : List Rw) (k j : Int) : lk (delR L k) j = if j = k then none else lk L j := by
  unfold lk delR
  induction L with
  | nil => simp
  | cons y L ih =>
    rw [List.filter_cons]
    by_cases e : y.id = k
    · have e1 : (!(y.id == k)) = false := by simp [e]
      rw [e1]
      simp only [Bool.false_eq_true, if_false]
      rw [ih]
      by_cases e2 : j = k
      · rw [if_pos e2, if_pos e2]
      · rw [if_neg e2, if_neg e2, List.find?_cons]
        have : (y.id == j) = false := by rw [e]; simpa using fun h => e2 h.symm
        rw [this]
    · have e1 : (!(y.id == k)) = true := by simp [e]
      rw [e1]
      simp only [if_true]
      rw [List.find?_cons, List.find?_cons, ih]
      by_cases e2 : j = k
      · subst e2
        have : (y.id == j) = false := by simpa using e
        rw [this]
      · rw [if_neg e2, if_neg e2]
theorem lk_set (L : List Rw) (hx : x.id = k) (j : Int) : lk (setR L k x) j = if j = k then (lk L k).map (fun _ => x) else lk L j := by
  unfold lk setR
  induction L with
  | nil => simp
  | cons y L ih =>
    rw [List.map_cons, List.find?_cons, ih, List.find?_cons]
    by_cases e : y.id = k
    · have e1 : (y.id == k) = true := by simp [e]
      simp only [e1, if_true]
      by_cases e2 : j = k
      · subst e2
        have e3 : (x.id == j) = true := by simp [hx]
        simp [e3]
      · have e3 : (x.id == j) = false := by rw [hx]; simpa using fun h => e2 h.symm
        have e4 : (y.id == j) = false := by rw [e]; simpa using fun h => e2 h.symm
        rw [e3, if_neg e2, if_neg e2, List.find?_cons, e4]
    · have e1 : (y.id == k) = false := by simpa using e
      simp only [e1, Bool.false_eq_true, if_false]
      by_cases e2 : j = k
      · subst e2
        rw [e1, if_pos rfl, if_pos rfl]
      · rw [if_neg e2, if_neg e2, List.find?_cons]
theorem del_other (h : ∀ r ∈ L, r.id ≠ k) : delR L k = L := by
  unfold delR
  rw [List.filter_eq_self]
  intro r hr
  simpa using h r hr
theorem set_other (h : ∀ r ∈ L, r.id ≠ k) : setR L k x = L := by
  unfold setR
  rw [List.map_congr_left (g := id) (fun r hr => by
    have : (r.id == k) = false := by simpa using h r hr
    rw [this]
    rfl), List.map_id]
theorem del_perm (h : Rising L) (hr : lk L k = some r) : L.Perm (r :: delR L k) := by
  induction L with
  | nil => cases hr
  | cons y L ih =>
    rw [Rising, List.pairwise_cons] at h
    unfold lk at hr
    rw [List.find?_cons] at hr
    by_cases e : y.id = k
    · have e1 : (y.id == k) = true := by simp [e]
      rw [e1] at hr
      have hry : y = r := Option.some.inj hr
      have e2 : delR (y :: L) k = delR L k := by unfold delR; rw [List.filter_cons]; simp [e]
      rw [e2, del_other (fun r hr => by have := h.1 r hr; omega), hry]
    · have e1 : (y.id == k) = false := by simpa using e
      rw [e1] at hr
      have ih := ih h.2 hr
      have e2 : delR (y :: L) k = y :: delR L k := by unfold delR; rw [List.filter_cons]; simp [e]
      rw [e2]
      exact (List.Perm.cons y ih).trans (List.Perm.swap _ _ _)
theorem set_perm (h : Rising L) (hr : lk L k = some r) : (setR L k x).Perm (x :: delR L k) := by
  induction L with
  | nil => cases hr
  | cons y L ih =>
    rw [Rising, List.pairwise_cons] at h
    unfold lk at hr
    rw [List.find?_cons] at hr
    have e0 : setR (y :: L) k x = (if y.id == k then x else y) :: setR L k x := rfl
    by_cases e : y.id = k
    · have e1 : (y.id == k) = true := by simp [e]
      have e2 : delR (y :: L) k = delR L k := by unfold delR; rw [List.filter_cons]; simp [e]
      have ho : ∀ r ∈ L, r.id ≠ k := fun r hr => by have := h.1 r hr; omega
      rw [e0, e2, if_pos e1, del_other ho, set_other ho]
    · have e1 : (y.id == k) = false := by simpa using e
      rw [e1] at hr
      have ih := ih h.2 hr
      have e2 : delR (y :: L) k = y :: delR L k := by unfold delR; rw [List.filter_cons]; simp [e]
      rw [e0, e2, if_neg (by rw [e1]; decide)]
      exact (List.Perm.cons y ih).trans (List.Perm.swap _ _ _)
theorem set_ids (hx : x.id = k) : (setR L k x).map Rw.id = L.map Rw.id := by
  unfold setR
  rw [List.map_map]
  refine List.map_congr_left fun r _ => ?_
  simp only [Function.comp]
  by_cases e : r.id = k
  · simp [e, hx]
  · simp [e]
theorem rising_iff : Rising L ↔ (L.map Rw.id).Pairwise (· < ·) := by
  rw [List.pairwise_map]
theorem set_rising (h : Rising L) (hx : x.id = k) : Rising (setR L k x) := by
  rw [rising_iff, set_ids hx, ← rising_iff]
  exact h
theorem del_rising (h : Rising L) : Rising (delR L k) := List.Pairwise.filter _ h
theorem del_mem (hr : r ∈ delR L k) : r ∈ L := (List.mem_filter.1 hr).1
theorem set_mem (hr : r ∈ setR L k x) : r = x ∨ r ∈ L := by
  unfold setR at hr
  obtain ⟨y, hy, rfl⟩ := List.mem_map.1 hr
  by_cases e : (y.id == k) = true
  · rw [if_pos e]; exact .inl rfl
  · rw [if_neg e]; exact .inr hy
end

/-- a space's blocks -/
structure SB where
  s : Nat
  t : Nat
  B : Blk
def SB.has (Q : SB) (k : Nat) : Prop := k = Q.s ∨ k = Q.t ∨ Q.B.has k
/-- the space Q has N sectors, the objects L stand on it, made were made -/
structure SecI (w : World) (Q : SB) (N : Nat) (L : List Rw) (made : Nat) (es : List (Int × Value)) : Prop where
  row : Row w Q.s 69 #[.pointer (some ⟨Q.B.r, 0, none⟩), .map (some Q.t), .int .i64 made]
  ext : ExtS w Q.B N (L.map Rw.xt)
  tab : IMap w Q.t es
  get : ∀ k, mget k es = (lk L k).map fun r => exV r.xt
  rise : Rising L
  ids : ∀ r ∈ L, 1 ≤ r.id ∧ r.id ≤ made
  ok : ∀ r ∈ L, okB r.o = true ∧ ∀ z ∈ r.o.B, 0 ≤ z ∧ z ≤ 255
  max : made ≤ 1048576
  tv : Q.t ≠ Q.B.v
def SecS (w : World) (Q : SB) (N : Nat) (L : List Rw) (made : Nat) : Prop := ∃ es, SecI w Q N L made es
section
variable {w w' : World} {Q : SB} {N made : Nat} {L : List Rw} {es : List (Int × Value)} {F : Nat → Prop}
theorem SecI.keep (H : SecI w Q N L made es) (c : Chg F w w') (hF : ∀ k, Q.has k → ¬ F k) : SecI w' Q N L made es :=
  ⟨H.row.keep c (hF _ (.inl rfl)), H.ext.keep c (fun k hk => hF k (.inr (.inr hk))), H.tab.keep c (hF _ (.inr (.inl rfl))), H.get, H.rise, H.ids, H.ok, H.max, H.tv⟩
theorem SecS.keep (H : SecS w Q N L made) (c : Chg F w w') (hF : ∀ k, Q.has k → ¬ F k) : SecS w' Q N L made := by
  obtain ⟨es, H⟩ := H
  exact ⟨es, H.keep c hF⟩
theorem SecI.lt (H : SecI w Q N L made es) {k : Nat} (hk : Q.has k) : k < w.heap.size := by
  rcases hk with rfl | rfl | hk
  · exact H.row.lt
  · exact H.tab.lt
  · exact H.ext.lt hk
theorem SecS.lt (H : SecS w Q N L made) {k : Nat} (hk : Q.has k) : k < w.heap.size := by
  obtain ⟨es, H⟩ := H
  exact H.lt hk
/-- the space's own two blocks are not among the other ones, nor the same -/
theorem SecI.ne (H : SecI w Q N L made es) : Q.s ≠ Q.t ∧ ¬ Q.B.has Q.s ∧ ¬ Q.B.has Q.t := by
  obtain ⟨D, ws, E, HE, -⟩ := H.ext
  obtain ⟨r, u, hd⟩ := HE.disk.row
  have hr := H.row
  have ht := H.tab
  refine ⟨(ht.ne_row hr).symm, ?_, ?_⟩
  · rintro (h | h | h | h | h | h)
    · exact hr.ne HE.row (by decide) h
    · exact hr.ne hd (by decide) h
    · exact hr.ne HE.disk.brow (by decide) h
    · exact hr.ne HE.bits.row (by decide) h
    · exact hr.ne HE.bits.wrow (by decide) h
    · exact HE.live.ne_row hr h.symm
  · rintro (h | h | h | h | h | h)
    · exact ht.ne_row HE.row h
    · exact ht.ne_row hd h
    · exact ht.ne_row HE.disk.brow h
    · exact ht.ne_row HE.bits.row h
    · exact ht.ne_row HE.bits.wrow h
    · exact H.tv h
end


theorem elem_tab : Tryz.prog.underlying 67 = some (.map 3 47) := Tryz.underlying67
theorem zero_ex (w : World) : (zeroValue 47).run Tryz.prog w = .ok (.agg #[.int .i64 0, .int .i64 0, .int .i64 0]) w := by kernel_rfl

section
variable {w : World} {Q : SB} {N made : Nat} {L : List Rw}

set_option maxRecDepth 100000 in
set_option maxHeartbeats 1000000 in
theorem secAt_some (H : SecS w Q N L made) {k : Int} {r : Rw} (hr : lk L k = some r) :
    Calls Tryz.prog 32 #[.pointer (some ⟨Q.s, 0, none⟩), .int .i64 k] w fun e w' => e = .returned (.tuple #[.agg #[.int .i64 r.xt.f, .int .i64 r.xt.n, .int .i64 r.xt.b.length], .int .i64 0]) ∧ Chg No w w' := by
  obtain ⟨es, H⟩ := H
  obtain ⟨W1, hW1⟩ : ∃ W, w.alloc (.cells #[.int .i64 0, .int .i64 0, .int .i64 0] 47) = W := ⟨_, rfl⟩
  have c1 : Chg No w W1 := by rw [← hW1]; exact (Chg.refl _ _).alloc _
  have ry : Row W1 w.heap.size 47 #[.int .i64 0, .int .i64 0, .int .i64 0] := by rw [← hW1]; exact Row.new w _ _
  have hl := (H.tab.keep c1 (fun f => f)).lookupOk (P := Tryz.prog) elem_tab Tryz.underlying3 zero_ex k
  rw [H.get, hr] at hl
  simp only [Option.map_some, Option.getD_some, Option.isSome_some, exV] at hl
  have f1 : W1.cell? ⟨Q.s, 1, none⟩ = some (.map (some Q.t)) := (H.row.keep c1 (fun f => f)).cell 1
  obtain ⟨W2, hW2⟩ : ∃ W, W1.alloc (.cells #[.int .i64 r.xt.f, .int .i64 r.xt.n, .int .i64 r.xt.b.length] 47) = W := ⟨_, rfl⟩
  have c2 : Chg No W1 W2 := by rw [← hW2]; exact (Chg.refl _ _).alloc _
  have y := IExt.cells (ry.keep c2 (fun f => f))
  have x := IExt.cells (show Row W2 W1.heap.size 47 #[.int .i64 r.xt.f, .int .i64 r.xt.n, .int .i64 r.xt.b.length] by rw [← hW2]; exact Row.new W1 _ _)
  have HW := Lib.hid hW1
  have HW2 := Lib.hid hW2
  have HC := Lib.hid (c1.trans c2)
  clear H hW1 hW2 c1 c2 ry hr
  go_enter Tryz.func32, Tryz.ntmps32
  go_wp2_with (first
    | (rw [HW.out])
    | (rw [HW2.out])
    | fail)
  have cF : ∀ U, Chg (fun k => k = w.heap.size) W2 U → Chg No w U := fun U hU => HC.out.then hU (fun k hk h => by omega)
  refine bodyPost_ret (v := .tuple #[.agg #[.int .i64 r.xt.f, .int .i64 r.xt.n, .int .i64 r.xt.b.length], .int .i64 0]) (by simp [results, Tryz.results32, go_sem, y]) rfl ⟨rfl, cF _ ?_⟩
  repeat (with_reducible first | exact Chg.refl _ _ | refine Chg.setCell ?_ (.inl (by simp)) _)

set_option maxRecDepth 100000 in
set_option maxHeartbeats 1000000 in
theorem secAt_none (H : SecS w Q N L made) {k : Int} (hr : lk L k = none) :
    Calls Tryz.prog 32 #[.pointer (some ⟨Q.s, 0, none⟩), .int .i64 k] w fun e w' => e = .returned (.tuple #[.agg #[.int .i64 0, .int .i64 0, .int .i64 0], .int .i64 4]) ∧ Chg No w w' := by
  obtain ⟨es, H⟩ := H
  obtain ⟨W1, hW1⟩ : ∃ W, w.alloc (.cells #[.int .i64 0, .int .i64 0, .int .i64 0] 47) = W := ⟨_, rfl⟩
  have c1 : Chg No w W1 := by rw [← hW1]; exact (Chg.refl _ _).alloc _
  have ry : Row W1 w.heap.size 47 #[.int .i64 0, .int .i64 0, .int .i64 0] := by rw [← hW1]; exact Row.new w _ _
  have hl := (H.tab.keep c1 (fun f => f)).lookupOk (P := Tryz.prog) elem_tab Tryz.underlying3 zero_ex k
  rw [H.get, hr] at hl
  simp only [Option.map_none, Option.getD_none, Option.isSome_none] at hl
  have f1 : W1.cell? ⟨Q.s, 1, none⟩ = some (.map (some Q.t)) := (H.row.keep c1 (fun f => f)).cell 1
  have y := IExt.cells ry
  have hs := ry.lt
  have HW := Lib.hid hW1
  have HC := Lib.hid c1
  clear H hW1 c1 ry hr
  go_enter Tryz.func32, Tryz.ntmps32
  go_wp2_with (first
    | (rw [HW.out])
    | fail)
  have cF : ∀ U, Chg (fun k => k = w.heap.size) W1 U → Chg No w U := fun U hU => HC.out.then hU (fun k hk h => by omega)
  refine bodyPost_ret (v := .tuple #[.agg #[.int .i64 0, .int .i64 0, .int .i64 0], .int .i64 4]) (by simp [results, Tryz.results32, go_sem, y, hs]) rfl ⟨rfl, cF _ ?_⟩
  repeat (with_reducible first | exact Chg.refl _ _ | refine Chg.setCell ?_ (.inl (by simp)) _ | refine Chg.alloc ?_ _)

set_option maxRecDepth 100000 in
set_option maxHeartbeats 400000 in
theorem secHas_any (H : SecS w Q N L made) (k : Int) : Calls Tryz.prog 18 #[.pointer (some ⟨Q.s, 0, none⟩), .int .i64 k] w fun e w' => e = .returned (.bool (lk L k).isSome) ∧ Chg No w w' := by
  cases hr : lk L k with
  | none =>
    have HQ := Lib.hid (secAt_none H hr)
    clear H hr
    go_enter Tryz.func18, Tryz.ntmps18
    go_wp2_with (first
      | (go_at_call 32; refine HQ.out.mono ?_; rintro e w1 ⟨rfl, c1⟩; have H1 := Lib.hid c1; clear c1)
      | fail)
    go_ret
    refine ⟨rfl, Chg.then (F := No) (G := fun k => w1.heap.size ≤ k) H1.out ?_ (fun k hk h => by have := H1.out.size; omega)⟩
    repeat (with_reducible first | exact Chg.refl _ _ | refine Chg.setCell ?_ (.inr (by simp)) _ | refine Chg.alloc ?_ _)
  | some r =>
    have HQ := Lib.hid (secAt_some H hr)
    clear H hr
    go_enter Tryz.func18, Tryz.ntmps18
    go_wp2_with (first
      | (go_at_call 32; refine HQ.out.mono ?_; rintro e w1 ⟨rfl, c1⟩; have H1 := Lib.hid c1; clear c1)
      | fail)
    go_ret
    refine ⟨rfl, Chg.then (F := No) (G := fun k => w1.heap.size ≤ k) H1.out ?_ (fun k hk h => by have := H1.out.size; omega)⟩
    repeat (with_reducible first | exact Chg.refl _ _ | refine Chg.setCell ?_ (.inr (by simp)) _ | refine Chg.alloc ?_ _)

set_option maxHeartbeats 400000 in
theorem secMade_any (H : SecS w Q N L made) : Calls Tryz.prog 19 #[.pointer (some ⟨Q.s, 0, none⟩)] w fun e w' => e = .returned (.int .i64 made) ∧ w = w' := by
  obtain ⟨es, H⟩ := H
  have f2 : w.cell? ⟨Q.s, 2, none⟩ = some (.int .i64 made) := H.row.cell 2
  clear H
  go_enter Tryz.func19, Tryz.ntmps19
  go_wp2_with fail
  go_ret
  exact ⟨rfl, rfl⟩

/-- how many sectors are taken -/
def usedL (L : List Rw) : Nat := (L.map fun r => r.xt.n).sum

set_option maxHeartbeats 400000 in
theorem secUsed_any (H : SecS w Q N L made) : Calls Tryz.prog 16 #[.pointer (some ⟨Q.s, 0, none⟩)] w fun e w' => e = .returned (.int .i64 (usedL L)) ∧ w = w' := by
  obtain ⟨es, H⟩ := H
  have f0 : w.cell? ⟨Q.s, 0, none⟩ = some (.pointer (some ⟨Q.B.r, 0, none⟩)) := H.row.cell 0
  have hq := extUsed_any H.ext
  rw [List.map_map] at hq
  have HQ := Lib.hid (show Calls Tryz.prog 40 #[.pointer (some ⟨Q.B.r, 0, none⟩)] w fun e w' => e = .returned (.int .i64 (usedL L)) ∧ w = w' from hq)
  generalize usedL L = u at *
  clear H hq
  go_enter Tryz.func16, Tryz.ntmps16
  go_wp2_with (first
    | (go_at_call 40; refine HQ.out.mono ?_; rintro e w' ⟨rfl, rfl⟩)
    | fail)
  go_ret
  exact ⟨rfl, rfl⟩

/-- an object, in memory of the call's own -/
def Fetched (w : World) (Q : SB) (N : Nat) (L : List Rw) (made : Nat) (o : O) (x : Int) (v : Value) (w' : World) : Prop := ∃ u, v = .tuple #[u, .int .i64 x] ∧ ObjR w' (fun b => w.heap.size ≤ b) u o ∧ SecS w' Q N L made ∧ Chg (fun k => k = Q.B.d) w w'

set_option maxRecDepth 100000 in
set_option maxHeartbeats 1000000 in
theorem secFetch_none (H : SecS w Q N L made) {k : Int} (hr : lk L k = none) :
    Calls Tryz.prog 9 #[.pointer (some ⟨Q.s, 0, none⟩), .int .i64 k] w (Ret (Fetched w Q N L made O.zero 4)) := by
  obtain ⟨W1, hW1⟩ : ∃ W, w.alloc (.cells #[.int .i64 0, .int .i64 0, .slice none 0 0, .slice none 0 0] 35) = W := ⟨_, rfl⟩
  have c1 : Chg No w W1 := by rw [← hW1]; exact (Chg.refl _ _).alloc _
  have ry : Row W1 w.heap.size 35 #[.int .i64 0, .int .i64 0, .slice none 0 0, .slice none 0 0] := by rw [← hW1]; exact Row.new w _ _
  have HQ := Lib.hid (secAt_none (H.keep c1 (fun _ _ f => f)) hr)
  have HW := Lib.hid hW1
  have H1 := Lib.hid (And.intro H (And.intro c1 ry))
  clear H hr hW1 c1 ry
  go_enter Tryz.func9, Tryz.ntmps9
  go_wp2_with (first
    | (rw [HW.out])
    | (go_at_call 32
       refine HQ.out.mono ?_
       rintro e w2 ⟨rfl, c2⟩
       have y := (H1.out.2.2.keep c2 (fun f => f)).four
       have hs := (H1.out.2.2.keep c2 (fun f => f)).lt
       have H3 := Lib.hid (H1.out.2.1.trans c2)
       clear c2)
    | fail)
  have cF : ∀ U, Chg (fun k => k = w.heap.size) w2 U → SecS U Q N L made ∧ Chg No w U := fun U hU => ⟨(H1.out.1.keep H3.out (fun _ _ f => f)).keep hU (fun k hk e => by have := H1.out.1.lt hk; omega), H3.out.then hU (fun k hk h => by omega)⟩
  refine bodyPost_ret (v := .tuple #[.agg #[.int .i64 0, .int .i64 0, .slice none 0 0, .slice none 0 0], .int .i64 4]) (by simp [results, Tryz.results9, go_sem, y, hs]) rfl (Ret.mk ⟨_, rfl, ObjR.zero _ _, (cF _ ?_).1, (cF _ ?_).2.no⟩)
  · repeat (with_reducible first | exact Chg.refl _ _ | refine Chg.setCell ?_ (.inl (by simp)) _ | refine Chg.alloc ?_ _)
  · repeat (with_reducible first | exact Chg.refl _ _ | refine Chg.setCell ?_ (.inl (by simp)) _ | refine Chg.alloc ?_ _)

set_option maxRecDepth 100000 in
set_option maxHeartbeats 1000000 in
theorem secFetch_some (H : SecS w Q N L made) {k : Int} {r : Rw} (hr : lk L k = some r) :
    Calls Tryz.prog 9 #[.pointer (some ⟨Q.s, 0, none⟩), .int .i64 k] w (Ret (Fetched w Q N L made r.o 0)) := by
  obtain ⟨W1, hW1⟩ : ∃ W, w.alloc (.cells #[.int .i64 0, .int .i64 0, .slice none 0 0, .slice none 0 0] 35) = W := ⟨_, rfl⟩
  have c1 : Chg No w W1 := by rw [← hW1]; exact (Chg.refl _ _).alloc _
  have ry : Row W1 w.heap.size 35 #[.int .i64 0, .int .i64 0, .slice none 0 0, .slice none 0 0] := by rw [← hW1]; exact Row.new w _ _
  have HQ := Lib.hid (secAt_some (H.keep c1 (fun _ _ f => f)) hr)
  have HLT := Lib.hid (fun k (hk : Q.has k) => H.lt hk)
  obtain ⟨es, H⟩ := H
  have hrm := lk_mem hr
  have hok := H.ok r hrm.1
  have hle := encB_len r.o
  have hsz := okB_cases hok.1
  have hl1 : 1 ≤ r.xt.b.length := by show 1 ≤ (encB r.o).length; omega
  have hl2 : r.xt.b.length ≤ 1000000 := by show (encB r.o).length ≤ 1000000; omega
  have HG := fun v (c : Chg No w v) => Get_ok (H.ext.keep c (fun _ _ f => f)) r.xt (List.mem_map.2 ⟨r, hrm.1, rfl⟩) hl1 hl2
  have hde := dec_enc hok.1
  have HD := Lib.hid (And.intro HG (And.intro hde (show (encB r.o).length ≤ 1000000 from hl2)))
  have HNE := Lib.hid H.ne
  have HW := Lib.hid hW1
  have H1 := Lib.hid (And.intro H (And.intro c1 ry))
  generalize hxf : r.xt.f = xf at *
  generalize hxn : r.xt.n = xn at *
  generalize hxl : r.xt.b.length = xl at *
  have HX := Lib.hid (And.intro hxf (And.intro hxn hxl))
  clear H hr hW1 c1 ry HG hok hle hsz hl1 hl2 hde hrm hxf hxn hxl
  go_enter Tryz.func9, Tryz.ntmps9
  go_wp2_with (first
    | (rw [HW.out])
    | (go_at_call 32
       refine HQ.out.mono ?_
       rintro e w2 ⟨rfl, c2⟩
       obtain ⟨W3, hW3⟩ : ∃ W, w2.alloc (.cells #[.int .i64 xf, .int .i64 xn, .int .i64 xl] 47) = W := ⟨_, rfl⟩
       have c3 : Chg No w2 W3 := by rw [← hW3]; exact (Chg.refl _ _).alloc _
       have rx : Row W3 w2.heap.size 47 #[.int .i64 xf, .int .i64 xn, .int .i64 xl] := by rw [← hW3]; exact Row.new _ _ _
       have c13 := H1.out.2.1.trans (c2.trans c3)
       have fr : ∀ v, Chg No W3 v → v.cell? ⟨Q.s, 0, none⟩ = some (.pointer (some ⟨Q.B.r, 0, none⟩)) := fun v hv => (H1.out.1.row.keep (c13.trans hv) (fun f => f)).cell 0
       have g0 : ∀ v, Chg No W3 v → v.cell? ⟨w2.heap.size, 0, none⟩ = some (.int .i64 xf) := fun v hv => (rx.keep hv (fun f => f)).cell 0
       have g1 : ∀ v, Chg No W3 v → v.cell? ⟨w2.heap.size, 1, none⟩ = some (.int .i64 xn) := fun v hv => (rx.keep hv (fun f => f)).cell 1
       have g2 : ∀ v, Chg No W3 v → v.cell? ⟨w2.heap.size, 2, none⟩ = some (.int .i64 xl) := fun v hv => (rx.keep hv (fun f => f)).cell 2
       have H3 := Lib.hid (And.intro c13 ((H1.out.2.2.keep c2 (fun f => f)).keep c3 (fun f => f)))
       have HW3 := Lib.hid hW3
       clear c2 c3 c13 hW3 rx)
    | (rw [HW3.out])
    | fail)
  refine rem_start (by kernel_rfl) (by kernel_rfl) ?_
  refine rem_quiet 5 (C := (Chg No W3)) (by kernel_rfl) (by simp only [List.toList_toArray, List.drop_succ_cons, List.drop_zero, List.take_succ_cons, List.take_zero, Nat.reduceSub, Nat.reduceAdd]; rfl) ?_ ?_
  · exact (Chg.refl _ _).drew
  repeat
    refine q_step (fun K hK => ?_)
    go_simp
    first
      | ((with_reducible refine hK _ ?_); clear hK K)
      | (refine (if_neg (by simp [undef])).mpr ?_; (with_reducible refine hK _ ?_); clear hK K)
      | (apply Exists.intro
         with_reducible refine ⟨fun v hv => ?_, hK _ ?_⟩
         · first
             | with_reducible exact rfl
             | with_reducible exact ⟨rfl, rfl⟩
             | (go_simp
                first
                  | done
                  | with_reducible exact rfl
                  | with_reducible exact ⟨rfl, rfl⟩
                  | fail)
         clear hK K)
  refine q_nil ?_
  intro V hV
  have hq := HD.out.1 V (H3.out.1.trans hV)
  have HQ2 := Lib.hid hq
  clear hq
  refine rem_one (by kernel_rfl) (by kernel_rfl) rfl (by kernel_rfl) (fun K hK => ?_)
  go_wp2_with (first
    | (go_at_call 33
       refine HQ2.out.mono ?_
       rintro e w4 ⟨v4, rfl, u4, rfl, hb4, he4, c4⟩
       obtain ⟨A4, d4, rfl, -⟩ := hb4.form
       have H4 := Lib.hid (And.intro hb4 (And.intro he4 (And.intro ((H3.out.1.trans hV).no.trans c4) (H3.out.2.keep (hV.no.trans c4) (fun e => by have := HLT.out Q.B.d (.inr (.inr (.inr (.inl rfl)))); omega)))))
       clear hb4 he4 c4 hV)
    | fail)
  refine rem_quiet 11 (C := (fun v => v = w4)) (by kernel_rfl) (by simp only [List.toList_toArray, List.drop_succ_cons, List.drop_zero, List.take_succ_cons, List.take_zero, Nat.reduceSub, Nat.reduceAdd]; rfl) ?_ ?_
  · rfl
  repeat
    refine q_step (fun K hK => ?_)
    go_simp
    first
      | ((with_reducible refine hK _ ?_); clear hK K)
      | (refine (if_neg (by simp [undef])).mpr ?_; (with_reducible refine hK _ ?_); clear hK K)
      | (apply Exists.intro
         with_reducible refine ⟨fun v hv => ?_, hK _ ?_⟩
         · first
             | with_reducible exact rfl
             | with_reducible exact ⟨rfl, rfl⟩
             | (go_simp
                first
                  | done
                  | with_reducible exact rfl
                  | with_reducible exact ⟨rfl, rfl⟩
                  | fail)
         clear hK K)
  refine q_nil ?_
  intro V4 hV4
  subst V4
  refine rem_end (by kernel_rfl) ?_
  clear fr g0 g1 g2
  go_wp2_with (first
    | (go_at_call 34
       refine (Decode_any _ _ _ _ H4.out.1 (by have := HD.out.2.2; show (encB r.o).length ≤ _; omega)).mono ?_
       rw [show r.xt.b = encB r.o from rfl, HD.out.2.1.1, HD.out.2.1.2]
       rintro e w5 ⟨v5, rfl, u5, rfl, ho5, c5⟩
       obtain ⟨wv5, bv5, rfl, hI5, hB5, i5, k5⟩ := ho5
       obtain ⟨A5, d5, rfl, -⟩ := hI5.form
       obtain ⟨A6, d6, rfl, -⟩ := hB5.form
       have y := (H4.out.2.2.2.keep c5 (fun f => f)).four
       have H5 := Lib.hid (And.intro hI5 (And.intro hB5 (And.intro i5 (And.intro k5 c5))))
       simp only [cells2]
       clear hI5 hB5 i5 k5 c5)
    | fail)
  have cF : ∀ U, Chg (fun k => k = w.heap.size) w5 U → ObjR U (fun b => w.heap.size ≤ b) (.agg (cells2 r.o (.slice A5 r.o.W.length d5) (.slice A6 r.o.B.length d6))) r.o ∧ SecS U Q N L made ∧ Chg (fun k => k = Q.B.d) w U := fun U hU => by
    obtain ⟨hI5, hB5, i5, k5, c5⟩ := H5.out
    obtain ⟨hb4, he4, c4, -⟩ := H4.out
    have hb := HLT.out
    have hne := HNE.out
    have hS := H1.out.1
    have s4 : SecS w4 Q N L made := by
      have h0 := hS.row.keep c4 (fun e => hne.2.1 (e ▸ .inr (.inl rfl)))
      exact ⟨es, h0, he4, hS.tab.keep c4 (fun e => hne.2.2 (e ▸ .inr (.inl rfl))), hS.get, hS.rise, hS.ids, hS.ok, hS.max, hS.tv⟩
    refine ⟨⟨_, _, rfl, (hI5.keep hU (fun b hb e => ?_)).more (fun b _ hb => ?_), (hB5.keep hU (fun b hb e => ?_)).more (fun b _ hb => ?_), i5, k5⟩, (s4.keep c5 (fun _ _ f => f)).keep hU (fun k hk e => by have := hb k hk; omega), (c4.trans c5.no).then hU (fun k hk e => by omega)⟩
    · have := c4.size; have := H1.out.2.2.lt; have := H1.out.2.1.size; have := H3.out.1.size; have := H3.out.2.lt; have := H4.out.2.2.2.lt; omega
    · have := c4.size; omega
    · have := c4.size; have := H4.out.2.2.2.lt; omega
    · have := c4.size; omega
  refine bodyPost_ret (v := .tuple #[.agg #[.int .i64 r.o.cls, .int .i64 r.o.kind, .slice A5 r.o.W.length d5, .slice A6 r.o.B.length d6], .int .i64 0]) (by simp [results, Tryz.results9, go_sem, y]) rfl (Ret.mk ⟨_, rfl, (cF _ ?_).1, (cF _ ?_).2.1, (cF _ ?_).2.2⟩)
  · repeat (with_reducible first | exact Chg.refl _ _ | refine Chg.setCell ?_ (.inl (by simp)) _)
  · repeat (with_reducible first | exact Chg.refl _ _ | refine Chg.setCell ?_ (.inl (by simp)) _)
  · repeat (with_reducible first | exact Chg.refl _ _ | refine Chg.setCell ?_ (.inl (by simp)) _)
end


/-- a space in new memory -/
def SecNew (w : World) (N : Nat) (v : Value) (w' : World) : Prop := ∃ Q : SB, v = .tuple #[.pointer (some ⟨Q.s, 0, none⟩), .int .i64 0] ∧ SecS w' Q N [] 0 ∧ (∀ k, Q.has k → w.heap.size ≤ k) ∧ Chg No w w'

set_option maxRecDepth 100000 in
set_option maxHeartbeats 1000000 in
theorem secNew_ok (N : Nat) (hN : N ≤ 20000) (w : World) : Calls Tryz.prog 6 #[.int .i64 N] w (Ret (SecNew w N)) := by
  have hmm := @run_makeMap Tryz.prog
  have HE := Lib.hid (extNew_ok N hN w)
  go_enter Tryz.func6, Tryz.ntmps6
  go_wp2_with (first
    | (go_at_call 25
       refine HE.out.mono ?_
       rintro e w1 ⟨v1, rfl, B, rfl, he, hge, c1⟩
       have H1 := Lib.hid (And.intro he (And.intro hge c1))
       have hs1 := c1.size
       clear he hge c1)
    | fail)
  go_ret2
  have c2 : Chg No w1 ((w1.alloc (.map #[] 0)).alloc (.cells #[.pointer (some ⟨B.r, 0, none⟩), .map (some w1.heap.size), .int .i64 0] 69)) := ((Chg.refl _ _).alloc _).alloc _
  have hr := Row.new (w1.alloc (.map #[] 0)) 69 #[.pointer (some ⟨B.r, 0, none⟩), .map (some w1.heap.size), .int .i64 0]
  rw [show (w1.alloc (.map #[] 0)).heap.size = w1.heap.size + 1 by simp] at hr
  have hm : IMap ((w1.alloc (.map #[] 0)).alloc (.cells #[.pointer (some ⟨B.r, 0, none⟩), .map (some w1.heap.size), .int .i64 0] 69)) w1.heap.size [] := (IMap.new w1).keep (F := No) ((Chg.refl _ _).alloc _) (fun f => f)
  have hlt := fun k (hk : B.has k) => H1.out.1.lt hk
  refine Ret.mk ⟨⟨w1.heap.size + 1, w1.heap.size, B⟩, rfl, ⟨[], hr, H1.out.1.keep c2 (fun _ _ f => f), hm, fun k => rfl, List.Pairwise.nil, (by simp), (by simp), by omega, ?_⟩, ?_, H1.out.2.2.trans c2⟩
  · have := hlt B.v (.inr (.inr (.inr (.inr (.inr rfl)))))
    dsimp only
    omega
  · rintro k (rfl | rfl | hk)
    · dsimp only; omega
    · dsimp only; omega
    · exact H1.out.2.1 k hk

set_option maxHeartbeats 400000 in
theorem secNew_bad (n : Int) (hN : n < 0 ∨ 20000 < n) (w : World) : Calls Tryz.prog 6 #[.int .i64 n] w fun e w' => e = .returned (.tuple #[.pointer none, .int .i64 2]) ∧ w = w' := by
  have HD := Lib.hid (extNew_bad n hN w)
  clear hN
  go_enter Tryz.func6, Tryz.ntmps6
  go_wp2_with (first
    | (go_at_call 25; refine HD.out.mono ?_; rintro e w1 ⟨rfl, rfl⟩)
    | fail)
  go_ret2
  exact ⟨rfl, rfl⟩

section
variable {w : World} {Q : SB} {N made : Nat} {L : List Rw}


set_option maxRecDepth 100000 in
set_option maxHeartbeats 1000000 in
theorem secMake_bad (s : Nat) (v : Value) (o : O) (S : Nat → Prop) (ho : ObjR w S v o) (hk : okB o = false) :
    Calls Tryz.prog 7 #[.pointer (some ⟨s, 0, none⟩), v] w fun e w' => e = .returned (.tuple #[.int .i64 0, .int .i64 2]) ∧ Chg No w w' := by
  obtain ⟨wv, bv, rfl, h1, h2, c64, k64⟩ := ho
  obtain ⟨A, ca, rfl, -⟩ := h1.form
  obtain ⟨Bb, cb, rfl, -⟩ := h2.form
  simp only [cells2]
  obtain ⟨W1, hW1⟩ : ∃ W, w.alloc (.cells #[.int .i64 o.cls, .int .i64 o.kind, .slice A o.W.length ca, .slice Bb o.B.length cb] 35) = W := ⟨_, rfl⟩
  have c1 : Chg No w W1 := by rw [← hW1]; exact (Chg.refl _ _).alloc _
  have r1 : Row W1 w.heap.size 35 #[.int .i64 o.cls, .int .i64 o.kind, .slice A o.W.length ca, .slice Bb o.B.length cb] := by rw [← hW1]; exact Row.new w _ _
  have HO := Lib.hid (show ObjR W1 S (.agg #[.int .i64 o.cls, .int .i64 o.kind, .slice A o.W.length ca, .slice Bb o.B.length cb]) o from ⟨_, _, rfl, h1.keep c1 (fun _ _ f => f), h2.keep c1 (fun _ _ f => f), c64, k64⟩)
  have z := r1.four
  have HW := Lib.hid hW1
  have HC := Lib.hid c1
  have HQ := Lib.hid (Encode_bad _ o S W1 HO.out hk)
  clear h1 h2 hW1 c1 r1 hk
  go_enter Tryz.func7, Tryz.ntmps7
  go_wp2_with (first
    | (rw [HW.out])
    | (go_at_call 26; refine HQ.out.mono ?_; rintro e w2 ⟨rfl, c2⟩; have H2 := Lib.hid (HC.out.trans c2); clear c2)
    | fail)
  go_ret2
  exact ⟨rfl, H2.out⟩


set_option maxRecDepth 100000 in
set_option maxHeartbeats 1000000 in
theorem secMake_max (H : SecS w Q N L made) (v : Value) (o : O) (S : Nat → Prop) (ho : ObjR w S v o) (hk : okB o = true) (hm : made = 1048576) :
    Calls Tryz.prog 7 #[.pointer (some ⟨Q.s, 0, none⟩), v] w fun e w' => e = .returned (.tuple #[.int .i64 0, .int .i64 3]) ∧ Chg No w w' := by
  obtain ⟨es, H⟩ := H
  have HB := Lib.hid (show ∀ z ∈ o.B, 0 ≤ z ∧ z ≤ 255 by obtain ⟨wv, bv, -, -, h2, -⟩ := ho; exact h2.2)
  obtain ⟨wv, bv, rfl, h1, h2, c64, k64⟩ := ho
  obtain ⟨A, ca, rfl, -⟩ := h1.form
  obtain ⟨Bb, cb, rfl, -⟩ := h2.form
  simp only [cells2]
  obtain ⟨W1, hW1⟩ : ∃ W, w.alloc (.cells #[.int .i64 o.cls, .int .i64 o.kind, .slice A o.W.length ca, .slice Bb o.B.length cb] 35) = W := ⟨_, rfl⟩
  have c1 : Chg No w W1 := by rw [← hW1]; exact (Chg.refl _ _).alloc _
  have r1 : Row W1 w.heap.size 35 #[.int .i64 o.cls, .int .i64 o.kind, .slice A o.W.length ca, .slice Bb o.B.length cb] := by rw [← hW1]; exact Row.new w _ _
  have HO := Lib.hid (show ObjR W1 S (.agg #[.int .i64 o.cls, .int .i64 o.kind, .slice A o.W.length ca, .slice Bb o.B.length cb]) o from ⟨_, _, rfl, h1.keep c1 (fun _ _ f => f), h2.keep c1 (fun _ _ f => f), c64, k64⟩)
  have z := r1.four
  have HW := Lib.hid hW1
  have HC := Lib.hid c1
  have HQ := Lib.hid (Encode_ok _ o S W1 HO.out hk)
  have HI := Lib.hid H
  have t1 : ((made : Int) == 1048576) = true := by rw [hm]; rfl
  clear h1 h2 hW1 c1 r1 hk H hm
  go_enter Tryz.func7, Tryz.ntmps7
  go_wp2_with (first
    | (rw [HW.out])
    | (go_at_call 26
       refine HQ.out.mono ?_
       rintro e w2 ⟨v2, rfl, u2, rfl, ho2, c2⟩
       obtain ⟨A2, d2, rfl⟩ := ho2.form
       have c12 := HC.out.trans c2
       have f0 : w2.cell? ⟨Q.s, 0, none⟩ = some (.pointer (some ⟨Q.B.r, 0, none⟩)) := (HI.out.row.keep c12 (fun f => f)).cell 0
       have f2 : w2.cell? ⟨Q.s, 2, none⟩ = some (.int .i64 made) := (HI.out.row.keep c12 (fun f => f)).cell 2
       have g2 : w2.frozen? ⟨Q.s, 2, none⟩ = false := (HI.out.row.keep c12 (fun f => f)).frozen 2
       have hb2 := ho2.bytes (encB_bd HB.out)
       have H2 := Lib.hid (And.intro hb2 (And.intro c12 (And.intro (HI.out.ext.keep c12 (fun _ _ f => f)) HC.out.size)))
       have hs2 := c12.size
       clear ho2 c2 c12 hb2)
    | fail)
  go_ret2
  exact ⟨rfl, H2.out.2.1⟩

set_option maxRecDepth 100000 in
set_option maxHeartbeats 1000000 in
theorem secMake_full (H : SecS w Q N L made) (v : Value) (o : O) (S : Nat → Prop) (ho : ObjR w S v o) (hk : okB o = true) (hm : made ≠ 1048576) (hp : placeX (L.map Rw.xt) N (secN (encB o).length) = none) :
    Calls Tryz.prog 7 #[.pointer (some ⟨Q.s, 0, none⟩), v] w fun e w' => e = .returned (.tuple #[.int .i64 0, .int .i64 3]) ∧ Chg No w w' := by
  obtain ⟨es, H⟩ := H
  have HB := Lib.hid (show ∀ z ∈ o.B, 0 ≤ z ∧ z ≤ 255 by obtain ⟨wv, bv, -, -, h2, -⟩ := ho; exact h2.2)
  obtain ⟨wv, bv, rfl, h1, h2, c64, k64⟩ := ho
  obtain ⟨A, ca, rfl, -⟩ := h1.form
  obtain ⟨Bb, cb, rfl, -⟩ := h2.form
  simp only [cells2]
  obtain ⟨W1, hW1⟩ : ∃ W, w.alloc (.cells #[.int .i64 o.cls, .int .i64 o.kind, .slice A o.W.length ca, .slice Bb o.B.length cb] 35) = W := ⟨_, rfl⟩
  have c1 : Chg No w W1 := by rw [← hW1]; exact (Chg.refl _ _).alloc _
  have r1 : Row W1 w.heap.size 35 #[.int .i64 o.cls, .int .i64 o.kind, .slice A o.W.length ca, .slice Bb o.B.length cb] := by rw [← hW1]; exact Row.new w _ _
  have HO := Lib.hid (show ObjR W1 S (.agg #[.int .i64 o.cls, .int .i64 o.kind, .slice A o.W.length ca, .slice Bb o.B.length cb]) o from ⟨_, _, rfl, h1.keep c1 (fun _ _ f => f), h2.keep c1 (fun _ _ f => f), c64, k64⟩)
  have z := r1.four
  have HW := Lib.hid hW1
  have HC := Lib.hid c1
  have HQ := Lib.hid (Encode_ok _ o S W1 HO.out hk)
  have HI := Lib.hid H
  have t1 : ((made : Int) == 1048576) = false := beq_eq_false_iff_ne.2 (by omega)
  have hle : (encB o).length ≤ 1000000 := by have := encB_len o; have := okB_cases hk; omega
  have HP := Lib.hid (And.intro hp hle)
  clear h1 h2 hW1 c1 r1 hk H hm hp hle
  go_enter Tryz.func7, Tryz.ntmps7
  go_wp2_with (first
    | (rw [HW.out])
    | (go_at_call 26
       refine HQ.out.mono ?_
       rintro e w2 ⟨v2, rfl, u2, rfl, ho2, c2⟩
       obtain ⟨A2, d2, rfl⟩ := ho2.form
       have c12 := HC.out.trans c2
       have f0 : w2.cell? ⟨Q.s, 0, none⟩ = some (.pointer (some ⟨Q.B.r, 0, none⟩)) := (HI.out.row.keep c12 (fun f => f)).cell 0
       have f2 : w2.cell? ⟨Q.s, 2, none⟩ = some (.int .i64 made) := (HI.out.row.keep c12 (fun f => f)).cell 2
       have g2 : w2.frozen? ⟨Q.s, 2, none⟩ = false := (HI.out.row.keep c12 (fun f => f)).frozen 2
       have hb2 := ho2.bytes (encB_bd HB.out)
       have H2 := Lib.hid (And.intro hb2 (And.intro c12 (And.intro (HI.out.ext.keep c12 (fun _ _ f => f)) HC.out.size)))
       have hs2 := c12.size
       clear ho2 c2 c12 hb2)
    | (go_at_call 27
       refine (Put_none H2.out.2.2.1 _ _ _ H2.out.1 HP.out.2 HP.out.1).mono ?_
       rintro e w3 ⟨rfl, c3⟩
       have H3 := Lib.hid (H2.out.2.1.trans c3)
       clear c3)
    | fail)
  go_ret2
  exact ⟨rfl, H3.out.alloc _⟩

/-- what Make gives -/
def Made1 (w : World) (Q : SB) (N : Nat) (L : List Rw) (made : Nat) (o : O) (f : Nat) (v : Value) (w' : World) : Prop := v = .tuple #[.int .i64 ((made + 1 : Nat) : Int), .int .i64 0] ∧ SecS w' Q N (L ++ [⟨((made + 1 : Nat) : Int), o, f⟩]) (made + 1) ∧ Chg Q.has w w'

set_option maxRecDepth 100000 in
set_option maxHeartbeats 1000000 in
theorem secMake_ok (H : SecS w Q N L made) (v : Value) (o : O) (S : Nat → Prop) (ho : ObjR w S v o) (hk : okB o = true) (hm : made ≠ 1048576) {f : Nat} (hp : placeX (L.map Rw.xt) N (secN (encB o).length) = some f) :
    Calls Tryz.prog 7 #[.pointer (some ⟨Q.s, 0, none⟩), v] w (Ret (Made1 w Q N L made o f)) := by
  have HLT := Lib.hid (fun k (hk : Q.has k) => H.lt hk)
  obtain ⟨es, H⟩ := H
  have HB := Lib.hid (show ∀ z ∈ o.B, 0 ≤ z ∧ z ≤ 255 by obtain ⟨wv, bv, -, -, h2, -⟩ := ho; exact h2.2)
  obtain ⟨wv, bv, rfl, h1, h2, c64, k64⟩ := ho
  obtain ⟨A, ca, rfl, -⟩ := h1.form
  obtain ⟨Bb, cb, rfl, -⟩ := h2.form
  simp only [cells2]
  obtain ⟨W1, hW1⟩ : ∃ W, w.alloc (.cells #[.int .i64 o.cls, .int .i64 o.kind, .slice A o.W.length ca, .slice Bb o.B.length cb] 35) = W := ⟨_, rfl⟩
  have c1 : Chg No w W1 := by rw [← hW1]; exact (Chg.refl _ _).alloc _
  have r1 : Row W1 w.heap.size 35 #[.int .i64 o.cls, .int .i64 o.kind, .slice A o.W.length ca, .slice Bb o.B.length cb] := by rw [← hW1]; exact Row.new w _ _
  have HO := Lib.hid (show ObjR W1 S (.agg #[.int .i64 o.cls, .int .i64 o.kind, .slice A o.W.length ca, .slice Bb o.B.length cb]) o from ⟨_, _, rfl, h1.keep c1 (fun _ _ f => f), h2.keep c1 (fun _ _ f => f), c64, k64⟩)
  have z := r1.four
  have HW := Lib.hid hW1
  have HC := Lib.hid c1
  have HQ := Lib.hid (Encode_ok _ o S W1 HO.out hk)
  have HI := Lib.hid H
  have HNE := Lib.hid H.ne
  have hmx := H.max
  have t1 : ((made : Int) == 1048576) = false := beq_eq_false_iff_ne.2 (by omega)
  have hle : 1 ≤ (encB o).length ∧ (encB o).length ≤ 1000000 := by have := encB_len o; have := okB_cases hk; omega
  have HP := Lib.hid (And.intro hp (And.intro hle hk))
  clear h1 h2 hW1 c1 r1 hk H hp hle
  go_enter Tryz.func7, Tryz.ntmps7
  go_wp2_with (first
    | (rw [HW.out])
    | (go_at_call 26
       refine HQ.out.mono ?_
       rintro e w2 ⟨v2, rfl, u2, rfl, ho2, c2⟩
       obtain ⟨A2, d2, rfl⟩ := ho2.form
       have c12 := HC.out.trans c2
       have f0 : w2.cell? ⟨Q.s, 0, none⟩ = some (.pointer (some ⟨Q.B.r, 0, none⟩)) := (HI.out.row.keep c12 (fun f => f)).cell 0
       have f2 : w2.cell? ⟨Q.s, 2, none⟩ = some (.int .i64 made) := (HI.out.row.keep c12 (fun f => f)).cell 2
       have g2 : w2.frozen? ⟨Q.s, 2, none⟩ = false := (HI.out.row.keep c12 (fun f => f)).frozen 2
       have hb2 := ho2.bytes (encB_bd HB.out)
       have H2 := Lib.hid (And.intro hb2 (And.intro c12 (And.intro (HI.out.ext.keep c12 (fun _ _ f => f)) HC.out.size)))
       have hs2 := c12.size
       clear ho2 c2 c12 hb2)
    | (go_at_call 27
       refine (Put_some H2.out.2.2.1 _ _ _ H2.out.1 (fun k hk hb => by have := HLT.out k (.inr (.inr hb)); have := H2.out.2.2.2; omega) HP.out.2.1.1 HP.out.2.1.2 HP.out.1).mono ?_
       rintro e w3 ⟨v3, rfl, rfl, he3, c3⟩
       have hr3 := (HI.out.row.keep H2.out.2.1 (fun f => f)).keep c3 HNE.out.2.1
       have x2 : w3.cell? ⟨Q.s, 2, none⟩ = some (.int .i64 made) := hr3.cell 2
       have xf := hr3.frozen 2
       have hsl := hr3.lt
       have H3 := Lib.hid (And.intro he3 (And.intro c3 hr3))
       clear he3 c3 hr3)
    | fail)
  generalize hV : World.alloc (World.setCell w3 _ _) _ = V1
  have hsz : (w3.setCell ⟨Q.s, 2, none⟩ (.int .i64 ((made : Int) + 1))).heap.size = w3.heap.size := by simp [World.setCell]
  have cV : Chg (fun k => k = Q.s) w3 V1 := by rw [← hV]; exact (Chg.setCell (F := fun k => k = Q.s) (Chg.refl _ _) (.inl rfl) _).alloc _
  have rowV : Row V1 Q.s 69 #[.pointer (some ⟨Q.B.r, 0, none⟩), .map (some Q.t), .int .i64 ((made : Int) + 1)] := by
    rw [← hV]
    exact (H3.out.2.2.set 2 (.int .i64 ((made : Int) + 1))).alloc _
  have rx : Row V1 w3.heap.size 47 #[.int .i64 f, .int .i64 (Xt.n ⟨f, encB o⟩), .int .i64 (encB o).length] := by
    rw [← hV]
    have := Row.new (w3.setCell ⟨Q.s, 2, none⟩ (.int .i64 ((made : Int) + 1))) 47 #[.int .i64 f, .int .i64 (Xt.n ⟨f, encB o⟩), .int .i64 (encB o).length]
    rw [hsz] at this
    exact this
  have htab := ((HI.out.tab.keep H2.out.2.1 (fun f => f)).keep H3.out.2.1 HNE.out.2.2).keep cV HNE.out.1.symm
  obtain ⟨ob, hob⟩ := htab.updates (P := Tryz.prog) elem_tab Tryz.underlying3 ((made : Int) + 1) (.agg #[.int .i64 f, .int .i64 (Xt.n ⟨f, encB o⟩), .int .i64 (encB o).length])
  obtain ⟨hrun, hmap⟩ := hob V1.drew rfl
  have c4 : Chg (fun k => k = Q.t) V1 (setBlock V1.drew Q.t ob) := Chg.setBlock (F := fun k => k = Q.t) (Chg.refl _ _).drew (.inl rfl) _
  generalize setBlock V1.drew Q.t ob = W4 at *
  have rowW := rowV.keep c4 HNE.out.1
  have p1 : V1.cell? ⟨Q.s, 1, none⟩ = some (.map (some Q.t)) := rowV.cell 1
  have p2 : V1.cell? ⟨Q.s, 2, none⟩ = some (.int .i64 ((made : Int) + 1)) := rowV.cell 2
  have q2 : W4.cell? ⟨Q.s, 2, none⟩ = some (.int .i64 ((made : Int) + 1)) := rowW.cell 2
  obtain ⟨x0, x1, x3, -⟩ := IExt.cells rx
  have hext := (H3.out.1.keep cV (fun k hk e => HNE.out.2.1 (by rw [← e]; exact hk))).keep c4 (fun k hk e => HNE.out.2.2 (by rw [← e]; exact hk))
  have hch : Chg Q.has w W4 := ((H2.out.2.1.no.trans (H3.out.2.1.mono fun k _ h => .inr (.inr h))).trans (cV.mono fun k _ h => .inl h)).trans (c4.mono fun k _ h => .inr (.inl h))
  have HF := Lib.hid (And.intro hext (And.intro hch (And.intro rowW hmap)))
  clear hV hsz cV rowV rx htab hob c4 rowW hext hch hmap f0 f2 g2 x2 xf
  go_region
  go_wp2_with fail
  go_ret2
  obtain ⟨hext, hch, rowW, hmap⟩ := HF.out
  have e1 : ((made + 1 : Nat) : Int) = (made : Int) + 1 := by omega
  have hlt : ∀ r ∈ L, r.id < (⟨((made + 1 : Nat) : Int), o, f⟩ : Rw).id := fun r hr => by have := HI.out.ids r hr; show r.id < ((made + 1 : Nat) : Int); omega
  refine Ret.mk ⟨by rw [e1]; rfl, ⟨_, ?_, ?_, hmap, fun k => ?_, ?_, fun r hr => ?_, fun r hr => ?_, by omega, HI.out.tv⟩, hch⟩
  · rw [e1]; exact rowW
  · rw [List.map_append]
    exact hext.perm (List.perm_append_comm (l₁ := [(⟨f, encB o⟩ : Xt)]) (l₂ := L.map Rw.xt))
  · rw [mget_mset, HI.out.get, lk_last hlt]
    show (if (k == (made : Int) + 1) = true then _ else _) = Option.map _ (if k = ((made + 1 : Nat) : Int) then _ else _)
    by_cases e : k = (made : Int) + 1
    · rw [if_pos (by simpa using e), if_pos (by omega)]
      rfl
    · rw [if_neg (by simpa using e), if_neg (by omega)]
  · rw [Rising, List.pairwise_append]
    exact ⟨HI.out.rise, List.pairwise_singleton _ _, fun a ha b hb => by rw [List.mem_singleton] at hb; rw [hb]; exact hlt a ha⟩
  · rw [List.mem_append, List.mem_singleton] at hr
    rcases hr with hr | rfl
    · have := HI.out.ids r hr; omega
    · dsimp only; omega
  · rw [List.mem_append, List.mem_singleton] at hr
    rcases hr with hr | rfl
    · exact HI.out.ok r hr
    · exact ⟨HP.out.2.2, HB.out⟩
end

end Go.Proofs.YtdpmmafkomchaaaGreat
