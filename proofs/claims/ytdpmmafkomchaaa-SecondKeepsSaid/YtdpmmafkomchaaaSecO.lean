/- Objects on a disk: what a space stands for: rows of a number, an object, and where its bytes are. Plain laws; no walk here. -/
import Derived.Test.YtdpmmafkomchaaaSecN
import Derived.Test.YtdpmmafkomchaaaEncPl
namespace Go.Proofs.Ytdpmmafkomchaaa
set_option linter.unusedVariables false
set_option linter.unusedSimpArgs false
open Go.RowKit
open Go.ChangeMaps (setBlock)

/-- 'm[k]', and whether it is there -/
theorem IMap.lookupOk {w : World} {b : Nat} {l : List (Int × Value)} {P : Program} {T K E : TypeId} (h : IMap w b l) (hT : P.underlying T = some (.map K E)) (hK : P.underlying K = some (.int .i64)) {z : Value} (hz : ∀ w, (zeroValue E).run P w = .ok z w) (k : Int) :
    (Instr.lookup T (.map (some b)) (.int .i64 k) true).run P w = .ok (.tuple #[(mget k l).getD z, .bool (mget k l).isSome]) w := by
  obtain ⟨es, clock, hb, hl, _⟩ := h
  have hc : ∀ e w, (Instr.checkKey e 10000 K (.int .i64 k)).run P w = .ok () w := fun e w => run_checkKey hK e 9999 k w
  have hf := fun w => run_findKey (P := P) hK k es.toList l hl w
  rw [← mfind_mget k l 0]
  cases hm : mfind k l 0 with
  | none =>
    rw [hm] at hf
    simp [Instr.lookup, run_underlying hT, MapKept.run_getObj_map hb, hc, hf, hz]
  | some x =>
    rw [hm] at hf
    simp [Instr.lookup, run_underlying hT, MapKept.run_getObj_map hb, hc, hf]

/-- an object, its number, and the sector where its bytes begin -/
structure Rw where
  id : Int
  o : O
  f : Nat
def Rw.xt (r : Rw) : Xt := ⟨r.f, encB r.o⟩
def exV (x : Xt) : Value := .agg #[.int .i64 x.f, .int .i64 x.n, .int .i64 x.b.length]
/-- the row of a number -/
def lk (L : List Rw) (k : Int) : Option Rw := L.find? fun r => r.id == k
/-- without one; one another -/
def delR (L : List Rw) (k : Int) : List Rw := L.filter fun r => !(r.id == k)
def setR (L : List Rw) (k : Int) (x : Rw) : List Rw := L.map fun r => if r.id == k then x else r
abbrev Rising (L : List Rw) : Prop := L.Pairwise fun a b => a.id < b.id
section
variable {L : List Rw} {k j : Int} {r x : Rw}
theorem lk_mem (h : lk L k = some r) : r ∈ L ∧ r.id = k := by
  have h1 := List.mem_of_find?_eq_some h
  have h2 := List.find?_some h
  exact ⟨h1, by simpa using h2⟩
theorem lk_none : lk L k = none ↔ ∀ r ∈ L, r.id ≠ k := by
  unfold lk
  rw [List.find?_eq_none]
  simp
theorem Rising.inj (h : Rising L) {a b : Rw} (ha : a ∈ L) (hb : b ∈ L) (e : a.id = b.id) : a = b := by
  induction L with
  | nil => cases ha
  | cons y L ih =>
    rw [Rising, List.pairwise_cons] at h
    rcases List.mem_cons.1 ha with rfl | ha'
    · rcases List.mem_cons.1 hb with rfl | hb'
      · rfl
      · have := h.1 b hb'; omega
    · rcases List.mem_cons.1 hb with rfl | hb'
      · have := h.1 a ha'; omega
      · exact ih h.2 ha' hb'
theorem lk_of_mem (h : Rising L) (hr : r ∈ L) : lk L r.id = some r := by
  cases he : lk L r.id with
  | none => exact absurd rfl (lk_none.1 he r hr)
  | some y =>
    obtain ⟨h1, h2⟩ := lk_mem he
    rw [h.inj h1 hr h2]
theorem lk_last (hk : ∀ r ∈ L, r.id < x.id) (j : Int) : lk (L ++ [x]) j = if j = x.id then some x else lk L j := by
  unfold lk
  rw [List.find?_append]
  by_cases e : j = x.id
  · rw [if_pos e]
    have h1 : L.find? (fun r => r.id == j) = none := by
      rw [List.find?_eq_none]
      intro r hr
      have := hk r hr
      simp
      omega
    rw [h1]
    simp [e]
  · rw [if_neg e]
    have : ¬ x.id = j := fun h => e h.symm
    simp [this]
theorem lk_del (L : List Rw) (k j : Int) : lk (delR L k) j = if j = k then none else lk L j := by
  unfold lk delR
  induction L with
  | nil => simp
  | cons y L ih =>
    rw [List.filter_cons]
    by_cases e : y.id = k
    · have e1 : (!(y.id == k)) = false := by simp [e]
      rw [e1]
      simp only [Bool.false_eq_true, if_false]
      rw [ih]
      by_cases e2 : j = k
      · rw [if_pos e2, if_pos e2]
      · rw [if_neg e2, if_neg e2, List.find?_cons]
        have : (y.id == j) = false := by rw [e]; simpa using fun h => e2 h.symm
        rw [this]
    · have e1 : (!(y.id == k)) = true := by simp [e]
      rw [e1]
      simp only [if_true]
      rw [List.find?_cons, List.find?_cons, ih]
      by_cases e2 : j = k
      · subst e2
        have : (y.id == j) = false := by simpa using e
        rw [this]
      · rw [if_neg e2, if_neg e2]
theorem lk_set (L : List Rw) (hx : x.id = k) (j : Int) : lk (setR L k x) j = if j = k then (lk L k).map (fun _ => x) else lk L j := by
  unfold lk setR
  induction L with
  | nil => simp
  | cons y L ih =>
    rw [List.map_cons, List.find?_cons, ih, List.find?_cons]
    by_cases e : y.id = k
    · have e1 : (y.id == k) = true := by simp [e]
      simp only [e1, if_true]
      by_cases e2 : j = k
      · subst e2
        have e3 : (x.id == j) = true := by simp [hx]
        simp [e3]
      · have e3 : (x.id == j) = false := by rw [hx]; simpa using fun h => e2 h.symm
        have e4 : (y.id == j) = false := by rw [e]; simpa using fun h => e2 h.symm
        rw [e3, if_neg e2, if_neg e2, List.find?_cons, e4]
    · have e1 : (y.id == k) = false := by simpa using e
      simp only [e1, Bool.false_eq_true, if_false]
      by_cases e2 : j = k
      · subst e2
        rw [e1, if_pos rfl, if_pos rfl]
      · rw [if_neg e2, if_neg e2, List.find?_cons]
theorem del_other (h : ∀ r ∈ L, r.id ≠ k) : delR L k = L := by
  unfold delR
  rw [List.filter_eq_self]
  intro r hr
  simpa using h r hr
theorem set_other (h : ∀ r ∈ L, r.id ≠ k) : setR L k x = L := by
  unfold setR
  rw [List.map_congr_left (g := id) (fun r hr => by
    have : (r.id == k) = false := by simpa using h r hr
    rw [this]
    rfl), List.map_id]
theorem del_perm (h : Rising L) (hr : lk L k = some r) : L.Perm (r :: delR L k) := by
  induction L with
  | nil => cases hr
  | cons y L ih =>
    rw [Rising, List.pairwise_cons] at h
    unfold lk at hr
    rw [List.find?_cons] at hr
    by_cases e : y.id = k
    · have e1 : (y.id == k) = true := by simp [e]
      rw [e1] at hr
      have hry : y = r := Option.some.inj hr
      have e2 : delR (y :: L) k = delR L k := by unfold delR; rw [List.filter_cons]; simp [e]
      rw [e2, del_other (fun r hr => by have := h.1 r hr; omega), hry]
    · have e1 : (y.id == k) = false := by simpa using e
      rw [e1] at hr
      have ih := ih h.2 hr
      have e2 : delR (y :: L) k = y :: delR L k := by unfold delR; rw [List.filter_cons]; simp [e]
      rw [e2]
      exact (List.Perm.cons y ih).trans (List.Perm.swap _ _ _)
theorem set_perm (h : Rising L) (hr : lk L k = some r) : (setR L k x).Perm (x :: delR L k) := by
  induction L with
  | nil => cases hr
  | cons y L ih =>
    rw [Rising, List.pairwise_cons] at h
    unfold lk at hr
    rw [List.find?_cons] at hr
    have e0 : setR (y :: L) k x = (if y.id == k then x else y) :: setR L k x := rfl
    by_cases e : y.id = k
    · have e1 : (y.id == k) = true := by simp [e]
      have e2 : delR (y :: L) k = delR L k := by unfold delR; rw [List.filter_cons]; simp [e]
      have ho : ∀ r ∈ L, r.id ≠ k := fun r hr => by have := h.1 r hr; omega
      rw [e0, e2, if_pos e1, del_other ho, set_other ho]
    · have e1 : (y.id == k) = false := by simpa using e
      rw [e1] at hr
      have ih := ih h.2 hr
      have e2 : delR (y :: L) k = y :: delR L k := by unfold delR; rw [List.filter_cons]; simp [e]
      rw [e0, e2, if_neg (by rw [e1]; decide)]
      exact (List.Perm.cons y ih).trans (List.Perm.swap _ _ _)
theorem set_ids (hx : x.id = k) : (setR L k x).map Rw.id = L.map Rw.id := by
  unfold setR
  rw [List.map_map]
  refine List.map_congr_left fun r _ => ?_
  simp only [Function.comp]
  by_cases e : r.id = k
  · simp [e, hx]
  · simp [e]
theorem rising_iff : Rising L ↔ (L.map Rw.id).Pairwise (· < ·) := by
  rw [List.pairwise_map]
theorem set_rising (h : Rising L) (hx : x.id = k) : Rising (setR L k x) := by
  rw [rising_iff, set_ids hx, ← rising_iff]
  exact h
theorem del_rising (h : Rising L) : Rising (delR L k) := List.Pairwise.filter _ h
theorem del_mem (hr : r ∈ delR L k) : r ∈ L := (List.mem_filter.1 hr).1
theorem set_mem (hr : r ∈ setR L k x) : r = x ∨ r ∈ L := by
  unfold setR at hr
  obtain ⟨y, hy, rfl⟩ := List.mem_map.1 hr
  by_cases e : (y.id == k) = true
  · rw [if_pos e]; exact .inl rfl
  · rw [if_neg e]; exact .inr hy
end

/-- a space's blocks -/
structure SB where
  s : Nat
  t : Nat
  B : Blk
def SB.has (Q : SB) (k : Nat) : Prop := k = Q.s ∨ k = Q.t ∨ Q.B.has k
/-- the space Q has N sectors, the objects L stand on it, made were made -/
structure SecI (w : World) (Q : SB) (N : Nat) (L : List Rw) (made : Nat) (es : List (Int × Value)) : Prop where
  row : Row w Q.s 61 #[.pointer (some ⟨Q.B.r, 0, none⟩), .map (some Q.t), .int .i64 made]
  ext : ExtS w Q.B N (L.map Rw.xt)
  tab : IMap w Q.t es
  get : ∀ k, mget k es = (lk L k).map fun r => exV r.xt
  rise : Rising L
  ids : ∀ r ∈ L, 1 ≤ r.id ∧ r.id ≤ made
  ok : ∀ r ∈ L, okB r.o = true ∧ ∀ z ∈ r.o.B, 0 ≤ z ∧ z ≤ 255
  max : made ≤ 1048576
  tv : Q.t ≠ Q.B.v
def SecS (w : World) (Q : SB) (N : Nat) (L : List Rw) (made : Nat) : Prop := ∃ es, SecI w Q N L made es
section
variable {w w' : World} {Q : SB} {N made : Nat} {L : List Rw} {es : List (Int × Value)} {F : Nat → Prop}
theorem SecI.keep (H : SecI w Q N L made es) (c : Chg F w w') (hF : ∀ k, Q.has k → ¬ F k) : SecI w' Q N L made es :=
  ⟨H.row.keep c (hF _ (.inl rfl)), H.ext.keep c (fun k hk => hF k (.inr (.inr hk))), H.tab.keep c (hF _ (.inr (.inl rfl))), H.get, H.rise, H.ids, H.ok, H.max, H.tv⟩
theorem SecS.keep (H : SecS w Q N L made) (c : Chg F w w') (hF : ∀ k, Q.has k → ¬ F k) : SecS w' Q N L made := by
  obtain ⟨es, H⟩ := H
  exact ⟨es, H.keep c hF⟩
theorem SecI.lt (H : SecI w Q N L made es) {k : Nat} (hk : Q.has k) : k < w.heap.size := by
  rcases hk with rfl | rfl | hk
  · exact H.row.lt
  · exact H.tab.lt
  · exact H.ext.lt hk
theorem SecS.lt (H : SecS w Q N L made) {k : Nat} (hk : Q.has k) : k < w.heap.size := by
  obtain ⟨es, H⟩ := H
  exact H.lt hk
/-- the space's own two blocks are not among the other ones, nor the same -/
theorem SecI.ne (H : SecI w Q N L made es) : Q.s ≠ Q.t ∧ ¬ Q.B.has Q.s ∧ ¬ Q.B.has Q.t := by
  obtain ⟨D, ws, E, HE, -⟩ := H.ext
  obtain ⟨r, u, hd⟩ := HE.disk.row
  have hr := H.row
  have ht := H.tab
  refine ⟨(ht.ne_row hr).symm, ?_, ?_⟩
  · rintro (h | h | h | h | h | h)
    · exact hr.ne HE.row (by decide) h
    · exact hr.ne hd (by decide) h
    · exact hr.ne HE.disk.brow (by decide) h
    · exact hr.ne HE.bits.row (by decide) h
    · exact hr.ne HE.bits.wrow (by decide) h
    · exact HE.live.ne_row hr h.symm
  · rintro (h | h | h | h | h | h)
    · exact ht.ne_row HE.row h
    · exact ht.ne_row hd h
    · exact ht.ne_row HE.disk.brow h
    · exact ht.ne_row HE.bits.row h
    · exact ht.ne_row HE.bits.wrow h
    · exact H.tv h
end

end Go.Proofs.Ytdpmmafkomchaaa
