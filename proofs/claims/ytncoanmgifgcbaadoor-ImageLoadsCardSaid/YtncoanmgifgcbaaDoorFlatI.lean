/- An iteration over a map with integer keys. No program is named here. · A flat memory's Next: which is met behind one. · A flat memory's Become: two change places. -/
import Derived.Test.YtncoanmgifgcbaaDoorLibA
import Derived.Test.YtncoanmgifgcbaaDoorFlatG
import Derived.Maps.RangeRun
import Derived.Maps.Range
import Derived.BigRegion
namespace Go.Proofs.YtncoanmgifgcbaaDoor
set_option linter.unusedVariables false
set_option linter.unusedSimpArgs false
open Go.RowKit
open Go.ChangeMaps (setBlock)

/-- in block r an iteration over the map in block b, which holds l; V: the keys that have come -/
def Iter (w : World) (b r : Nat) (l : List (Int × Value)) (V : Int → Prop) : Prop :=
  ∃ es clock since seen c0, w.heap[b]? = some (.map es clock) ∧ es.toList.map (fun e => (e.key, e.val)) = l.map (fun x => (Value.int .i64 x.1, x.2)) ∧
    (∀ e ∈ es.toList, e.born < clock) ∧ (es.toList.map (·.born)).Nodup ∧ (l.map (·.1)).Nodup ∧
    w.heap[r]? = some (.mapIter (some b) since seen c0) ∧ (∀ x ∈ es.toList, x.born < since) ∧ since ≤ c0 ∧ since ≤ clock ∧
    (∀ e ∈ es.toList, ∀ k, e.key = .int .i64 k → (seen.contains e.born = true ↔ V k))

/-- an entry is one of the list's -/
theorem entry_mem {es : List MapEntry} {l : List (Int × Value)} (h : es.map (fun e => (e.key, e.val)) = l.map (fun x => (Value.int .i64 x.1, x.2))) {e : MapEntry} (he : e ∈ es) : ∃ k, e.key = .int .i64 k ∧ (k, e.val) ∈ l := by
  have h1 : (e.key, e.val) ∈ l.map (fun x => (Value.int .i64 x.1, x.2)) := by
    rw [← h]
    exact List.mem_map.2 ⟨e, he, rfl⟩
  obtain ⟨x, hx, e1⟩ := List.mem_map.1 h1
  simp only [Prod.mk.injEq] at e1
  exact ⟨x.1, e1.1.symm, by rw [← e1.2]; exact hx⟩
theorem mem_entry {es : List MapEntry} {l : List (Int × Value)} (h : es.map (fun e => (e.key, e.val)) = l.map (fun x => (Value.int .i64 x.1, x.2))) {k : Int} {u : Value} (hk : (k, u) ∈ l) : ∃ e ∈ es, e.key = .int .i64 k ∧ e.val = u := by
  have h1 : (Value.int .i64 k, u) ∈ es.map (fun e => (e.key, e.val)) := by
    rw [h]
    exact List.mem_map.2 ⟨(k, u), hk, rfl⟩
  obtain ⟨e, he, e1⟩ := List.mem_map.1 h1
  simp only [Prod.mk.injEq] at e1
  exact ⟨e, he, e1.1, e1.2⟩
theorem keys_nodup {es : List MapEntry} {l : List (Int × Value)} (h : es.map (fun e => (e.key, e.val)) = l.map (fun x => (Value.int .i64 x.1, x.2))) (hn : (l.map (·.1)).Nodup) : (es.map (·.key)).Nodup := by
  have h1 : es.map (·.key) = (l.map (·.1)).map (Value.int .i64) := by
    have := congrArg (List.map (·.1)) h
    simpa [Function.comp_def] using this
  rw [h1]
  exact List.Pairwise.map _ (fun a b hab e => hab (by cases e; rfl)) hn
theorem inj_of_nodup {α β : Type} {f : α → β} {l : List α} (h : (l.map f).Nodup) {x y : α} (hx : x ∈ l) (hy : y ∈ l) (e : f x = f y) : x = y := by
  induction l with
  | nil => cases hx
  | cons a r ih =>
    rw [List.map_cons, List.nodup_cons] at h
    rcases List.mem_cons.1 hx with h1 | h1
    · rcases List.mem_cons.1 hy with h2 | h2
      · rw [h1, h2]
      · exact absurd (List.mem_map.2 ⟨y, h2, by rw [← e, h1]⟩) h.1
    · rcases List.mem_cons.1 hy with h2 | h2
      · exact absurd (List.mem_map.2 ⟨x, h1, by rw [e, h2]⟩) h.1
      · exact ih h.2 h1 h2

section
variable {w w' : World} {b r : Nat} {l : List (Int × Value)} {V : Int → Prop} {F : Nat → Prop} {P : Program}
theorem Iter.imap (h : Iter w b r l V) : IMap w b l := by
  obtain ⟨es, clock, since, seen, c0, h1, h2, h3, h4, h5, _⟩ := h
  exact ⟨es, clock, h1, h2, h3, h4, h5⟩
theorem Iter.lt (h : Iter w b r l V) : r < w.heap.size := by
  obtain ⟨es, clock, since, seen, c0, h1, h2, h3, h4, h5, h6, _⟩ := h
  exact lt_of_block h6
theorem Iter.keep (h : Iter w b r l V) (c : Chg F w w') (hb : ¬ F b) (hr : ¬ F r) : Iter w' b r l V := by
  have hb' := h.imap.lt
  have hr' := h.lt
  obtain ⟨es, clock, since, seen, c0, h1, h2, h3, h4, h5, h6, h7⟩ := h
  exact ⟨es, clock, since, seen, c0, (c.block b hb' hb).trans h1, h2, h3, h4, h5, (c.block r hr' hr).trans h6, h7⟩
theorem Iter.iff {V' : Int → Prop} (h : Iter w b r l V) (hV : ∀ k, V k ↔ V' k) : Iter w b r l V' := by
  obtain ⟨es, clock, since, seen, c0, h1, h2, h3, h4, h5, h6, h7, h8, h8', h9⟩ := h
  exact ⟨es, clock, since, seen, c0, h1, h2, h3, h4, h5, h6, h7, h8, h8', fun e he k hk => (h9 e he k hk).trans (hV k)⟩

/-- 'range m' -/
theorem IMap.range {t k e : TypeId} (h : IMap w b l) (ht : P.underlying t = some (.map k e)) :
    ∃ w', (Instr.range t (.map (some b))).run P w = .ok (.pointer (some ⟨w.heap.size, 0, none⟩)) w' ∧ Iter w' b w.heap.size l (fun _ => False) ∧ Chg No w w' ∧ w'.heap.size = w.heap.size + 1 := by
  have hlt := h.lt
  obtain ⟨es, clock, hb, hl, hborn, hnd, hn⟩ := h
  refine ⟨w.alloc (.mapIter (some b) clock #[] clock), ?_, ?_, (Chg.refl _ _).alloc _, by simp⟩
  · simp [Instr.range, run_underlying ht, MapKept.run_getObj_map hb]
  · refine ⟨es, clock, clock, #[], clock, (Below.heap_alloc w _ b hlt).trans hb, hl, hborn, hnd, hn, heap_alloc_new w _, hborn, Nat.le_refl _, Nat.le_refl _, fun e he k hk => ?_⟩
    simp

/-- 'next': either all keys have come, or one that has not comes -/
theorem Iter.next (h : Iter w b r l V) (ty : TypeId) : ((∀ k ∈ l.map (·.1), V k) ∧ (Instr.next (.pointer (some ⟨r, 0, none⟩)) false ty).run P w = .ok (.tuple #[.bool false]) w) ∨
    ∃ k u w', (k, u) ∈ l ∧ ¬ V k ∧ (Instr.next (.pointer (some ⟨r, 0, none⟩)) false ty).run P w = .ok (.tuple #[.bool true, .int .i64 k, u]) w' ∧ Iter w' b r l (fun x => V x ∨ x = k) ∧ Chg (fun x => x = r) w w' ∧ w'.heap.size = w.heap.size ∧
      (Instr.entry (.pointer (some ⟨r, 0, none⟩))).run P w' = .ok (.tuple #[.int .i64 k, u]) w' := by
  have hrl := h.lt
  have hbl := h.imap.lt
  obtain ⟨es, clock, since, seen, c0, h1, h2, h3, h4, h5, h6, h7, h8, h8', h9⟩ := h
  have hrb : b ≠ r := by
    rintro rfl
    rw [h1] at h6
    cases h6
  rcases run_next_at w ty r b since c0 seen es clock h6 h1 h7 h8 with ⟨hz, hrun⟩ | ⟨e, he, w1, hw1, hrun⟩
  · refine .inl ⟨fun k hk => ?_, hrun⟩
    obtain ⟨⟨k', u⟩, hx, rfl⟩ := List.mem_map.1 hk
    obtain ⟨e, hee, hkey, _⟩ := mem_entry h2 hx
    have hem : leftOf es seen = #[] := Array.eq_empty_of_size_eq_zero hz
    cases hc : seen.contains e.born with
    | true => exact (h9 e hee _ hkey).1 hc
    | false =>
      have : e ∈ leftOf es seen := by
        unfold leftOf
        rw [Array.mem_filter]
        exact ⟨by simpa using hee, by rw [hc]; rfl⟩
      rw [hem] at this
      simp at this
  · right
    have hem : e ∈ es.toList ∧ seen.contains e.born = false := by
      unfold leftOf at he
      have he' : e ∈ Array.filter (fun e => !seen.contains e.born) es := by simpa using he
      rw [Array.mem_filter] at he'
      exact ⟨by simpa using he'.1, by simpa using he'.2⟩
    obtain ⟨k, hkey, hkl⟩ := entry_mem h2 hem.1
    have hheap : w1.heap = w.heap := by rcases hw1 with rfl | rfl <;> rfl
    have hc1 : Chg No w w1 := by
      rcases hw1 with rfl | rfl
      · exact Chg.refl _ _
      · exact (Chg.refl _ _).drew
    have hb' : (setBlock w1 r (.mapIter (some b) since (seen.push e.born) clock)).heap[b]? = some (.map es clock) := by
      rw [block_setBlock_other _ _ hrb, hheap]
      exact h1
    have hr' : (setBlock w1 r (.mapIter (some b) since (seen.push e.born) clock)).heap[r]? = some (.mapIter (some b) since (seen.push e.born) clock) := block_setBlock_same _ _ (by rw [hheap]; exact hrl)
    refine ⟨k, e.val, _, hkl, fun hV => ?_, by rw [hrun, hkey], ⟨es, clock, since, seen.push e.born, clock, hb', h2, h3, h4, h5, hr', h7, h8', h8', fun e' he' k' hk' => ?_⟩, Chg.setBlock (F := fun x => x = r) hc1.no (.inl rfl) _, by rw [size_setBlock, hheap], ?_⟩
    · have := (h9 e hem.1 k hkey).2 hV
      rw [hem.2] at this
      cases this
    · rw [Array.contains_push, Bool.or_eq_true, h9 e' he' k' hk']
      constructor
      · rintro (h | h)
        · exact .inl h
        · have : e' = e := inj_of_nodup h4 he' hem.1 (by simpa using h)
          subst this
          rw [hkey] at hk'
          cases hk'
          exact .inr rfl
      · rintro (h | h)
        · exact .inl h
        · subst h
          have : e' = e := inj_of_nodup (keys_nodup h2 h5) he' hem.1 (by rw [hk', hkey])
          subst this
          exact .inr (beq_self_eq_true _)
    · have := run_entry_at (P := P) _ r b since seen es clock e hr' hb' hem.1 h4
      rw [this, hkey]

open Classical in
/-- how many have not come -/
noncomputable def leftN (l : List (Int × Value)) (V : Int → Prop) : Nat := (l.filter fun x => decide (¬ V x.1)).length
theorem leftN_lt {k : Int} {u : Value} (hk : (k, u) ∈ l) (hV : ¬ V k) : leftN l (fun x => V x ∨ x = k) < leftN l V := by
  classical
  unfold leftN
  induction l with
  | nil => cases hk
  | cons a t ih =>
    have hle : ∀ t : List (Int × Value), (t.filter fun x => decide (¬ (V x.1 ∨ x.1 = k))).length ≤ (t.filter fun x => decide (¬ V x.1)).length := by
      intro t
      induction t with
      | nil => simp
      | cons c t ih =>
        by_cases h1 : V c.1
        · simp [List.filter_cons, h1]
          simpa using ih
        · by_cases h2 : c.1 = k
          · simp [List.filter_cons, h2, hV]
            have := ih
            simp at this
            omega
          · simp [List.filter_cons, h1, h2]
            simpa using ih
    rcases List.mem_cons.1 hk with h | h
    · subst h
      have := hle t
      simp [List.filter_cons, hV] at this ⊢
      omega
    · have ih := ih h
      by_cases h1 : V a.1
      · simp [List.filter_cons, h1] at ih ⊢
        exact ih
      · by_cases h2 : a.1 = k
        · have := hle t
          simp [List.filter_cons, h2, hV] at this ⊢
          omega
        · simp [List.filter_cons, h1, h2] at ih ⊢
          exact ih

/-- 'delete(m, k)' of a key, while it is ranged over -/
theorem Iter.delete {T K E : TypeId} (h : Iter w b r l V) (hT : P.underlying T = some (.map K E)) (hK : P.underlying K = some (.int .i64)) (k : Int) (ty K' : TypeId) :
    ∃ o, (Builtin.delete_ #[T, K'] ty #[.map (some b), .int .i64 k]).run P w = .ok (.tuple #[]) (setBlock w b o) ∧ Iter (setBlock w b o) b r (mdel k l) V := by
  have hbl := h.imap.lt
  obtain ⟨es, clock, since, seen, c0, hb, hl, hborn, hnd, hn, h6, h7, h8, h8', h9⟩ := h
  have hrb : r ≠ b := by
    rintro rfl
    rw [hb] at h6
    cases h6
  have hc : ∀ e w, (Instr.checkKey e 10000 K (.int .i64 k)).run P w = .ok () w := fun e w => run_checkKey hK e 9999 k w
  have hf := fun w => run_findKey (P := P) hK k es.toList l hl w
  have hr' : ∀ o, (setBlock w b o).heap[r]? = some (.mapIter (some b) since seen c0) := fun o => by
    rw [block_setBlock_other _ _ hrb]
    exact h6
  cases hm : mfind k l 0 with
  | none =>
    rw [hm] at hf
    obtain ⟨_, h1⟩ := mfind_none hm
    refine ⟨.map es clock, ?_, es, clock, since, seen, c0, block_setBlock_same w _ hbl, by rw [h1]; exact hl, hborn, hnd, by rw [h1]; exact hn, hr' _, h7, h8, h8', h9⟩
    simp [Builtin.delete_, run_underlying hT, MapKept.run_getObj_map hb, MapKept.run_setObj_map _ hb, hc, hf, setBlock]
  | some x =>
    rw [hm] at hf
    obtain ⟨j, v', rfl, hj, hlj, _, hd⟩ := mfind_some hm
    have hsz : es.size = l.length := by have := congrArg List.length hl; simpa using this
    have her : (es.eraseIdxIfInBounds j).toList = es.toList.eraseIdx j := by
      rw [Array.eraseIdxIfInBounds, dif_pos (by omega), Array.toList_eraseIdx]
    have hsub : ∀ e ∈ (es.eraseIdxIfInBounds j).toList, e ∈ es.toList := fun e he => by
      rw [her] at he
      exact List.mem_of_mem_eraseIdx he
    refine ⟨.map (es.eraseIdxIfInBounds j) clock, ?_, es.eraseIdxIfInBounds j, clock, since, seen, c0, block_setBlock_same w _ hbl, ?_, fun e he => hborn e (hsub e he), ?_, ?_, hr' _, fun e he => h7 e (hsub e he), h8, h8', fun e he => h9 e (hsub e he)⟩
    · simp only [Nat.zero_add] at hf
      simp [Builtin.delete_, run_underlying hT, MapKept.run_getObj_map hb, MapKept.run_setObj_map _ hb, hc, hf, setBlock]
    · rw [her, hd, Go.ChangeMaps.map_eraseIdx, Go.ChangeMaps.map_eraseIdx, hl]
    · rw [her]
      exact List.Nodup.sublist ((List.eraseIdx_sublist _ _).map _) hnd
    · exact List.Nodup.sublist ((mdel_sub k l).map _) hn
end

/-- the place of the first from place id on that is there -/
def nxtI (L : List O) (id : Nat) : Option Nat := (List.range L.length).find? fun i => decide (id ≤ i) && (ob L i).kind != 0
def nextN (L : List O) (o : Int) : Int := match nxtI L (namedV o).toNat with | some i => 2 * ((i : Int) + 1) | none => 0
def nextOK (L : List O) (o : Int) : Bool := (nxtI L (namedV o).toNat).isSome
theorem nxtI_some {L : List O} {id i : Nat} (h1 : id ≤ i) (h2 : (ob L i).kind ≠ 0) (h3 : ∀ j, id ≤ j → (ob L j).kind ≠ 0 → i ≤ j) : nxtI L id = some i := by
  unfold nxtI
  rw [List.find?_range_eq_some]
  refine ⟨by simp [h1, h2], ?_, fun j hj => ?_⟩
  · rw [List.mem_range]; exact ob_lt h2
  · by_cases h4 : id ≤ j
    · have : (ob L j).kind = 0 := Decidable.byContradiction fun h => by have := h3 j h4 h; omega
      simp [this]
    · simp [h4]
theorem nxtI_none {L : List O} {id : Nat} (h : ∀ j, id ≤ j → (ob L j).kind = 0) : nxtI L id = none := by
  unfold nxtI
  rw [List.find?_eq_none]
  intro j _
  by_cases h4 : id ≤ j
  · simp [h j h4]
  · simp [h4]
theorem namedV_bd (o : Int) : 0 ≤ namedV o ∧ namedV o ≤ 1073741823 := by
  cases h : namedOk o
  · rw [namedV_no h]; omega
  · have := namedV_of h; omega

/-- the least of what has come, above id; 0: none -/
def Least (es : List (Int × Value)) (V : Int → Prop) (id least : Int) : Prop :=
  (least = 0 ∧ ∀ k ∈ es.map (·.1), V k → k ≤ id) ∨ (id < least ∧ least ∈ es.map (·.1) ∧ ∀ k ∈ es.map (·.1), V k → id < k → least ≤ k)

section
variable {w w' : World} {m : Nat} {F : Nat → Prop} {L : List O} {q : Nat} {es : List (Int × Value)} {ad : Nat → Nat} {wv bv : Nat → Value}
theorem FlatI.keys (h : FlatI w m F L q es ad wv bv) (k : Int) : k ∈ es.map (·.1) ↔ 1 ≤ k ∧ (ob L (k - 1).toNat).kind ≠ 0 := by
  have h1 := h.get k
  constructor
  · intro hk
    by_cases hc : 1 ≤ k ∧ (ob L (k - 1).toNat).kind ≠ 0
    · exact hc
    · rw [if_neg hc] at h1
      exact absurd hk (mget_none.1 h1)
  · intro hc
    rw [if_pos hc] at h1
    exact List.mem_map.2 ⟨_, mget_some_mem h1, rfl⟩
theorem next_end (h : FlatI w m F L q es ad wv bv) {o least : Int} {V : Int → Prop} (hV : ∀ k ∈ es.map (·.1), V k) (hl : Least es V (namedV o) least) :
    (least = 0 ∧ nextN L o = 0 ∧ nextOK L o = false) ∨ (1 ≤ least ∧ least ≤ 1073741823 ∧ nextN L o = 2 * least ∧ nextOK L o = true) := by
  have hb := namedV_bd o
  rcases hl with ⟨rfl, h1⟩ | ⟨h1, h2, h3⟩
  · left
    have : nxtI L (namedV o).toNat = none := nxtI_none fun j hj => Decidable.byContradiction fun hk => by
      have hm : ((j : Int) + 1) ∈ es.map (·.1) := (h.keys _).2 ⟨by omega, by rw [show ((j : Int) + 1 - 1).toNat = j by omega]; exact hk⟩
      have := h1 _ hm (hV _ hm)
      omega
    exact ⟨rfl, by simp [nextN, this], by simp [nextOK, this]⟩
  · right
    have hk := (h.keys _).1 h2
    have hlt := ob_lt hk.2
    have hmade := h.made
    have : nxtI L (namedV o).toNat = some (least - 1).toNat := nxtI_some (by omega) hk.2 fun j hj hjk => by
      have hm : ((j : Int) + 1) ∈ es.map (·.1) := (h.keys _).2 ⟨by omega, by rw [show ((j : Int) + 1 - 1).toNat = j by omega]; exact hjk⟩
      have := h3 _ hm (hV _ hm) (by omega)
      omega
    refine ⟨by omega, by omega, ?_, by simp [nextOK, this]⟩
    simp only [nextN, this]
    omega

set_option maxRecDepth 100000 in
set_option maxHeartbeats 1000000 in
theorem Next_any (h : FlatI w m F L q es ad wv bv) (o : Int) (h64 : In64 o) :
    Calls Tryd.prog 155 #[.pointer (some ⟨m, 0, none⟩), .int .i64 o] w fun e w' => e = .returned (.tuple #[.int .i64 (nextN L o), .bool (nextOK L o)]) ∧ Chg No w w' := by
  have c0 : w.cell? ⟨m, 0, none⟩ = some (.map (some q)) := h.row.cell 0
  obtain ⟨w1, hrun, hit, hc1, -⟩ := h.map.range (P := Tryd.prog) elem_map
  have hbd := namedV_bd o
  have H := Lib.hid h
  have hkb : ∀ k ∈ es.map (·.1), 1 ≤ k ∧ k ≤ 1073741823 := fun k hk => by
    have h1 := (h.keys k).1 hk
    have h2 := ob_lt h1.2
    have h3 := h.made
    omega
  have HB := Lib.hid hkb
  have hend : ∀ (V : Int → Prop) (least : Int), (∀ k ∈ es.map (·.1), V k) → Least es V (namedV o) least → (least = 0 ∧ nextN L o = 0 ∧ nextOK L o = false) ∨ (1 ≤ least ∧ least ≤ 1073741823 ∧ nextN L o = 2 * least ∧ nextOK L o = true) := fun V least => next_end h
  obtain ⟨b1, b2⟩ := h64
  have HN := fun w => Named_any o b1 b2 w
  generalize nextN L o = rn at *
  generalize nextOK L o = rb at *
  generalize namedV o = id at *
  have HE := Lib.hid hend
  clear h hkb hend
  go_enter Tryd.func155, Tryd.ntmps155
  go_wp2_with (go_at_call 29; refine (HN _).mono ?_; rintro e w' ⟨rfl, rfl⟩)
  clear HN
  go_loopg [8] (leftN es (fun _ => False)) (fun j v8 wr => ∃ (V : Int → Prop) (least : Int), v8 = .int .i64 least ∧ leftN es V ≤ j ∧ Iter wr q w.heap.size es V ∧ Chg No w wr ∧ Least es V id least)
  case atStart => exact ⟨fun _ => False, 0, rfl, Nat.le_refl _, hit, hc1, .inl ⟨rfl, fun _ _ h => h.elim⟩⟩
  case round =>
    clear hrun hit hc1
    obtain ⟨V, least, rfl, hj, hit, hcw, hls⟩ := hrel
    have hlb : 0 ≤ least ∧ least ≤ 1073741823 := by
      rcases hls with ⟨rfl, _⟩ | ⟨_, h2, _⟩
      · omega
      · have := HB.out _ h2; omega
    rcases hit.next (P := Tryd.prog) 0 with ⟨hall, hn⟩ | ⟨k, u, w2, hk, hV, hn, hit2, hc2, -, hen⟩
    · rcases HE.out V least hall hls with ⟨rfl, rfl, rfl⟩ | ⟨l1, l2, rfl, rfl⟩
      · clear hall hls hit
        go_wp2_with (go_at_call 32; refine (Oop_any 0 (by unfold In64; omega) _).mono ?_; rw [if_neg (by decide)]; rintro e w' ⟨rfl, rfl⟩)
        go_ret2
        exact ⟨rfl, hcw⟩
      · have lp : decide (0 < least) = true := decide_eq_true (by omega)
        clear hall hls hit
        go_wp2_with (go_at_call 32; refine (Oop_ok least l1 l2 _).mono ?_; rintro e w' ⟨rfl, rfl⟩)
        go_ret2
        exact ⟨rfl, hcw⟩
    · have hkm : k ∈ es.map (·.1) := List.mem_map.2 ⟨_, hk, rfl⟩
      have hkb := HB.out k hkm
      have hm := leftN_lt hk hV
      have hcw2 : Chg No w w2 := hcw.then hc2 (fun i hi e => by omega)
      have HX := Lib.hid (And.intro hls (And.intro hkm (And.intro hm (And.intro hit2 hcw2))))
      clear hls hkm hm hit2 hcw2 hk hV hit hcw hc2
      by_cases a1 : k ≤ id
      · have t1 : decide (id < k) = false := decide_eq_false (by omega)
        go_wp2_with fail
        go_roundg (leftN es (fun x => V x ∨ x = k))
        case measure => have := HX.out.2.2.1; omega
        case rel =>
          obtain ⟨hls, hkm, hm, hit2, hcw2⟩ := HX.out
          refine ⟨_, least, rfl, Nat.le_refl _, hit2, hcw2, ?_⟩
          rcases hls with ⟨h0, h1⟩ | ⟨h1, h2, h3⟩
          · exact .inl ⟨h0, fun x hx hv => hv.elim (h1 x hx) (fun e => by omega)⟩
          · exact .inr ⟨h1, h2, fun x hx hv hlt => hv.elim (fun e => h3 x hx e hlt) (fun e => by omega)⟩
      · have t1 : decide (id < k) = true := decide_eq_true (by omega)
        by_cases a2 : least = 0
        · subst a2
          go_wp2_with fail
          go_roundg (leftN es (fun x => V x ∨ x = k))
          case measure => have := HX.out.2.2.1; omega
          case rel =>
            obtain ⟨hls, hkm, hm, hit2, hcw2⟩ := HX.out
            refine ⟨_, k, rfl, Nat.le_refl _, hit2, hcw2, .inr ⟨by omega, hkm, fun x hx hv hlt => ?_⟩⟩
            rcases hls with ⟨_, h1⟩ | ⟨h1, h2, _⟩
            · rcases hv with hv | hv
              · have := h1 x hx hv; omega
              · omega
            · have := HB.out _ h2; omega
        · have t2 : (least == 0) = false := beq_eq_false_iff_ne.2 a2
          by_cases a3 : k < least
          · have t3 : decide (k < least) = true := decide_eq_true a3
            go_wp2_with fail
            go_roundg (leftN es (fun x => V x ∨ x = k))
            case measure => have := HX.out.2.2.1; omega
            case rel =>
              obtain ⟨hls, hkm, hm, hit2, hcw2⟩ := HX.out
              refine ⟨_, k, rfl, Nat.le_refl _, hit2, hcw2, .inr ⟨by omega, hkm, fun x hx hv hlt => ?_⟩⟩
              rcases hls with ⟨h0, _⟩ | ⟨h1, h2, h3⟩
              · omega
              · rcases hv with hv | hv
                · have := h3 x hx hv hlt; omega
                · omega
          · have t3 : decide (k < least) = false := decide_eq_false a3
            go_wp2_with fail
            go_roundg (leftN es (fun x => V x ∨ x = k))
            case measure => have := HX.out.2.2.1; omega
            case rel =>
              obtain ⟨hls, hkm, hm, hit2, hcw2⟩ := HX.out
              refine ⟨_, least, rfl, Nat.le_refl _, hit2, hcw2, ?_⟩
              rcases hls with ⟨h0, _⟩ | ⟨h1, h2, h3⟩
              · omega
              · refine .inr ⟨h1, h2, fun x hx hv hlt => ?_⟩
                rcases hv with hv | hv
                · exact h3 x hx hv hlt
                · omega
end

def becL (L : List O) (i j : Nat) : List O := (L.set i (ob L j)).set j (ob L i)
theorem ob_bec {L : List O} {i j : Nat} (hi : i < L.length) (hj : j < L.length) (k : Nat) : ob (becL L i j) k = if k = j then ob L i else if k = i then ob L j else ob L k := by
  unfold becL
  rw [ob_set (by simpa using hj), ob_set hi]
def becomeE (L : List O) (a b : Int) : Int := match fnd L a, fnd L b with | some _, some _ => 0 | _, _ => 4
def becomeL (L : List O) (a b : Int) : List O := match fnd L a, fnd L b with | some i, some j => becL L i j | _, _ => L

section
variable {w w' : World} {m : Nat} {F : Nat → Prop} {L : List O} {q : Nat} {es : List (Int × Value)} {ad : Nat → Nat} {wv bv : Nat → Value}
theorem FlatI.swap (h : FlatI w m F L q es ad wv bv) {i j : Nat} (hi : (ob L i).kind ≠ 0) (hj : (ob L j).kind ≠ 0) (c : Chg (fun b => b = ad i ∨ b = ad j) w w')
    (ri : i ≠ j → Row w' (ad i) 41 (cells2 (ob L j) (wv j) (bv j))) (rj : Row w' (ad j) 41 (cells2 (ob L i) (wv i) (bv i))) : ∃ wv' bv', FlatI w' m F (becL L i j) q es ad wv' bv' := by
  have hil := ob_lt hi
  have hjl := ob_lt hj
  have hkk : ∀ k, (ob (becL L i j) k).kind ≠ 0 ↔ (ob L k).kind ≠ 0 := fun k => by
    rw [ob_bec hil hjl]
    split
    · rename_i e; subst e; exact ⟨fun _ => hj, fun _ => hi⟩
    · split
      · rename_i e; subst e; exact ⟨fun _ => hi, fun _ => hj⟩
      · exact Iff.rfl
  have roi := (h.own i hi).row
  have roj := (h.own j hj).row
  have hn : ∀ {b : Nat} {t : TypeId} {cs : Array Value}, Row w b t cs → t ≠ 41 → ¬ (b = ad i ∨ b = ad j) := fun hr ht e => by
    rcases e with rfl | rfl
    · exact ht (hr.inj roi).1
    · exact ht (hr.inj roj).1
  have hq : ¬ (q = ad i ∨ q = ad j) := by
    rintro (e | e)
    · exact h.map.ne_row roi e
    · exact h.map.ne_row roj e
  have own' : ∀ k b o, (ob L k).kind ≠ 0 → o = ob L k → Row w' b 41 (cells2 o (wv k) (bv k)) → OwnO w' b o (wv k) (bv k) := fun k b o hk e hr => by
    subst e
    refine ⟨hr, own_keep (h.own k hk).ws c (fun g hg => ?_), own_keep (h.own k hk).bs c (fun g hg => ?_)⟩
    · obtain ⟨cs, hr'⟩ := own_block (h.own k hk).ws hg
      exact hn hr' (by decide)
    · obtain ⟨cs, hr'⟩ := own_block (h.own k hk).bs hg
      exact hn hr' (by decide)
  refine ⟨fun k => if k = j then wv i else if k = i then wv j else wv k, fun k => if k = j then bv i else if k = i then bv j else bv k, ?_⟩
  refine ⟨?_, h.map.keep c hq, fun k => ?_, fun k hk => ?_, fun k hk => ?_, fun k hk => ?_, fun k hk => ?_, fun a b ha hb hab => ?_, h.mF, h.qF, fun b hb => Nat.lt_of_lt_of_le (h.lt b hb) c.size, by simpa [becL] using h.made⟩
  · simpa [becL] using h.row.keep c (hn h.row (by decide))
  · rw [h.get k]
    by_cases h1 : 1 ≤ k ∧ (ob L (k - 1).toNat).kind ≠ 0
    · rw [if_pos h1, if_pos ⟨h1.1, (hkk _).2 h1.2⟩]
    · rw [if_neg h1, if_neg (fun e => h1 ⟨e.1, (hkk _).1 e.2⟩)]
  · have hk' := (hkk k).1 hk
    rw [ob_bec hil hjl]
    by_cases e1 : k = j
    · subst e1
      simp only [if_true]
      exact own' i _ _ hi rfl rj
    · by_cases e2 : k = i
      · subst e2
        simp only [e1, if_false, if_true]
        exact own' j _ _ hj rfl (ri e1)
      · simp only [e1, e2, if_false]
        refine own' k _ _ hk' rfl ((h.own k hk').row.keep c ?_)
        rintro (e | e)
        · exact (h.apart k i hk' hi e2).1 e
        · exact (h.apart k j hk' hj e1).1 e
  · have hk' := (hkk k).1 hk
    rw [ob_bec hil hjl]
    split
    · exact h.ok i hi
    · split
      · exact h.ok j hj
      · exact h.ok k hk'
  · have hk' : (ob L k).kind = 0 := Decidable.byContradiction fun h => (hkk k).2 h hk
    rw [ob_bec hil hjl]
    rw [if_neg (by rintro rfl; exact hj hk'), if_neg (by rintro rfl; exact hi hk')]
    exact h.gone k hk'
  · have hk' := (hkk k).1 hk
    refine ⟨(h.inF k hk').1, ?_, ?_⟩
    · split
      · exact (h.inF i hi).2.1
      · split
        · exact (h.inF j hj).2.1
        · exact (h.inF k hk').2.1
    · split
      · exact (h.inF i hi).2.2
      · split
        · exact (h.inF j hj).2.2
        · exact (h.inF k hk').2.2
  · have ha' := (hkk a).1 ha
    have hb' := (hkk b).1 hb
    -- the permutation of places
    have hp : ∀ k, (ob L k).kind ≠ 0 → ∃ p, (ob L p).kind ≠ 0 ∧ (if k = j then wv i else if k = i then wv j else wv k) = wv p ∧ (if k = j then bv i else if k = i then bv j else bv k) = bv p ∧ p = (if k = j then i else if k = i then j else k) := fun k hk => by
      by_cases e1 : k = j
      · exact ⟨i, hi, by simp [e1], by simp [e1], by simp [e1]⟩
      · by_cases e2 : k = i
        · subst e2
          exact ⟨j, hj, by simp [e1], by simp [e1], by simp [e1]⟩
        · exact ⟨k, hk, by simp [e1, e2], by simp [e1, e2], by simp [e1, e2]⟩
    obtain ⟨p, hpk, p1, p2, p3⟩ := hp a ha'
    obtain ⟨r, hrk, r1, r2, r3⟩ := hp b hb'
    have hne : p ≠ r := by
      rw [p3, r3]
      split <;> split <;> (try split) <;> (try split) <;> omega
    have hap := h.apart p r hpk hrk hne
    rw [p1, r1, p2, r2]
    exact ⟨(h.apart a b ha' hb' hab).1, hap.2.1, hap.2.2⟩

theorem Row.drew {w : World} {p : Nat} {t : TypeId} {cs : Array Value} (h : Row w p t cs) : Row w.drew p t cs := h
theorem Row.set4 {w : World} {p : Nat} {t : TypeId} {x0 x1 x2 x3 : Value} (h : Row w p t #[x0, x1, x2, x3]) (y0 y1 y2 y3 : Value) :
    Row ((((w.setCell ⟨p, 0, none⟩ y0).setCell ⟨p, 1, none⟩ y1).setCell ⟨p, 2, none⟩ y2).setCell ⟨p, 3, none⟩ y3) p t #[y0, y1, y2, y3] := by
  simpa using (((h.set 0 y0).set 1 y1).set 2 y2).set 3 y3
theorem Row.other4 {w : World} {p r : Nat} {t : TypeId} {cs : Array Value} (h : Row w r t cs) (hne : r ≠ p) (y0 y1 y2 y3 : Value) :
    Row ((((w.setCell ⟨p, 0, none⟩ y0).setCell ⟨p, 1, none⟩ y1).setCell ⟨p, 2, none⟩ y2).setCell ⟨p, 3, none⟩ y3) r t cs :=
  (((h.other (p := ⟨p, 0, none⟩) hne _).other (p := ⟨p, 1, none⟩) hne _).other (p := ⟨p, 2, none⟩) hne _).other (p := ⟨p, 3, none⟩) hne _
theorem Chg.set4 {a w : World} {F : Nat → Prop} (h : Chg F a w) {p : Nat} (hp : F p) (y0 y1 y2 y3 : Value) :
    Chg F a ((((w.setCell ⟨p, 0, none⟩ y0).setCell ⟨p, 1, none⟩ y1).setCell ⟨p, 2, none⟩ y2).setCell ⟨p, 3, none⟩ y3) :=
  (((h.setCell (p := ⟨p, 0, none⟩) (.inl hp) _).setCell (p := ⟨p, 1, none⟩) (.inl hp) _).setCell (p := ⟨p, 2, none⟩) (.inl hp) _).setCell (p := ⟨p, 3, none⟩) (.inl hp) _

/-- what Become leaves -/
def Becamed (w : World) (m : Nat) (F : Nat → Prop) (L' : List O) (n : Int) (e : Ending) (w' : World) : Prop := e = .returned (.int .i64 n) ∧ Flat w' m F L' ∧ Chg F w w'

set_option maxRecDepth 100000 in
set_option maxHeartbeats 1000000 in
theorem Become_none (h : FlatI w m F L q es ad wv bv) (a b : Int) (ha : In64 a) (hb : In64 b) (hn : fnd L a = none ∨ fnd L b = none) :
    Calls Tryd.prog 152 #[.pointer (some ⟨m, 0, none⟩), .int .i64 a, .int .i64 b] w (Becamed w m F L 4) := by
  have H := Lib.hid h
  have HF : Flat w m F L := ⟨q, es, ad, wv, bv, h⟩
  cases hfa : fnd L a with
  | none =>
    clear h hn
    go_enter Tryd.func152, Tryd.ntmps152
    go_wp2_with (go_at_call 85; refine (at_none H.out a ha hfa).mono ?_; rintro e w' ⟨rfl, rfl⟩)
    go_ret
    exact ⟨rfl, HF, Chg.refl _ _⟩
  | some i =>
    have hfb : fnd L b = none := hn.resolve_left (by rw [hfa]; intro h; cases h)
    clear h hn
    go_enter Tryd.func152, Tryd.ntmps152
    go_wp2_with fail
    refine (at_some H.out a ha hfa).mono ?_
    rintro e w' ⟨rfl, rfl⟩
    go_wp2_with fail
    refine (at_none H.out b hb hfb).mono ?_
    rintro e w' ⟨rfl, rfl⟩
    go_wp2_with fail
    go_ret
    exact ⟨rfl, HF, Chg.refl _ _⟩

set_option maxRecDepth 100000 in
set_option maxHeartbeats 1000000 in
theorem Become_some (h : FlatI w m F L q es ad wv bv) (a b : Int) (ha : In64 a) (hb : In64 b) {i j : Nat} (hfa : fnd L a = some i) (hfb : fnd L b = some j) :
    Calls Tryd.prog 152 #[.pointer (some ⟨m, 0, none⟩), .int .i64 a, .int .i64 b] w (Becamed w m F (becL L i j) 0) := by
  have H := Lib.hid h
  have hi := (fnd_some hfa).2.1
  have hj := (fnd_some hfb).2.1
  have ri := (h.own i hi).row
  have rj := (h.own j hj).row
  obtain ⟨Ai, ci, wi⟩ := own_form (h.own i hi).ws
  obtain ⟨Bi, di, bi⟩ := own_form (h.own i hi).bs
  obtain ⟨Aj, cj, wj⟩ := own_form (h.own j hj).ws
  obtain ⟨Bj, dj, bj⟩ := own_form (h.own j hj).bs
  rw [wi, bi] at ri
  rw [wj, bj] at rj
  obtain ⟨x0, x1, x2, x3, xf⟩ := ri.four
  obtain ⟨y0, y1, y2, y3, yf⟩ := rj.four
  have HR := Lib.hid (And.intro ri (And.intro rj (And.intro wi (And.intro bi (And.intro wj bj)))))
  have hF := h.inF
  have HF := Lib.hid (And.intro (hF i hi).1 (hF j hj).1)
  have hap := h.apart i j hi hj
  clear h ri rj wi bi wj bj hF
  by_cases hij : i = j
  · subst hij
    clear y0 y1 y2 y3 yf hap
    go_enter Tryd.func152, Tryd.ntmps152
    go_wp2_with fail
    refine (at_some H.out a ha hfa).mono ?_
    rintro e w' ⟨rfl, rfl⟩
    go_wp2_with fail
    refine (at_some H.out b hb hfb).mono ?_
    rintro e w' ⟨rfl, rfl⟩
    go_wp2_with fail
    go_region
    go_wp2_with fail
    go_ret
    obtain ⟨ri, rj, wi, bi, wj, bj⟩ := HR.out
    have c : Chg (fun b => b = ad i ∨ b = ad i) w _ := (((Chg.refl _ w).set4 (p := ad i) (.inl rfl) (.int .i64 (ob L i).cls) (.int .i64 (ob L i).kind) (.slice Ai (ob L i).W.length ci) (.slice Bi (ob L i).B.length di)).set4 (p := ad i) (.inl rfl) (.int .i64 (ob L i).cls) (.int .i64 (ob L i).kind) (.slice Ai (ob L i).W.length ci) (.slice Bi (ob L i).B.length di)).drew
    have r1 := (ri.set4 (.int .i64 (ob L i).cls) (.int .i64 (ob L i).kind) (.slice Ai (ob L i).W.length ci) (.slice Bi (ob L i).B.length di)).set4 (.int .i64 (ob L i).cls) (.int .i64 (ob L i).kind) (.slice Ai (ob L i).W.length ci) (.slice Bi (ob L i).B.length di)
    obtain ⟨wv', bv', hf⟩ := H.out.swap hi hi c (fun h => absurd rfl h) (by rw [wi, bi]; exact r1.drew)
    refine ⟨rfl, ⟨q, es, ad, wv', bv', hf⟩, c.mono ?_⟩
    rintro b _ (rfl | rfl)
    · exact HF.out.1
    · exact HF.out.2
  · have hne := (hap hij).1
    have hne' : ad j ≠ ad i := fun e => hne e.symm
    clear hap
    go_enter Tryd.func152, Tryd.ntmps152
    go_wp2_with fail
    refine (at_some H.out a ha hfa).mono ?_
    rintro e w' ⟨rfl, rfl⟩
    go_wp2_with fail
    refine (at_some H.out b hb hfb).mono ?_
    rintro e w' ⟨rfl, rfl⟩
    go_wp2_with fail
    go_region
    go_wp2_with fail
    go_ret
    obtain ⟨ri, rj, wi, bi, wj, bj⟩ := HR.out
    have c : Chg (fun b => b = ad i ∨ b = ad j) w _ := (((Chg.refl _ w).set4 (p := ad i) (.inl rfl) (.int .i64 (ob L j).cls) (.int .i64 (ob L j).kind) (.slice Aj (ob L j).W.length cj) (.slice Bj (ob L j).B.length dj)).set4 (p := ad j) (.inr rfl) (.int .i64 (ob L i).cls) (.int .i64 (ob L i).kind) (.slice Ai (ob L i).W.length ci) (.slice Bi (ob L i).B.length di)).drew
    have r1 := (ri.set4 (.int .i64 (ob L j).cls) (.int .i64 (ob L j).kind) (.slice Aj (ob L j).W.length cj) (.slice Bj (ob L j).B.length dj)).other4 hne (.int .i64 (ob L i).cls) (.int .i64 (ob L i).kind) (.slice Ai (ob L i).W.length ci) (.slice Bi (ob L i).B.length di)
    have r2 := (rj.other4 hne' (.int .i64 (ob L j).cls) (.int .i64 (ob L j).kind) (.slice Aj (ob L j).W.length cj) (.slice Bj (ob L j).B.length dj)).set4 (.int .i64 (ob L i).cls) (.int .i64 (ob L i).kind) (.slice Ai (ob L i).W.length ci) (.slice Bi (ob L i).B.length di)
    obtain ⟨wv', bv', hf⟩ := H.out.swap hi hj c (fun _ => by rw [wj, bj]; exact r1.drew) (by rw [wi, bi]; exact r2.drew)
    refine ⟨rfl, ⟨q, es, ad, wv', bv', hf⟩, c.mono ?_⟩
    rintro b _ (rfl | rfl)
    · exact HF.out.1
    · exact HF.out.2
end

end Go.Proofs.YtncoanmgifgcbaaDoor
