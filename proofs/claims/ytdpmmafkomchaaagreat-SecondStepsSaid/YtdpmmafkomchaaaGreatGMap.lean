/- Words for memory: maps with keys of whatever kind (structs of numbers). No program is named here. -/
import Derived.Test.YtdpmmafkomchaaaGreatLibA
namespace Go.Proofs.YtdpmmafkomchaaaGreat
set_option linter.unusedVariables false
set_option linter.unusedSimpArgs false
open Go.RowKit
open Go.ChangeMaps (setBlock)

/-! maps with keys of whatever kind: kv tells a key's value -/
section
variable {α : Type}
def gget [DecidableEq α] (k : α) : List (α × Value) → Option Value
  | [] => none
  | (a, v) :: r => if k == a then some v else gget k r
def gset [DecidableEq α] (k : α) (v : Value) : List (α × Value) → List (α × Value)
  | [] => [(k, v)]
  | (a, u) :: r => if k == a then (k, v) :: r else (a, u) :: gset k v r
def gdel [DecidableEq α] (k : α) : List (α × Value) → List (α × Value)
  | [] => []
  | (a, u) :: r => if k == a then r else (a, u) :: gdel k r
def gfind [DecidableEq α] (k : α) : List (α × Value) → Nat → Option (Nat × Value)
  | [], _ => none
  | (a, v) :: r, i => if k == a then some (i, v) else gfind k r (i + 1)

theorem gget_gset [DecidableEq α] (k k' : α) (v : Value) (l : List (α × Value)) : gget k' (gset k v l) = if k' == k then some v else gget k' l := by
  induction l with
  | nil => simp [gset, gget]
  | cons x r ih =>
    obtain ⟨a, u⟩ := x
    by_cases h : k = a
    · subst h
      by_cases h' : k' = k <;> simp [gset, gget, h']
    · by_cases h' : k' = a
      · subst h'
        have : ¬ k' = k := fun e => h e.symm
        simp [gset, gget, h, this]
      · simp [gset, gget, h, h', ih]
theorem gget_none [DecidableEq α] {k : α} {l : List (α × Value)} : gget k l = none ↔ k ∉ l.map (·.1) := by
  induction l with
  | nil => simp [gget]
  | cons x r ih =>
    obtain ⟨a, u⟩ := x
    by_cases h : k = a <;> simp [gget, h, ih]
theorem gget_some_mem [DecidableEq α] {k : α} {v : Value} {l : List (α × Value)} (h : gget k l = some v) : (k, v) ∈ l := by
  induction l with
  | nil => cases h
  | cons x r ih =>
    obtain ⟨a, u⟩ := x
    by_cases h' : k = a
    · subst h'
      simp [gget] at h
      simp [h]
    · simp [gget, h'] at h
      exact List.mem_cons_of_mem _ (ih h)
theorem gget_mem [DecidableEq α] {k : α} {v : Value} {l : List (α × Value)} (hn : (l.map (·.1)).Nodup) (h : (k, v) ∈ l) : gget k l = some v := by
  induction l with
  | nil => cases h
  | cons x r ih =>
    obtain ⟨a, u⟩ := x
    simp at hn
    rcases List.mem_cons.1 h with e | e
    · cases e; simp [gget]
    · have : ¬ k = a := by rintro rfl; exact hn.1 _ e
      simp [gget, this, ih hn.2 e]
theorem keys_gset [DecidableEq α] (k : α) (v : Value) (l : List (α × Value)) : (gset k v l).map (·.1) = if k ∈ l.map (·.1) then l.map (·.1) else l.map (·.1) ++ [k] := by
  induction l with
  | nil => simp [gset]
  | cons x r ih =>
    obtain ⟨a, u⟩ := x
    by_cases h : k = a
    · simp [gset, h]
    · simp only [gset, beq_iff_eq, h, if_false, List.map_cons, ih, List.mem_cons, false_or]
      split <;> simp
theorem nodup_gset [DecidableEq α] {k : α} {v : Value} {l : List (α × Value)} (h : (l.map (·.1)).Nodup) : ((gset k v l).map (·.1)).Nodup := by
  rw [keys_gset]
  split
  · exact h
  · rename_i hk
    rw [List.nodup_append]
    exact ⟨h, by simp, fun a ha b hb => by simp at hb; subst hb; rintro rfl; exact hk ha⟩
theorem gdel_sub [DecidableEq α] (k : α) (l : List (α × Value)) : (gdel k l).Sublist l := by
  induction l with
  | nil => exact List.Sublist.refl _
  | cons x r ih =>
    obtain ⟨a, u⟩ := x
    by_cases h : k = a
    · simp [gdel, h]
    · simp [gdel, h, ih]
theorem gget_gdel [DecidableEq α] (k k' : α) {l : List (α × Value)} (hn : (l.map (·.1)).Nodup) : gget k' (gdel k l) = if k' == k then none else gget k' l := by
  induction l with
  | nil => simp [gdel, gget]
  | cons x r ih =>
    obtain ⟨a, u⟩ := x
    have hn' : a ∉ r.map (·.1) ∧ (r.map (·.1)).Nodup := List.nodup_cons.1 hn
    by_cases h : k = a
    · subst h
      by_cases h' : k' = k
      · subst h'
        simp only [gdel, beq_self_eq_true, if_true]
        exact gget_none.2 hn'.1
      · simp [gdel, gget, h']
    · by_cases h' : k' = a
      · subst h'
        have : ¬ k' = k := fun e => h e.symm
        simp [gdel, gget, h, this]
      · simp [gdel, gget, h, h', ih hn'.2]

/-- what is asked of a kind of keys: they are found, they may be keys, and stay -/
structure KeyOk [DecidableEq α] (P : Program) (K : TypeId) (kv : α → Value) : Prop where
  find : ∀ (k : α) (es : List MapEntry) (l : List (α × Value)) (w : World), es.map (fun e => (e.key, e.val)) = l.map (fun x => (kv x.1, x.2)) → (Instr.findKey K (kv k) es).run P w = .ok (gfind k l 0) w
  check : ∀ (e : Bool) (k : α) (w : World), (Instr.checkKey e 10000 K (kv k)).run P w = .ok () w
  stays : ∀ (k : α) (w : World), (Instr.keyThatStays (kv k) (kv k)).run P w = .ok (kv k) w
/-- block b is a map with integer keys, which holds l -/
def GMap (kv : α → Value) (w : World) (b : Nat) (l : List (α × Value)) : Prop :=
  ∃ es clock, w.heap[b]? = some (.map es clock) ∧ es.toList.map (fun e => (e.key, e.val)) = l.map (fun x => (kv x.1, x.2)) ∧
    (∀ e ∈ es.toList, e.born < clock) ∧ (es.toList.map (·.born)).Nodup ∧ (l.map (·.1)).Nodup
section
variable {kv : α → Value} {w w' : World} {b : Nat} {l : List (α × Value)} {F : Nat → Prop} {P : Program}
theorem GMap.lt (h : GMap kv w b l) : b < w.heap.size := by
  obtain ⟨es, clock, hb, _⟩ := h
  exact lt_of_block hb
theorem GMap.keep (h : GMap kv w b l) (c : Chg F w w') (hb : ¬ F b) : GMap kv w' b l := by
  have hlt := h.lt
  obtain ⟨es, clock, h1, h2⟩ := h
  exact ⟨es, clock, (c.block b hlt hb).trans h1, h2⟩
theorem GMap.nodup (h : GMap kv w b l) : (l.map (·.1)).Nodup := by
  obtain ⟨es, clock, _, _, _, _, h⟩ := h
  exact h
theorem GMap.new (w : World) : GMap kv (w.alloc (.map #[] 0)) w.heap.size [] := ⟨#[], 0, heap_alloc_new w _, by simp, by simp, by simp, by simp⟩
theorem GMap.ne_row {b' : Nat} {t : TypeId} {cs : Array Value} (h : GMap kv w b l) (h' : Row w b' t cs) : b ≠ b' := by
  rintro rfl
  obtain ⟨es, clock, h1, _⟩ := h
  unfold Row at h'
  rw [h1] at h'
  cases h'

theorem gfind_gget [DecidableEq α] (k : α) : ∀ (l : List (α × Value)) (i : Nat), (gfind k l i).map (·.2) = gget k l
  | [], _ => rfl
  | (a, v) :: l, i => by
    by_cases h : k = a
    · simp [gfind, gget, h]
    · simp [gfind, gget, h, gfind_gget k l (i + 1)]
/-- 'm[k]' -/
theorem GMap.lookup [DecidableEq α] {T K E : TypeId} (h : GMap kv w b l) (hT : P.underlying T = some (.map K E)) (hK : KeyOk P K kv) {z : Value} (hz : ∀ w, (zeroValue E).run P w = .ok z w) (k : α) :
    (Instr.lookup T (.map (some b)) (kv k) false).run P w = .ok ((gget k l).getD z) w := by
  obtain ⟨es, clock, hb, hl, _⟩ := h
  have hc : ∀ e w, (Instr.checkKey e 10000 K (kv k)).run P w = .ok () w := fun e w => hK.check e k w
  have hf := fun w => hK.find k es.toList l w hl
  rw [← gfind_gget k l 0]
  cases hm : gfind k l 0 with
  | none =>
    rw [hm] at hf
    simp [Instr.lookup, run_underlying hT, MapKept.run_getObj_map hb, hc, hf, hz]
  | some x =>
    rw [hm] at hf
    simp [Instr.lookup, run_underlying hT, MapKept.run_getObj_map hb, hc, hf]
theorem gfind_some [DecidableEq α] {k : α} : ∀ {l : List (α × Value)} {i : Nat} {x : Nat × Value}, gfind k l i = some x → ∃ j v, x = (i + j, v) ∧ j < l.length ∧ l[j]? = some (k, v) ∧ (∀ u, gset k u l = l.set j (k, u)) ∧ gdel k l = l.eraseIdx j
  | [], _, _, h => by cases h
  | (a, v) :: r, i, x, h => by
    by_cases hk : k = a
    · subst hk
      simp [gfind] at h
      exact ⟨0, v, by rw [← h]; rfl, by simp, rfl, by simp [gset], by simp [gdel]⟩
    · simp [gfind, hk] at h
      obtain ⟨j, v', hx, hj, hl, hs, hd⟩ := gfind_some h
      exact ⟨j + 1, v', by rw [hx]; congr 1; omega, by simp; omega, by simpa using hl, by simp [gset, hk, hs], by simp [gdel, hk, hd]⟩
theorem gfind_none [DecidableEq α] {k : α} : ∀ {l : List (α × Value)} {i : Nat}, gfind k l i = none → (∀ u, gset k u l = l ++ [(k, u)]) ∧ gdel k l = l
  | [], _, _ => ⟨fun _ => rfl, rfl⟩
  | (a, v) :: r, i, h => by
    by_cases hk : k = a
    · simp [gfind, hk] at h
    · simp [gfind, hk] at h
      obtain ⟨h1, h2⟩ := gfind_none h
      exact ⟨by simp [gset, hk, h1], by simp [gdel, hk, h2]⟩

/-- 'm[k] = v' -/
theorem GMap.updates [DecidableEq α] {T K E : TypeId} (h : GMap kv w b l) (hT : P.underlying T = some (.map K E)) (hK : KeyOk P K kv) (k : α) (v : Value) :
    ∃ o, ∀ w', w'.heap[b]? = w.heap[b]? → (Instr.mapUpdate T (.map (some b)) (kv k) v).run P w' = .ok () (setBlock w' b o) ∧ GMap kv (setBlock w' b o) b (gset k v l) := by
  obtain ⟨es, clock, hb, hl, hborn, hnd, hn⟩ := h
  have hc : ∀ e w, (Instr.checkKey e 10000 K (kv k)).run P w = .ok () w := fun e w => hK.check e k w
  have hf := fun w => hK.find k es.toList l w hl
  cases hm : gfind k l 0 with
  | none =>
    rw [hm] at hf
    obtain ⟨h1, _⟩ := gfind_none hm
    refine ⟨.map (es.push { key := kv k, val := v, born := clock }) (clock + 1), fun w' hw => ?_⟩
    replace hb := hw.trans hb
    refine ⟨?_, _, _, block_setBlock_same w' _ (lt_of_block hb), ?_, ?_, ?_, nodup_gset hn⟩
    · simp [Instr.mapUpdate, run_underlying hT, MapKept.run_getObj_map hb, MapKept.run_setObj_map _ hb, hc, hf, setBlock]
    · rw [h1]; simp [hl]
    · intro e he
      simp at he
      rcases he with he | he
      · exact Nat.lt_succ_of_lt (hborn e (by simpa using he))
      · subst he; simp
    · simp only [Array.toList_push, List.map_append, List.map_cons, List.map_nil]
      rw [List.nodup_append]
      refine ⟨hnd, by simp, fun a ha c hc' => ?_⟩
      simp at hc'
      obtain ⟨e, he, rfl⟩ := List.mem_map.1 ha
      have := hborn e he
      omega
  | some x =>
    rw [hm] at hf
    obtain ⟨j, v', rfl, hj, hlj, hs, _⟩ := gfind_some hm
    have hsz : es.size = l.length := by have := congrArg List.length hl; simpa using this
    have hej : ((es[j]?).map (·.key)).getD (kv k) = kv k := by
      have h1 := congrArg (·[j]?) hl
      simp only [List.getElem?_map, Array.getElem?_toList, hlj, Option.map_some] at h1
      cases he : es[j]? with
      | none => rfl
      | some e =>
        rw [he] at h1
        simp at h1
        simp [h1.1]
    have hst : ∀ w, (Instr.keyThatStays (kv k) (kv k)).run P w = .ok (kv k) w := fun w => hK.stays k w
    refine ⟨.map (es.modify j fun e => { e with key := kv k, val := v }) clock, fun w' hw => ?_⟩
    replace hb := hw.trans hb
    refine ⟨?_, _, _, block_setBlock_same w' _ (lt_of_block hb), ?_, ?_, ?_, nodup_gset hn⟩
    · simp only [Nat.zero_add] at hf
      simp [Instr.mapUpdate, run_underlying hT, MapKept.run_getObj_map hb, MapKept.run_setObj_map _ hb, hc, hf, setBlock, hej, hst]
    · rw [hs]
      apply List.ext_getElem?
      intro i
      have h1 := congrArg (·[i]?) hl
      simp only [List.getElem?_map, Array.getElem?_toList] at h1
      simp only [List.getElem?_map, Array.getElem?_toList, Array.getElem?_modify, List.getElem?_set]
      by_cases hij : j = i
      · subst hij
        rw [if_pos rfl, if_pos rfl, if_pos hj]
        rw [Array.getElem?_eq_getElem (by omega)]
        simp
      · rw [if_neg hij, if_neg hij]
        exact h1
    · intro e he
      obtain ⟨i, hi⟩ := List.mem_iff_getElem?.1 he
      simp only [Array.getElem?_toList, Array.getElem?_modify] at hi
      split at hi
      · rw [Option.map_eq_some_iff] at hi
        obtain ⟨e0, he0, rfl⟩ := hi
        exact hborn e0 (List.mem_iff_getElem?.2 ⟨i, by simpa using he0⟩)
      · exact hborn e (List.mem_iff_getElem?.2 ⟨i, by simpa using hi⟩)
    · have : (es.modify j fun e => { e with key := kv k, val := v }).toList.map (·.born) = es.toList.map (·.born) := by
        apply List.ext_getElem?
        intro i
        simp only [List.getElem?_map, Array.getElem?_toList, Array.getElem?_modify]
        split
        · simp [Option.map_map]; rfl
        · rfl
      rw [this]
      exact hnd
theorem GMap.update [DecidableEq α] {T K E : TypeId} (h : GMap kv w b l) (hT : P.underlying T = some (.map K E)) (hK : KeyOk P K kv) (k : α) (v : Value) :
    ∃ o, (Instr.mapUpdate T (.map (some b)) (kv k) v).run P w = .ok () (setBlock w b o) ∧ GMap kv (setBlock w b o) b (gset k v l) := by
  obtain ⟨o, ho⟩ := h.updates hT hK k v
  exact ⟨o, ho w rfl⟩

/-- 'len(m)' -/
theorem GMap.len {T K E : TypeId} (h : GMap kv w b l) (hT : P.underlying T = some (.map K E)) (ty : TypeId) : (Builtin.len_ #[T] ty #[.map (some b)]).run P w = .ok (.int .i64 l.length) w := by
  obtain ⟨es, clock, hb, hl, _⟩ := h
  have hsz : es.size = l.length := by have := congrArg List.length hl; simpa using this
  simp [Builtin.len_, run_underlying hT, MapKept.run_getObj_map hb, goInt, hsz]

/-- 'delete(m, k)' -/
theorem GMap.delete [DecidableEq α] {T K E : TypeId} (h : GMap kv w b l) (hT : P.underlying T = some (.map K E)) (hK : KeyOk P K kv) (k : α) (ty K' : TypeId) :
    ∃ o, (Builtin.delete_ #[T, K'] ty #[.map (some b), kv k]).run P w = .ok (.tuple #[]) (setBlock w b o) ∧ GMap kv (setBlock w b o) b (gdel k l) := by
  have hlt := h.lt
  obtain ⟨es, clock, hb, hl, hborn, hnd, hn⟩ := h
  have hc : ∀ e w, (Instr.checkKey e 10000 K (kv k)).run P w = .ok () w := fun e w => hK.check e k w
  have hf := fun w => hK.find k es.toList l w hl
  have hsub := gdel_sub k l
  cases hm : gfind k l 0 with
  | none =>
    rw [hm] at hf
    obtain ⟨_, h1⟩ := gfind_none hm
    refine ⟨.map es clock, ?_, _, _, block_setBlock_same w _ hlt, by rw [h1]; exact hl, hborn, hnd, by rw [h1]; exact hn⟩
    simp [Builtin.delete_, run_underlying hT, MapKept.run_getObj_map hb, MapKept.run_setObj_map _ hb, hc, hf, setBlock]
  | some x =>
    rw [hm] at hf
    obtain ⟨j, v', rfl, hj, hlj, _, hd⟩ := gfind_some hm
    have hsz : es.size = l.length := by have := congrArg List.length hl; simpa using this
    have her : (es.eraseIdxIfInBounds j).toList = es.toList.eraseIdx j := by
      rw [Array.eraseIdxIfInBounds, dif_pos (by omega), Array.toList_eraseIdx]
    refine ⟨.map (es.eraseIdxIfInBounds j) clock, ?_, _, _, block_setBlock_same w _ hlt, ?_, ?_, ?_, ?_⟩
    · simp only [Nat.zero_add] at hf
      simp [Builtin.delete_, run_underlying hT, MapKept.run_getObj_map hb, MapKept.run_setObj_map _ hb, hc, hf, setBlock]
    · rw [her, hd, Go.ChangeMaps.map_eraseIdx, Go.ChangeMaps.map_eraseIdx, hl]
    · intro e he
      rw [her] at he
      exact hborn e (List.mem_of_mem_eraseIdx he)
    · rw [her]
      exact List.Nodup.sublist ((List.eraseIdx_sublist _ _).map _) hnd
    · exact List.Nodup.sublist (hsub.map _) hn
end
end

end Go.Proofs.YtdpmmafkomchaaaGreat
