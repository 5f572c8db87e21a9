/- image.Snap: the new names of what is taken, plainly; the walk of 'renamed'. -/
import Derived.Test.YtncoanmgifgcbaaDoorNearB
namespace Go.Proofs.YtncoanmgifgcbaaDoor
set_option linter.unusedVariables false
set_option linter.unusedSimpArgs false
open Go.RowKit
open Go.ChangeMaps (setBlock)

/-- the new name of what a reference names, if that is taken -/
def frI (all : List Int) (o : Int) : Option Int := (all.findIdx? fun id => 2 * id == o).map fun i : Nat => 2 * ((i : Int) + 1)
/-- by its new name -/
def renI (all : List Int) (o : Int) : Int := if numOk o = true then o else (frI all o).getD 2
def renO (all : List Int) (x : O) : O := ⟨renI all x.cls, x.kind, x.W.map (renI all), x.B⟩
/-- what Snap takes, if it may -/
noncomputable def snapL (L : List O) (all : List Int) : List O := all.map fun id => renO all (objV L (2 * id))
def snapF (all : List Int) (f : Int) : Int := (frI all f).getD 2
theorem frI_snoc {all : List Int} {id : Int} (hn : id ∉ all) (o : Int) : frI (all ++ [id]) o = if o = 2 * id then some (2 * ((all.length : Int) + 1)) else frI all o := by
  unfold frI
  rw [List.findIdx?_append]
  by_cases h : o = 2 * id
  · rw [if_pos h]
    have h0 : all.findIdx? (fun x => 2 * x == o) = none := by
      rw [List.findIdx?_eq_none_iff]
      intro x hx
      have : x ≠ id := fun e => hn (e ▸ hx)
      simp
      omega
    rw [h0]
    simp [List.findIdx?_cons, h]
  · rw [if_neg h]
    cases h0 : all.findIdx? (fun x => 2 * x == o) with
    | some i => simp
    | none =>
      have : (2 * id == o) = false := by simp; omega
      simp [List.findIdx?_cons, this]
theorem frI_bd {all : List Int} {o y : Int} (h : frI all o = some y) : 2 ≤ y ∧ y ≤ 2 * (all.length : Int) := by
  unfold frI at h
  cases h0 : all.findIdx? (fun x => 2 * x == o) with
  | none => rw [h0] at h; cases h
  | some i =>
    rw [h0] at h
    have h1 := (List.findIdx?_eq_some_iff_findIdx_eq.1 h0).1
    simp at h
    omega
theorem IMap.lookupOk' {w : World} {b : Nat} {l : List (Int × Value)} {P : Program} {T K E : TypeId} (h : IMap w b l) (hT : P.underlying T = some (.map K E)) (hK : P.underlying K = some (.int .i64)) {z : Value} (hz : ∀ w, (zeroValue E).run P w = .ok z w) (k : Int) :
    (Instr.lookup T (.map (some b)) (.int .i64 k) true).run P w = .ok (.tuple #[(mget k l).getD z, .bool (mget k l).isSome]) w := by
  obtain ⟨es, clock, hb, hl, _⟩ := h
  have hc : ∀ e w, (Instr.checkKey e 10000 K (.int .i64 k)).run P w = .ok () w := fun e w => run_checkKey hK e 9999 k w
  have hf := fun w => run_findKey (P := P) hK k es.toList l hl w
  rw [← mfind_mget k l 0]
  cases hm : mfind k l 0 with
  | none =>
    rw [hm] at hf
    simp [Instr.lookup, run_underlying hT, MapKept.run_getObj_map hb, hc, hf, hz]
  | some x =>
    rw [hm] at hf
    simp [Instr.lookup, run_underlying hT, MapKept.run_getObj_map hb, hc, hf]
theorem elem_imap : Tryd.prog.underlying 71 = some (.map 3 3) := Tryd.underlying71
theorem zero_int0 (w : World) : (zeroValue 3).run Tryd.prog w = .ok (.int .i64 0) w := by kernel_rfl
/-- the map of the new names -/
structure FreshI (w : World) (b : Nat) (all : List Int) (sl : List (Int × Value)) : Prop where
  map : IMap w b sl
  get : ∀ o, mget o sl = (frI all o).map (Value.int .i64)
theorem FreshI.keep {w w' : World} {F : Nat → Prop} {b : Nat} {all : List Int} {sl : List (Int × Value)} (h : FreshI w b all sl) (c : Chg F w w') (hb : ¬ F b) : FreshI w' b all sl := ⟨h.map.keep c hb, h.get⟩
theorem FreshI.look {w : World} {b : Nat} {all : List Int} {sl : List (Int × Value)} (h : FreshI w b all sl) (o : Int) : (Instr.lookup 71 (.map (some b)) (.int .i64 o) true).run Tryd.prog w = .ok (.tuple #[.int .i64 ((frI all o).getD 0), .bool (frI all o).isSome]) w := by
  have h1 := h.map.lookupOk' (P := Tryd.prog) elem_imap Tryd.underlying3 zero_int0 o
  rw [h.get] at h1
  rw [h1]
  cases frI all o <;> rfl
theorem FreshI.set {w : World} {b : Nat} {all : List Int} {sl : List (Int × Value)} (h : FreshI w b all sl) {id : Int} (hn : id ∉ all) :
    ∃ o, ∀ w', w'.heap[b]? = w.heap[b]? → (Instr.mapUpdate 71 (.map (some b)) (.int .i64 (2 * id)) (.int .i64 (2 * ((all.length : Int) + 1)))).run Tryd.prog w' = .ok () (setBlock w' b o) ∧ FreshI (setBlock w' b o) b (all ++ [id]) (mset (2 * id) (.int .i64 (2 * ((all.length : Int) + 1))) sl) := by
  obtain ⟨o, ho⟩ := h.map.updates (P := Tryd.prog) elem_imap Tryd.underlying3 (2 * id) (.int .i64 (2 * ((all.length : Int) + 1)))
  refine ⟨o, fun w' hw => ⟨(ho w' hw).1, (ho w' hw).2, fun j => ?_⟩⟩
  rw [mget_mset, frI_snoc hn]
  by_cases hj : j = 2 * id
  · simp [hj]
  · simp [hj, h.get j]

set_option maxRecDepth 100000 in
set_option maxHeartbeats 600000 in
theorem renamed_any {w : World} {b bx : Nat} {all : List Int} {sl : List (Int × Value)} (h : FreshI w b all sl) (hb : w.cell? ⟨bx, 0, none⟩ = some (.map (some b))) (o : Int) (h64 : In64 o) :
    Calls Tryd.prog 34 #[.int .i64 o, .pointer (some ⟨bx, 0, none⟩)] w fun e w' => e = .returned (.int .i64 (renI all o)) ∧ w = w' := by
  have hlk := h.look o
  clear h
  unfold renI
  cases hn : numOk o with
  | true =>
    rw [if_pos rfl]
    have HN := Lib.hid hn
    clear hn hlk
    go_enter Tryd.func34, Tryd.ntmps34
    go_wp2_with (first
      | (go_at_call 35
         refine (Number_any o h64.1 h64.2 _).mono ?_
         rw [HN.out]
         rintro e w1 ⟨rfl, rfl⟩)
      | fail)
    go_ret
    exact ⟨rfl, rfl⟩
  | false =>
    rw [if_neg (by simp)]
    have HN := Lib.hid hn
    clear hn
    cases hf : frI all o with
    | none =>
      rw [hf] at hlk
      simp only [Option.getD_none, Option.isSome_none] at hlk ⊢
      go_enter Tryd.func34, Tryd.ntmps34
      go_wp2_with (first
        | (go_at_call 35
           refine (Number_any o h64.1 h64.2 _).mono ?_
           rw [HN.out]
           rintro e w1 ⟨rfl, rfl⟩)
        | fail)
      go_ret
      exact ⟨rfl, rfl⟩
    | some y =>
      rw [hf] at hlk
      simp only [Option.getD_some, Option.isSome_some] at hlk ⊢
      go_enter Tryd.func34, Tryd.ntmps34
      go_wp2_with (first
        | (go_at_call 35
           refine (Number_any o h64.1 h64.2 _).mono ?_
           rw [HN.out]
           rintro e w1 ⟨rfl, rfl⟩)
        | fail)
      go_ret
      exact ⟨rfl, rfl⟩

end Go.Proofs.YtncoanmgifgcbaaDoor
