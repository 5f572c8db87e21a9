/- The keys of a map, sorted: slices.Sorted(maps.Keys(m)). -/
import Derived.Test.YtdpmmafkomchaaaGreatSecOR
import Derived.Test.YtdpmmafkomchaaaGreatShelf
namespace Go.Proofs.YtdpmmafkomchaaaGreat
set_option linter.unusedVariables false
set_option linter.unusedSimpArgs false
open Go.RowKit Go.Maps Go.Sort Go.Shelf
open Go.WideElems (rd rg Fit)

/-- every entry reads as nothing but its key -/
def noneR : Value → Option (DataW Unit × List MemPlace) := fun _ => some (.nil, [])
theorem rd_int {P : Program} {K : TypeId} (hK : P.underlying K = some (.int .i64)) {e : MapEntry} {k : Int} (hk : e.key = .int .i64 k) (h : (Lit.int .i64 k).wf = true) : rd P K noneR e = some (.int .i64 k, .nil) := by
  have h1 : keyOf P K (.int .i64 k) = some (.int .i64 k) := by simp [keyOf, hK, mapKey, h]
  simp [Go.WideElems.rd, hk, h1, noneR]
theorem wf_in64 {k : Int} (h : In64 k) : (Lit.int .i64 k).wf = true := by
  unfold In64 at h
  have h1 : IntKind.i64.min = -9223372036854775808 := by decide
  have h2 : IntKind.i64.max = 9223372036854775807 := by decide
  simp [Lit.wf, h1, h2]
  omega

/-- a map with integer keys, as the library's contracts ask for it -/
theorem IMap.owns {w : World} {b : Nat} {l : List (Int × Value)} {P : Program} {K : TypeId} (hK : P.underlying K = some (.int .i64)) (h : IMap w b l) (hk : ∀ k ∈ l.map (·.1), In64 k) (hl : l.length ≤ maxLen) :
    ∃ D0 : DataW Unit, w.ownsMap P K noneR b l.length D0 ∧ (intKeys D0).Perm (l.map (·.1)) ∧ Go.Maps.size D0 = l.length := by
  obtain ⟨es, clock, hb, he, hborn, hnd, hn⟩ := h
  have hsz : es.size = l.length := by have := congrArg List.length he; simpa using this
  have hkeys : ∀ e ∈ es.toList, ∃ k, e.key = .int .i64 k ∧ (Lit.int .i64 k).wf = true := fun e hm => by
    obtain ⟨k, h1, h2⟩ := entry_mem he hm
    exact ⟨k, h1, wf_in64 (hk k (List.mem_map.2 ⟨_, h2, rfl⟩))⟩
  have hrg : (es.toList.map (rg P K noneR)) = l.map fun x => (Lit.int .i64 x.1, (.nil : DataW Unit)) := by
    have h1 : es.toList.map (rg P K noneR) = es.toList.map fun e => (Lit.int .i64 (match e.key with | .int _ k => k | _ => 0), (.nil : DataW Unit)) := by
      refine List.map_congr_left fun e hm => ?_
      obtain ⟨k, h1, h2⟩ := hkeys e hm
      rw [Go.WideElems.rg_of (rd_int hK h1 h2), h1]
    rw [h1]
    have h2 := congrArg (List.map fun p : Value × Value => (Lit.int .i64 (match p.1 with | .int _ k => k | _ => 0), (.nil : DataW Unit))) he
    rw [List.map_map, List.map_map] at h2
    exact h2
  refine ⟨_, ⟨es, clock, hb, ⟨by rw [hsz]; exact hl, ⟨hborn, hnd, keys_nodup he hn⟩, fun e hm => ?_⟩, by rw [hsz]; exact Nat.le_refl _, rfl⟩, ?_, ?_⟩
  · obtain ⟨k, h1, h2⟩ := hkeys e hm
    exact ⟨_, rd_int hK h1 h2⟩
  · rw [hrg]
    show ((List.foldr DataW.insert [] _).map fun p => Go.intOf p.1).Perm _
    have := (Go.WideShapes.sorted_perm (l.map fun x => (Lit.int .i64 x.1, (.nil : DataW Unit)))).map fun p => Go.intOf p.1
    rw [List.map_map] at this
    exact this
  · show (List.foldr DataW.insert [] _).length = _
    rw [(Go.WideShapes.sorted_perm _).length_eq, List.length_map]
    simpa using hsz
/-- sorted, they are the rising list that holds them -/
theorem sort_rising {R ss : List Int} (hR : R.Pairwise (· < ·)) (hp : ss.Perm R) : ss.mergeSort leI = R := by
  rw [mergeSort_of_perm_i hp]
  have := List.mergeSort_of_pairwise (le := leI) (l := R) (hR.imp fun {a b} h => by simp [leI]; omega)
  exact this

theorem sortsA (m : Nat) : AnyZI.SortsIn Tryz.prog Tryz.sortedA_ren Fence.wide m :=
  ⟨fun blk off cap ss W hH hblk hsz => callsIn_wide.2 (AnyM.slices_Sort_int Tryz.sortA blk off cap ss W hH hblk hsz),
   fun p cap W => callsIn_wide.2 (AnyM.slices_Sort_int_none Tryz.sortA p cap W)⟩

/-- what the sorted keys are -/
def Sorted (w : World) (R : List Int) (v : Value) (w' : World) : Prop := OwnInts w' w.heap.size v R ∧ Chg No w w'

theorem KeysA_any (mb : Option Nat) (w : World) : Calls Tryz.prog 43 #[.map mb] w fun e w' => e = .returned (.func (.func 79) #[] #[.pointer (some ⟨w.heap.size, 0, none⟩)]) ∧ w' = w.alloc (.cells #[.map mb] 67) :=
  callsIn_wide.1 (AnyZI.keys_in Tryz.keysA Fence.wide 5 trivial rfl mb w)

set_option maxHeartbeats 1000000 in
theorem SortedA_any {w : World} {b : Nat} {l : List (Int × Value)} {R : List Int} (h : IMap w b l) (hR : R.Pairwise (· < ·)) (hp : R.Perm (l.map (·.1))) (hk : ∀ k ∈ R, In64 k) (hl : l.length ≤ 1000000000) :
    Calls Tryz.prog 42 #[.func (.func 79) #[] #[.pointer (some ⟨w.heap.size, 0, none⟩)]] (w.alloc (.cells #[.map (some b)] 67)) (Ret (Sorted w R)) := by
  obtain ⟨D0, hown, hD, hsz⟩ := h.owns (P := Tryz.prog) (K := 3) Tryz.underlying3 (fun k hk' => hk k (hp.mem_iff.2 hk')) (by unfold maxLen; omega)
  have hbl := hown.lt
  have hseq : SeqGives Fence.wide 2 Tryz.prog 79 #[.pointer (some ⟨w.heap.size, 0, none⟩)] encZ (fun ss => ss.Perm (intKeys D0)) (Go.Maps.size D0) (w.alloc (.cells #[.map (some b)] 67)) :=
    AnyZI.keys_gives (ρ := Tryz.keysA_ren) { Tryz.keysA with } Fence.wide _ trivial rfl (by omega) w.heap.size b l.length D0 _ (by simp) (by simp) (by
      obtain ⟨es, clock, hb, Ft, hs, hD⟩ := hown
      exact ⟨es, clock, (Below.heap_alloc _ _ b hbl).trans hb, Ft, hs, hD⟩)
  have cS := AnyZI.sorted_in Tryz.sortedA Fence.wide 5 trivial trivial trivial trivial rfl (by omega) (sortsA _) (enters_of Tryz.func78 (by kernel_rfl) rfl) 79 #[.pointer (some ⟨w.heap.size, 0, none⟩)] trivial (enters_of Tryz.func79 (by kernel_rfl) rfl) _ _ (by rw [hsz]; unfold maxLen; omega) (by rw [hsz]; omega) _ hseq
  change CallsIn _ _ Tryz.prog 42 _ _ _ at cS
  refine (callsIn_wide.1 cS).mono ?_
  rintro e w' ⟨v, ss, rfl, hS, hrow, hnil, hb⟩
  have he : ss.mergeSort (fun x y => decide (x ≤ y)) = R := sort_rising hR (hS.trans (hD.trans hp.symm))
  rw [he] at hrow
  have hlen : ss.length = R.length := by rw [← he, List.length_mergeSort]
  rw [hlen] at hrow
  refine Ret.mk ⟨own_base hrow (by simp), ?_⟩
  exact Chg.of_below (((Below.refl _ w).alloc (Nat.le_refl _) _).trans (hb.mono (by simp)))

theorem KeysB_any (mb : Option Nat) (w : World) : Calls Tryz.prog 46 #[.map mb] w fun e w' => e = .returned (.func (.func 81) #[] #[.pointer (some ⟨w.heap.size, 0, none⟩)]) ∧ w' = w.alloc (.cells #[.map mb] 95) :=
  callsIn_wide.1 (AnyZI.keys_in Tryz.keysB Fence.wide 5 trivial rfl mb w)

set_option maxHeartbeats 1000000 in
theorem SortedB_any {w : World} {b : Nat} {l : List (Int × Value)} {R : List Int} (h : IMap w b l) (hR : R.Pairwise (· < ·)) (hp : R.Perm (l.map (·.1))) (hk : ∀ k ∈ R, In64 k) (hl : l.length ≤ 1000000000) :
    Calls Tryz.prog 42 #[.func (.func 81) #[] #[.pointer (some ⟨w.heap.size, 0, none⟩)]] (w.alloc (.cells #[.map (some b)] 95)) (Ret (Sorted w R)) := by
  obtain ⟨D0, hown, hD, hsz⟩ := h.owns (P := Tryz.prog) (K := 3) Tryz.underlying3 (fun k hk' => hk k (hp.mem_iff.2 hk')) (by unfold maxLen; omega)
  have hbl := hown.lt
  have hseq : SeqGives Fence.wide 2 Tryz.prog 81 #[.pointer (some ⟨w.heap.size, 0, none⟩)] encZ (fun ss => ss.Perm (intKeys D0)) (Go.Maps.size D0) (w.alloc (.cells #[.map (some b)] 95)) :=
    AnyZI.keys_gives (ρ := Tryz.keysB_ren) { Tryz.keysB with } Fence.wide _ trivial rfl (by omega) w.heap.size b l.length D0 _ (by simp) (by simp) (by
      obtain ⟨es, clock, hb, Ft, hs, hD⟩ := hown
      exact ⟨es, clock, (Below.heap_alloc _ _ b hbl).trans hb, Ft, hs, hD⟩)
  have cS := AnyZI.sorted_in Tryz.sortedA Fence.wide 5 trivial trivial trivial trivial rfl (by omega) (sortsA _) (enters_of Tryz.func78 (by kernel_rfl) rfl) 81 #[.pointer (some ⟨w.heap.size, 0, none⟩)] trivial (enters_of Tryz.func81 (by kernel_rfl) rfl) _ _ (by rw [hsz]; unfold maxLen; omega) (by rw [hsz]; omega) _ hseq
  change CallsIn _ _ Tryz.prog 42 _ _ _ at cS
  refine (callsIn_wide.1 cS).mono ?_
  rintro e w' ⟨v, ss, rfl, hS, hrow, hnil, hb⟩
  have he : ss.mergeSort (fun x y => decide (x ≤ y)) = R := sort_rising hR (hS.trans (hD.trans hp.symm))
  rw [he] at hrow
  have hlen : ss.length = R.length := by rw [← he, List.length_mergeSort]
  rw [hlen] at hrow
  refine Ret.mk ⟨own_base hrow (by simp), ?_⟩
  exact Chg.of_below (((Below.refl _ w).alloc (Nat.le_refl _) _).trans (hb.mono (by simp)))

end Go.Proofs.YtdpmmafkomchaaaGreat
