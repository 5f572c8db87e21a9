/- The cache of what was looked up: kit.NewCache, (*kit.Cache).Hits, Clear. -/
import Derived.Test.YtjanojignaonfaaLook
import Derived.Deep.OwnRows
import Derived.Lib.SliceRun
import Derived.Lib.MinMax
namespace Go.Proofs.Ytjanojignaonfaa
set_option linter.unusedVariables false
set_option linter.unusedSimpArgs false
open Go.RowKit

/-- the place of what was asked -/
def placeC (n : Nat) (c s : Int) : Nat := (IntKind.u64.wrap (IntKind.i64.wrap (IntKind.i64.wrap (c * 31) + s)) % (n : Int)).toNat
/-- cells of n entries, each empty or as looked up -/
def Good (L : List O) (n : Nat) (cs : Array Value) : Prop := cs.size = n * 4 ∧ ∀ i, i < n → ∃ c s f, ∃ ok : Bool, cs[i * 4]? = some (.int .i64 c) ∧ cs[i * 4 + 1]? = some (.int .i64 s) ∧ cs[i * 4 + 2]? = some (.int .i64 f) ∧ cs[i * 4 + 3]? = some (.bool ok) ∧ (c = 0 ∧ s = 0 ∨ lookV L 60 c s = (f, ok))
/-- a cache at block q, its entries in block b -/
def CacheS (w : World) (q b n : Nat) (cs : Array Value) (h a : Int) : Prop := Row w q 111 #[.slice (some ⟨b, 0, none⟩) n n, .int .i64 h, .int .i64 a] ∧ Row w b 116 cs
/-- this was asked at its place last -/
def Last (n : Nat) (cs : Array Value) (c s : Int) : Prop := cs[placeC n c s * 4]? = some (.int .i64 c) ∧ cs[placeC n c s * 4 + 1]? = some (.int .i64 s)
/-- nothing was asked -/
def Clean (n : Nat) (cs : Array Value) : Prop := cs.size = n * 4 ∧ ∀ i, i < n → cs[i * 4]? = some (.int .i64 0) ∧ cs[i * 4 + 1]? = some (.int .i64 0) ∧ cs[i * 4 + 2]? = some (.int .i64 0) ∧ cs[i * 4 + 3]? = some (.bool false)
theorem Clean.good {n : Nat} {cs : Array Value} (h : Clean n cs) (L : List O) : Good L n cs := ⟨h.1, fun i hi => ⟨0, 0, 0, false, (h.2 i hi).1, (h.2 i hi).2.1, (h.2 i hi).2.2.1, (h.2 i hi).2.2.2, .inl ⟨rfl, rfl⟩⟩⟩
theorem clean_made (n : Nat) : Clean n (madeCells #[.int .i64 0, .int .i64 0, .int .i64 0, .bool false] (n * 4)) := by
  refine ⟨size_madeCells _ _, fun i hi => ?_⟩
  have hg : ∀ k, k < n * 4 → (madeCells #[.int .i64 0, .int .i64 0, .int .i64 0, .bool false] (n * 4))[k]? = some ((#[.int .i64 0, .int .i64 0, .int .i64 0, .bool false] : Array Value)[k % 4]!) := by
    intro k hk
    simp [madeCells, hk]
  rw [hg _ (by omega), hg _ (by omega), hg _ (by omega), hg _ (by omega), show i * 4 % 4 = 0 by omega, show (i * 4 + 1) % 4 = 1 by omega, show (i * 4 + 2) % 4 = 2 by omega, show (i * 4 + 3) % 4 = 3 by omega]
  exact ⟨rfl, rfl, rfl, rfl⟩
theorem place_lt {n : Nat} (hn : 0 < n) (c s : Int) : placeC n c s < n := by
  unfold placeC
  have := Int.emod_nonneg (IntKind.u64.wrap (IntKind.i64.wrap (IntKind.i64.wrap (c * 31) + s))) (show (n : Int) ≠ 0 by omega)
  have := Int.emod_lt_of_pos (IntKind.u64.wrap (IntKind.i64.wrap (IntKind.i64.wrap (c * 31) + s))) (show (0 : Int) < (n : Int) by omega)
  omega
section
variable {w w' : World} {q b n : Nat} {cs : Array Value} {h a : Int} {F : Nat → Prop}
theorem CacheS.keep (C : CacheS w q b n cs h a) (c : Chg F w w') (hq : ¬ F q) (hb : ¬ F b) : CacheS w' q b n cs h a := ⟨C.1.keep c hq, C.2.keep c hb⟩

set_option maxRecDepth 100000 in
theorem Hits_any (C : CacheS w q b n cs h a) : Calls Try.prog 30 #[.pointer (some ⟨q, 0, none⟩)] w fun e w' => e = .returned (.tuple #[.int .i64 h, .int .i64 a]) ∧ Chg No w w' := by
  have x1 := C.1.cell 1
  have x2 := C.1.cell 2
  simp at x1 x2
  go_enter Try.func30, Try.ntmps30
  go_wp2_with fail
  go_quiet (fail)
  go_wp2_with fail
  go_ret2
  exact ⟨rfl, (Chg.refl _ _).drewN _⟩

set_option maxRecDepth 100000 in
set_option maxHeartbeats 1000000 in
theorem NewCache_any (k : Int) (h1 : -128 ≤ k) (h2 : k ≤ 127) (w : World) : Calls Try.prog 27 #[.int .i64 k] w fun e w' => ∃ q b n cs, e = .returned (.pointer (some ⟨q, 0, none⟩)) ∧ w.heap.size ≤ q ∧ w.heap.size ≤ b ∧ 0 < n ∧ n ≤ 128 ∧ CacheS w' q b n cs 0 0 ∧ Clean n cs ∧ Chg No w w' := by
  obtain ⟨n, hn⟩ : ∃ n : Nat, max k 1 = (n : Int) := ⟨(max k 1).toNat, by omega⟩
  have hn0 : 0 < n ∧ n ≤ 128 := by omega
  have hmk : ∀ w, (Instr.makeSlice 109 (.int .i64 (n : Int)) (.int .i64 (n : Int))).run Try.prog w = .ok (.slice (some ⟨w.heap.size, 0, none⟩) n n) (w.alloc (.cells (madeCells #[.int .i64 0, .int .i64 0, .int .i64 0, .bool false] (n * 4)) 116)) := by
    intro w
    have hinfo : (Try.prog.info? 116).map (fun i => (i.zero, i.size, i.bytes)) = some (some (.agg #[.int .i64 0, .int .i64 0, .int .i64 0, .bool false]), 4, 32) := by kernel_rfl
    obtain ⟨i, hi, hzz⟩ := Option.map_eq_some_iff.1 hinfo
    simp only [Prod.mk.injEq] at hzz
    obtain ⟨hz, hs, hb⟩ := hzz
    have hr := run_make (P := Try.prog) w 109 116 i _ (by kernel_rfl) hi hz .i64 .i64 n n (by omega) (Int.le_refl _) (by rw [hb]; omega) (by omega)
    simp only [Int.toNat_natCast, hs] at hr
    rw [show (Value.agg #[.int .i64 0, .int .i64 0, .int .i64 0, .bool false]).cells = #[.int .i64 0, .int .i64 0, .int .i64 0, .bool false] by kernel_rfl] at hr
    exact hr
  go_enter Try.func27, Try.ntmps27
  go_wp2_with fail
  go_ret
  refine ⟨w.heap.size + 1, w.heap.size, n, _, rfl, by omega, Nat.le_refl _, hn0.1, hn0.2, ⟨?_, ?_⟩, clean_made n, ((Chg.refl _ _).alloc _).alloc _⟩
  · have := Row.new (w.alloc (.cells (madeCells #[.int .i64 0, .int .i64 0, .int .i64 0, .bool false] (n * 4)) 116)) 111 #[.slice (some ⟨w.heap.size, 0, none⟩) n n, .int .i64 0, .int .i64 0]
    simpa using this
  · exact (Row.new w 116 _).alloc _

theorem Row.setMany {t : TypeId} : ∀ (l : List Value) (o : Nat) (w : World) (cs : Array Value), Row w b t cs → o + l.length ≤ cs.size → ∃ cs', Row (w.setCells b o l) b t cs' ∧ cs'.size = cs.size ∧ (∀ j, j < l.length → cs'[o + j]? = l[j]?) ∧ ∀ j, j < o → cs'[j]? = cs[j]?
  | [], o, w, cs, h, _ => ⟨cs, h, rfl, (fun j hj => absurd hj (by simp)), fun _ _ => rfl⟩
  | v :: r, o, w, cs, h, hl => by
    simp only [List.length_cons] at hl
    obtain ⟨cs', h1, h2, h3, h4⟩ := Row.setMany r (o + 1) (w.setCell ⟨b, o, none⟩ v) (cs.setIfInBounds o v) (h.set o v) (by simp; omega)
    refine ⟨cs', h1, by simpa using h2, fun j hj => ?_, fun j hj => ?_⟩
    · cases j with
      | zero =>
        rw [Nat.add_zero, h4 o (by omega)]
        simp [show o < cs.size by omega]
      | succ j =>
        rw [show o + (j + 1) = o + 1 + j by omega, h3 j (by simpa using hj)]
        rfl
    · rw [h4 j (by omega), Array.getElem?_setIfInBounds_ne (by omega)]
theorem Chg.setMany {a : World} : ∀ (l : List Value) (o : Nat) (w : World), Chg F a w → F b ∨ a.heap.size ≤ b → Chg F a (w.setCells b o l)
  | [], _, _, h, _ => h
  | v :: r, o, w, h, hb => Chg.setMany r (o + 1) _ (h.setCell (p := ⟨b, o, none⟩) hb v) hb

theorem run_clear_clean (w : World) (ty : TypeId) (hn : 0 < n) (hr : Row w b 116 cs) (hs : cs.size = n * 4) :
    ∃ w' cs', (Builtin.clear_ #[109] ty #[.slice (some ⟨b, 0, none⟩) n n]).run Try.prog w = .ok (.tuple #[]) w' ∧ Row w' b 116 cs' ∧ Clean n cs' ∧ ∀ F a, Chg F a w → (F b ∨ a.heap.size ≤ b) → Chg F a w' := by
  obtain ⟨l, hl⟩ : ∃ l, (Builtin.zeroCells #[.int .i64 0, .int .i64 0, .int .i64 0, .bool false] n).toList = l := ⟨_, rfl⟩
  have hlen : l.length = n * 4 := by rw [← hl]; simp [Builtin.zeroCells]
  have hat : ∀ k, k < n * 4 → l[k]? = some ((#[.int .i64 0, .int .i64 0, .int .i64 0, .bool false] : Array Value)[k % 4]!) := by
    intro k hk
    rw [← hl]
    simp [Builtin.zeroCells]
    refine ⟨k, ?_, rfl⟩
    exact List.getElem?_range hk
  have hv : ∀ w, (zeroValue 116).run Try.prog w = .ok (.agg #[.int .i64 0, .int .i64 0, .int .i64 0, .bool false]) w := fun w => by kernel_rfl
  have ht : Try.prog.underlying 109 = some (.slice 116) := by kernel_rfl
  have hst := run_storeCells_cells (P := Try.prog) b 0 l 0 w (by
    intro j hj
    rw [hr.cell, Array.getElem?_eq_getElem (by omega)]
    rfl) (by intro j hj; exact hr.frozen _) (by
    intro v hv'
    obtain ⟨k, hk, rfl⟩ := List.mem_iff_getElem.1 hv'
    have h1 := hat k (by omega)
    rw [List.getElem?_eq_getElem hk] at h1
    rw [Option.some.inj h1]
    have h4 : k % 4 = 0 ∨ k % 4 = 1 ∨ k % 4 = 2 ∨ k % 4 = 3 := by omega
    rcases h4 with h4 | h4 | h4 | h4 <;> rw [h4] <;> rfl)
  simp only [Nat.add_zero] at hst
  obtain ⟨cs', h1, h2, h3, -⟩ := Row.setMany l 0 w cs hr (by omega)
  refine ⟨w.setCells b 0 l, cs', ?_, h1, ⟨h2.trans hs, fun i hi => ?_⟩, fun F a h hb => Chg.setMany l 0 w h hb⟩
  · obtain ⟨m, rfl⟩ : ∃ m, n = m + 1 := ⟨n - 1, by omega⟩
    have hc : (Value.agg #[.int .i64 0, .int .i64 0, .int .i64 0, .bool false]).cells = #[.int .i64 0, .int .i64 0, .int .i64 0, .bool false] := by kernel_rfl
    simp [Builtin.clear_, run_underlying ht, hv, hc, hl, hst]
  · have e : ∀ k, k < n * 4 → cs'[k]? = some ((#[.int .i64 0, .int .i64 0, .int .i64 0, .bool false] : Array Value)[k % 4]!) := by
      intro k hk
      have := h3 k (by omega)
      rw [Nat.zero_add] at this
      rw [this, hat k hk]
    rw [e _ (by omega), e _ (by omega), e _ (by omega), e _ (by omega), show i * 4 % 4 = 0 by omega, show (i * 4 + 1) % 4 = 1 by omega, show (i * 4 + 2) % 4 = 2 by omega, show (i * 4 + 3) % 4 = 3 by omega]
    exact ⟨rfl, rfl, rfl, rfl⟩

set_option maxRecDepth 100000 in
set_option maxHeartbeats 1000000 in
theorem Clear_any {W1 : World} (C : CacheS w q b n cs h a) (hn : 0 < n) (hs : cs.size = n * 4) (hq : W1.heap.size ≤ q) (hb : W1.heap.size ≤ b) (hc : Chg No W1 w) : Calls Try.prog 31 #[.pointer (some ⟨q, 0, none⟩)] w fun e w' => e = .returned (.tuple #[]) ∧ ∃ cs', CacheS w' q b n cs' h a ∧ Clean n cs' ∧ Chg No W1 w' := by
  have x0 := C.1.cell 0
  simp at x0
  obtain ⟨w', cs', hrun, hr', hcl, hch⟩ := run_clear_clean w 0 hn C.2 hs
  have hne : b ≠ q := C.2.ne C.1 (by decide)
  have HR := Lib.hid (And.intro hc (And.intro hr' (And.intro hcl hch)))
  have HC := Lib.hid C
  clear C hc hr' hcl hch
  go_enter Try.func31, Try.ntmps31
  go_wp2_with fail
  go_end0
  exact ⟨rfl, cs', ⟨HC.out.1.keep (F := fun k => k = b) (HR.out.2.2.2 _ _ (Chg.refl _ _) (.inl rfl)) (fun e => hne e.symm), HR.out.2.1⟩, HR.out.2.2.1, HR.out.2.2.2 _ _ HR.out.1 (.inr hb)⟩
end

end Go.Proofs.Ytjanojignaonfaa
