/- Without the document's answer: what is near of more is no less; what is near of what is near is near; each root that is there is. -/
import Derived.Test.YtdpmmafkomchaaaGreatDo6
import Derived.Test.YtdpmmafkomchaaaGreatSecXY
namespace Go.Proofs.YtdpmmafkomchaaaGreat
set_option linter.unusedVariables false
set_option linter.unusedSimpArgs false
open Go.RowKit
open Go.ChangeMaps (setBlock)

section
variable {L : List Rw} {R R' : List Int} {k : Int}
theorem nearL_congr (h : ∀ k, NearR L R k ↔ NearR L R' k) : nearL L R = nearL L R' := by
  classical
  unfold nearL
  refine List.filter_congr fun k _ => ?_
  simp only [h k]
theorem near_near (h : Rising L) : nearL L (nearL L R) = nearL L R := by
  refine nearL_congr fun k => ⟨fun hk => ?_, fun hk => ?_⟩
  · induction hk with
    | root h1 h2 => exact (mem_nearL h _).1 h1
    | step _ h2 h3 ih => exact .step ih h2 h3
  · exact .root ((mem_nearL h _).2 hk) hk.isThere
theorem near_all (h : Rising L) : nearL L (L.map Rw.id) = L.map Rw.id := by
  classical
  unfold nearL
  rw [List.filter_eq_self]
  intro k hk
  obtain ⟨r, hr, rfl⟩ := List.mem_map.1 hk
  rw [decide_eq_true_eq]
  exact .root hk (by unfold thereR; rw [lk_of_mem h hr]; rfl)
theorem near_le (h : ∀ k ∈ R, k ∈ R') : (nearL L R).length ≤ (nearL L R').length := by
  classical
  unfold nearL
  rw [← List.countP_eq_length_filter, ← List.countP_eq_length_filter]
  exact List.countP_mono_left fun k _ hk => decide_eq_true ((of_decide_eq_true hk : NearR L R k).mono fun k hk _ => h k hk)
theorem near_most (L : List Rw) (R : List Int) : (nearL L R).length ≤ (L.map Rw.id).length := List.length_filter_le _ _
theorem near_root (h : Rising L) (hk : k ∈ R) : decide (k ∈ nearL L R) = (lk L k).isSome := by
  rw [Bool.eq_iff_iff, decide_eq_true_eq, mem_nearL h]
  exact ⟨fun hn => hn.isThere, fun ht => .root hk ht⟩
end
theorem SecS.rise {w : World} {Q : SB} {N made : Nat} {L : List Rw} (h : SecS w Q N L made) : Rising L := by obtain ⟨es, h⟩ := h; exact h.rise
theorem SecS.ids64 {w : World} {Q : SB} {N made : Nat} {L : List Rw} (h : SecS w Q N L made) : ∀ k ∈ L.map Rw.id, In64 k := by obtain ⟨es, h⟩ := h; exact h.ids64
theorem SecS.len {w : World} {Q : SB} {N made : Nat} {L : List Rw} (h : SecS w Q N L made) : L.length ≤ 1048576 := by obtain ⟨es, h⟩ := h; exact h.len
theorem near64 {w : World} {Q : SB} {N made : Nat} {L : List Rw} (h : SecS w Q N L made) (R : List Int) : ∀ k ∈ nearL L R, In64 k := fun k hk => h.ids64 k (List.mem_filter.1 hk).1
theorem mem_step {X : List Int} {k : Nat} {m : Int} (h : k < X.length) : decide (m ∈ X.take (k + 1)) = (decide (m ∈ X.take k) || (X[k]?.getD 0 == m)) := by
  rw [List.take_add_one, List.getElem?_eq_getElem h, Bool.eq_iff_iff]
  simp only [decide_eq_true_eq, Bool.or_eq_true, beq_iff_eq, List.mem_append, Option.toList_some, List.mem_singleton, Option.getD_some]
  exact ⟨fun h => h.imp id Eq.symm, fun h => h.imp id Eq.symm⟩
/-- append what came in to a slice of the call's own -/
theorem app_ints {w : World} {base : Nat} {S : Nat → Prop} {v u : Value} {l r : List Int} (h : OwnInts w base v l) (hr : IntS w S u r) (hl : l.length + r.length < 10000000000000) (hB : base ≤ w.heap.size) (ty : TypeId) :
    ∃ A c w', (Builtin.append_ #[23, 23] ty #[v, u]).run Tryz.prog w = .ok (.slice A (l.length + r.length) c) w' ∧ OwnInts w' base (.slice A (l.length + r.length) c) (l ++ r) ∧ Chg (fun k => base ≤ k) w w' := by
  obtain ⟨v', w4, hrun, ho, hg⟩ := run_app elem_int (by decide) h hr.1 (by intro x hx; simp at hx; obtain ⟨y, _, rfl⟩ := hx; rfl) (by unfold maxLen; omega) (by omega) hB ty
  obtain ⟨A, c, rfl⟩ := own_form ho
  exact ⟨A, c, w4, hrun, by simpa [OwnInts] using ho, (Chg.refl _ _).grown hg (fun k hk => .inl (own_ge h hk))⟩
theorem own_nil (w : World) (base : Nat) : OwnInts w base (.slice none 0 0) [] := World.ownsRow_nil w base 3 1

theorem DoR.elem {w : World} {A : Option Addr} {n c : Nat} {D : List D6} (h : DoR w (fun b => b < w.heap.size) (.slice A n c) D) {i : Nat} {kk id : Int} {o : O} {xv yv : Value} (ht : D[i]? = some (kk, id, o, xv, yv)) : ∃ b off A1 ca1 A2 ca2, A = some ⟨b, off, none⟩ ∧ xv = .slice A1 o.W.length ca1 ∧ yv = .slice A2 o.B.length ca2 ∧
    ∀ W, Chg No w W → ObjR W (fun b => b < w.heap.size) (.agg (cells2 o xv yv)) o ∧ In64 id ∧ W.cell? ⟨b, off + i * 6, none⟩ = some (.int .i64 kk) ∧ W.cell? ⟨b, off + i * 6 + 1, none⟩ = some (.int .i64 id) ∧ W.cell? ⟨b, off + i * 6 + 2, none⟩ = some (.int .i64 o.cls) ∧ W.cell? ⟨b, off + i * 6 + 2 + 1, none⟩ = some (.int .i64 o.kind) ∧ W.cell? ⟨b, off + i * 6 + 2 + 2, none⟩ = some xv ∧ W.cell? ⟨b, off + i * 6 + 2 + 3, none⟩ = some yv := by
  obtain ⟨b, off, e, -, -, -, -, hok, -⟩ := h.at ht
  obtain ⟨A1, ca1, e1, -⟩ := hok.1.form
  obtain ⟨A2, ca2, e2, -⟩ := hok.2.1.form
  refine ⟨b, off, A1, ca1, A2, ca2, e, e1, e2, fun W hW => ?_⟩
  obtain ⟨b', off', e', -, -, -, h2, hok', hc⟩ := (h.keep hW (fun _ _ f => f)).at ht
  obtain ⟨rfl, rfl⟩ : b = b' ∧ off = off' := by rw [e] at e'; simpa using e'
  exact ⟨⟨_, _, rfl, hok'⟩, h2, hc⟩

end Go.Proofs.YtdpmmafkomchaaaGreat
