/- A list of objects of a call's own. -/
import Derived.Test.YtncoanmgifgcbaaDoorApp2
import Derived.Test.YtncoanmgifgcbaaDoorLoadA
namespace Go.Proofs.YtncoanmgifgcbaaDoor
set_option linter.unusedVariables false
set_option linter.unusedSimpArgs false
open Go.RowKit

/-- objects of the call's own, in a row of the call's own -/
structure Outs (base : Nat) (wr : World) (v : Value) (T : List T3) : Prop where
  own : wr.ownsRow base 41 4 v T.length (cellsT T)
  el : ∀ t ∈ T, okT wr (fun b => base ≤ b ∧ ¬ v.ownBlock = some b) t
theorem Outs.nil (base : Nat) (wr : World) : Outs base wr (.slice none 0 0) [] := ⟨World.ownsRow_nil _ _ _ _, by simp⟩
theorem Outs.keep {base : Nat} {wr wr' : World} {v : Value} {T : List T3} (h : Outs base wr v T) (c : Chg No wr wr') : Outs base wr' v T :=
  ⟨own_keep h.own c (fun _ _ f => f), fun t ht => (h.el t ht).keep c (fun _ _ f => f)⟩
theorem Outs.form {base : Nat} {wr : World} {v : Value} {T : List T3} (h : Outs base wr v T) : ∃ A c, v = .slice A T.length c := own_form h.own
theorem Outs.ref {base : Nat} {wr : World} {v : Value} {T : List T3} (h : Outs base wr v T) : RefT wr (fun b => base ≤ b) v T :=
  ⟨(Slc.of_own h.own).more fun b _ hb => own_ge h.own hb, fun t ht => (h.el t ht).more fun b _ hS => hS.1⟩
theorem Outs.app {base : Nat} {wr : World} {v : Value} {T : List T3} (h : Outs base wr v T) (hw : base ≤ wr.heap.size) (hT : T.length < 1073741823) {b4 : Nat} {o : O} {A1 A2 : Option Addr} {c1 c2 : Nat} (row : Row wr b4 41 #[.int .i64 o.cls, .int .i64 o.kind, .slice A1 o.W.length c1, .slice A2 o.B.length c2]) (ok : okT wr (fun b => base ≤ b ∧ ¬ v.ownBlock = some b) (o, .slice A1 o.W.length c1, .slice A2 o.B.length c2)) (ty : TypeId) :
    ∃ A c w5, (Builtin.append_ #[22, 22] ty #[v, .slice (some ⟨b4, 0, none⟩) 1 1]).run Tryd.prog wr = .ok (.slice A (T.length + 1) c) w5 ∧ Outs base w5 (.slice A (T.length + 1) c) (T ++ [(o, .slice A1 o.W.length c1, .slice A2 o.B.length c2)]) ∧ Chg (fun b => v.ownBlock = some b) wr w5 := by
  obtain ⟨v', w5, hr, ho, hg, hn⟩ := run_app2 elem_obj (by decide) h.own (Slc.row (S := fun _ => True) row 1 4 rfl (by unfold maxLen; omega) trivial) (by simp [Value.oneCell']) (by unfold maxLen; omega) (by omega) hw ty
  obtain ⟨A, c, rfl⟩ := own_form ho
  have cg : Chg (fun b => v.ownBlock = some b) wr w5 := (Chg.refl _ _).grown hg (fun k hk => .inl hk)
  have e : cellsT (T ++ [(o, .slice A1 o.W.length c1, .slice A2 o.B.length c2)]) = cellsT T ++ [.int .i64 o.cls, .int .i64 o.kind, .slice A1 o.W.length c1, .slice A2 o.B.length c2] := by simp [cellsT, cells2]
  refine ⟨A, c, w5, hr, ⟨by rw [List.length_append, e]; exact ho, fun t ht => ?_⟩, cg⟩
  have key : okT wr (fun b => (base ≤ b ∧ ¬ v.ownBlock = some b) ∧ b < wr.heap.size) t := by
    rcases List.mem_append.1 ht with h1 | h1
    · exact (h.el t h1).more (fun b hb hS => ⟨hS, hb⟩)
    · rw [List.mem_singleton.1 h1]
      exact ok.more (fun b hb hS => ⟨hS, hb⟩)
  refine (key.keep cg (fun b hb => hb.1.2)).more fun b _ hb => ⟨hb.1.1, fun hv => ?_⟩
  rcases hn b hv with h1 | h1
  · exact hb.1.2 h1
  · omega
theorem own_mono {w : World} {b b' sz n : Nat} {e : TypeId} {v : Value} {xs : List Value} (h : w.ownsRow b e sz v n xs) (hb : b' ≤ b) : w.ownsRow b' e sz v n xs := by
  obtain ⟨h1, h2⟩ := h
  refine ⟨h1, h2.imp id ?_⟩
  rintro ⟨g, cap, cur, e1, h3, h4⟩
  exact ⟨g, cap, cur, e1, Nat.le_trans hb h3, h4⟩
theorem Outs.lt {base : Nat} {wr : World} {v : Value} {T : List T3} (h : Outs base wr v T) {b : Nat} (hb : v.ownBlock = some b) : b < wr.heap.size := by
  rcases h.own.2 with ⟨rfl, -⟩ | ⟨g, cap, cur, rfl, -, hg, -⟩
  · simp [Value.ownBlock] at hb
  · simp only [Value.ownBlock, Option.some.injEq] at hb
    subst hb
    exact lt_of_block hg
theorem okT_of {w : World} {S : Nat → Prop} {o : O} {A B : Value} (h : ObjR w S (.agg #[.int .i64 o.cls, .int .i64 o.kind, A, B]) o) : okT w S (o, A, B) := by
  obtain ⟨wv, bv, e, h1, h2, h3⟩ := h
  simp only [cells2, Value.agg.injEq] at e
  have e2 := congrArg Array.toList e
  simp at e2
  obtain ⟨rfl, rfl⟩ := e2
  exact ⟨h1, h2, h3⟩
theorem ahead_ObjP (a : Addr) (w : World) : (nilAhead 317 27 (.pointer (some a)) "Obj").run Tryd.prog w = .ok (some false) w := by kernel_rfl
theorem meth_ObjP (a : Addr) (w : World) : (method 317 27 (.pointer (some a)) "Obj").run Tryd.prog w = .ok (156, .pointer (some a)) w := by kernel_rfl

end Go.Proofs.YtncoanmgifgcbaaDoor
