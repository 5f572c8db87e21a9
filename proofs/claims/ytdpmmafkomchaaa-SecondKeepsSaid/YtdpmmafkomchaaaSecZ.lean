/- Objects on a disk: a list of copies, of the law's own, beside a space. -/
import Derived.Test.YtdpmmafkomchaaaSecY
import Derived.Test.YtdpmmafkomchaaaApp2
import Derived.Test.YtdpmmafkomchaaaCopy05
namespace Go.Proofs.Ytdpmmafkomchaaa
set_option linter.unusedVariables false
set_option linter.unusedSimpArgs false
open Go.RowKit

/-- the copies T stand in a row of the call's own, v; nothing of it is the space's -/
structure LastK (w : World) (Q : SB) (wr : World) (v : Value) (T : List T3) : Prop where
  own : wr.ownsRow w.heap.size 33 4 v T.length (cellsT T)
  nq : ∀ b, v.ownBlock = some b → ¬ Q.has b
  el : ∀ t ∈ T, okT wr (fun b => ¬ Q.has b ∧ ¬ v.ownBlock = some b) t
theorem LastK.nil (w : World) (Q : SB) (wr : World) : LastK w Q wr (.slice none 0 0) [] := ⟨World.ownsRow_nil _ _ _ _, by simp [Value.ownBlock], by simp⟩
theorem LastK.keep {w wr wr' : World} {Q : SB} {v : Value} {T : List T3} {F : Nat → Prop} (h : LastK w Q wr v T) (c : Chg F wr wr') (hF : ∀ k, F k → Q.has k) : LastK w Q wr' v T :=
  ⟨own_keep h.own c (fun b hb hf => h.nq b hb (hF b hf)), h.nq, fun t ht => (h.el t ht).keep c (fun b hb hf => hb.1 (hF b hf))⟩
theorem LastK.lt {w wr : World} {Q : SB} {v : Value} {T : List T3} (h : LastK w Q wr v T) {b : Nat} (hb : v.ownBlock = some b) : b < wr.heap.size := by
  rcases h.own.2 with ⟨rfl, -⟩ | ⟨g, cap, cur, rfl, -, hg, -⟩
  · simp [Value.ownBlock] at hb
  · simp only [Value.ownBlock, Option.some.injEq] at hb
    subst hb
    exact lt_of_block hg
theorem LastK.form {w wr : World} {Q : SB} {v : Value} {T : List T3} (h : LastK w Q wr v T) : ∃ A c, v = .slice A T.length c := own_form h.own
/-- one more copy -/
theorem LastK.app {w wr : World} {Q : SB} {v : Value} {T : List T3} (h : LastK w Q wr v T) (hq : ∀ k, Q.has k → k < wr.heap.size) (hw : w.heap.size ≤ wr.heap.size) (hT : T.length < 1073741823) {b4 : Nat} {o : O} {A1 A2 : Option Addr} {c1 c2 : Nat} (row : Row wr b4 33 #[.int .i64 o.cls, .int .i64 o.kind, .slice A1 o.W.length c1, .slice A2 o.B.length c2]) (ok : okT wr (fun b => ¬ Q.has b ∧ ¬ v.ownBlock = some b) (o, .slice A1 o.W.length c1, .slice A2 o.B.length c2)) (ty : TypeId) :
    ∃ A c w5, (Builtin.append_ #[22, 22] ty #[v, .slice (some ⟨b4, 0, none⟩) 1 1]).run Try.prog wr = .ok (.slice A (T.length + 1) c) w5 ∧ LastK w Q w5 (.slice A (T.length + 1) c) (T ++ [(o, .slice A1 o.W.length c1, .slice A2 o.B.length c2)]) ∧ Chg (fun b => v.ownBlock = some b) wr w5 := by
  obtain ⟨v', w5, hr, ho, hg, hn⟩ := run_app2 elem_obj (by decide) h.own (Slc.row (S := fun _ => True) row 1 4 rfl (by unfold maxLen; omega) trivial) (by simp [Value.oneCell']) (by unfold maxLen; omega) (by omega) hw ty
  obtain ⟨A, c, rfl⟩ := own_form ho
  have cg : Chg (fun b => v.ownBlock = some b) wr w5 := (Chg.refl _ _).grown hg (fun k hk => .inl hk)
  have e : cellsT (T ++ [(o, .slice A1 o.W.length c1, .slice A2 o.B.length c2)]) = cellsT T ++ [.int .i64 o.cls, .int .i64 o.kind, .slice A1 o.W.length c1, .slice A2 o.B.length c2] := by simp [cellsT, cells2]
  refine ⟨A, c, w5, hr, ⟨by rw [List.length_append, e]; exact ho, fun b hb hqb => ?_, fun t ht => ?_⟩, cg⟩
  · rcases hn b hb with h1 | h1
    · exact h.nq b h1 hqb
    · have := hq b hqb; omega
  · have key : okT wr (fun b => (¬ Q.has b ∧ ¬ v.ownBlock = some b) ∧ b < wr.heap.size) t := by
      rcases List.mem_append.1 ht with h1 | h1
      · exact (h.el t h1).more (fun b hb hS => ⟨hS, hb⟩)
      · rw [List.mem_singleton.1 h1]
        exact ok.more (fun b hb hS => ⟨hS, hb⟩)
    refine (key.keep cg (fun b hb => hb.1.2)).more fun b _ hb => ⟨hb.1.1, fun hv => ?_⟩
    rcases hn b hv with h1 | h1
    · exact hb.1.2 h1
    · omega
/-- a copy is another one -/
theorem LastK.set {w wr : World} {Q : SB} {g n c : Nat} {T : List T3} (h : LastK w Q wr (.slice (some ⟨g, 0, none⟩) n c) T) {k : Nat} (hk : k < T.length) {t : T3} (ok : okT wr (fun b => ¬ Q.has b ∧ ¬ b = g) t) :
    LastK w Q ((((wr.setCell ⟨g, k * 4, none⟩ (.int .i64 t.1.cls)).setCell ⟨g, k * 4 + 1, none⟩ (.int .i64 t.1.kind)).setCell ⟨g, k * 4 + 2, none⟩ t.2.1).setCell ⟨g, k * 4 + 3, none⟩ t.2.2) (.slice (some ⟨g, 0, none⟩) n c) (T.set k t) ∧
    Chg (fun b => b = g) wr ((((wr.setCell ⟨g, k * 4, none⟩ (.int .i64 t.1.cls)).setCell ⟨g, k * 4 + 1, none⟩ (.int .i64 t.1.kind)).setCell ⟨g, k * 4 + 2, none⟩ t.2.1).setCell ⟨g, k * 4 + 3, none⟩ t.2.2) := by
  have hn : n = T.length := by obtain ⟨A, c', e⟩ := own_form h.own; exact (Value.slice.inj e).2.1
  subst hn
  have s1 := h.own.stored (k * 4) (.int .i64 t.1.cls)
  have s2 := s1.1.stored (k * 4 + 1) (.int .i64 t.1.kind)
  have s3 := s2.1.stored (k * 4 + 2) t.2.1
  have s4 := s3.1.stored (k * 4 + 3) t.2.2
  have cg : Chg (fun b => b = g) wr ((((wr.setCell ⟨g, k * 4, none⟩ (.int .i64 t.1.cls)).setCell ⟨g, k * 4 + 1, none⟩ (.int .i64 t.1.kind)).setCell ⟨g, k * 4 + 2, none⟩ t.2.1).setCell ⟨g, k * 4 + 3, none⟩ t.2.2) :=
    (((Chg.one wr g (k * 4) _).trans (Chg.one _ g (k * 4 + 1) _)).trans (Chg.one _ g (k * 4 + 2) _)).trans (Chg.one _ g (k * 4 + 3) _)
  refine ⟨⟨?_, h.nq, fun u hu => ?_⟩, cg⟩
  · rw [List.length_set, cellsT_set T k t hk]
    exact s4.1
  · have key : okT wr (fun b => ¬ Q.has b ∧ ¬ b = g) u := by
      rcases List.mem_or_eq_of_mem_set hu with h1 | rfl
      · exact (h.el u h1).more (fun b _ hS => ⟨hS.1, fun e => hS.2 (by rw [e]; rfl)⟩)
      · exact ok
    exact (key.keep cg (fun b hb => hb.2)).more fun b _ hb => ⟨hb.1, fun e => hb.2 (by simpa [Value.ownBlock] using e.symm)⟩
/-- a copy, read -/
theorem LastK.at {w wr : World} {Q : SB} {A : Option Addr} {n c : Nat} {T : List T3} (h : LastK w Q wr (.slice A n c) T) {k : Nat} {t : T3} (hk : T[k]? = some t) : ∃ g, A = some ⟨g, 0, none⟩ ∧ n = T.length ∧ n ≤ c ∧ c ≤ maxLen ∧ w.heap.size ≤ g ∧ g < wr.heap.size ∧ ObjR wr (fun b => ¬ Q.has b) (.agg (cells2 t.1 t.2.1 t.2.2)) t.1 ∧
    (wr.cell? ⟨g, k * 4, none⟩ = some (.int .i64 t.1.cls) ∧ wr.cell? ⟨g, k * 4 + 1, none⟩ = some (.int .i64 t.1.kind) ∧ wr.cell? ⟨g, k * 4 + 2, none⟩ = some t.2.1 ∧ wr.cell? ⟨g, k * 4 + 3, none⟩ = some t.2.2) ∧ ∀ j, wr.frozen? ⟨g, j, none⟩ = false := by
  have hl : k < T.length := (List.getElem?_eq_some_iff.1 hk).1
  rcases h.own.2 with ⟨-, h0⟩ | ⟨g, cap, cur, e, hb, hg, hn, hm, hs, ht⟩
  · omega
  · obtain ⟨rfl, rfl, rfl⟩ := Value.slice.inj e
    have hc := fun j (hj : j < 4) => (h.own.cellAt (4 * k + j) (by omega)).trans (cellsT_at T k t hk j hj)
    have hok := h.el t (List.mem_of_getElem? hk)
    refine ⟨g, rfl, rfl, hn, hm, hb, lt_of_block hg, ⟨_, _, rfl, hok.1.more (fun b _ hS => hS.1), hok.2.1.more (fun b _ hS => hS.1), hok.2.2⟩, ⟨?_, ?_, ?_, ?_⟩, fun j => h.own.frozenAt j⟩
    · rw [Nat.mul_comm]; exact hc 0 (by omega)
    · rw [Nat.mul_comm]; exact hc 1 (by omega)
    · rw [Nat.mul_comm]; exact hc 2 (by omega)
    · rw [Nat.mul_comm]; exact hc 3 (by omega)

/-- each object that stands is the copy of its number -/
def Kept (L : List Rw) (T : List T3) : Prop := ∀ id r, lk L id = some r → ∃ k : Nat, id = (k : Int) + 1 ∧ ∃ t, T[k]? = some t ∧ t.1 = r.o
theorem Kept.nil : Kept [] [] := fun _ _ h => by cases h
theorem Kept.more {L : List Rw} {T : List T3} {t : T3} {made f : Nat} (h : Kept L T) (hT : T.length = made) (hlt : ∀ r ∈ L, r.id < ((made + 1 : Nat) : Int)) : Kept (L ++ [⟨((made + 1 : Nat) : Int), t.1, f⟩]) (T ++ [t]) := by
  intro id r hr
  rw [lk_last (x := ⟨((made + 1 : Nat) : Int), t.1, f⟩) hlt] at hr
  split at hr
  · next e =>
    cases hr
    refine ⟨made, by rw [e]; dsimp only; omega, t, ?_, rfl⟩
    rw [List.getElem?_append_right (by omega), hT, Nat.sub_self]
    rfl
  · obtain ⟨k, e, t', h1, h2⟩ := h id r hr
    refine ⟨k, e, t', ?_, h2⟩
    rw [List.getElem?_append_left (List.getElem?_eq_some_iff.1 h1).1]
    exact h1
theorem Kept.set {L : List Rw} {T : List T3} {t : T3} {k f : Nat} (h : Kept L T) (hk : k < T.length) (hl : (lk L ((k : Int) + 1)).isSome = true) : Kept (setR L ((k : Int) + 1) ⟨(k : Int) + 1, t.1, f⟩) (T.set k t) := by
  intro id r hr
  rw [lk_set (k := (k : Int) + 1) (x := ⟨(k : Int) + 1, t.1, f⟩) L rfl] at hr
  by_cases e : id = (k : Int) + 1
  · obtain ⟨r0, hr0⟩ := Option.isSome_iff_exists.1 hl
    rw [if_pos e, hr0] at hr
    cases hr
    exact ⟨k, e, t, by rw [List.getElem?_set_self hk], rfl⟩
  · rw [if_neg e] at hr
    obtain ⟨j, e', t', h1, h2⟩ := h id r hr
    refine ⟨j, e', t', ?_, h2⟩
    rw [List.getElem?_set_ne (by omega)]
    exact h1
theorem Kept.drop {L : List Rw} {T : List T3} (h : Kept L T) (ids : List Int) : Kept (dropL L ids) T := by
  intro id r hr
  rw [lk_drop] at hr
  split at hr
  · cases hr
  · exact h id r hr

end Go.Proofs.Ytdpmmafkomchaaa
