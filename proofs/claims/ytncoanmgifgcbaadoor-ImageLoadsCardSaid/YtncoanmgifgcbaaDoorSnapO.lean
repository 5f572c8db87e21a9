/- The flat memory's Obj, with what it gives told as memory of the call's own. -/
import Derived.Test.YtncoanmgifgcbaaDoorSnapA
import Derived.Test.YtncoanmgifgcbaaDoorOuts
namespace Go.Proofs.YtncoanmgifgcbaaDoor
set_option linter.unusedVariables false
set_option linter.unusedSimpArgs false
open Go.RowKit

/-- an object in memory of its own -/
def Mine (w : World) (base : Nat) (o : O) (A : Option Addr) (c : Nat) (B : Option Addr) (d : Nat) : Prop :=
  OwnInts w base (.slice A o.W.length c) o.W ∧ w.ownsRow base 5 1 (.slice B o.B.length d) o.B.length (o.B.map (.int .u8))

section
variable {w : World} {m : Nat} {F : Nat → Prop} {L : List O} {q : Nat} {es : List (Int × Value)} {ad : Nat → Nat} {wv bv : Nat → Value}
set_option maxRecDepth 100000 in
set_option maxHeartbeats 1000000 in
theorem Obj_mine (h : FlatI w m F L q es ad wv bv) (o : Int) (h64 : In64 o) {i : Nat} (hf : fnd L o = some i) :
    Calls Tryd.prog 156 #[.pointer (some ⟨m, 0, none⟩), .int .i64 o] w fun e w' => ∃ A c B d, e = .returned (.tuple #[.agg #[.int .i64 (ob L i).cls, .int .i64 (ob L i).kind, .slice A (ob L i).W.length c, .slice B (ob L i).B.length d], .int .i64 0]) ∧ Mine w' w.heap.size (ob L i) A c B d ∧ Chg No w w' := by
  have hi := (fnd_some hf).2.1
  have hok := h.ok i hi
  have hown := h.own i hi
  have hc : ∀ x, FlatI (w.alloc x) m F L q es ad wv bv := fun x => h.keep (G := No) ((Chg.refl _ _).alloc x) (fun _ _ f => f)
  have hlt : ad i < w.heap.size := hown.row.lt
  obtain ⟨c0, c1, c2, c3, cf⟩ := hown.row.four
  have Hr := Lib.hid (hown.read hok)
  have Hc := Lib.hid hc
  have Hb := Lib.hid (And.intro hok.2.2.1 hok.2.2.2.1)
  clear hc h hown hok hi cf
  go_enter Tryd.func156, Tryd.ntmps156
  go_wp2_with (go_at_call 85; refine (at_some (Hc.out _) o h64 hf).mono ?_; rintro e w' ⟨rfl, rfl⟩)
  refine (Copy_any _ (ob L i) _ _ (Hr.out.keep (F := No) ((Chg.refl _ _).alloc _) (fun _ _ f => f)) (by have := Hb.out.1; omega) (by have := Hb.out.2; omega)).mono ?_
  rintro e w1 ⟨v, rfl, wv', bv', rfl, hc1, ho1, ho2⟩
  obtain ⟨A1, k1, rfl⟩ := own_form ho1
  obtain ⟨A2, k2, rfl⟩ := own_form ho2
  have hd1 : Chg No w w1 := Chg.trans ((Chg.refl _ _).alloc _) hc1
  have hr : Row w1 w.heap.size _ _ := Row.keep (Row.new w _ _) hc1 (fun f => f)
  obtain ⟨r0, r1, r2, r3, rf⟩ := hr.four
  have HI := Lib.hid ho1
  have HB := Lib.hid ho2
  have HD := Lib.hid hd1
  clear hd1 ho1 ho2 hr hc1
  unfold cells2
  go_wp2_with fail
  refine bodyPost_ret (v := .tuple #[.agg (cells2 (ob L i) _ _), .int .i64 0]) (by simp [results, Tryd.results156, go_sem, r0, r1, r2, r3]; rfl) rfl ⟨_, _, _, _, rfl, ⟨?_, ?_⟩, ?_⟩
  · refine own_base (base := w.heap.size + 1) (own_keep (F := fun b => b = w.heap.size) (by simpa using HI.out) ?_ (fun b hb e => by have := own_ge HI.out hb; simp at this; omega)) (by omega)
    repeat (with_reducible first | exact Chg.refl _ _ | refine Chg.drew ?_ | refine Chg.setCell ?_ (.inl (by simp)) _)
  · refine own_base (base := w.heap.size + 1) (own_keep (F := fun b => b = w.heap.size) (by simpa using HB.out) ?_ (fun b hb e => by have := own_ge HB.out hb; simp at this; omega)) (by omega)
    repeat (with_reducible first | exact Chg.refl _ _ | refine Chg.drew ?_ | refine Chg.setCell ?_ (.inl (by simp)) _)
  · repeat (with_reducible first | exact HD.out | refine Chg.drew ?_ | refine Chg.setCell ?_ (.inr (by simp)) _)
end
section
variable {w0 w w' : World} {m base : Nat} {L : List O} {K : (Nat → Prop) → World → Prop} {F : Nat → Prop} {o : O} {A B : Option Addr} {c d : Nat}
/-- of what is there -/
theorem k_ObjM (h : MemK w0 w m L K) (o : Int) (ho : In64 o) (hl : live L (namedV o)) :
    Calls Tryd.prog 156 #[.pointer (some ⟨m, 0, none⟩), .int .i64 o] w fun e w' => ∃ A c B d, e = .returned (.tuple #[.agg #[.int .i64 (objV L o).cls, .int .i64 (objV L o).kind, .slice A (objV L o).W.length c, .slice B (objV L o).B.length d], .int .i64 0]) ∧ Mine w' w.heap.size (objV L o) A c B d ∧ Chg No w w' := by
  obtain ⟨G, hf, hc0, hF, hK⟩ := h
  obtain ⟨q, es, ad, wv, bv, hi⟩ := hf
  cases hb : fnd L o with
  | none => exact absurd hl ((fnd_live (L := L) (o := o)).1.1 hb)
  | some i =>
    have e : objV L o = ob L i := by simp [objV, hb]
    rw [e]
    exact Obj_mine hi o ho hb
theorem Mine.keep (h : Mine w base o A c B d) (g : Chg F w w') (hF : ∀ b, (Value.slice A o.W.length c).ownBlock = some b ∨ (Value.slice B o.B.length d).ownBlock = some b → ¬ F b) : Mine w' base o A c B d :=
  ⟨own_keep h.1 g fun b hb => hF b (.inl hb), own_keep h.2 g fun b hb => hF b (.inr hb)⟩
theorem Mine.ge (h : Mine w base o A c B d) {b : Nat} (hb : (Value.slice A o.W.length c).ownBlock = some b ∨ (Value.slice B o.B.length d).ownBlock = some b) : base ≤ b ∧ b < w.heap.size := by
  rcases hb with hb | hb
  · exact h.1.lt b hb
  · exact h.2.lt b hb
theorem Mine.weak {base' : Nat} (h : Mine w base o A c B d) (hb : base' ≤ base) : Mine w base' o A c B d := ⟨own_mono h.1 hb, own_mono h.2 hb⟩
/-- words and bytes stand apart -/
theorem Mine.apart (h : Mine w base o A c B d) {b : Nat} (hb : (Value.slice A o.W.length c).ownBlock = some b) : ¬ (Value.slice B o.B.length d).ownBlock = some b := by
  intro hb2
  rcases h.1.2 with ⟨e, -⟩ | ⟨g, cap, cur, e, -, hg, -⟩
  · obtain ⟨rfl, -, -⟩ := Value.slice.inj e
    simp [Value.ownBlock] at hb
  · rcases h.2.2 with ⟨e2, -⟩ | ⟨g2, cap2, cur2, e2, -, hg2, -⟩
    · obtain ⟨rfl, -, -⟩ := Value.slice.inj e2
      simp [Value.ownBlock] at hb2
    · obtain ⟨rfl, -, -⟩ := Value.slice.inj e
      obtain ⟨rfl, -, -⟩ := Value.slice.inj e2
      simp only [Value.ownBlock, Option.some.injEq] at hb hb2
      subst hb hb2
      rw [hg] at hg2
      have h3 := (Obj.cells.inj (Option.some.inj hg2)).2.1
      exact absurd h3 (by decide)
end

end Go.Proofs.YtncoanmgifgcbaaDoor
