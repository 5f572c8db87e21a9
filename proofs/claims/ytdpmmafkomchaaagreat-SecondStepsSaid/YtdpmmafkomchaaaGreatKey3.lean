/- Keys that are structs of three numbers: api.Extent. (Built clean at code.span, which has three numbers too; not yet at api.Extent.) -/
import Derived.Test.YtdpmmafkomchaaaGreatGMap
import Derived.Test.YtdpmmafkomchaaaGreatFlatRep
namespace Go.Proofs.YtdpmmafkomchaaaGreat
set_option linter.unusedVariables false
set_option linter.unusedSimpArgs false
open Go.RowKit

def kv3 (z : Int × Int × Int) : Value := .agg #[.int .i64 z.1, .int .i64 z.2.1, .int .i64 z.2.2]
set_option maxRecDepth 100000 in
theorem eq3 (a b : Int × Int × Int) (w : World) : (Op.equal 47 (kv3 a) (kv3 b)).run Tryz.prog w = .ok (decide (a = b)) w := by
  have hu := Tryz.underlying47
  have hi := Tryz.underlying3
  have hs : Tryz.prog.stoodInHeld 47 = false := by kernel_rfl
  obtain ⟨a0, a1, a2⟩ := a
  obtain ⟨b0, b1, b2⟩ := b
  have e0 : ∀ (d : Nat) (x y : Int) (w : World), (Op.equalIn (d + 1) 3 (.int .i64 x) (.int .i64 y)).run Tryz.prog w = .ok (x == y) w := by
    intro d x y w
    simp [Op.equalIn, run_underlying hi]
  unfold Op.equal Op.maxDepth
  rw [show (10000 : Nat) = 9998 + 1 + 1 from rfl, Op.equalIn]
  have e1 := e0 9998
  have p0 : ∀ (x y z : Value) (w : World), (part 3 #[x, y, z] 0).run Tryz.prog w = .ok x w := by intro x y z w; simp [part, isAgg, run_underlying hi]
  have p1 : ∀ (x y z : Value) (w : World), (part 3 #[x, y, z] 1).run Tryz.prog w = .ok y w := by intro x y z w; simp [part, isAgg, run_underlying hi]
  have p2 : ∀ (x y z : Value) (w : World), (part 3 #[x, y, z] 2).run Tryz.prog w = .ok z w := by intro x y z w; simp [part, isAgg, run_underlying hi]
  simp [kv3, run_underlying hu, hs, p0, p1, p2, e1]
  by_cases h0 : a0 = b0
  · by_cases h1 : a1 = b1
    · by_cases h2 : a2 = b2 <;> simp [h0, h1, h2]
    · simp [h0, h1]
  · simp [h0]
theorem ask3 (k : Int × Int × Int) : ∀ (es : List MapEntry) (l : List ((Int × Int × Int) × Value)) (i : Nat) (w : World), es.map (fun e => (e.key, e.val)) = l.map (fun x => (kv3 x.1, x.2)) → (Instr.findAsking 47 (kv3 k) es i).run Tryz.prog w = .ok (gfind k l i) w
  | [], [], _, _, _ => by simp [Instr.findAsking, gfind]
  | [], _ :: _, _, _, h => by simp at h
  | _ :: _, [], _, _, h => by simp at h
  | e :: es, (a, v) :: l, i, w, h => by
    simp only [List.map_cons, List.cons.injEq, Prod.mk.injEq] at h
    obtain ⟨⟨h1, h2⟩, h3⟩ := h
    have ih := ask3 k es l (i + 1) w h3
    unfold Instr.findAsking
    simp only [Sem.run_bind, h1, eq3, Result.andThen_ok]
    by_cases hk : k = a
    · simp [hk, gfind, h2]
    · simp [hk, gfind, ih]
set_option maxRecDepth 100000 in
theorem key3 : KeyOk Tryz.prog 47 kv3 where
  find k es l w h := by
    have hu := Tryz.underlying47
    have ha := ask3 k es l 0 w h
    match es, l, h with
    | [], [], _ => simp [Instr.findKey, run_underlying hu, Instr.findNow, gfind]
    | [], _ :: _, h => simp at h
    | _ :: _, [], h => simp at h
    | e :: es, x :: l, h => simp [Instr.findKey, run_underlying hu, Instr.findNow, Instr.sameNow, ha]
  check e k w := by
    have hu := Tryz.underlying47
    have hi := Tryz.underlying3
    have p0 : ∀ (x y z : Value) (w : World), (part 3 #[x, y, z] 0).run Tryz.prog w = .ok x w := by intro x y z w; simp [part, isAgg, run_underlying hi]
    have p1 : ∀ (x y z : Value) (w : World), (part 3 #[x, y, z] 1).run Tryz.prog w = .ok y w := by intro x y z w; simp [part, isAgg, run_underlying hi]
    have p2 : ∀ (x y z : Value) (w : World), (part 3 #[x, y, z] 2).run Tryz.prog w = .ok z w := by intro x y z w; simp [part, isAgg, run_underlying hi]
    have hc : ∀ (x : Int) (w : World), (Instr.checkKey e 9999 3 (.int .i64 x)).run Tryz.prog w = .ok () w := by
      intro x w
      rw [show (9999 : Nat) = 9998 + 1 from rfl, Instr.checkKey]
      simp [run_underlying hi]
    rw [show (10000 : Nat) = 9999 + 1 from rfl, Instr.checkKey]
    simp [kv3, run_underlying hu, p0, p1, p2, hc]
  stays k w := by
    unfold Instr.keyThatStays
    have h : Instr.sameBits 10000 (kv3 k) (kv3 k) = true := by
      simp [kv3, Instr.sameBits]
    simp [h]

end Go.Proofs.YtdpmmafkomchaaaGreat
