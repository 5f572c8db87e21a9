/- A flat memory's collection: the walks. -/
import Derived.Test.YtncoanmgifgcbaaDoorCol
import Derived.Maps.OwnSet
namespace Go.Proofs.YtncoanmgifgcbaaDoor
set_option linter.unusedVariables false
set_option linter.unusedSimpArgs false
open Go.RowKit
open Go.ChangeMaps (setBlock)

theorem elem_bmap : Tryd.prog.underlying 107 = some (.map 3 4) := Tryd.underlying107
theorem zero_bool (w : World) : (zeroValue 4).run Tryd.prog w = .ok (.bool false) w := by kernel_rfl

/-- 'delete(m, k)' at the operation, by an equation on its run -/
theorem wpList_delete_run {P : Program} {ops : Array Oper} {rest : List Oper} {o : Oper} {a : Act} {w w' : World} {Q : Exit → Act → World → Prop} (hgd : o.guard = none) (m x : Operand) (t k : TypeId)
    (ho : o.op = .call { callee := .builtin .delete, args := #[m, x], argTypes := #[t, k] }) {vm vx : Value} (hm : a.eval m = vm) (hx : a.eval x = vx)
    (hrun : (Builtin.delete_ #[t, k] o.type #[vm, vx]).run P w = .ok (.tuple #[]) w') (h : wpList P ops Q rest (a.put o.dst (.tuple #[])) w') : wpList P ops Q (o :: rest) a w := by
  refine wpList_plain hgd fun K hK => ?_
  unfold Oper.wp execOp
  simp only [ho, resolve, invoke, builtin, Sem.run_bind, Sem.run_pure, Result.andThen_ok, List.map_toArray, List.map_cons, List.map_nil, hm, hx, hrun]
  exact hK _ _ h

/-- a set of numbers: at block bs a variable that holds the map at block s, which reads as sb -/
structure SetV (w : World) (bs s : Nat) (sl : List (Int × Value)) (sb : Int → Bool) : Prop where
  row : Row w bs 107 #[.map (some s)]
  map : IMap w s sl
  get : ∀ k, (mget k sl).getD (.bool false) = .bool (sb k)
theorem SetV.keep {w w' : World} {bs s : Nat} {sl : List (Int × Value)} {sb : Int → Bool} {F : Nat → Prop} (h : SetV w bs s sl sb) (c : Chg F w w') (h1 : ¬ F bs) (h2 : ¬ F s) : SetV w' bs s sl sb := ⟨h.row.keep c h1, h.map.keep c h2, h.get⟩

/-- what DeleteFunc leaves -/
def Deleted (w : World) (q : Nat) (es : List (Int × Value)) (sb : Int → Bool) (e : Ending) (w' : World) : Prop :=
  e = .returned (.tuple #[]) ∧ ∃ es', IMap w' q es' ∧ (∀ k, mget k es' = if sb k = true then mget k es else none) ∧ Chg (fun b => b = q) w w'

end Go.Proofs.YtncoanmgifgcbaaDoor
