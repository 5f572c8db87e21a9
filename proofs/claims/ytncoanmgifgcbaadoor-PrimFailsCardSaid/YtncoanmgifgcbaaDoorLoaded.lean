/- websterlaw14.loaded: a memory of objects. -/
import Derived.Test.YtncoanmgifgcbaaDoorLoad
import Derived.Test.YtncoanmgifgcbaaDoorKitC
namespace Go.Proofs.YtncoanmgifgcbaaDoor
set_option linter.unusedVariables false
set_option linter.unusedSimpArgs false
open Go.RowKit

theorem all_snocB {T : List T3} {i : Nat} {t : T3} (h : T[i]? = some t) : ((T.take (i + 1)).map (·.1)).all okB = (((T.take i).map (·.1)).all okB && okB t.1) := by
  rw [List.take_add_one, h]
  simp
/-- how much one is -/
def sum1 (o : O) : Nat := 1 + (o.W.length + o.B.length) / 10
def sumN : List O → Nat
  | [] => 0
  | o :: L => sum1 o + sumN L
theorem sumN_snoc : ∀ (L : List O) (o : O), sumN (L ++ [o]) = sumN L + sum1 o
  | [], o => by simp [sumN]
  | x :: L, o => by rw [List.cons_append, sumN, sumN, sumN_snoc L o]; omega
theorem sumN_take {T : List T3} {i : Nat} {t : T3} (h : T[i]? = some t) : sumN ((T.take (i + 1)).map (·.1)) = sumN ((T.take i).map (·.1)) + sum1 t.1 := by
  rw [List.take_add_one, h]
  simpa using sumN_snoc _ _
theorem sumN_append : ∀ (L M : List O), sumN (L ++ M) = sumN L + sumN M
  | [], M => by simp [sumN]
  | x :: L, M => by rw [List.cons_append, sumN, sumN, sumN_append L M]; omega
theorem sumN_le (T : List T3) (i : Nat) : sumN ((T.take i).map (·.1)) ≤ sumN (T.map (·.1)) := by
  conv => rhs; rw [← List.take_append_drop i T, List.map_append, sumN_append]
  omega
/-- may they be loaded? -/
def loadB (L : List O) : Bool := L.all okB && decide (sumN L ≤ 200)
/-- what loaded gives -/
def LoadedK (w : World) (lv : Value) (L : List O) (m : Nat) (w' : World) : Prop := MemK w w' m L (fun _ v => RefL v (fun b => b < w.heap.size) lv L)

end Go.Proofs.YtncoanmgifgcbaaDoor
