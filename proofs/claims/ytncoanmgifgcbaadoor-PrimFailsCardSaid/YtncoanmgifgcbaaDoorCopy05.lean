/- The document's Copy of an object (websterref05), and of bytes (websterref00). -/
import Derived.Test.YtncoanmgifgcbaaDoorRef10
import Derived.Test.YtncoanmgifgcbaaDoorFlatI
import Derived.Test.YtncoanmgifgcbaaDoorLoadA
import Derived.Test.YtncoanmgifgcbaaDoorFlatRep
namespace Go.Proofs.YtncoanmgifgcbaaDoor
set_option linter.unusedVariables false
set_option linter.unusedSimpArgs false
open Go.RowKit

theorem Chg.one (w : World) (b off : Nat) (u : Value) : Chg (fun k => k = b) w (w.setCell ⟨b, off, none⟩ u) := Chg.setCell (F := fun k => k = b) (p := ⟨b, off, none⟩) (Chg.refl _ _) (.inl rfl) u

theorem cellsT_set : ∀ (T : List T3) (i : Nat) (t : T3), i < T.length → cellsT (T.set i t) = ((((cellsT T).set (i * 4) (.int .i64 t.1.cls)).set (i * 4 + 1) (.int .i64 t.1.kind)).set (i * 4 + 2) t.2.1).set (i * 4 + 3) t.2.2
  | [], _, _, h => by simp at h
  | x :: T, 0, t, _ => by simp [cellsT, cells2]
  | x :: T, i + 1, t, h => by
    have ih := cellsT_set T i t (by simpa using h)
    rw [List.set_cons_succ, show cellsT (x :: T.set i t) = (cells2 x.1 x.2.1 x.2.2).toList ++ cellsT (T.set i t) from by simp [cellsT], show cellsT (x :: T) = (cells2 x.1 x.2.1 x.2.2).toList ++ cellsT T from by simp [cellsT], ih]
    have e0 : (i + 1) * 4 = (i * 4) + 4 := by omega
    have e1 : (i + 1) * 4 + 1 = (i * 4 + 1) + 4 := by omega
    have e2 : (i + 1) * 4 + 2 = (i * 4 + 2) + 4 := by omega
    have e3 : (i + 1) * 4 + 3 = (i * 4 + 3) + 4 := by omega
    rw [e1, e2, e3, e0]
    simp [cells2]

end Go.Proofs.YtncoanmgifgcbaaDoor
