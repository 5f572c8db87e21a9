/- The row's last step where the call may have made memory: what was there has not turned. -/
import Derived.Test.YtncoanmgifgcbaaDoorRows
import Derived.ProofKit
import Derived.Below
namespace Go.Proofs.YtncoanmgifgcbaaDoor
set_option linter.unusedVariables false
set_option linter.unusedSimpArgs false
open Go.RowKit Go.WideShapes Go.ChangeShapes Go.ChangeAt

/-- results that hold no memory, arguments that read as they read, everything old as it was: the specification's post holds. -/
theorem post_near {H : Type} {enc : TypeId × Value → H} {P : Program} {f : Func} {s : ChangeSpec} {apart fresh handsOn again : Bool} {W W' : World} {args : Array Value} {v : Value} {ds gs : List (DataW H)} {before pa pv : List MemPlace}
    (whole : DataW.Whole enc P f.params.toList s.vars apart W args.toList ds gs before)
    (results : ∀ (b : Nat) (sp : Nat → Bool) (hd : Bool), DataW.TrodAll enc P W' b sp hd f.resultTypes.toList (v.resultList f.resultTypes.size) (s.fn H (ds ++ gs)).results [])
    (again_ : ∀ sp : Nat → Bool, (∀ p ∈ before, sp p.block = true) → DataW.TrodAll enc P W' 0 sp true f.params.toList args.toList (s.fn H (ds ++ gs)).args pa)
    (vars : ∀ sp : Nat → Bool, (∀ p ∈ before, sp p.block = true) → DataW.TrodVars enc P W' sp s.vars (s.fn H (ds ++ gs)).vars pv)
    (places : before = pa ++ pv) (near : Below W.heap.size W W')
    (ok : ∀ (j : Nat) (t : TypeId) (r : Value), f.resultTypes[j]? = some t → (v.resultList f.resultTypes.size)[j]? = some r → Value.okWide P W' .any 0 t r) :
    s.post enc P f apart fresh handsOn again W args v W' := by
  have inside : ∀ p ∈ before, p.block < W.heap.size := fun p hp => whole.lt p hp
  have old : ∀ p ∈ before, (fun b => decide (b < W.heap.size)) p.block = true := fun p hp => decide_eq_true (inside p hp)
  have kept : W.keptBut W' (· ∈ before) := near.frame _
  have split : ∀ p, p ∈ before → p ∈ pa ++ pv := fun p hp => places ▸ hp
  refine ⟨ds, gs, before, [], pa, pv, whole, results _ _ _, again_ _ old, vars _ old, World.keptBut_mono (fun p hp => ⟨hp, Or.inr (by simpa using split p hp)⟩) kept, fun _ => ?_⟩
  have all := again_ (fun _ => true) (fun _ _ => rfl)
  have allv := vars (fun _ => true) (fun _ _ => rfl)
  obtain ⟨_, _, _, _, _, unfrozen, distinct⟩ := whole
  refine ⟨ok, _, _, ([] ++ pa) ++ pv, ⟨[] ++ pa, pv, trodAll_append all (results _ _ _), allv, rfl, fun b off hp => ?_, fun ha => ?_⟩, fun p hp _ => ?_⟩
  · have hin : MemPlace.cell b off ∈ before := by rw [places]; simpa using hp
    have hz := near.frozen (p := ⟨b, off, none⟩) (inside _ hin)
    rw [hz]
    exact unfrozen b off hin
  · have hd := distinct ha
    rw [places] at hd
    simpa using hd
  · rw [places]
    simpa using hp

end Go.Proofs.YtncoanmgifgcbaaDoor
