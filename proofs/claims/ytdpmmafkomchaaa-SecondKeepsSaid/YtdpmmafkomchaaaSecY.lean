/- Objects on a disk: Make, Store and Fetch told at once: what comes, by plain definition. No walk here. -/
import Derived.Test.YtdpmmafkomchaaaSecV
import Derived.Test.YtdpmmafkomchaaaSecX
namespace Go.Proofs.Ytdpmmafkomchaaa
set_option linter.unusedVariables false
set_option linter.unusedSimpArgs false
open Go.RowKit

def mkF (N : Nat) (L : List Rw) (made : Nat) (o : O) : Option Nat := if okB o = true ∧ made ≠ 1048576 then placeX (L.map Rw.xt) N (secN (encB o).length) else none
def mkE (N : Nat) (L : List Rw) (made : Nat) (o : O) : Int := if okB o = true then (if (mkF N L made o).isSome then 0 else 3) else 2
def mkL (N : Nat) (L : List Rw) (made : Nat) (o : O) : List Rw := match mkF N L made o with | some f => L ++ [⟨((made + 1 : Nat) : Int), o, f⟩] | none => L
def mkM (N : Nat) (L : List Rw) (made : Nat) (o : O) : Nat := match mkF N L made o with | some _ => made + 1 | none => made
def mkI (N : Nat) (L : List Rw) (made : Nat) (o : O) : Int := match mkF N L made o with | some _ => ((made + 1 : Nat) : Int) | none => 0
def stF (N : Nat) (L : List Rw) (k : Int) (o : O) : Option Nat := match lk L k with | some r => if okB o = true then setF ((delR L k).map Rw.xt) N r.xt (encB o) else none | none => none
def stE (N : Nat) (L : List Rw) (k : Int) (o : O) : Int := if (lk L k).isSome then (if okB o = true then (if (stF N L k o).isSome then 0 else 3) else 2) else 4
def stL (N : Nat) (L : List Rw) (k : Int) (o : O) : List Rw := match stF N L k o with | some f => setR L k ⟨k, o, f⟩ | none => L

section
variable {w : World} {Q : SB} {N made : Nat} {L : List Rw}
theorem secMake_any (H : SecS w Q N L made) (v : Value) (o : O) (S : Nat → Prop) (ho : ObjR w S v o) :
    Calls Try.prog 10 #[.pointer (some ⟨Q.s, 0, none⟩), v] w fun e w' => e = .returned (.tuple #[.int .i64 (mkI N L made o), .int .i64 (mkE N L made o)]) ∧ SecS w' Q N (mkL N L made o) (mkM N L made o) ∧ Chg Q.has w w' := by
  cases hk : okB o with
  | false =>
    have e : mkF N L made o = none := by unfold mkF; rw [if_neg (by simp [hk])]
    unfold mkI mkL mkM mkE
    rw [e, hk]
    exact (secMake_bad Q.s v o S ho hk).mono fun _ _ h => ⟨h.1, H.keep h.2 (fun _ _ f => f), h.2.no⟩
  | true =>
    by_cases hm : made = 1048576
    · have e : mkF N L made o = none := by unfold mkF; rw [if_neg (by simp [hm])]
      unfold mkI mkL mkM mkE
      rw [e, hk]
      exact (secMake_max H v o S ho hk hm).mono fun _ _ h => ⟨h.1, H.keep h.2 (fun _ _ f => f), h.2.no⟩
    · have e : mkF N L made o = placeX (L.map Rw.xt) N (secN (encB o).length) := by unfold mkF; rw [if_pos ⟨hk, hm⟩]
      unfold mkI mkL mkM mkE
      rw [e, hk]
      cases hp : placeX (L.map Rw.xt) N (secN (encB o).length) with
      | none => exact (secMake_full H v o S ho hk hm hp).mono fun _ _ h => ⟨h.1, H.keep h.2 (fun _ _ f => f), h.2.no⟩
      | some f =>
        refine (secMake_ok H v o S ho hk hm hp).mono ?_
        rintro e w' ⟨u, rfl, rfl, h2, h3⟩
        exact ⟨rfl, h2, h3⟩
theorem secStore_any (H : SecS w Q N L made) (k : Int) (v : Value) (o : O) (S : Nat → Prop) (ho : ObjR w S v o) :
    Calls Try.prog 16 #[.pointer (some ⟨Q.s, 0, none⟩), .int .i64 k, v] w fun e w' => e = .returned (.int .i64 (stE N L k o)) ∧ SecS w' Q N (stL N L k o) made ∧ Chg Q.has w w' := by
  cases hr : lk L k with
  | none =>
    have e : stF N L k o = none := by unfold stF; rw [hr]
    unfold stE stL
    rw [e, hr]
    exact (secStore_none H k v o S ho hr).mono fun _ _ h => ⟨h.1, H.keep h.2 (fun _ _ f => f), h.2.no⟩
  | some r =>
    cases hk : okB o with
    | false =>
      have e : stF N L k o = none := by unfold stF; rw [hr]; simp [hk]
      unfold stE stL
      rw [e, hr, hk]
      exact (secStore_bad H k v o S ho hr hk).mono fun _ _ h => ⟨h.1, H.keep h.2 (fun _ _ f => f), h.2.no⟩
    | true =>
      have e : stF N L k o = setF ((delR L k).map Rw.xt) N r.xt (encB o) := by unfold stF; rw [hr]; simp [hk]
      unfold stE stL
      rw [e, hr, hk]
      cases hs : setF ((delR L k).map Rw.xt) N r.xt (encB o) with
      | none => exact secStore_full H k v o S ho hr hk hs
      | some f => exact secStore_ok H k v o S ho hr hk hs
end

/-! what is told, plainly -/
section
variable {N made : Nat} {L : List Rw} {k : Int} {o : O}
theorem mkE_ok (h : mkE N L made o = 0) : ∃ f, mkF N L made o = some f ∧ okB o = true := by
  unfold mkE at h
  split at h
  · split at h
    · next h1 h2 =>
      obtain ⟨f, hf⟩ := Option.isSome_iff_exists.1 h2
      exact ⟨f, hf, h1⟩
    · omega
  · omega
theorem mkL_some {f : Nat} (h : mkF N L made o = some f) : mkL N L made o = L ++ [⟨((made + 1 : Nat) : Int), o, f⟩] ∧ mkM N L made o = made + 1 ∧ mkI N L made o = ((made + 1 : Nat) : Int) := by
  unfold mkL mkM mkI
  rw [h]
  exact ⟨rfl, rfl, rfl⟩
theorem mkL_none (h : mkF N L made o = none) : mkL N L made o = L ∧ mkM N L made o = made ∧ mkI N L made o = 0 := by
  unfold mkL mkM mkI
  rw [h]
  exact ⟨rfl, rfl, rfl⟩
theorem mkE_some {f : Nat} (h : mkF N L made o = some f) : mkE N L made o = 0 ∧ okB o = true := by
  have hk : okB o = true := by
    unfold mkF at h
    split at h
    · next h1 => exact h1.1
    · cases h
  refine ⟨?_, hk⟩
  unfold mkE
  rw [h, hk]
  rfl
theorem mkE_none (h : mkF N L made o = none) : mkE N L made o ≠ 0 := by
  unfold mkE
  rw [h]
  split <;> simp
theorem stE_ok : stE N L k o = 0 ↔ ∃ f, stF N L k o = some f := by
  constructor
  · intro h
    unfold stE at h
    split at h
    · split at h
      · split at h
        · next h3 => exact Option.isSome_iff_exists.1 h3
        · omega
      · omega
    · omega
  · rintro ⟨f, hf⟩
    have h1 : (lk L k).isSome = true ∧ okB o = true := by
      unfold stF at hf
      split at hf
      · next r hr =>
        split at hf
        · next hk => exact ⟨by rw [hr]; rfl, hk⟩
        · cases hf
      · cases hf
    unfold stE
    rw [hf, if_pos h1.1, if_pos h1.2]
    rfl
theorem stL_some {f : Nat} (h : stF N L k o = some f) : stL N L k o = setR L k ⟨k, o, f⟩ ∧ okB o = true ∧ ∃ r, lk L k = some r := by
  unfold stL
  rw [h]
  refine ⟨rfl, ?_⟩
  unfold stF at h
  split at h
  · next r hr =>
    split at h
    · next hk => exact ⟨hk, r, hr⟩
    · cases h
  · cases h
theorem stL_none (h : stF N L k o = none) : stL N L k o = L := by unfold stL; rw [h]

/-- one run in the way of no more than n sectors: there is room for n -/
theorem place_one (x : Xt) {n : Nat} (h1 : x.f + x.n ≤ N) (h2 : x.n + 2 * n ≤ N) : ∃ f, placeX [x] N n = some f := by
  cases hc : placeX [x] N n with
  | some f => exact ⟨f, rfl⟩
  | none =>
    exfalso
    have hn := firstB_none (t := tX [x]) (all := N) (n := n) hc
    by_cases h : n ≤ x.f
    · exact hn 0 ⟨by omega, freeB_iff.2 fun i hi => by simp [tX]; try omega⟩
    · exact hn (x.f + x.n) ⟨by omega, freeB_iff.2 fun i hi => by simp [tX]; try omega⟩
theorem place_fits {X : List Xt} {n f : Nat} (h : placeX X N n = some f) : f + n ≤ N := (firstB_some h).1
end

end Go.Proofs.Ytdpmmafkomchaaa
