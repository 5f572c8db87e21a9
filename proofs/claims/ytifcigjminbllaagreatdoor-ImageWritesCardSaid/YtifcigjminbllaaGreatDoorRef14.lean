/- The document on classes (websterref14): Get, Fetch, ClassOf. -/
import Derived.Test.YtifcigjminbllaaGreatDoorRef05
import Derived.Test.YtifcigjminbllaaGreatDoorRef10h
import Derived.Test.YtifcigjminbllaaGreatDoorKitB
namespace Go.Proofs.YtifcigjminbllaaGreatDoor
set_option linter.unusedVariables false
set_option linter.unusedSimpArgs false
open Go.RowKit

set_option maxHeartbeats 400000 in
theorem Number01_any (v : Int) (h64 : In64 v) (w : World) : Calls Tryz.prog 59 #[.int .i64 v] w fun e w' => e = .returned (.tuple #[.int .i64 (numV v), .bool (numOk v)]) ∧ w = w' := by
  obtain ⟨b1, b2⟩ := h64
  by_cases hm : v % 2 = 0
  · have q0 : (v.tmod 2 == 0) = true := by rw [tmod_two]; simp; split <;> omega
    have e1 : numV v = 0 := by unfold numV; rw [if_neg (by omega)]
    have e2 : numOk v = false := by unfold numOk; simp; omega
    rw [e1, e2]
    go_enter Tryz.func59, Tryz.ntmps59
    go_wp2
    go_ret2
    exact ⟨rfl, rfl⟩
  · have q0 : (v.tmod 2 == 0) = false := by rw [tmod_two]; simp; split <;> omega
    by_cases h1 : v < -2147483647
    · have t1 : decide (v < -2147483647) = true := decide_eq_true h1
      have e1 : numV v = 0 := by unfold numV; rw [if_neg (by omega)]
      have e2 : numOk v = false := by unfold numOk; simp; omega
      rw [e1, e2]
      go_enter Tryz.func59, Tryz.ntmps59
      go_wp2
      go_ret2
      exact ⟨rfl, rfl⟩
    · have t1 : decide (v < -2147483647) = false := decide_eq_false h1
      by_cases h2 : 2147483647 < v
      · have t2 : decide (2147483647 < v) = true := decide_eq_true h2
        have e1 : numV v = 0 := by unfold numV; rw [if_neg (by omega)]
        have e2 : numOk v = false := by unfold numOk; simp; omega
        rw [e1, e2]
        go_enter Tryz.func59, Tryz.ntmps59
        go_wp2
        go_ret2
        exact ⟨rfl, rfl⟩
      · have t2 : decide (2147483647 < v) = false := decide_eq_false h2
        have e1 : numV v = v / 2 := by unfold numV; rw [if_pos (by omega)]
        have e2 : numOk v = true := by unfold numOk; simp; omega
        have w1 : IntKind.i64.wrap (v - 1) = v - 1 := IntWalk.i64_in _ (by omega)
        have w2 : (v - 1).tdiv 2 = v / 2 := by rw [tdiv_two]; split <;> omega
        have w3 : IntKind.i64.wrap (v / 2) = v / 2 := IntWalk.i64_in _ (by omega)
        rw [e1, e2]
        go_enter Tryz.func59, Tryz.ntmps59
        go_wp2
        go_ret2
        exact ⟨rfl, rfl⟩

set_option maxRecDepth 100000 in
set_option maxHeartbeats 4000000 in
theorem Get14_any (v : Value) (S : Nat → Prop) (L : List O) (w : World) (hv : RefM w S v L) (o : Int) (o64 : In64 o) :
    Calls Tryz.prog 38 #[v, .int .i64 o] w (Ret fun r w' => ∃ x, r = .tuple #[x, .int .i64 (objE L o)] ∧ ObjR w' (fun b => S b ∨ w.heap.size ≤ b) x (objV L o) ∧ Chg No w w') := by
  have HV := Lib.hid hv
  obtain ⟨lv, rfl, hl⟩ := hv
  obtain ⟨A, c, rfl, hm⟩ := hl.form
  clear hl
  generalize L.length = n at *
  obtain ⟨W, hW⟩ : ∃ W, (w.alloc (.cells #[.slice A n c] 71)).alloc (.cells #[.int .i64 0, .int .i64 0, .slice none 0 0, .slice none 0 0] 50) = W := ⟨_, rfl⟩
  have cW : Chg No w W := by rw [← hW]; exact ((Chg.refl _ _).alloc _).alloc _
  have r1 : Row W (w.heap.size + 1) 50 #[.int .i64 0, .int .i64 0, .slice none 0 0, .slice none 0 0] := by rw [← hW]; simpa using Row.new (w.alloc _) 50 #[.int .i64 0, .int .i64 0, .slice none 0 0, .slice none 0 0]
  have HA := Lib.hid (And.intro cW r1)
  have HW := Lib.hid hW
  clear cW r1 hW
  obtain ⟨x, hx⟩ : ∃ x, objV L o = x := ⟨_, rfl⟩
  rw [hx]
  have HX := Lib.hid hx
  clear hx
  go_enter Tryz.func38, Tryz.ntmps38
  go_wp2_with (first
    | (go_at_call 60
       have HZ := HW.out
       clear HW
       rw [HZ]
       refine (step10_2 _ (fun b => S b ∧ b < w.heap.size) L _ ((HV.out.more (S' := fun b => S b ∧ b < w.heap.size) (fun b h1 h2 => ⟨h2, h1⟩)).keep HA.out.1 (fun _ _ f => f)) o 0 0 o64).mono ?_
       rw [HX.out]
       rintro e w1 ⟨r1, rfl, m', t', rfl, ⟨lx, rfl, hlx⟩, ⟨wv, bv, rfl, hI, hB, k1, k2⟩, c1⟩
       obtain ⟨A5, k5, rfl, -⟩ := hlx.form
       obtain ⟨A6, c6, rfl, -⟩ := hI.form
       obtain ⟨A7, c7, rfl, -⟩ := hB.form
       simp only [TD.cells]
       have hsz := HA.out.2.lt
       generalize L.length = n5 at *
       obtain ⟨W6, h6⟩ : ∃ W6, (w1.alloc (.cells #[.slice A5 n5 k5] 71)).alloc (.cells #[.int .i64 0, .int .i64 x.cls, .int .i64 x.kind, .slice A6 x.W.length c6, .slice A7 x.B.length c7, .bool false, .int .i64 (objE L o)] 104) = W6 := ⟨_, rfl⟩
       have c16 : Chg No w1 W6 := by rw [← h6]; exact ((Chg.refl _ _).alloc _).alloc _
       have r6 : Row W6 (w1.heap.size + 1) 104 #[.int .i64 0, .int .i64 x.cls, .int .i64 x.kind, .slice A6 x.W.length c6, .slice A7 x.B.length c7, .bool false, .int .i64 (objE L o)] := by
         rw [← h6]
         simpa using Row.new (w1.alloc _) 104 #[.int .i64 0, .int .i64 x.cls, .int .i64 x.kind, .slice A6 x.W.length c6, .slice A7 x.B.length c7, .bool false, .int .i64 (objE L o)]
       have s1 := c1.size
       have rO := HA.out.2.keep (c1.trans c16) (fun f => f)
       have xO := rO.four
       have z6 : ∀ v, Chg (fun b => b = w.heap.size + 1) W6 v → v.cell? ⟨w1.heap.size + 1, 1, none⟩ = some (.int .i64 x.cls) ∧ v.cell? ⟨w1.heap.size + 1, 2, none⟩ = some (.int .i64 x.kind) ∧ v.cell? ⟨w1.heap.size + 1, 3, none⟩ = some (.slice A6 x.W.length c6) ∧ v.cell? ⟨w1.heap.size + 1, 4, none⟩ = some (.slice A7 x.B.length c7) ∧ v.cell? ⟨w1.heap.size + 1, 6, none⟩ = some (.int .i64 (objE L o)) := fun v hv => by
         have hr := r6.keep hv (by omega)
         exact ⟨hr.cell 1, hr.cell 2, hr.cell 3, hr.cell 4, hr.cell 6⟩
       have H6 := Lib.hid h6
       have HC := Lib.hid (And.intro ((HA.out.1.trans c1).trans c16) (And.intro (hI.keep c16 (fun _ _ f => f)) (And.intro (hB.keep c16 (fun _ _ f => f)) (And.intro k1 k2))))
       clear h6 r6 c16 c1 hlx hI hB rO HZ)
    | (rw [H6.out]))
  go_region_held3 (fun w' => Chg (fun b => b = w.heap.size + 1) W6 w') (repeat (with_reducible first | assumption | exact Chg.refl _ _ | refine Chg.drew ?_ | refine Chg.setCell ?_ (Or.inl (by simp)) _)) (fail)
  all_goals
    go_wp2_with fail
    have cF : ∀ V, Chg (fun b => b = w.heap.size + 1) W6 V → ObjR V (fun b => S b ∨ w.heap.size ≤ b) (.agg #[.int .i64 x.cls, .int .i64 x.kind, .slice A6 x.W.length c6, .slice A7 x.B.length c7]) x ∧ Chg No w V := fun V hV => by
      obtain ⟨c06, hI, hB, k1, k2⟩ := HC.out
      refine ⟨⟨_, _, rfl, (hI.keep hV (fun b hb h => by rcases hb with hb | hb <;> omega)).more (fun b _ h => h.elim (fun h => .inl h.1) (fun h => .inr (by omega))), (hB.keep hV (fun b hb h => by rcases hb with hb | hb <;> omega)).more (fun b _ h => h.elim (fun h => .inl h.1) (fun h => .inr (by omega))), k1, k2⟩, c06.then hV (fun i hi h => by omega)⟩
    refine bodyPost_ret (v := .tuple #[.agg #[.int .i64 x.cls, .int .i64 x.kind, .slice A6 x.W.length c6, .slice A7 x.B.length c7], .int .i64 (objE L o)]) (by simp [results, Tryz.results38, go_sem, xO]) rfl (Ret.mk ⟨_, rfl, (cF _ ?_).1, (cF _ ?_).2⟩)
    · repeat (with_reducible first | assumption | exact Chg.refl _ _ | refine Chg.drew ?_ | refine Chg.setCell ?_ (Or.inl (by simp)) _)
    · repeat (with_reducible first | assumption | exact Chg.refl _ _ | refine Chg.drew ?_ | refine Chg.setCell ?_ (Or.inl (by simp)) _)

end Go.Proofs.YtifcigjminbllaaGreatDoor
