/- The document on classes (websterref14): Instance. -/
import Derived.Test.YtjanojignaonfaaRef14b
import Derived.Test.YtjanojignaonfaaKitD
namespace Go.Proofs.Ytjanojignaonfaa
set_option linter.unusedVariables false
set_option linter.unusedSimpArgs false
open Go.RowKit

theorem Row.new2' (w : World) (o : Obj) (t : TypeId) (cs : Array Value) : Row ((w.alloc o).alloc (.cells cs t)) (w.heap.size + 1) t cs := by
  have h := Row.new (w.alloc o) t cs
  rwa [show (w.alloc o).heap.size = w.heap.size + 1 by simp] at h
/-- what the document's Instance answers -/
def Made14 (w : World) (S : Nat → Prop) (L : List O) (c : Int) (l : List Int) (v : Value) (w' : World) : Prop :=
  ∃ x, v = .tuple #[x, .int .i64 (insN L c l), .int .i64 (insE L c l)] ∧ Chg No w w' ∧ RefM w' (fun b => S b ∨ w.heap.size ≤ b) x (insL L c l)

theorem made_end {w w2 V : World} {S S2 : Nat → Prop} {x : Value} {L : List O} (hr : RefM w2 S2 x L) (hS : ∀ b, S2 b → (S b ∧ b < w.heap.size) ∨ w.heap.size + 2 ≤ b) (c2 : Chg No w w2) (cV : Chg (fun b => b = w.heap.size + 1) w2 V) : Chg No w V ∧ RefM V (fun b => S b ∨ w.heap.size ≤ b) x L := by
  refine ⟨c2.then cV (fun i hi e => by omega), (hr.keep cV (fun b hb e => ?_)).more (fun b _ h => ?_)⟩
  · rcases hS b hb with h | h <;> omega
  · rcases hS b h with h | h
    · exact .inl h.1
    · exact .inr (by omega)

set_option maxRecDepth 100000 in
set_option maxHeartbeats 2000000 in
theorem Inst14_none (v : Value) (S : Nat → Prop) (L : List O) (w : World) (hv : RefM w S v L) (hok : ∀ i, (ob L i).kind ≠ 0 → (ob L i).ok) (hL : L.length < 1073741823) (c : Int) (hc : In64 c) :
    Calls Try.prog 23 #[v, .int .i64 c, .bool false, .int .i64 0] w (Ret (Made14 w S L c [])) := by
  obtain ⟨lv, rfl, hl⟩ := hv
  have hbd := shape_bd L c
  obtain ⟨⟨sk, sn, sm, se⟩, hs⟩ : ∃ s, shapeOf L c = s := ⟨_, rfl⟩
  rw [hs] at hbd
  dsimp only at hbd
  have HS := Lib.hid hs
  unfold Made14
  by_cases h0 : se = 0
  · subst h0
    have hB : insBad L c [] = false := by simp [insBad]
    have r1 : insN L c [] = newN L c sk sn := by unfold insN insOk; rw [hB, hs]; simp
    have r2 : insE L c [] = newE c sk sn := by unfold insE; rw [hs, if_neg (by simp), hB, if_neg (by simp)]; simp
    have r3 : insL L c [] = newL L c sk sn := by unfold insL insOk; rw [hB, hs]; simp
    rw [r1, r2, r3]
    clear r1 r2 r3 hB hs
    obtain ⟨A, cp, rfl, -⟩ := hl.form
    have hold : RefM w (fun b => S b ∧ b < w.heap.size) (.agg #[.slice A L.length cp]) L := RefM.more (S' := fun b => S b ∧ b < w.heap.size) ⟨_, rfl, hl⟩ (fun b h1 h2 => ⟨h2, h1⟩)
    have HV := Lib.hid hold
    have HOK := Lib.hid hok
    have HNL := Lib.hid hL
    clear hl hok hL hold
    generalize hn : L.length = n at *
    obtain ⟨W, hW⟩ : ∃ W, (w.alloc (.cells #[.slice A n cp] 33)).alloc (.cells #[.slice none 0 0] 33) = W := ⟨_, rfl⟩
    have cW : Chg No w W := by rw [← hW]; exact ((Chg.refl _ _).alloc _).alloc _
    have rA : Row W w.heap.size 33 #[.slice A n cp] := by rw [← hW]; exact (Row.new w _ _).alloc _
    have rB : Row W (w.heap.size + 1) 33 #[.slice none 0 0] := by rw [← hW]; exact Row.new2' w _ _ _
    have sW : w.heap.size + 2 ≤ W.heap.size := by have := rB.lt; omega
    have HA := Lib.hid (And.intro cW (And.intro rA (And.intro rB sW)))
    have HW := Lib.hid hW
    clear hW cW rA rB sW
    go_enter Try.func23, Try.ntmps23
    go_wp2_with (first
      | (go_at_call 21
         have HZ := HW.out
         clear HW
         rw [HZ]
         refine (Shape14_any _ _ L W (HV.out.keep HA.out.1 (fun _ _ f => f)) HOK.out c hc).mono ?_
         rw [HS.out]
         rintro e w1 ⟨rfl, c1⟩
         have rA1 := HA.out.2.1.keep c1 (fun f => f)
         have rB1 := HA.out.2.2.1.keep c1 (fun f => f)
         have xA1 : w1.cell? ⟨w.heap.size, 0, none⟩ = some (.slice A n cp) := rA1.cell 0
         have xB1 : w1.cell? ⟨w.heap.size + 1, 0, none⟩ = some (.slice none 0 0) := rB1.cell 0
         have yB1 := rB1.frozen 0
         have zB1 := (rB1.set 0 (.slice A n cp)).cell 0
         have H1 := Lib.hid (And.intro (HA.out.1.trans c1) rB1)
         clear c1 rA1 rB1)
      | (go_at_call 63
         refine (Ref10New_any _ _ L _ (HV.out.keep H1.out.1 (fun _ _ f => f)) (by rw [hn]; exact HNL.out) c sk (sn) hc (by unfold In64; omega) (by unfold In64; omega)).mono ?_
         rintro e w2 ⟨r1, rfl, x, rfl, c2, ⟨lx, rfl, hlx⟩⟩
         obtain ⟨A5, k5, rfl, -⟩ := hlx.form
         generalize (newL L c sk (sn)).length = n5 at *
         have rB2 := H1.out.2.keep c2 (fun f => f)
         have xB2 : w2.cell? ⟨w.heap.size + 1, 0, none⟩ = some (.slice none 0 0) := rB2.cell 0
         have yB2 := rB2.frozen 0
         have zB2 := (rB2.set 0 (.slice A5 n5 k5)).cell 0
         have hs1 : w.heap.size + 2 ≤ w1.heap.size := by have := H1.out.2.lt; omega
         have H2 := Lib.hid (And.intro (H1.out.1.trans c2) (And.intro hlx hs1))
         clear c2 rB2 hlx hs1)
      | fail)
    refine bodyPost_ret (v := .tuple #[.agg #[.slice A5 n5 k5], .int .i64 (newN L c sk (sn)), .int .i64 (newE c sk (sn))]) (by simp [results, Try.results23, go_sem, zB2]; try exact zB2) rfl (Ret.mk ⟨_, rfl, ?_⟩)
    exact made_end (S := S) ⟨_, rfl, H2.out.2.1⟩ (fun b h => h.elim .inl (fun h => .inr (Nat.le_trans H2.out.2.2 h))) H2.out.1 ((Chg.refl _ _).setCell (.inl (by simp)) _)
  · have r1 : insN L c [] = 0 := by unfold insN insOk; rw [hs]; simp [h0]
    have r2 : insE L c [] = se := by unfold insE; rw [hs, if_pos h0]
    have r3 : insL L c [] = L := by unfold insL insOk; rw [hs]; simp [h0]
    have t0 : (se != 0) = true := by simpa using h0
    rw [r1, r2, r3]
    clear r1 r2 r3 hs
    obtain ⟨A, cp, rfl, -⟩ := hl.form
    have hold : RefM w (fun b => S b ∧ b < w.heap.size) (.agg #[.slice A L.length cp]) L := RefM.more (S' := fun b => S b ∧ b < w.heap.size) ⟨_, rfl, hl⟩ (fun b h1 h2 => ⟨h2, h1⟩)
    have HV := Lib.hid hold
    have HOK := Lib.hid hok
    have HNL := Lib.hid hL
    clear hl hok hL hold
    generalize hn : L.length = n at *
    obtain ⟨W, hW⟩ : ∃ W, (w.alloc (.cells #[.slice A n cp] 33)).alloc (.cells #[.slice none 0 0] 33) = W := ⟨_, rfl⟩
    have cW : Chg No w W := by rw [← hW]; exact ((Chg.refl _ _).alloc _).alloc _
    have rA : Row W w.heap.size 33 #[.slice A n cp] := by rw [← hW]; exact (Row.new w _ _).alloc _
    have rB : Row W (w.heap.size + 1) 33 #[.slice none 0 0] := by rw [← hW]; exact Row.new2' w _ _ _
    have sW : w.heap.size + 2 ≤ W.heap.size := by have := rB.lt; omega
    have HA := Lib.hid (And.intro cW (And.intro rA (And.intro rB sW)))
    have HW := Lib.hid hW
    clear hW cW rA rB sW
    go_enter Try.func23, Try.ntmps23
    go_wp2_with (go_at_call 21
                 have HZ := HW.out
                 clear HW
                 rw [HZ]
                 refine (Shape14_any _ _ L W (HV.out.keep HA.out.1 (fun _ _ f => f)) HOK.out c hc).mono ?_
                 rw [HS.out]
                 rintro e w1 ⟨rfl, c1⟩
                 have rA1 := HA.out.2.1.keep c1 (fun f => f)
                 have rB1 := HA.out.2.2.1.keep c1 (fun f => f)
                 have xA1 : w1.cell? ⟨w.heap.size, 0, none⟩ = some (.slice A n cp) := rA1.cell 0
                 have xB1 : w1.cell? ⟨w.heap.size + 1, 0, none⟩ = some (.slice none 0 0) := rB1.cell 0
                 have yB1 := rB1.frozen 0
                 have zB1 := (rB1.set 0 (.slice A n cp)).cell 0
                 have H1 := Lib.hid (And.intro (HA.out.1.trans c1) rB1)
                 clear c1 rA1 rB1)
    refine bodyPost_ret (v := .tuple #[.agg #[.slice A n cp], .int .i64 0, .int .i64 se]) (by simp [results, Try.results23, go_sem, zB1]; try exact zB1) rfl (Ret.mk ⟨_, rfl, ?_⟩)
    exact made_end (S := S) (HV.out.keep H1.out.1 (fun _ _ f => f)) (fun b h => .inl h) H1.out.1 ((Chg.refl _ _).setCell (.inl (by simp)) _)

set_option maxRecDepth 100000 in
set_option maxHeartbeats 2000000 in
theorem Inst14_some (v : Value) (S : Nat → Prop) (L : List O) (w : World) (hv : RefM w S v L) (hok : ∀ i, (ob L i).kind ≠ 0 → (ob L i).ok) (hL : L.length < 1073741823) (c : Int) (hc : In64 c) (k : Int) :
    Calls Try.prog 23 #[v, .int .i64 c, .bool true, .int .i64 k] w (Ret (Made14 w S L c [k])) := by
  obtain ⟨lv, rfl, hl⟩ := hv
  have hbd := shape_bd L c
  obtain ⟨⟨sk, sn, sm, se⟩, hs⟩ : ∃ s, shapeOf L c = s := ⟨_, rfl⟩
  rw [hs] at hbd
  dsimp only at hbd
  have HS := Lib.hid hs
  unfold Made14
  by_cases h0 : se = 0
  · subst h0
    cases hbk : badB k
    · have hk : 0 ≤ k ∧ k ≤ 1000 := by
        unfold badB at hbk
        simp only [Bool.or_eq_false_iff, decide_eq_false_iff_not] at hbk
        omega
      have t1 : decide (k < 0) = false := decide_eq_false (by omega)
      have t2 : decide (1000 < k) = false := decide_eq_false (by omega)
      cases sm
      · have hB : insBad L c [k] = true := by simp [insBad, hs]
        have r1 : insN L c [k] = 0 := by unfold insN insOk; rw [hB, if_neg (by simp)]
        have r2 : insE L c [k] = 2 := by unfold insE; rw [hs, if_neg (by simp), hB, if_pos rfl]
        have r3 : insL L c [k] = L := by unfold insL insOk; rw [hB, if_neg (by simp)]
        rw [r1, r2, r3]
        clear r1 r2 r3 hB hs hbk
        obtain ⟨A, cp, rfl, -⟩ := hl.form
        have hold : RefM w (fun b => S b ∧ b < w.heap.size) (.agg #[.slice A L.length cp]) L := RefM.more (S' := fun b => S b ∧ b < w.heap.size) ⟨_, rfl, hl⟩ (fun b h1 h2 => ⟨h2, h1⟩)
        have HV := Lib.hid hold
        have HOK := Lib.hid hok
        have HNL := Lib.hid hL
        clear hl hok hL hold
        generalize hn : L.length = n at *
        obtain ⟨W, hW⟩ : ∃ W, (w.alloc (.cells #[.slice A n cp] 33)).alloc (.cells #[.slice none 0 0] 33) = W := ⟨_, rfl⟩
        have cW : Chg No w W := by rw [← hW]; exact ((Chg.refl _ _).alloc _).alloc _
        have rA : Row W w.heap.size 33 #[.slice A n cp] := by rw [← hW]; exact (Row.new w _ _).alloc _
        have rB : Row W (w.heap.size + 1) 33 #[.slice none 0 0] := by rw [← hW]; exact Row.new2' w _ _ _
        have sW : w.heap.size + 2 ≤ W.heap.size := by have := rB.lt; omega
        have HA := Lib.hid (And.intro cW (And.intro rA (And.intro rB sW)))
        have HW := Lib.hid hW
        clear hW cW rA rB sW
        go_enter Try.func23, Try.ntmps23
        go_wp2_with (go_at_call 21
                     have HZ := HW.out
                     clear HW
                     rw [HZ]
                     refine (Shape14_any _ _ L W (HV.out.keep HA.out.1 (fun _ _ f => f)) HOK.out c hc).mono ?_
                     rw [HS.out]
                     rintro e w1 ⟨rfl, c1⟩
                     have rA1 := HA.out.2.1.keep c1 (fun f => f)
                     have rB1 := HA.out.2.2.1.keep c1 (fun f => f)
                     have xA1 : w1.cell? ⟨w.heap.size, 0, none⟩ = some (.slice A n cp) := rA1.cell 0
                     have xB1 : w1.cell? ⟨w.heap.size + 1, 0, none⟩ = some (.slice none 0 0) := rB1.cell 0
                     have yB1 := rB1.frozen 0
                     have zB1 := (rB1.set 0 (.slice A n cp)).cell 0
                     have H1 := Lib.hid (And.intro (HA.out.1.trans c1) rB1)
                     clear c1 rA1 rB1)
        refine bodyPost_ret (v := .tuple #[.agg #[.slice A n cp], .int .i64 0, .int .i64 2]) (by simp [results, Try.results23, go_sem, zB1]; try exact zB1) rfl (Ret.mk ⟨_, rfl, ?_⟩)
        exact made_end (S := S) (HV.out.keep H1.out.1 (fun _ _ f => f)) (fun b h => .inl h) H1.out.1 ((Chg.refl _ _).setCell (.inl (by simp)) _)
      · have hB : insBad L c [k] = false := by simp [insBad, hs, hbk]
        have r1 : insN L c [k] = newN L c sk (sn + k) := by unfold insN insOk; rw [hB, hs]; simp
        have r2 : insE L c [k] = newE c sk (sn + k) := by unfold insE; rw [hs, if_neg (by simp), hB, if_neg (by simp)]; simp
        have r3 : insL L c [k] = newL L c sk (sn + k) := by unfold insL insOk; rw [hB, hs]; simp
        rw [r1, r2, r3]
        have wk : IntKind.i64.wrap (sn + k) = sn + k := IntWalk.i64_in _ (by omega)
        clear r1 r2 r3 hB hs hbk
        obtain ⟨A, cp, rfl, -⟩ := hl.form
        have hold : RefM w (fun b => S b ∧ b < w.heap.size) (.agg #[.slice A L.length cp]) L := RefM.more (S' := fun b => S b ∧ b < w.heap.size) ⟨_, rfl, hl⟩ (fun b h1 h2 => ⟨h2, h1⟩)
        have HV := Lib.hid hold
        have HOK := Lib.hid hok
        have HNL := Lib.hid hL
        clear hl hok hL hold
        generalize hn : L.length = n at *
        obtain ⟨W, hW⟩ : ∃ W, (w.alloc (.cells #[.slice A n cp] 33)).alloc (.cells #[.slice none 0 0] 33) = W := ⟨_, rfl⟩
        have cW : Chg No w W := by rw [← hW]; exact ((Chg.refl _ _).alloc _).alloc _
        have rA : Row W w.heap.size 33 #[.slice A n cp] := by rw [← hW]; exact (Row.new w _ _).alloc _
        have rB : Row W (w.heap.size + 1) 33 #[.slice none 0 0] := by rw [← hW]; exact Row.new2' w _ _ _
        have sW : w.heap.size + 2 ≤ W.heap.size := by have := rB.lt; omega
        have HA := Lib.hid (And.intro cW (And.intro rA (And.intro rB sW)))
        have HW := Lib.hid hW
        clear hW cW rA rB sW
        go_enter Try.func23, Try.ntmps23
        go_wp2_with (first
          | (go_at_call 21
             have HZ := HW.out
             clear HW
             rw [HZ]
             refine (Shape14_any _ _ L W (HV.out.keep HA.out.1 (fun _ _ f => f)) HOK.out c hc).mono ?_
             rw [HS.out]
             rintro e w1 ⟨rfl, c1⟩
             have rA1 := HA.out.2.1.keep c1 (fun f => f)
             have rB1 := HA.out.2.2.1.keep c1 (fun f => f)
             have xA1 : w1.cell? ⟨w.heap.size, 0, none⟩ = some (.slice A n cp) := rA1.cell 0
             have xB1 : w1.cell? ⟨w.heap.size + 1, 0, none⟩ = some (.slice none 0 0) := rB1.cell 0
             have yB1 := rB1.frozen 0
             have zB1 := (rB1.set 0 (.slice A n cp)).cell 0
             have H1 := Lib.hid (And.intro (HA.out.1.trans c1) rB1)
             clear c1 rA1 rB1)
          | (go_at_call 63
             refine (Ref10New_any _ _ L _ (HV.out.keep H1.out.1 (fun _ _ f => f)) (by rw [hn]; exact HNL.out) c sk (sn + k) hc (by unfold In64; omega) (by unfold In64; omega)).mono ?_
             rintro e w2 ⟨r1, rfl, x, rfl, c2, ⟨lx, rfl, hlx⟩⟩
             obtain ⟨A5, k5, rfl, -⟩ := hlx.form
             generalize (newL L c sk (sn + k)).length = n5 at *
             have rB2 := H1.out.2.keep c2 (fun f => f)
             have xB2 : w2.cell? ⟨w.heap.size + 1, 0, none⟩ = some (.slice none 0 0) := rB2.cell 0
             have yB2 := rB2.frozen 0
             have zB2 := (rB2.set 0 (.slice A5 n5 k5)).cell 0
             have hs1 : w.heap.size + 2 ≤ w1.heap.size := by have := H1.out.2.lt; omega
             have H2 := Lib.hid (And.intro (H1.out.1.trans c2) (And.intro hlx hs1))
             clear c2 rB2 hlx hs1)
          | fail)
        refine bodyPost_ret (v := .tuple #[.agg #[.slice A5 n5 k5], .int .i64 (newN L c sk (sn + k)), .int .i64 (newE c sk (sn + k))]) (by simp [results, Try.results23, go_sem, zB2]; try exact zB2) rfl (Ret.mk ⟨_, rfl, ?_⟩)
        exact made_end (S := S) ⟨_, rfl, H2.out.2.1⟩ (fun b h => h.elim .inl (fun h => .inr (Nat.le_trans H2.out.2.2 h))) H2.out.1 ((Chg.refl _ _).setCell (.inl (by simp)) _)
    · have hB : insBad L c [k] = true := by simp [insBad, hbk]
      have r1 : insN L c [k] = 0 := by unfold insN insOk; rw [hB, if_neg (by simp)]
      have r2 : insE L c [k] = 2 := by unfold insE; rw [hs, if_neg (by simp), hB, if_pos rfl]
      have r3 : insL L c [k] = L := by unfold insL insOk; rw [hB, if_neg (by simp)]
      rw [r1, r2, r3]
      clear r1 r2 r3 hB hs
      by_cases hk : k < 0
      · have t1 : decide (k < 0) = true := decide_eq_true hk
        clear hbk
        obtain ⟨A, cp, rfl, -⟩ := hl.form
        have hold : RefM w (fun b => S b ∧ b < w.heap.size) (.agg #[.slice A L.length cp]) L := RefM.more (S' := fun b => S b ∧ b < w.heap.size) ⟨_, rfl, hl⟩ (fun b h1 h2 => ⟨h2, h1⟩)
        have HV := Lib.hid hold
        have HOK := Lib.hid hok
        have HNL := Lib.hid hL
        clear hl hok hL hold
        generalize hn : L.length = n at *
        obtain ⟨W, hW⟩ : ∃ W, (w.alloc (.cells #[.slice A n cp] 33)).alloc (.cells #[.slice none 0 0] 33) = W := ⟨_, rfl⟩
        have cW : Chg No w W := by rw [← hW]; exact ((Chg.refl _ _).alloc _).alloc _
        have rA : Row W w.heap.size 33 #[.slice A n cp] := by rw [← hW]; exact (Row.new w _ _).alloc _
        have rB : Row W (w.heap.size + 1) 33 #[.slice none 0 0] := by rw [← hW]; exact Row.new2' w _ _ _
        have sW : w.heap.size + 2 ≤ W.heap.size := by have := rB.lt; omega
        have HA := Lib.hid (And.intro cW (And.intro rA (And.intro rB sW)))
        have HW := Lib.hid hW
        clear hW cW rA rB sW
        go_enter Try.func23, Try.ntmps23
        go_wp2_with (go_at_call 21
                     have HZ := HW.out
                     clear HW
                     rw [HZ]
                     refine (Shape14_any _ _ L W (HV.out.keep HA.out.1 (fun _ _ f => f)) HOK.out c hc).mono ?_
                     rw [HS.out]
                     rintro e w1 ⟨rfl, c1⟩
                     have rA1 := HA.out.2.1.keep c1 (fun f => f)
                     have rB1 := HA.out.2.2.1.keep c1 (fun f => f)
                     have xA1 : w1.cell? ⟨w.heap.size, 0, none⟩ = some (.slice A n cp) := rA1.cell 0
                     have xB1 : w1.cell? ⟨w.heap.size + 1, 0, none⟩ = some (.slice none 0 0) := rB1.cell 0
                     have yB1 := rB1.frozen 0
                     have zB1 := (rB1.set 0 (.slice A n cp)).cell 0
                     have H1 := Lib.hid (And.intro (HA.out.1.trans c1) rB1)
                     clear c1 rA1 rB1)
        refine bodyPost_ret (v := .tuple #[.agg #[.slice A n cp], .int .i64 0, .int .i64 2]) (by simp [results, Try.results23, go_sem, zB1]; try exact zB1) rfl (Ret.mk ⟨_, rfl, ?_⟩)
        exact made_end (S := S) (HV.out.keep H1.out.1 (fun _ _ f => f)) (fun b h => .inl h) H1.out.1 ((Chg.refl _ _).setCell (.inl (by simp)) _)
      · have t1 : decide (k < 0) = false := decide_eq_false hk
        have t2 : decide (1000 < k) = true := by
          unfold badB at hbk
          rw [t1, Bool.false_or] at hbk
          exact hbk
        clear hbk
        obtain ⟨A, cp, rfl, -⟩ := hl.form
        have hold : RefM w (fun b => S b ∧ b < w.heap.size) (.agg #[.slice A L.length cp]) L := RefM.more (S' := fun b => S b ∧ b < w.heap.size) ⟨_, rfl, hl⟩ (fun b h1 h2 => ⟨h2, h1⟩)
        have HV := Lib.hid hold
        have HOK := Lib.hid hok
        have HNL := Lib.hid hL
        clear hl hok hL hold
        generalize hn : L.length = n at *
        obtain ⟨W, hW⟩ : ∃ W, (w.alloc (.cells #[.slice A n cp] 33)).alloc (.cells #[.slice none 0 0] 33) = W := ⟨_, rfl⟩
        have cW : Chg No w W := by rw [← hW]; exact ((Chg.refl _ _).alloc _).alloc _
        have rA : Row W w.heap.size 33 #[.slice A n cp] := by rw [← hW]; exact (Row.new w _ _).alloc _
        have rB : Row W (w.heap.size + 1) 33 #[.slice none 0 0] := by rw [← hW]; exact Row.new2' w _ _ _
        have sW : w.heap.size + 2 ≤ W.heap.size := by have := rB.lt; omega
        have HA := Lib.hid (And.intro cW (And.intro rA (And.intro rB sW)))
        have HW := Lib.hid hW
        clear hW cW rA rB sW
        go_enter Try.func23, Try.ntmps23
        go_wp2_with (go_at_call 21
                     have HZ := HW.out
                     clear HW
                     rw [HZ]
                     refine (Shape14_any _ _ L W (HV.out.keep HA.out.1 (fun _ _ f => f)) HOK.out c hc).mono ?_
                     rw [HS.out]
                     rintro e w1 ⟨rfl, c1⟩
                     have rA1 := HA.out.2.1.keep c1 (fun f => f)
                     have rB1 := HA.out.2.2.1.keep c1 (fun f => f)
                     have xA1 : w1.cell? ⟨w.heap.size, 0, none⟩ = some (.slice A n cp) := rA1.cell 0
                     have xB1 : w1.cell? ⟨w.heap.size + 1, 0, none⟩ = some (.slice none 0 0) := rB1.cell 0
                     have yB1 := rB1.frozen 0
                     have zB1 := (rB1.set 0 (.slice A n cp)).cell 0
                     have H1 := Lib.hid (And.intro (HA.out.1.trans c1) rB1)
                     clear c1 rA1 rB1)
        refine bodyPost_ret (v := .tuple #[.agg #[.slice A n cp], .int .i64 0, .int .i64 2]) (by simp [results, Try.results23, go_sem, zB1]; try exact zB1) rfl (Ret.mk ⟨_, rfl, ?_⟩)
        exact made_end (S := S) (HV.out.keep H1.out.1 (fun _ _ f => f)) (fun b h => .inl h) H1.out.1 ((Chg.refl _ _).setCell (.inl (by simp)) _)
  · have r1 : insN L c [k] = 0 := by unfold insN insOk; rw [hs]; simp [h0]
    have r2 : insE L c [k] = se := by unfold insE; rw [hs, if_pos h0]
    have r3 : insL L c [k] = L := by unfold insL insOk; rw [hs]; simp [h0]
    have t0 : (se != 0) = true := by simpa using h0
    rw [r1, r2, r3]
    clear r1 r2 r3 hs
    obtain ⟨A, cp, rfl, -⟩ := hl.form
    have hold : RefM w (fun b => S b ∧ b < w.heap.size) (.agg #[.slice A L.length cp]) L := RefM.more (S' := fun b => S b ∧ b < w.heap.size) ⟨_, rfl, hl⟩ (fun b h1 h2 => ⟨h2, h1⟩)
    have HV := Lib.hid hold
    have HOK := Lib.hid hok
    have HNL := Lib.hid hL
    clear hl hok hL hold
    generalize hn : L.length = n at *
    obtain ⟨W, hW⟩ : ∃ W, (w.alloc (.cells #[.slice A n cp] 33)).alloc (.cells #[.slice none 0 0] 33) = W := ⟨_, rfl⟩
    have cW : Chg No w W := by rw [← hW]; exact ((Chg.refl _ _).alloc _).alloc _
    have rA : Row W w.heap.size 33 #[.slice A n cp] := by rw [← hW]; exact (Row.new w _ _).alloc _
    have rB : Row W (w.heap.size + 1) 33 #[.slice none 0 0] := by rw [← hW]; exact Row.new2' w _ _ _
    have sW : w.heap.size + 2 ≤ W.heap.size := by have := rB.lt; omega
    have HA := Lib.hid (And.intro cW (And.intro rA (And.intro rB sW)))
    have HW := Lib.hid hW
    clear hW cW rA rB sW
    go_enter Try.func23, Try.ntmps23
    go_wp2_with (go_at_call 21
                 have HZ := HW.out
                 clear HW
                 rw [HZ]
                 refine (Shape14_any _ _ L W (HV.out.keep HA.out.1 (fun _ _ f => f)) HOK.out c hc).mono ?_
                 rw [HS.out]
                 rintro e w1 ⟨rfl, c1⟩
                 have rA1 := HA.out.2.1.keep c1 (fun f => f)
                 have rB1 := HA.out.2.2.1.keep c1 (fun f => f)
                 have xA1 : w1.cell? ⟨w.heap.size, 0, none⟩ = some (.slice A n cp) := rA1.cell 0
                 have xB1 : w1.cell? ⟨w.heap.size + 1, 0, none⟩ = some (.slice none 0 0) := rB1.cell 0
                 have yB1 := rB1.frozen 0
                 have zB1 := (rB1.set 0 (.slice A n cp)).cell 0
                 have H1 := Lib.hid (And.intro (HA.out.1.trans c1) rB1)
                 clear c1 rA1 rB1)
    refine bodyPost_ret (v := .tuple #[.agg #[.slice A n cp], .int .i64 0, .int .i64 se]) (by simp [results, Try.results23, go_sem, zB1]; try exact zB1) rfl (Ret.mk ⟨_, rfl, ?_⟩)
    exact made_end (S := S) (HV.out.keep H1.out.1 (fun _ _ f => f)) (fun b h => .inl h) H1.out.1 ((Chg.refl _ _).setCell (.inl (by simp)) _)

end Go.Proofs.Ytjanojignaonfaa
