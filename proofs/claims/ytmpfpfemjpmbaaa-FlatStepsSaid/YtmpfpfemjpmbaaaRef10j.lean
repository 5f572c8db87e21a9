/- The document's memory (websterref10): Step, whatever is done; All. -/
import Derived.Test.YtmpfpfemjpmbaaaRef10i
namespace Go.Proofs.Ytmpfpfemjpmbaaa
set_option linter.unusedVariables false
set_option linter.unusedSimpArgs false
open Go.RowKit

set_option maxRecDepth 100000 in
set_option maxHeartbeats 4000000 in
theorem step10_9 (v : Value) (S : Nat → Prop) (L : List O) (w : World) (hv : RefM w S v L) (hL : L.length < 1073741823) (hg : ∀ i, (ob L i).kind = 0 → ob L i = O.zero) (hok : ∀ i, (ob L i).kind ≠ 0 → (ob L i).ok) (k da db dc : Int) (da64 : In64 da) (db64 : In64 db) (dc64 : In64 dc) (hk : k < 1 ∨ 8 < k) :
    Calls Try.prog 36 #[v, .agg #[.int .i64 k, .int .i64 da, .int .i64 db, .int .i64 dc]] w (Ret (Stepped w S (colL L (numsOf [da, db, dc])) ⟨(liveN L : Int) - liveN (colL L (numsOf [da, db, dc])), O.zero, false, 0⟩)) := by
  have n1 : (k == 1) = false := beq_eq_false_iff_ne.2 (by omega)
  have n2 : (k == 2) = false := beq_eq_false_iff_ne.2 (by omega)
  have n3 : (k == 3) = false := beq_eq_false_iff_ne.2 (by omega)
  have n4 : (k == 4) = false := beq_eq_false_iff_ne.2 (by omega)
  have n5 : (k == 5) = false := beq_eq_false_iff_ne.2 (by omega)
  have n6 : (k == 6) = false := beq_eq_false_iff_ne.2 (by omega)
  have n7 : (k == 7) = false := beq_eq_false_iff_ne.2 (by omega)
  have n8 : (k == 8) = false := beq_eq_false_iff_ne.2 (by omega)
  clear hk
  obtain ⟨N, hN⟩ : ∃ N, (liveN L : Int) - liveN (colL L (numsOf [da, db, dc])) = N := ⟨_, rfl⟩
  obtain ⟨L', hL'⟩ : ∃ L', colL L (numsOf [da, db, dc]) = L' := ⟨_, rfl⟩
  have hlen : L'.length = L.length := by rw [← hL', colL_len]
  rw [hL'] at hN
  rw [hL', hN]
  have HNL := Lib.hid (And.intro hL' hN)
  have HG := Lib.hid (And.intro hg hok)
  clear hN hL' hg hok
  have HV := Lib.hid hv
  obtain ⟨lv, rfl, hl⟩ := hv
  obtain ⟨A, c, rfl, hm⟩ := hl.form
  have HL := Lib.hid hl
  obtain ⟨W, hW⟩ : ∃ W, (((w.alloc (.cells #[.slice A L.length c] 30)).alloc (.cells #[.int .i64 k, .int .i64 da, .int .i64 db, .int .i64 dc] 58)).alloc (.cells #[.slice none 0 0] 30)).alloc (.cells #[.int .i64 0, .int .i64 0, .int .i64 0, .slice none 0 0, .slice none 0 0, .bool false, .int .i64 0] 55) = W := ⟨_, rfl⟩
  have cW : Chg No w W := by rw [← hW]; exact ((((Chg.refl _ _).alloc _).alloc _).alloc _).alloc _
  have sW : W.heap.size = w.heap.size + 1 + 1 + 1 + 1 := by rw [← hW]; simp
  have r0 : Row W w.heap.size 30 #[.slice A L.length c] := by rw [← hW]; exact (((Row.new w _ _).alloc _).alloc _).alloc _
  have r1 : Row W (w.heap.size + 1) 58 #[.int .i64 k, .int .i64 da, .int .i64 db, .int .i64 dc] := by rw [← hW]; exact Row.alloc (Row.alloc (by simpa using Row.new (w.alloc _) _ _) _) _
  have r2 : Row W (w.heap.size + 1 + 1) 30 #[.slice none 0 0] := by rw [← hW]; exact Row.alloc (by simpa using Row.new ((w.alloc _).alloc _) _ _) _
  have r3 : Row W (w.heap.size + 1 + 1 + 1) 55 #[.int .i64 0, .int .i64 0, .int .i64 0, .slice none 0 0, .slice none 0 0, .bool false, .int .i64 0] := by rw [← hW]; simpa using Row.new (((w.alloc _).alloc _).alloc _) 55 #[.int .i64 0, .int .i64 0, .int .i64 0, .slice none 0 0, .slice none 0 0, .bool false, .int .i64 0]
  have HR := Lib.hid (And.intro cW (And.intro sW (And.intro r0 (And.intro r1 (And.intro r2 r3)))))
  have HW := Lib.hid hW
  clear hl cW sW r0 r1 r2 r3 hW
  generalize hn : L.length = n at *
  have HN := Lib.hid hn
  clear hn
  have sW := HR.out.2.1
  have hS : IntS (W.alloc (.cells #[.int .i64 da, .int .i64 db, .int .i64 dc] 3)) (fun _ => True) (.slice (some ⟨W.heap.size, 0, none⟩) 3 3) [da, db, dc] :=
    ⟨by simpa using Slc.row (S := fun _ => True) (Row.new W 3 #[.int .i64 da, .int .i64 db, .int .i64 dc]) 3 1 rfl (by unfold maxLen; omega) trivial, by intro x hx; simp at hx; rcases hx with rfl | rfl | rfl <;> assumption⟩
  rw [sW] at hS
  have HS := Lib.hid hS
  have cA : Chg No W (W.alloc (.cells #[.int .i64 da, .int .i64 db, .int .i64 dc] 3)) := (Chg.refl _ _).alloc _
  have HCA := Lib.hid cA
  clear hS cA
  go_enter Try.func36, Try.ntmps36
  go_wp2_with (go_at_call 62
               rw [HW.out]
               refine (collect10_any _ (fun b => S b ∧ b < w.heap.size) L _ ((HV.out.more (S' := fun b => S b ∧ b < w.heap.size) (fun b h1 h2 => ⟨h2, h1⟩)).keep (HR.out.1.trans HCA.out) (fun _ _ f => f)) (by rw [HN.out]; exact hL) HG.out.1 HG.out.2 _ [da, db, dc] _ HS.out (by simp)).mono ?_
               rw [HNL.out.1, HNL.out.2]
               rintro e w1 ⟨r1, rfl, m', t', rfl, ⟨lx, rfl, hlx⟩, ⟨wv, bv, rfl, hI, hB, k1, k2⟩, c1⟩
               obtain ⟨A5, k5, rfl, -⟩ := hlx.form
               obtain ⟨A6, c6, rfl, -⟩ := hI.form
               obtain ⟨A7, c7, rfl, -⟩ := hB.form
               rw [hlen] at hlx ⊢
               simp only [TD.cells, O.zero, List.length_nil] at hI hB k1 k2 ⊢
               have c01 := HCA.out.trans c1
               have q0 := HR.out.2.2.1.keep c01 (fun f => f)
               have q1 := HR.out.2.2.2.1.keep c01 (fun f => f)
               have q2 := HR.out.2.2.2.2.1.keep c01 (fun f => f)
               have q3 := HR.out.2.2.2.2.2.keep c01 (fun f => f)
               have x0 : w1.cell? ⟨w.heap.size, 0, none⟩ = some (.slice A n c) := q0.cell 0
               have x1 := q1.four
               have x2 : w1.cell? ⟨w.heap.size + 1 + 1, 0, none⟩ = some (.slice none 0 0) := q2.cell 0
               have x2f := q2.frozen 0
               have x3 := q3.seven
               clear q0 q1 q2 q3
               have H1 := Lib.hid c01
               have H2 := Lib.hid (And.intro hlx (And.intro hI hB))
               clear c1 c01 hlx hI hB
               skip)
  have s1 := H1.out.size
  have hsz := (Chg.alloc (Chg.refl No W) (.cells #[.int .i64 da, .int .i64 db, .int .i64 dc] 3)).size
  refine bodyPost_ret (v := .tuple #[.agg #[.slice A5 n k5], .agg #[.int .i64 N, .int .i64 0, .int .i64 0, .slice A6 0 c6, .slice A7 0 c7, .bool false, .int .i64 0]]) (by simp [results, Try.results36, go_sem, x2, x3]) rfl (Ret.mk (Stepped.end ((show RefM w1 _ (.agg #[.slice A5 n k5]) _ from ⟨_, rfl, H2.out.1⟩).more (fun b _ h => h.elim .inl (fun h => .inr (by omega)))) (HR.out.1.trans H1.out) (by repeat (with_reducible first | assumption | exact Chg.refl _ _ | refine Chg.drew ?_ | refine Chg.setCell ?_ (by first | exact Or.inl (RG.a w) | exact Or.inl (RG.b w)) _)) ⟨_, _, rfl, H2.out.2.1.empty, H2.out.2.2.empty, k1, k2⟩))

theorem step10_any (v : Value) (S : Nat → Prop) (L : List O) (w : World) (hv : RefM w S v L) (hL : L.length + 1 < 1073741823) (hg : ∀ i, (ob L i).kind = 0 → ob L i = O.zero) (hok : ∀ i, (ob L i).kind ≠ 0 → (ob L i).ok) (d : D4) (hd : d.in64) :
    Calls Try.prog 36 #[v, .agg d.cells] w (Ret (Stepped w S (doneL L d) (doneT L d))) := by
  obtain ⟨k, da, db, dc⟩ := d
  obtain ⟨-, da64, db64, dc64⟩ := hd
  have hL' : L.length < 1073741823 := by omega
  simp only [D4.cells, doneL, doneT] at *
  by_cases h1 : k = 1
  · subst h1; exact step10_1 v S L w hv hL da db dc da64 db64 dc64
  by_cases h2 : k = 2
  · subst h2; exact step10_2 v S L w hv da db dc da64
  by_cases h3 : k = 3
  · subst h3; exact step10_3 v S L w hv hok da db dc da64
  by_cases h4 : k = 4
  · subst h4; exact step10_4 v S L w hv hL' hok da db dc da64 dc64
  by_cases h5 : k = 5
  · subst h5; exact step10_5 v S L w hv hok da db dc da64
  by_cases h6 : k = 6
  · subst h6; exact step10_6 v S L w hv hL' hok da db dc da64 dc64
  by_cases h7 : k = 7
  · subst h7; exact step10_7 v S L w hv hL' da db dc da64 db64
  by_cases h8 : k = 8
  · subst h8; exact step10_8 v S L w hv hL' da db dc da64
  · simp only [h1, h2, h3, h4, h5, h6, h7, h8, if_false, or_self]
    exact step10_9 v S L w hv hL' hg hok k da db dc da64 db64 dc64 (by omega)

/-! All -/
set_option maxRecDepth 100000 in
set_option maxHeartbeats 2000000 in
theorem all10_any (v : Value) (S : Nat → Prop) (L : List O) (w : World) (hv : RefM w S v L) (hL : L.length < 1073741823) :
    Calls Try.prog 38 #[v] w (Ret fun r w' => OwnInts w' w.heap.size r (allL L) ∧ Chg No w w') := by
  obtain ⟨lv, rfl, hl⟩ := hv
  obtain ⟨A, c, rfl, hm⟩ := hl.form
  have HL := Lib.hid hl
  clear hl
  generalize hn : L.length = n at *
  have HN := Lib.hid hn
  clear hn
  go_enter Try.func38, Try.ntmps38
  go_wp2_with fail
  go_loopg [3, 4] n (fun j v3 v4 wr => ∃ k : Nat, v4 = .int .i64 ((k : Int) + 1) ∧ k ≤ n ∧ n - k ≤ j ∧ OwnInts wr (w.heap.size + 1) v3 (allTo L k) ∧ Row wr w.heap.size 30 #[.slice A n c] ∧ Chg No w wr)
  case atStart => exact ⟨0, rfl, by omega, by omega, World.ownsRow_nil _ _ _ _, Row.new w _ _, (Chg.refl _ _).alloc _⟩
  case round =>
    obtain ⟨k, rfl, k1, k2, hown, r0, cw⟩ := hrel
    obtain ⟨A3, c3, rfl⟩ := hown.form
    have hsz := r0.lt
    have x0 : wr.cell? ⟨w.heap.size, 0, none⟩ = some (.slice A n c) := r0.cell 0
    have hal := allTo_len L k
    by_cases hk : k < n
    · obtain ⟨b, off, c', wv, bv, e, -, hc, -⟩ := (HL.out.keep cw (fun _ _ f => f)).cells (i := k) (by rw [HN.out]; exact hk)
      rw [HN.out] at e
      obtain ⟨rfl, -, rfl⟩ := Value.slice.inj e
      obtain ⟨-, y1, -, -⟩ := hc wr (Chg.refl _ _)
      have t1 : decide ((k : Int) + 1 ≤ (n : Int)) = true := decide_eq_true (by omega)
      have v1 : IntKind.i64.wrap ((k : Int) + 1 - 1) = (k : Int) := (IntWalk.i64_in _ (by omega)).trans (by omega)
      have v2 : IntKind.i64.wrap (k : Int) = (k : Int) := IntWalk.i64_in _ (by omega)
      have v3 : IntKind.i64.wrap (2 * ((k : Int) + 1)) = 2 * ((k : Int) + 1) := IntWalk.i64_in _ (by omega)
      have hs := allTo_succ L k
      by_cases hk0 : (ob L k).kind = 0
      · rw [if_neg (fun h => h hk0), List.append_nil] at hs
        rw [hk0] at y1
        have HX := Lib.hid (And.intro hs (And.intro hown (And.intro r0 cw)))
        clear hs hown r0 cw hc e hk0
        generalize (allTo L k).length = q at *
        go_wp2_with fail
        go_roundg (n - (k + 1))
        case measure => omega
        case rel => exact ⟨k + 1, by go_num, by omega, by omega, by rw [HX.out.1]; exact HX.out.2.1, HX.out.2.2.1, HX.out.2.2.2⟩
      · rw [if_pos hk0] at hs
        have t2 : ((ob L k).kind != 0) = true := by simpa using hk0
        obtain ⟨A5, c5, w5, hr5, ho5, cg5⟩ := app_one hown (by omega) hsz (2 * ((k : Int) + 1)) 22
        have row5 := r0.keep cg5 (by simp)
        have cw5 : Chg No w w5 := cw.then cg5 (fun k hk hle => by omega)
        have HX := Lib.hid (And.intro hs (And.intro ho5 (And.intro row5 cw5)))
        have HR5 := Lib.hid hr5
        clear hs hown r0 cw hc e hk0 hr5 ho5 cg5 row5 cw5
        generalize (ob L k).kind = kd at *
        generalize (allTo L k).length = q at *
        go_wp2_with (at_builtin; refine wpList_append_run rfl _ _ _ rfl rfl rfl HR5.out ?_)
        go_roundg (n - (k + 1))
        case measure => omega
        case rel => exact ⟨k + 1, by go_num, by omega, by omega, by rw [HX.out.1]; exact HX.out.2.1, HX.out.2.2.1, HX.out.2.2.2⟩
    · obtain rfl : k = n := by omega
      have t1 : decide ((k : Int) + 1 ≤ (k : Int)) = false := decide_eq_false (by omega)
      have HX := Lib.hid (And.intro (own_base hown (Nat.le_succ _)) cw)
      clear hown r0 cw
      go_wp2_with fail
      go_ret
      refine Ret.mk ⟨?_, HX.out.2⟩
      unfold allL
      rw [HN.out]
      exact HX.out.1

end Go.Proofs.Ytmpfpfemjpmbaaa
