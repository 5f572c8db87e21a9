/- The document's answer on what an object names: websterref05.Refs. -/
import Derived.Test.YtdpmmafkomchaaaGreatRefs
import Derived.Test.YtdpmmafkomchaaaGreatLoadA
namespace Go.Proofs.YtdpmmafkomchaaaGreat
set_option linter.unusedVariables false
set_option linter.unusedSimpArgs false
open Go.RowKit


set_option maxRecDepth 100000 in
set_option maxHeartbeats 2000000 in
theorem Refs05_any (v : Value) (o : O) (S : Nat → Prop) (w : World) (h : ObjR w S v o) (hW : o.W.length ≤ 1000000) : Calls Tryz.prog 48 #[v] w (Ret (Refd w (refsO o))) := by
  obtain ⟨cls, kind, l, lB⟩ := o
  obtain ⟨wv, bv, rfl, h1, h2, c64, -⟩ := h
  dsimp only at h1 h2 c64 hW
  obtain ⟨A, ca, rfl, -⟩ := h1.form
  obtain ⟨B, cb, rfl, -⟩ := h2.form
  have H1 := Lib.hid h1
  clear h1 h2
  generalize hn : l.length = n at *
  have HN := Lib.hid hn
  clear hn
  generalize lB.length = nB at *
  simp only [cells2]
  generalize hp : [cls].filterMap idOf = pre at *
  have hr : refsO ⟨cls, kind, l, lB⟩ = pre ++ l.filterMap idOf := by
    rw [← hp, ← List.filterMap_append]
    rfl
  have HP := Lib.hid hr
  clear hr
  have HM := fun w => Named01_any cls c64 w
  have row := Row.new w 35 #[.int .i64 cls, .int .i64 kind, .slice A n ca, .slice B nB cb]
  have cA : Chg No w (w.alloc (.cells #[.int .i64 cls, .int .i64 kind, .slice A n ca, .slice B nB cb] 35)) := (Chg.refl _ _).alloc _
  have hpre : pre.length ≤ 1 := by rw [← hp]; exact fm_len _
  cases hx : namedOk cls
  · rw [List.filterMap_cons_none (idOf_no hx), List.filterMap_nil] at hp
    rw [hx] at HM
    have own0 : OwnInts (w.alloc (.cells #[.int .i64 cls, .int .i64 kind, .slice A n ca, .slice B nB cb] 35)) (w.heap.size + 1) (.slice none 0 0) pre := by rw [← hp]; exact World.ownsRow_nil _ _ _ _
    have HS := Lib.hid (And.intro own0 (And.intro row cA))
    clear row cA hp hx own0
    go_enter Tryz.func48, Tryz.ntmps48
    go_wp2_with (go_at_call 82; refine (HM _).mono ?_; rintro e w' ⟨rfl, rfl⟩)
    clear HM
    go_loopg [3, 6] n (fun j v3 v6 wr => ∃ i : Nat, v6 = .int .i64 i ∧ i ≤ n ∧ n - i ≤ j ∧ OwnInts wr (w.heap.size + 1) v3 (pre ++ (l.take i).filterMap idOf) ∧ Row wr w.heap.size 35 #[.int .i64 cls, .int .i64 kind, .slice A n ca, .slice B nB cb] ∧ Chg No w wr)
    case atStart => exact ⟨0, rfl, by omega, by omega, by rw [List.take_zero, List.filterMap_nil, List.append_nil]; exact HS.out.1, HS.out.2.1, HS.out.2.2⟩
    case round =>
      obtain ⟨i, rfl, i1, i2, own, row, cw⟩ := hrel
      have hsz := row.lt
      have hfl : ((l.take i).filterMap idOf).length ≤ i := Nat.le_trans (fm_len _) (by simp; omega)
      have hpl : (pre ++ (l.take i).filterMap idOf).length ≤ i + 1 := by rw [List.length_append]; omega
      obtain ⟨A3, c3, rfl⟩ := own.form
      obtain ⟨x0, x1, x2, x3, -⟩ := row.four
      by_cases hi : i < n
      · obtain ⟨g, off, rfl, hg, hc, x64, -⟩ := (H1.out.keep cw (fun _ _ f => f)).at (i := i) (by rw [HN.out]; exact hi)
        have hsn := fm_snoc (l := l) (i := i) (by rw [HN.out]; exact hi)
        generalize l[i]?.getD 0 = x at *
        have HM := fun w => Named01_any x x64 w
        cases hx : namedOk x
        · rw [idOf_no hx] at hsn
          rw [hx] at HM
          have HX := Lib.hid (And.intro hsn (And.intro own (And.intro row cw)))
          clear hsn own row cw hx
          generalize (pre ++ (l.take i).filterMap idOf).length = k at *
          go_wp2_with (go_at_call 82; refine (HM _).mono ?_; rintro e w' ⟨rfl, rfl⟩)
          go_roundg (n - (i + 1))
          case measure => omega
          case rel =>
            refine ⟨i + 1, by go_num, by omega, by omega, ?_, HX.out.2.2.1, HX.out.2.2.2⟩
            rw [HX.out.1, List.append_nil]
            exact HX.out.2.1
        · rw [idOf_yes hx] at hsn
          rw [hx] at HM
          obtain ⟨A5, c5, w5, hr5, ho5, cg5⟩ := app_one own (by omega) hsz (namedV x) 23
          have row5 := row.keep cg5 (by simp)
          have cw5 : Chg No w w5 := cw.then cg5 (fun k hk hle => by omega)
          rw [List.append_assoc] at ho5
          have HX := Lib.hid (And.intro hsn (And.intro ho5 (And.intro row5 cw5)))
          have HR := Lib.hid hr5
          clear hsn own row cw hx hr5 ho5 cg5 row5 cw5
          generalize (pre ++ (l.take i).filterMap idOf).length = k at *
          go_wp2_with (first
            | (go_at_call 82; refine (HM _).mono ?_; rintro e w' ⟨rfl, rfl⟩)
            | (at_builtin; refine wpList_append_run rfl _ _ _ rfl rfl rfl HR.out ?_))
          go_roundg (n - (i + 1))
          case measure => omega
          case rel =>
            refine ⟨i + 1, by go_num, by omega, by omega, ?_, HX.out.2.2.1, HX.out.2.2.2⟩
            rw [HX.out.1]
            exact HX.out.2.1
      · obtain rfl : i = n := by omega
        rw [List.take_of_length_le (by rw [HN.out]; exact Nat.le_refl _)] at own
        have HX := Lib.hid (And.intro own cw)
        clear own cw row
        rw [List.take_of_length_le (by rw [HN.out]; exact Nat.le_refl _)] at hpl ⊢
        generalize (pre ++ l.filterMap idOf).length = k at *
        go_wp2_with fail
        go_ret
        refine Ret.mk ⟨?_, HX.out.2⟩
        rw [HP.out]
        exact own_base HX.out.1 (Nat.le_succ _)
  · rw [List.filterMap_cons_some (idOf_yes hx), List.filterMap_nil] at hp
    rw [hx] at HM
    generalize hW1 : w.alloc (.cells #[.int .i64 cls, .int .i64 kind, .slice A n ca, .slice B nB cb] 35) = w1 at *
    have hs1 : w.heap.size + 1 ≤ w1.heap.size := row.lt
    have own0 : OwnInts w1 (w.heap.size + 1) (.slice none 0 0) [] := World.ownsRow_nil _ _ _ _
    obtain ⟨A5, c5, w5, hr5, ho5, cg5⟩ := app_one own0 (by simp) hs1 (namedV cls) 23
    have own5 : OwnInts w5 (w.heap.size + 1) (.slice A5 1 c5) pre := by rw [← hp]; exact ho5
    have row5 := row.keep cg5 (by simp)
    have cw5 : Chg No w w5 := cA.then cg5 (fun k hk hle => by omega)
    rw [List.length_nil, Nat.zero_add] at hr5
    obtain ⟨x0, x1, x2, x3, -⟩ := row.four
    have HR := Lib.hid hr5
    have HS := Lib.hid (And.intro own5 (And.intro row5 cw5))
    clear row cA hp hx own5 row5 cw5 hr5 ho5 cg5 own0
    go_enter Tryz.func48, Tryz.ntmps48
    go_wp2_with (first
      | (go_at_call 82; refine (HM _).mono ?_; rintro e w' ⟨rfl, rfl⟩)
      | (at_builtin; refine wpList_append_run rfl _ _ _ rfl rfl rfl HR.out ?_))
    clear HM HR x0 x1 x2 x3 hW1 hs1
    go_loopg [3, 6] n (fun j v3 v6 wr => ∃ i : Nat, v6 = .int .i64 i ∧ i ≤ n ∧ n - i ≤ j ∧ OwnInts wr (w.heap.size + 1) v3 (pre ++ (l.take i).filterMap idOf) ∧ Row wr w.heap.size 35 #[.int .i64 cls, .int .i64 kind, .slice A n ca, .slice B nB cb] ∧ Chg No w wr)
    case atStart => exact ⟨0, rfl, by omega, by omega, by rw [List.take_zero, List.filterMap_nil, List.append_nil]; exact HS.out.1, HS.out.2.1, HS.out.2.2⟩
    case round =>
      obtain ⟨i, rfl, i1, i2, own, row, cw⟩ := hrel
      have hsz := row.lt
      have hfl : ((l.take i).filterMap idOf).length ≤ i := Nat.le_trans (fm_len _) (by simp; omega)
      have hpl : (pre ++ (l.take i).filterMap idOf).length ≤ i + 1 := by rw [List.length_append]; omega
      obtain ⟨A3, c3, rfl⟩ := own.form
      obtain ⟨x0, x1, x2, x3, -⟩ := row.four
      by_cases hi : i < n
      · obtain ⟨g, off, rfl, hg, hc, x64, -⟩ := (H1.out.keep cw (fun _ _ f => f)).at (i := i) (by rw [HN.out]; exact hi)
        have hsn := fm_snoc (l := l) (i := i) (by rw [HN.out]; exact hi)
        generalize l[i]?.getD 0 = x at *
        have HM := fun w => Named01_any x x64 w
        cases hx : namedOk x
        · rw [idOf_no hx] at hsn
          rw [hx] at HM
          have HX := Lib.hid (And.intro hsn (And.intro own (And.intro row cw)))
          clear hsn own row cw hx
          generalize (pre ++ (l.take i).filterMap idOf).length = k at *
          go_wp2_with (go_at_call 82; refine (HM _).mono ?_; rintro e w' ⟨rfl, rfl⟩)
          go_roundg (n - (i + 1))
          case measure => omega
          case rel =>
            refine ⟨i + 1, by go_num, by omega, by omega, ?_, HX.out.2.2.1, HX.out.2.2.2⟩
            rw [HX.out.1, List.append_nil]
            exact HX.out.2.1
        · rw [idOf_yes hx] at hsn
          rw [hx] at HM
          obtain ⟨A5, c5, w5, hr5, ho5, cg5⟩ := app_one own (by omega) hsz (namedV x) 23
          have row5 := row.keep cg5 (by simp)
          have cw5 : Chg No w w5 := cw.then cg5 (fun k hk hle => by omega)
          rw [List.append_assoc] at ho5
          have HX := Lib.hid (And.intro hsn (And.intro ho5 (And.intro row5 cw5)))
          have HR := Lib.hid hr5
          clear hsn own row cw hx hr5 ho5 cg5 row5 cw5
          generalize (pre ++ (l.take i).filterMap idOf).length = k at *
          go_wp2_with (first
            | (go_at_call 82; refine (HM _).mono ?_; rintro e w' ⟨rfl, rfl⟩)
            | (at_builtin; refine wpList_append_run rfl _ _ _ rfl rfl rfl HR.out ?_))
          go_roundg (n - (i + 1))
          case measure => omega
          case rel =>
            refine ⟨i + 1, by go_num, by omega, by omega, ?_, HX.out.2.2.1, HX.out.2.2.2⟩
            rw [HX.out.1]
            exact HX.out.2.1
      · obtain rfl : i = n := by omega
        rw [List.take_of_length_le (by rw [HN.out]; exact Nat.le_refl _)] at own
        have HX := Lib.hid (And.intro own cw)
        clear own cw row
        rw [List.take_of_length_le (by rw [HN.out]; exact Nat.le_refl _)] at hpl ⊢
        generalize (pre ++ l.filterMap idOf).length = k at *
        go_wp2_with fail
        go_ret
        refine Ret.mk ⟨?_, HX.out.2⟩
        rw [HP.out]
        exact own_base HX.out.1 (Nat.le_succ _)
end Go.Proofs.YtdpmmafkomchaaaGreat
