/- What an object of an image names: image.named. · Are the bytes right of what may be a method? image.coded. · May an image be? image.Check. -/
import Derived.Test.YtncoanmgifgcbaaDoorImgC
import Derived.Test.YtncoanmgifgcbaaDoorRefs
import Derived.Test.YtncoanmgifgcbaaDoorImgJ
import Derived.Test.YtncoanmgifgcbaaDoorKitC
import Derived.Test.YtncoanmgifgcbaaDoorLoad
import Derived.Handy
import Derived.WalkMore
namespace Go.Proofs.YtncoanmgifgcbaaDoor
set_option linter.unusedVariables false
set_option linter.unusedSimpArgs false
open Go.RowKit

theorem Row.newB (w : World) (o : Obj) (t : TypeId) (cs : Array Value) : Row ((w.alloc o).alloc (.cells cs t)) (w.heap.size + 1) t cs := by simpa using Row.new (w.alloc o) t cs
def upTo (n : Int) (x : Int) : Bool := decide (x ≤ n)
/-- do all words of an object name one of so many? -/
def namedB (o : O) (n : Int) : Bool := (refsO o).all (upTo n)
/-- the place of the first that is too great, or -1 -/
def firstUp (n : Int) (l : List Int) : Int := if l.all (upTo n) = true then -1 else (l.findIdx fun x => !upTo n x : Nat)
theorem firstUp_at {n : Int} {l : List Int} {i : Nat} (hi : i < l.length) (h : (l.take i).all (upTo n) = true) (h2 : upTo n (l[i]?.getD 0) = false) : firstUp n l = i := by
  rw [firstUp, if_neg (by rw [all_false_at hi h2]; decide)]
  have : l.findIdx (fun x => !upTo n x) = i := by
    rw [List.findIdx_eq hi]
    rw [List.getElem?_eq_getElem hi] at h2
    refine ⟨by simpa using h2, fun j hj => ?_⟩
    have := List.all_eq_true.1 h l[j] (by
      rw [List.mem_iff_getElem?]
      exact ⟨j, by rw [List.getElem?_take_of_lt hj, List.getElem?_eq_getElem (by omega)]⟩)
    simp [this]
  rw [this]

theorem moreN_any (x N : Int) (g : Nat) (w : World) (hg : w.cell? ⟨g, 0, none⟩ = some (.int .i64 N)) : Calls Tryd.prog 58 #[.int .i64 x, .pointer (some ⟨g, 0, none⟩)] w fun e w' => e = .returned (.bool (!upTo N x)) ∧ w = w' := by
  have e : (!upTo N x) = decide (N < x) := by
    unfold upTo
    by_cases h : x ≤ N
    · rw [decide_eq_true h, decide_eq_false (by omega)]; rfl
    · rw [decide_eq_false h, decide_eq_true (by omega)]; rfl
  rw [e]
  clear e
  go_enter Tryd.func58, Tryd.ntmps58
  go_wp2_with fail
  go_ret
  exact ⟨rfl, rfl⟩
set_option maxRecDepth 100000 in
set_option maxHeartbeats 1000000 in
theorem IndexUp_any (v : Value) (l : List Int) (S : Nat → Prop) (w : World) (h : IntS w S v l) (g : Nat) (N : Int) (hg : w.cell? ⟨g, 0, none⟩ = some (.int .i64 N)) : Calls Tryd.prog 90 #[v, .func (.func 58) #[] #[.pointer (some ⟨g, 0, none⟩)]] w fun e w' => e = .returned (.int .i64 (firstUp N l)) ∧ w = w' := by
  obtain ⟨A, ca, rfl, hl1, hl2, hl3, hcell⟩ := h.form
  have hmax : l.length ≤ 9223372036854775807 := by unfold maxLen at hl2; omega
  have hH := Lib.hid hcell
  clear h hl1 hl2 hl3 hcell
  generalize hN : l.length = n at *
  have HN := Lib.hid hN
  generalize hR : firstUp N l = r at *
  have HR := Lib.hid hR
  clear hN hR
  go_enter Tryd.func90, Tryd.ntmps90
  go_wp2_with fail
  go_loopg [5, 8] n (fun j v5 v8 wr => ∃ i : Nat, v8 = .int .i64 i ∧ i ≤ n ∧ n - i ≤ j ∧ w = wr ∧ (l.take i).all (upTo N) = true)
  case atStart => exact ⟨0, rfl, by omega, by omega, rfl, by simp⟩
  case round =>
    obtain ⟨i, rfl, i1, i2, rfl, hall⟩ := hrel
    have HA := Lib.hid hall
    clear hall
    by_cases hi : i < n
    · obtain ⟨b, off, rfl, -, hb, hc, x64⟩ := hH.out i hi
      cases hr : upTo N (l[i]?.getD 0)
      · obtain rfl : r = i := HR.out.symm.trans (firstUp_at (by rw [HN.out]; exact hi) HA.out hr)
        generalize l[i]?.getD 0 = x at *
        go_wp2_with (go_at_call 58; refine (moreN_any x N g _ hg).mono ?_; rw [hr]; rintro e w' ⟨rfl, rfl⟩)
        go_ret
        exact ⟨rfl, rfl⟩
      · have HX := Lib.hid (all_take_succ (by rw [HN.out]; exact hi) HA.out hr)
        generalize l[i]?.getD 0 = x at *
        go_wp2_with (go_at_call 58; refine (moreN_any x N g _ hg).mono ?_; rw [hr]; rintro e w' ⟨rfl, rfl⟩)
        go_roundg (n - (i + 1))
        case measure => omega
        case rel => exact ⟨i + 1, by go_num, by omega, by omega, rfl, HX.out⟩
    · obtain rfl : i = n := by omega
      have hfin : l.all (upTo N) = true := by
        have := HA.out
        rwa [List.take_of_length_le (by have := HN.out; omega)] at this
      obtain rfl : r = -1 := HR.out.symm.trans (by rw [firstUp, if_pos hfin])
      clear hfin
      go_wp2_with fail
      go_ret
      exact ⟨rfl, rfl⟩

theorem AnyUp_any (v : Value) (l : List Int) (S : Nat → Prop) (w : World) (h : IntS w S v l) (g : Nat) (N : Int) (hg : w.cell? ⟨g, 0, none⟩ = some (.int .i64 N)) : Calls Tryd.prog 56 #[v, .func (.func 58) #[] #[.pointer (some ⟨g, 0, none⟩)]] w fun e w' => e = .returned (.bool (!l.all (upTo N))) ∧ w = w' := by
  have hB : decide (0 ≤ firstUp N l) = !l.all (upTo N) := by
    unfold firstUp
    cases l.all (upTo N) <;> simp
  go_enter Tryd.func56, Tryd.ntmps56
  go_wp2_with (go_at_call 90; refine (IndexUp_any v l S _ h g N hg).mono ?_; rintro e w' ⟨rfl, rfl⟩)
  go_ret
  exact ⟨rfl, rfl⟩
theorem refsO_in {o : O} (hc : In64 o.cls) (hw : ∀ x ∈ o.W, In64 x) : ∀ x ∈ refsO o, In64 x := by
  intro x hx
  simp only [refsO, List.mem_filterMap] at hx
  obtain ⟨y, hy, he⟩ := hx
  have h64 : In64 y := by
    rcases List.mem_cons.1 hy with rfl | h
    · exact hc
    · exact hw y h
  unfold idOf at he
  split at he
  · cases he
    unfold In64 at h64 ⊢
    omega
  · cases he
set_option maxRecDepth 100000 in
set_option maxHeartbeats 1000000 in
theorem named_any (v : Value) (o : O) (N : Int) (S : Nat → Prop) (w : World) (h : ObjR w S v o) (hW : o.W.length ≤ 1000000) : Calls Tryd.prog 30 #[v, .int .i64 N] w fun e w' => e = .returned (.bool (namedB o N)) ∧ Chg No w w' := by
  have HO := Lib.hid h
  have HI : ∀ x ∈ refsO o, In64 x := by
    obtain ⟨wv, bv, -, h1, -, c64, -⟩ := h
    exact refsO_in c64 h1.2
  have HIN := Lib.hid HI
  obtain ⟨r, hr⟩ : ∃ r, namedB o N = r := ⟨_, rfl⟩
  rw [hr]
  have HR := Lib.hid hr
  obtain ⟨A, ca, B, cb, rfl⟩ := h.shape
  clear h HI hr
  have cA : Chg No w ((w.alloc (.cells #[.int .i64 o.cls, .int .i64 o.kind, .slice A o.W.length ca, .slice B o.B.length cb] 41)).alloc (.cells #[.int .i64 N] 3)) := ((Chg.refl _ _).alloc _).alloc _
  have rN : Row ((w.alloc (.cells #[.int .i64 o.cls, .int .i64 o.kind, .slice A o.W.length ca, .slice B o.B.length cb] 41)).alloc (.cells #[.int .i64 N] 3)) (w.heap.size + 1) 3 #[.int .i64 N] := Row.newB w _ _ _
  have HA := Lib.hid (And.intro cA rN)
  clear cA rN
  go_enter Tryd.func30, Tryd.ntmps30
  go_wp2_with (first
    | (go_at_call 57
       refine (Refs_any _ o S _ (HO.out.keep HA.out.1 (fun _ _ f => f)) hW).mono ?_
       rintro e w1 ⟨v1, rfl, ho, c1⟩
       obtain ⟨A1, d1, rfl⟩ := ho.form
       have xN := (HA.out.2.keep c1 (fun f => f)).cell 0
       simp at xN
       have H1 := Lib.hid (And.intro (show IntS w1 (fun _ => True) _ (refsO o) from ⟨(Slc.of_own ho).more fun _ _ _ => trivial, HIN.out⟩) (HA.out.1.trans c1))
       clear ho c1)
    | (go_at_call 56
       refine (AnyUp_any _ _ _ _ H1.out.1 _ N xN).mono ?_
       rw [show (refsO o).all (upTo N) = r from HR.out]
       rintro e w' ⟨rfl, rfl⟩)
    | fail)
  go_ret
  exact ⟨rfl, H1.out.2⟩

/-- are the bytes right of what may be a method? -/
def codedB (L : List O) (o : Int) : Bool :=
  if (readM L o).e ≠ 0 then true
  else if objE L (readM L o).c ≠ 0 then true
  else if (objV L (readM L o).c).kind ≠ 2 then true
  else jumpsP (objV L (readM L o).c).B
theorem objV_len {L : List O} (hok : ∀ i, (ob L i).kind ≠ 0 → (ob L i).ok) (o : Int) : (objV L o).B.length ≤ 1000 := by
  unfold objV
  cases hf : fnd L o with
  | none => simp [O.zero]
  | some i => exact (hok i (fnd_some hf).2.1).2.2.2.1
theorem readM_in {L : List O} (hok : ∀ i, (ob L i).kind ≠ 0 → (ob L i).ok) (o : Int) : In64 (readM L o).c := by
  have hv : ∀ x ∈ (objV L o).W, In64 x := by
    unfold objV
    cases hf : fnd L o with
    | none => simp [O.zero]
    | some i =>
      intro x hx
      have := (hok i (fnd_some hf).2.1).2.2.2.2.1 x hx
      unfold refOk namedOk numOk at this
      unfold In64
      simp at this
      omega
  unfold readM
  repeat' split
  all_goals first | (show In64 0; unfold In64; omega) | skip
  show In64 ((objV L o).W[1]?.getD 0)
  cases e : (objV L o).W[1]? with
  | none => show In64 0; unfold In64; omega
  | some x => exact hv x (List.mem_of_getElem? e)

section
variable {w0 w w' : World} {m : Nat} {L L' : List O} {K : (Nat → Prop) → World → Prop} {F F' : Nat → Prop}
set_option maxRecDepth 100000 in
set_option maxHeartbeats 1000000 in
theorem k_coded (h : MemK w0 w m L K) (o : Int) (o64 : In64 o) (ht : Tabs w) : Calls Tryd.prog 31 #[.iface 27 (.pointer (some ⟨m, 0, none⟩)), .int .i64 o] w fun e w' => e = .returned (.bool (codedB L o)) ∧ Chg No w w' := by
  have hok : ∀ i, (ob L i).kind ≠ 0 → (ob L i).ok := fun i hk => h.okAt hk
  have HM := Lib.hid h
  have HT := Lib.hid ht
  have c64 := readM_in hok o
  obtain ⟨M, hM⟩ : ∃ M, readM L o = M := ⟨_, rfl⟩
  obtain ⟨ma, mt, mp, mc, ml, me⟩ := M
  unfold codedB
  rw [hM] at c64 ⊢
  have hbl := objV_len hok mc
  have HRM := Lib.hid hM
  dsimp only at c64 ⊢
  clear hM h ht hok
  by_cases he : me = 0
  · subst he
    rw [if_neg (by simp)]
    obtain ⟨oe, hoe⟩ : ∃ x, objE L mc = x := ⟨_, rfl⟩
    obtain ⟨x, hx⟩ : ∃ x, objV L mc = x := ⟨_, rfl⟩
    rw [hoe, hx]
    rw [hx] at hbl
    have HV := Lib.hid (And.intro hoe hx)
    clear hoe hx
    by_cases ho : oe = 0
    · subst ho
      rw [if_neg (by simp)]
      by_cases hk : x.kind = 2
      · rw [if_neg (by simp [hk])]
        have t2 : (x.kind != 2) = false := by simp [hk]
        obtain ⟨r, hr⟩ : ∃ r, jumpsP x.B = r := ⟨_, rfl⟩
        rw [hr]
        have HJ := Lib.hid hr
        have HK := Lib.hid hk
        clear hr hk
        go_enter Tryd.func31, Tryd.ntmps31
        go_wp2_with (first
          | (go_at_call 59
             refine (k_Read HM.out o o64).mono ?_
             rw [HRM.out]
             rintro e w1 ⟨rfl, g1, c1⟩
             simp only [ME.cells]
             have r1 := Row.new w1 103 #[.int .i64 ma, .int .i64 mt, .int .i64 mp, .int .i64 mc, .int .i64 ml]
             have x3 := r1.cell 3
             simp at x3
             have H1 := Lib.hid (And.intro g1 c1)
             clear g1 c1 r1)
          | (go_at_call 156
             refine (k_ObjC (H1.out.1.world ((Chg.refl _ _).alloc _)) mc c64).mono ?_
             rw [HV.out.1, HV.out.2]
             rintro e w5 ⟨rr, rfl, -, hr5, c5⟩
             obtain ⟨wv, bv, rfl, hI, hB, -, -⟩ := hr5
             obtain ⟨A6, c6, rfl, -⟩ := hI.form
             obtain ⟨A7, c7, rfl, -⟩ := hB.form
             simp only [cells2]
             have H5 := Lib.hid (And.intro hB ((H1.out.2.alloc _).trans c5))
             clear hI hB c5)
          | (go_at_call 60
             refine (Jumps_any _ x.B _ _ (H5.out.1.keep ((Chg.refl No _).alloc _) (fun _ _ f => f)) (by omega) (HT.out.keep (H5.out.2.alloc _))).mono ?_
             rw [HJ.out]
             rintro e w6 ⟨rfl, c6⟩)
          | fail)
        go_ret
        exact ⟨rfl, (H5.out.2.alloc _).trans c6⟩
      · rw [if_pos hk]
        have t2 : (x.kind != 2) = true := by simpa using hk
        clear hk
        go_enter Tryd.func31, Tryd.ntmps31
        go_wp2_with (first
          | (go_at_call 59
             refine (k_Read HM.out o o64).mono ?_
             rw [HRM.out]
             rintro e w1 ⟨rfl, g1, c1⟩
             simp only [ME.cells]
             have r1 := Row.new w1 103 #[.int .i64 ma, .int .i64 mt, .int .i64 mp, .int .i64 mc, .int .i64 ml]
             have x3 := r1.cell 3
             simp at x3
             have H1 := Lib.hid (And.intro g1 c1)
             clear g1 c1 r1)
          | (go_at_call 156
             refine (k_ObjC (H1.out.1.world ((Chg.refl _ _).alloc _)) mc c64).mono ?_
             rw [HV.out.1, HV.out.2]
             rintro e w5 ⟨rr, rfl, -, hr5, c5⟩
             obtain ⟨wv, bv, rfl, hI, hB, -, -⟩ := hr5
             obtain ⟨A6, c6, rfl, -⟩ := hI.form
             obtain ⟨A7, c7, rfl, -⟩ := hB.form
             simp only [cells2]
             have H5 := Lib.hid (And.intro hB ((H1.out.2.alloc _).trans c5))
             clear hI hB c5)
          | fail)
        go_ret
        exact ⟨rfl, H5.out.2.alloc _⟩
    · rw [if_pos ho]
      have t1 : (oe != 0) = true := by simpa using ho
      clear ho
      go_enter Tryd.func31, Tryd.ntmps31
      go_wp2_with (first
        | (go_at_call 59
           refine (k_Read HM.out o o64).mono ?_
           rw [HRM.out]
           rintro e w1 ⟨rfl, g1, c1⟩
           simp only [ME.cells]
           have r1 := Row.new w1 103 #[.int .i64 ma, .int .i64 mt, .int .i64 mp, .int .i64 mc, .int .i64 ml]
           have x3 := r1.cell 3
           simp at x3
           have H1 := Lib.hid (And.intro g1 c1)
           clear g1 c1 r1)
        | (go_at_call 156
           refine (k_ObjC (H1.out.1.world ((Chg.refl _ _).alloc _)) mc c64).mono ?_
           rw [HV.out.1, HV.out.2]
           rintro e w5 ⟨rr, rfl, -, hr5, c5⟩
           obtain ⟨wv, bv, rfl, hI, hB, -, -⟩ := hr5
           obtain ⟨A6, c6, rfl, -⟩ := hI.form
           obtain ⟨A7, c7, rfl, -⟩ := hB.form
           simp only [cells2]
           have H5 := Lib.hid (And.intro hB ((H1.out.2.alloc _).trans c5))
           clear hI hB c5)
        | fail)
      go_ret
      exact ⟨rfl, H5.out.2.alloc _⟩
  · rw [if_pos he]
    have t0 : (me != 0) = true := by simpa using he
    clear he
    go_enter Tryd.func31, Tryd.ntmps31
    go_wp2_with (first
      | (go_at_call 59
         refine (k_Read HM.out o o64).mono ?_
         rw [HRM.out]
         rintro e w1 ⟨rfl, g1, c1⟩
         simp only [ME.cells]
         have r1 := Row.new w1 103 #[.int .i64 ma, .int .i64 mt, .int .i64 mp, .int .i64 mc, .int .i64 ml]
         have x3 := r1.cell 3
         simp at x3
         have H1 := Lib.hid (And.intro g1 c1)
         clear g1 c1 r1)
      | fail)
    go_ret
    exact ⟨rfl, H1.out.2.alloc _⟩
end

/-- may it be? -/
def imgOk (L : List O) (f : Int) : Bool :=
  decide (4 ≤ L.length) && (decide (L.length ≤ 2000) && ((ob L 3).kind == 1 && (decide (12 ≤ (ob L 3).W.length) && (namedOk f && (decide (namedV f ≤ L.length) && (L.all okB &&
    (List.range L.length).all (fun i => namedB (ob L i) L.length && codedB L (2 * ((i : Int) + 1)))))))))
def imgE (L : List O) (f : Int) : Int := if imgOk L f = true then 0 else 180
theorem MemK.besideT {w w1 : World} {m : Nat} {L : List O} {lv : Value} {T : List T3} (g : MemK w w1 m L (fun _ _ => True)) (h : RefT w (fun _ => True) lv T) : MemK w w1 m L (fun F v => RefT v (fun b => ¬ F b) lv T) := by
  have hc := g.chg
  have h1 : RefT w (fun b => b < w.heap.size) lv T := h.more fun b hb _ => hb
  refine g.now (Chg.refl _ _) fun G hG _ G' w2 h2 h3 c2 _ => ?_
  refine (((h1.keep hc (fun _ _ f => f)).keep c2 fun b hb hg => ?_).more fun b _ hb hg => ?_)
  · have := (hG b hg).2; omega
  · rcases h3 b hg with h | h
    · have := (hG b h).2; omega
    · have := hc.size; omega
set_option maxRecDepth 100000 in
set_option maxHeartbeats 2000000 in
theorem ImgCheck_any (lv : Value) (T : List T3) (f : Int) (f64 : In64 f) (w : World) (h : RefT w (fun _ => True) lv T) (hm : T.length ≤ maxLen) (ht : Tabs w) : Calls Tryd.prog 11 #[.agg #[lv, .int .i64 f]] w fun e w' => e = .returned (.int .i64 (imgE (T.map (·.1)) f)) ∧ Chg No w w' := by
  obtain ⟨A, n, c, rfl⟩ : ∃ A n c, lv = .slice A n c := by
    obtain ⟨⟨A, c, e, -⟩, -⟩ := h
    exact ⟨A, _, c, e⟩
  obtain rfl : T.length = n := by
    obtain ⟨⟨A', c', e, -⟩, -⟩ := h
    exact (Value.slice.inj e).2.1.symm
  have hmax : T.length ≤ 9223372036854775807 := by unfold maxLen at hm; simp at hm; omega
  have HT := Lib.hid h
  have HTB := Lib.hid ht
  obtain ⟨r, hr⟩ : ∃ r, imgE (T.map (·.1)) f = r := ⟨_, rfl⟩
  rw [hr]
  have HR := Lib.hid hr
  clear h ht hr hm
  generalize hn : T.length = n at *
  have HN := Lib.hid (show (T.map (·.1)).length = n by rw [List.length_map]; exact hn)
  have HTN := Lib.hid hn
  have row := Row.new w 24 #[.slice A n c, .int .i64 f]
  have cA : Chg No w (w.alloc (.cells #[.slice A n c, .int .i64 f] 24)) := (Chg.refl _ _).alloc _
  have HA := Lib.hid (And.intro row cA)
  clear row cA hn
  by_cases h4 : n < 4
  · have t1 : decide ((n : Int) < 4) = true := decide_eq_true (by omega)
    obtain rfl : r = 180 := by
      rw [← HR.out, imgE, if_neg]
      unfold imgOk
      simp [HN.out, show ¬ 4 ≤ n by omega]
    go_enter Tryd.func11, Tryd.ntmps11
    go_wp2_with fail
    go_step3
    go_wp2_with fail
    try rw [Exit.noGoto_ret]
    go_ret
    exact ⟨rfl, HA.out.2⟩
  have t1 : decide ((n : Int) < 4) = false := decide_eq_false (by omega)
  by_cases h2 : 2000 < n
  · have t2 : decide (2000 < (n : Int)) = true := decide_eq_true (by omega)
    obtain rfl : r = 180 := by
      rw [← HR.out, imgE, if_neg]
      unfold imgOk
      simp [HN.out, show ¬ n ≤ 2000 by omega]
    go_enter Tryd.func11, Tryd.ntmps11
    go_wp2_with fail
    go_step3
    go_wp2_with fail
    try rw [Exit.noGoto_ret]
    go_ret
    exact ⟨rfl, HA.out.2⟩
  have t2 : decide (2000 < (n : Int)) = false := decide_eq_false (by omega)
  obtain ⟨⟨x3, wv, bv⟩, hti⟩ : ∃ t, T[3]? = some t := ⟨_, List.getElem?_eq_getElem (by rw [HTN.out]; omega)⟩
  have hob3 : ob (T.map (·.1)) 3 = x3 := by rw [ob, List.getElem?_map, hti]; rfl
  obtain ⟨b, off, rfl, -, hb, hok, y0, y1, y2, y3⟩ := (HT.out.keep HA.out.2 (fun _ _ f => f)).at hti
  dsimp only at hok y0 y1 y2 y3
  obtain ⟨A1, c1, hA1, hm1, hm2, -⟩ := hok.1.form
  dsimp only at hA1
  subst hA1
  have HO3 := Lib.hid hob3
  have l3 : (3 : Int) < (n : Int) := by omega
  have l3n : 3 < n := by omega
  clear hok hti hob3 hm1 hm2
  by_cases hk3 : x3.kind = 1
  · have t3 : (x3.kind != 1) = false := by simp [hk3]
    by_cases h12 : x3.W.length < 12
    · have t4 : decide ((x3.W.length : Int) < 12) = true := decide_eq_true (by omega)
      obtain rfl : r = 180 := by
        rw [← HR.out, imgE, if_neg]
        unfold imgOk
        simp [HO3.out, show ¬ 12 ≤ x3.W.length by omega]
      go_enter Tryd.func11, Tryd.ntmps11
      go_wp2_with fail
      go_step3
      go_wp2_with fail
      try rw [Exit.noGoto_ret]
      go_ret
      exact ⟨rfl, HA.out.2⟩
    have t4 : decide ((x3.W.length : Int) < 12) = false := decide_eq_false (by omega)
    have HK := Lib.hid (show (ob (T.map (·.1)) 3).kind = 1 ∧ 12 ≤ (ob (T.map (·.1)) 3).W.length by rw [HO3.out]; exact ⟨hk3, by omega⟩)
    clear hk3 h12
    generalize x3.W.length = nw at *
    generalize x3.kind = k3 at *
    generalize x3.cls = cl3 at *
    obtain ⟨fv, hfv⟩ : ∃ x, namedV f = x := ⟨_, rfl⟩
    cases hfo : namedOk f
    · obtain rfl : r = 180 := by
        rw [← HR.out, imgE, if_neg]
        unfold imgOk
        simp [hfo]
      have HM := Lib.hid (show ∀ w, Calls Tryd.prog 29 #[.int .i64 f] w fun e w' => e = .returned (.tuple #[.int .i64 fv, .bool false]) ∧ w = w' from fun w => by have := Named_any f f64.1 f64.2 w; rwa [hfv, hfo] at this)
      go_enter Tryd.func11, Tryd.ntmps11
      go_wp2_with fail
      go_step3
      go_wp2_with (first
        | (go_at_call 29; refine (HM.out _).mono ?_; rintro e w' ⟨rfl, rfl⟩)
        | fail)
      try rw [Exit.noGoto_ret]
      go_ret
      exact ⟨rfl, HA.out.2⟩
    have HM := Lib.hid (show ∀ w, Calls Tryd.prog 29 #[.int .i64 f] w fun e w' => e = .returned (.tuple #[.int .i64 fv, .bool true]) ∧ w = w' from fun w => by have := Named_any f f64.1 f64.2 w; rwa [hfv, hfo] at this)
    by_cases hfn : (n : Int) < fv
    · have t5 : decide ((n : Int) < fv) = true := decide_eq_true hfn
      obtain rfl : r = 180 := by
        rw [← HR.out, imgE, if_neg]
        unfold imgOk
        simp [HN.out, hfv, show ¬ fv ≤ (n : Int) by omega]
      go_enter Tryd.func11, Tryd.ntmps11
      go_wp2_with fail
      go_step3
      go_wp2_with (first
        | (go_at_call 29; refine (HM.out _).mono ?_; rintro e w' ⟨rfl, rfl⟩)
        | fail)
      try rw [Exit.noGoto_ret]
      go_ret
      exact ⟨rfl, HA.out.2⟩
    have t5 : decide ((n : Int) < fv) = false := decide_eq_false hfn
    have HFV := Lib.hid (And.intro hfo (And.intro hfv (show fv ≤ (n : Int) by omega)))
    clear hfo hfv hfn
    cases hall : (T.map (·.1)).all okB
    · obtain rfl : r = 180 := by
        rw [← HR.out, imgE, if_neg]
        unfold imgOk
        simp [hall]
      have HALL := Lib.hid hall
      clear hall
      go_enter Tryd.func11, Tryd.ntmps11
      go_wp2_with fail
      go_step3
      go_wp2_with (first
        | (go_at_call 29; refine (HM.out _).mono ?_; rintro e w' ⟨rfl, rfl⟩)
        | (go_at_call 9
           refine (k_flatNew (Chg.refl No _)).mono ?_
           rintro e w1 ⟨m, rfl, g1⟩
           have xI1 := (HA.out.1.keep g1.chg (fun f => f)).cell 0
           simp at xI1
           have H1 := Lib.hid (g1.besideT (HT.out.keep HA.out.2 (fun _ _ f => f)))
           clear g1)
        | (go_at_call 17
           refine (k_Load_bad H1.out _ T (by rw [HTN.out]; unfold maxLen; omega) (fun F v h => h) (.inr HALL.out) (by simp)).mono ?_
           rintro e w3 ⟨rfl, g3⟩
           have H3 := Lib.hid (HA.out.2.trans g3.chg)
           clear g3)
        | fail)
      try rw [Exit.noGoto_ret]
      go_ret
      exact ⟨rfl, H3.out⟩
    have HALL := Lib.hid hall
    clear hall
    go_enter Tryd.func11, Tryd.ntmps11
    go_wp2_with fail
    go_step3
    go_wp2_with (first
      | (go_at_call 29; refine (HM.out _).mono ?_; rintro e w' ⟨rfl, rfl⟩)
      | (go_at_call 9
         refine (k_flatNew (Chg.refl No _)).mono ?_
         rintro e w1 ⟨m, rfl, g1⟩
         have xI1 := (HA.out.1.keep g1.chg (fun f => f)).cell 0
         simp at xI1
         have H1 := Lib.hid (g1.besideT (HT.out.keep HA.out.2 (fun _ _ f => f)))
         clear g1)
      | (go_at_call 17
         refine (k_Load_ok H1.out _ T (by rw [HTN.out]; omega) (fun F v h => h) HALL.out).mono ?_
         rintro e w3 ⟨rfl, g3⟩
         have xI3 := (HA.out.1.keep g3.chg (fun f => f)).cell 0
         simp at xI3
         have H3 := Lib.hid (And.intro g3 (HA.out.2.trans g3.chg))
         clear g3)
      | fail)
    go_step3
    go_wp2_with fail
    obtain ⟨P, hP⟩ : ∃ P : Nat → Bool, (fun i => namedB (ob (T.map (·.1)) i) ((T.map (·.1)).length : Int) && codedB (T.map (·.1)) (2 * ((i : Int) + 1))) = P := ⟨_, rfl⟩
    have HPP := Lib.hid hP
    have HRP := Lib.hid (show (if (List.range n).all P = true then (0 : Int) else 180) = r by
      rw [← HR.out, imgE]
      have e : imgOk (T.map (·.1)) f = (List.range n).all P := by
        unfold imgOk
        rw [hP, HN.out, HALL.out, HFV.out.1, HFV.out.2.1, decide_eq_true HFV.out.2.2, decide_eq_true HK.out.2, decide_eq_true (show 4 ≤ n by omega), decide_eq_true (show n ≤ 2000 by omega), show ((ob (T.map (·.1)) 3).kind == 1) = true from beq_iff_eq.2 HK.out.1]
        simp
      rw [e])
    clear hP y0 y1 y2 y3 HM xI3 HO3
    go_loopg [7, 59] n (fun j v7 v59 wr => ∃ i : Nat, v59 = .int .i64 (i : Int) ∧ v7 = .bool true ∧ i ≤ n ∧ n - i ≤ j ∧ Chg No w3 wr ∧ (List.range i).all P = true)
    case atStart => exact ⟨0, rfl, rfl, by omega, by omega, Chg.refl _ _, rfl⟩
    case round =>
      obtain ⟨i, rfl, rfl, i1, i2, cw, hpre⟩ := hrel
      by_cases hi : i < n
      · have t6 : decide ((i : Int) < (n : Int)) = true := decide_eq_true (by omega)
        have l6 : (i : Int) < (n : Int) := by omega
        have wi : IntKind.i64.wrap ((i : Int) + 1) = (i : Int) + 1 := IntWalk.i64_in _ (by omega)
        have o64 : In64 (2 * ((i : Int) + 1)) := by unfold In64; omega
        have i64 : In64 ((i : Int) + 1) := by unfold In64; omega
        obtain ⟨⟨x, wv2, bv2⟩, hti⟩ : ∃ t, T[i]? = some t := ⟨_, List.getElem?_eq_getElem (by rw [HTN.out]; exact hi)⟩
        have hob : ob (T.map (·.1)) i = x := by rw [ob, List.getElem?_map, hti]; rfl
        have hwx : x.W.length ≤ 1000000 := by
          have := List.all_eq_true.1 HALL.out x (List.mem_map.2 ⟨_, List.mem_of_getElem? hti, rfl⟩)
          have := (okB_cases this).2.1
          omega
        obtain ⟨b', off', eb, -, hbl, hok, z0, z1, z2, z3⟩ := (HT.out.keep (H3.out.2.trans cw) (fun _ _ f => f)).at hti
        obtain ⟨rfl, rfl⟩ : b = b' ∧ off = off' := by simpa using Option.some.inj eb
        dsimp only at hok z0 z1 z2 z3
        have HO := Lib.hid (show ObjR wr _ (.agg (cells2 x wv2 bv2)) x from ⟨wv2, bv2, rfl, hok⟩)
        obtain ⟨A4, c4, hA4, -⟩ := hok.1.form
        obtain ⟨A5, c5, hA5, -⟩ := hok.2.1.form
        dsimp only at hA4 hA5
        subst hA4 hA5
        have hpi : P i = (namedB x (n : Int) && codedB (T.map (·.1)) (2 * ((i : Int) + 1))) := by rw [← HPP.out]; dsimp only; rw [hob, HN.out]
        have hsuc : (List.range (i + 1)).all P = P i := by rw [List.range_succ, List.all_append, hpre]; simp
        have HC := Lib.hid (And.intro cw (And.intro hpi hsuc))
        clear hok hti hob cw hpre hpi hsuc eb
        simp only [cells2] at HO
        obtain ⟨nb, hnb⟩ : ∃ nb, namedB x (n : Int) = nb := ⟨_, rfl⟩
        obtain ⟨cb, hcb⟩ : ∃ cb, codedB (T.map (·.1)) (2 * ((i : Int) + 1)) = cb := ⟨_, rfl⟩
        have HNC := Lib.hid (And.intro hnb hcb)
        clear hnb hcb
        cases nb
        · obtain rfl : r = 180 := by
            rw [← HRP.out, if_neg]
            intro h
            have := List.all_eq_true.1 h i (List.mem_range.2 hi)
            rw [HC.out.2.1, HNC.out.1] at this
            cases this
          go_wp2_with (first
            | (go_at_call 30
               refine (named_any _ x (n : Int) _ _ (HO.out.keep ((Chg.refl No _).alloc _) (fun _ _ f => f)) hwx).mono ?_
               rw [HNC.out.1]
               rintro e w5 ⟨rfl, c5⟩
               have H5 := Lib.hid (((Chg.refl No wr).alloc _).trans c5)
               clear c5)
            | fail)
          try rw [Exit.noGoto_ret]
          go_ret
          exact ⟨rfl, (H3.out.2.trans HC.out.1).trans H5.out⟩
        · cases cb
          · obtain rfl : r = 180 := by
              rw [← HRP.out, if_neg]
              intro h
              have := List.all_eq_true.1 h i (List.mem_range.2 hi)
              rw [HC.out.2.1, HNC.out.1, HNC.out.2] at this
              cases this
            go_wp2_with (first
              | (go_at_call 30
                 refine (named_any _ x (n : Int) _ _ (HO.out.keep ((Chg.refl No _).alloc _) (fun _ _ f => f)) hwx).mono ?_
                 rw [HNC.out.1]
                 rintro e w5 ⟨rfl, c5⟩
                 have H5 := Lib.hid (((Chg.refl No wr).alloc _).trans c5)
                 clear c5)
              | (go_at_call 32
                 refine (Oop_any ((i : Int) + 1) i64 _).mono ?_
                 rw [if_pos (by omega)]
                 rintro e w' ⟨rfl, rfl⟩)
              | (go_at_call 31
                 refine (k_coded (H3.out.1.world (HC.out.1.trans H5.out)) (2 * ((i : Int) + 1)) o64 (HTB.out.keep ((H3.out.2.trans HC.out.1).trans H5.out))).mono ?_
                 rw [HNC.out.2]
                 rintro e w6 ⟨rfl, c6⟩
                 have H6 := Lib.hid (H5.out.trans c6)
                 clear c6)
              | fail)
            try rw [Exit.noGoto_ret]
            go_ret
            exact ⟨rfl, (H3.out.2.trans HC.out.1).trans H6.out⟩
          · go_wp2_with (first
              | (go_at_call 30
                 refine (named_any _ x (n : Int) _ _ (HO.out.keep ((Chg.refl No _).alloc _) (fun _ _ f => f)) hwx).mono ?_
                 rw [HNC.out.1]
                 rintro e w5 ⟨rfl, c5⟩
                 have H5 := Lib.hid (((Chg.refl No wr).alloc _).trans c5)
                 clear c5)
              | (go_at_call 32
                 refine (Oop_any ((i : Int) + 1) i64 _).mono ?_
                 rw [if_pos (by omega)]
                 rintro e w' ⟨rfl, rfl⟩)
              | (go_at_call 31
                 refine (k_coded (H3.out.1.world (HC.out.1.trans H5.out)) (2 * ((i : Int) + 1)) o64 (HTB.out.keep ((H3.out.2.trans HC.out.1).trans H5.out))).mono ?_
                 rw [HNC.out.2]
                 rintro e w6 ⟨rfl, c6⟩
                 have H6 := Lib.hid (H5.out.trans c6)
                 clear c6)
              | fail)
            go_roundg (n - (i + 1))
            case measure => omega
            case rel => exact ⟨i + 1, by go_num, rfl, by omega, by omega, HC.out.1.trans H6.out, by rw [HC.out.2.2, HC.out.2.1, HNC.out.1, HNC.out.2]; rfl⟩
      · have t6 : decide ((i : Int) < (n : Int)) = false := decide_eq_false (by omega)
        obtain rfl : i = n := by omega
        obtain rfl : r = 0 := by rw [← HRP.out, if_pos hpre]
        go_wp2_with fail
        try rw [Exit.noGoto_ret]
        go_ret
        exact ⟨rfl, H3.out.2.trans cw⟩
  · have t3 : (x3.kind != 1) = true := by simpa using hk3
    obtain rfl : r = 180 := by
      rw [← HR.out, imgE, if_neg]
      unfold imgOk
      simp [HO3.out, hk3]
    clear hk3
    go_enter Tryd.func11, Tryd.ntmps11
    go_wp2_with fail
    go_step3
    go_wp2_with fail
    try rw [Exit.noGoto_ret]
    go_ret
    exact ⟨rfl, HA.out.2⟩

end Go.Proofs.YtncoanmgifgcbaaDoor
