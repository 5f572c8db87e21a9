/- Methods over a flat memory: Read (package kit). -/
import Derived.Test.YtncoanmgifgcbaaDoorKitB
import Derived.Test.YtncoanmgifgcbaaDoorLoadA
import Derived.Deep.RegionHeld3
namespace Go.Proofs.YtncoanmgifgcbaaDoor
set_option linter.unusedVariables false
set_option linter.unusedSimpArgs false
open Go.RowKit

/-- a method, and why there is none -/
structure ME where
  a : Int
  t : Int
  p : Int
  c : Int
  l : Int
  e : Int
def ME.cells (x : ME) : Array Value := #[.int .i64 x.a, .int .i64 x.t, .int .i64 x.p, .int .i64 x.c, .int .i64 x.l]
def headOk (h : Int) : Bool := numOk h && decide (0 ≤ numV h) && rightB (numV h % 16) (numV h / 16 % 32) (numV h / 512 % 1024)
def readM (L : List O) (o : Int) : ME :=
  if objE L o ≠ 0 then ⟨0, 0, 0, 0, 0, objE L o⟩
  else if (objV L o).kind ≠ 1 then ⟨0, 0, 0, 0, 0, 20⟩
  else if (objV L o).W.length < 2 then ⟨0, 0, 0, 0, 0, 2⟩
  else if headOk ((objV L o).W[0]?.getD 0) = false then ⟨0, 0, 0, 0, 0, 2⟩
  else ⟨numV ((objV L o).W[0]?.getD 0) % 16, numV ((objV L o).W[0]?.getD 0) / 16 % 32, numV ((objV L o).W[0]?.getD 0) / 512 % 1024, (objV L o).W[1]?.getD 0, ((objV L o).W.length : Int) - 2, 0⟩

theorem Row.five {w : World} {b : Nat} {t : TypeId} {x0 x1 x2 x3 x4 : Value} (h : Row w b t #[x0, x1, x2, x3, x4]) :
    w.cell? ⟨b, 0, none⟩ = some x0 ∧ w.cell? ⟨b, 1, none⟩ = some x1 ∧ w.cell? ⟨b, 2, none⟩ = some x2 ∧ w.cell? ⟨b, 3, none⟩ = some x3 ∧ w.cell? ⟨b, 4, none⟩ = some x4 ∧ ∀ i, w.frozen? ⟨b, i, none⟩ = false :=
  ⟨h.cell 0, h.cell 1, h.cell 2, h.cell 3, h.cell 4, h.frozen⟩

section
variable {w0 w w' : World} {m : Nat} {L L' : List O} {K : (Nat → Prop) → World → Prop} {F F' : Nat → Prop}
/-- what Read gives -/
def Readed (w0 w : World) (m : Nat) (L : List O) (K : (Nat → Prop) → World → Prop) (x : ME) (e : Ending) (w' : World) : Prop := e = .returned (.tuple #[.agg x.cells, .int .i64 x.e]) ∧ MemK w0 w' m L K ∧ Chg No w w'

theorem read_end {W w7 V : World} (hf : Flat w m F L) (hc : Chg No w0 w) (hF : ∀ b, F b → w0.heap.size ≤ b) (hK : ∀ F' w', (∀ b, F b → F' b) → (∀ b, F' b → F b ∨ w.heap.size ≤ b) → Chg F w w' → K F' w')
    (cW : Chg No w W) (sW : W.heap.size = w.heap.size + 1) (g : MemK { W with heap := #[] } w7 m L (Turned W F)) (c7 : Chg No w w7) (cV : Chg (fun b => b = w.heap.size) w7 V) : MemK w0 V m L K ∧ Chg No w V := by
  obtain ⟨F', hf4, -, ht⟩ := g.opened
  exact ⟨done_end hf hc hF hK cW hf4 ht (G := fun b => b = w.heap.size) (fun b hb => by omega) cV, c7.then cV (fun i hi e => by omega)⟩

set_option maxRecDepth 100000 in
set_option maxHeartbeats 4000000 in
theorem k_Read (h : MemK w0 w m L K) (o : Int) (ho : In64 o) :
    Calls Tryd.prog 59 #[.iface 27 (.pointer (some ⟨m, 0, none⟩)), .int .i64 o] w (Readed w0 w m L K (readM L o)) := by
  have hokat := fun i (hk : (ob L i).kind ≠ 0) => h.okAt hk
  obtain ⟨F, hf, hc, hF, hK⟩ := h
  have HM := Lib.hid (And.intro hf (And.intro hc (And.intro hF hK)))
  obtain ⟨W, hW⟩ : ∃ W, w.alloc (.cells #[.int .i64 0, .int .i64 0, .int .i64 0, .int .i64 0, .int .i64 0] 103) = W := ⟨_, rfl⟩
  have cW : Chg No w W := by rw [← hW]; exact (Chg.refl _ _).alloc _
  have rW : Row W w.heap.size 103 #[.int .i64 0, .int .i64 0, .int .i64 0, .int .i64 0, .int .i64 0] := by rw [← hW]; exact Row.new w _ _
  have sW : W.heap.size = w.heap.size + 1 := by rw [← hW]; simp
  have H := Lib.hid (hf.keep cW (fun _ _ f => f)).toK
  have HA := Lib.hid (And.intro cW (And.intro rW sW))
  have HW := Lib.hid hW
  clear cW rW hW sW hf hc hF hK
  obtain ⟨x, hx⟩ : ∃ x, objV L o = x := ⟨_, rfl⟩
  obtain ⟨oe, hoe⟩ : ∃ oe, objE L o = oe := ⟨_, rfl⟩
  have HX := Lib.hid (And.intro hoe hx)
  have hxk : oe = 0 → x.ok := fun h0 => by
    rw [h0] at hoe
    unfold objE at hoe
    unfold objV at hx
    cases hfd : fnd L o with
    | none => rw [hfd] at hoe; cases hoe
    | some i =>
      rw [hfd] at hx
      rw [← hx]
      exact hokat i (fnd_some hfd).2.1
  by_cases h0 : oe = 0
  · subst h0
    have hxo := hxk rfl
    by_cases hk : x.kind = 1
    · have t1 : (x.kind != 1) = false := by simp [hk]
      have HK := Lib.hid hk
      clear hxk hokat
      by_cases hl2 : x.W.length < 2
      · have hr : readM L o = ⟨0, 0, 0, 0, 0, 2⟩ := by unfold readM; rw [hoe, hx, if_neg (by simp), if_neg (by simp [hk]), if_pos hl2]
        have t2 : decide ((x.W.length : Int) < 2) = true := decide_eq_true (by omega)
        rw [hr]
        clear hr hoe hx hk hxo
        go_enter Tryd.func59, Tryd.ntmps59
        go_wp2_with (first
          | (go_at_call 156
             have HZ := HW.out
             clear HW
             rw [HZ]
             refine (k_ObjC H.out o ho).mono ?_
             rw [HX.out.1, HX.out.2]
             rintro e w1 ⟨r, rfl, g1, hr, c1⟩
             obtain ⟨A1, d1, B1, d2, rfl⟩ := hr.shape
             obtain ⟨W6, h6⟩ : ∃ W6, w1.alloc (.cells #[.int .i64 x.cls, .int .i64 x.kind, .slice A1 x.W.length d1, .slice B1 x.B.length d2] 41) = W6 := ⟨_, rfl⟩
             have c16 : Chg No w1 W6 := by rw [← h6]; exact (Chg.refl _ _).alloc _
             have rO : Row W6 w1.heap.size 41 #[.int .i64 x.cls, .int .i64 x.kind, .slice A1 x.W.length d1, .slice B1 x.B.length d2] := by rw [← h6]; exact Row.new w1 _ _
             have xO := rO.four
             have rR := HA.out.2.1.keep (c1.trans c16) (fun f => f)
             have xR := rR.five
             have hlw := rR.lt
             have hr6 := hr.keep c16 (fun _ _ f => f)
             have H6 := Lib.hid h6
             have HG := Lib.hid (And.intro (g1.world c16) (And.intro ((HA.out.1.trans c1).trans c16) (And.intro rO (And.intro rR hr6))))
             clear h6 g1 c16 c1 rO rR hr hr6 HZ)
          | (go_at_call 43
             refine (Size_any _ _ _ _ _ _ _ _ _ _ rfl rfl _).mono ?_
             rw [if_pos HK.out]
             rintro e w2 ⟨rfl, hb⟩
             have c2 := Chg.of_below (F := No) hb
             have rO2 := HG.out.2.2.1.keep c2 (fun f => f)
             have rR2 := HG.out.2.2.2.1.keep c2 (fun f => f)
             have xR2 := rR2.five
             have yO : ∀ v, Chg No w2 v → v.cell? ⟨w1.heap.size, 2, none⟩ = some (.slice A1 x.W.length d1) := fun v hv => (rO2.keep hv (fun f => f)).cell 2
             have yO2 := yO w2 (Chg.refl _ _)
             skip
             have HG2 := Lib.hid (And.intro (HG.out.1.world c2) (And.intro (HG.out.2.1.trans c2) rR2))
             clear hb c2 rO2 rR2)
          | (rw [H6.out]))
        refine bodyPost_ret (v := .tuple #[.agg #[.int .i64 0, .int .i64 0, .int .i64 0, .int .i64 0, .int .i64 0], .int .i64 2]) (by simp [results, Tryd.results59, go_sem, xR2]) rfl ⟨rfl, ?_⟩
        exact read_end HM.out.1 HM.out.2.1 HM.out.2.2.1 HM.out.2.2.2 HA.out.1 HA.out.2.2 HG2.out.1 HG2.out.2.1 (by repeat (with_reducible first | exact Chg.refl _ _ | refine Chg.setCell ?_ (.inl (by simp)) _))
      · have t2 : decide ((x.W.length : Int) < 2) = false := decide_eq_false (by omega)
        obtain ⟨hd, hhd⟩ : ∃ hd, x.W[0]?.getD 0 = hd := ⟨_, rfl⟩
        obtain ⟨cd, hcd⟩ : ∃ cd, x.W[1]?.getD 0 = cd := ⟨_, rfl⟩
        have HD := Lib.hid (And.intro hhd hcd)
        have hd64 : In64 hd := by
          rw [← hhd, List.getElem?_eq_getElem (by omega)]
          exact ref64 (hxo.2.2.2.2.1 _ (List.getElem_mem _))
        have hlW := hxo.2.2.1
        have hr : readM L o = if headOk hd = false then ⟨0, 0, 0, 0, 0, 2⟩ else ⟨numV hd % 16, numV hd / 16 % 32, numV hd / 512 % 1024, cd, (x.W.length : Int) - 2, 0⟩ := by unfold readM; rw [hoe, hx, if_neg (by simp), if_neg (by simp [hk]), if_neg hl2, hhd, hcd]
        have HN := fun w => Number_any hd hd64.1 hd64.2 w
        have hnb := numV_bd hd
        have a1 := and_15 (numV hd)
        have a2 := and_31 (numV hd / 16)
        have a3 := and_1023 (numV hd / 512)
        have hho : headOk hd = (numOk hd && decide (0 ≤ numV hd) && rightB (numV hd % 16) (numV hd / 16 % 32) (numV hd / 512 % 1024)) := rfl
        have wl : IntKind.i64.wrap ((x.W.length : Int) - 2) = (x.W.length : Int) - 2 := IntWalk.i64_in _ (by omega)
        have hl1 : (1 : Int) < (x.W.length : Int) := by omega
        have hl0 : (0 : Int) < (x.W.length : Int) := by omega
        rw [hho] at hr
        clear hoe hx hk hxo hhd hcd hho
        generalize numV hd = N at *
        generalize numOk hd = ok at *
        cases ok
        · rw [if_pos (by simp)] at hr
          rw [hr]
          clear hr
          go_enter Tryd.func59, Tryd.ntmps59
          go_wp2_with (first
            | (go_at_call 156
               have HZ := HW.out
               clear HW
               rw [HZ]
               refine (k_ObjC H.out o ho).mono ?_
               rw [HX.out.1, HX.out.2]
               rintro e w1 ⟨r, rfl, g1, hr, c1⟩
               obtain ⟨A1, d1, B1, d2, rfl⟩ := hr.shape
               obtain ⟨wv', bv', ev, hI, -, -⟩ := hr
               obtain ⟨rfl, rfl⟩ : .slice A1 x.W.length d1 = wv' ∧ .slice B1 x.B.length d2 = bv' := by simpa [cells2] using ev
               obtain ⟨b1, off1, hA1, hb1, hz0, h64, -⟩ := hI.at (i := 0) (by omega)
               obtain ⟨b2, off2, hA2, hb2, hz1, h64', -⟩ := hI.at (i := 1) (by omega)
               subst hA1
               obtain ⟨rfl, rfl⟩ : b1 = b2 ∧ off1 = off2 := by cases hA2; exact ⟨rfl, rfl⟩
               obtain ⟨W6, h6⟩ : ∃ W6, w1.alloc (.cells #[.int .i64 x.cls, .int .i64 x.kind, .slice (some ⟨b1, off1, none⟩) x.W.length d1, .slice B1 x.B.length d2] 41) = W6 := ⟨_, rfl⟩
               have c16 : Chg No w1 W6 := by rw [← h6]; exact (Chg.refl _ _).alloc _
               have rO : Row W6 w1.heap.size 41 #[.int .i64 x.cls, .int .i64 x.kind, .slice (some ⟨b1, off1, none⟩) x.W.length d1, .slice B1 x.B.length d2] := by rw [← h6]; exact Row.new w1 _ _
               have xO := rO.four
               have rR := HA.out.2.1.keep (c1.trans c16) (fun f => f)
               have hlw := rR.lt
               have hzz : ∀ v, Chg No W6 v → v.cell? ⟨b1, off1, none⟩ = some (.int .i64 hd) ∧ v.cell? ⟨b1, off1 + 1, none⟩ = some (.int .i64 cd) := fun v hv => by
                 have hc := c16.trans hv
                 refine ⟨(hc.cell hb1 (fun f => f)).trans ?_, (hc.cell hb1 (fun f => f)).trans ?_⟩
                 · rw [← HD.out.1]; exact hz0
                 · rw [← HD.out.2]; exact hz1
               have H6 := Lib.hid h6
               have HG := Lib.hid (And.intro (g1.world c16) (And.intro ((HA.out.1.trans c1).trans c16) (And.intro rO (And.intro rR hzz))))
               clear h6 g1 c16 c1 rO rR hI hA2 hz0 hz1 h64 h64' hzz ev)
            | (go_at_call 43
               refine (Size_any _ _ _ _ _ _ _ _ _ _ rfl rfl _).mono ?_
               rw [if_pos HK.out]
               rintro e w2 ⟨rfl, hb⟩
               have c2 := Chg.of_below (F := No) hb
               have rO2 := HG.out.2.2.1.keep c2 (fun f => f)
               have rR2 := HG.out.2.2.2.1.keep c2 (fun f => f)
               have xR2 := rR2.five
               have yO : ∀ v, Chg No w2 v → v.cell? ⟨w1.heap.size, 2, none⟩ = some (.slice (some ⟨b1, off1, none⟩) x.W.length d1) := fun v hv => (rO2.keep hv (fun f => f)).cell 2
               have yO2 := yO w2 (Chg.refl _ _)
               have yZ : ∀ v, Chg No w2 v → v.cell? ⟨b1, off1, none⟩ = some (.int .i64 hd) ∧ v.cell? ⟨b1, off1 + 1, none⟩ = some (.int .i64 cd) := fun v hv => HG.out.2.2.2.2 v (c2.trans hv); have yZ2 := yZ w2 (Chg.refl _ _)
               have HG2 := Lib.hid (And.intro (HG.out.1.world c2) (And.intro (HG.out.2.1.trans c2) rR2))
               clear hb c2 rO2 rR2)
            | (go_at_call 35; refine (HN _).mono ?_; rintro e w' ⟨rfl, rfl⟩)
            | (rw [H6.out]))
          go_region_held3 (fun w' => Chg No w2 w') (repeat (with_reducible first | assumption | exact Chg.refl _ _ | refine Chg.drew ?_ | refine Chg.alloc ?_ _ | refine Chg.setCell ?_ (.inr (by first | exact Nat.le_refl _ | (simp; done) | (simp; omega))) _)) (fail)
          obtain ⟨W7, h7⟩ : ∃ W7, (w2.alloc (.cells #[.int .i64 (N % 16), .int .i64 (N / 16 % 32), .int .i64 (N / 512 % 1024), .int .i64 cd, .int .i64 ((x.W.length : Int) - 2)] 103)).drew = W7 := ⟨_, rfl⟩
          rw [h7]
          have c27 : Chg No w2 W7 := by rw [← h7]; exact ((Chg.refl _ _).alloc _).drew
          have rM : Row W7 w2.heap.size 103 #[.int .i64 (N % 16), .int .i64 (N / 16 % 32), .int .i64 (N / 512 % 1024), .int .i64 cd, .int .i64 ((x.W.length : Int) - 2)] := by rw [← h7]; exact (Row.new w2 _ _).drew
          have rR7 := HG2.out.2.2.keep c27 (fun f => f)
          have xM := rM.five
          have xR7 := rR7.five
          have HG7 := Lib.hid (And.intro (HG2.out.1.world c27) (And.intro (HG2.out.2.1.trans c27) (And.intro rM rR7)))
          clear h7 c27 rM rR7
          go_wp2_with fail
          refine bodyPost_ret (v := .tuple #[.agg #[.int .i64 0, .int .i64 0, .int .i64 0, .int .i64 0, .int .i64 0], .int .i64 2]) (by simp [results, Tryd.results59, go_sem, xR7]) rfl ⟨rfl, ?_⟩
          exact read_end HM.out.1 HM.out.2.1 HM.out.2.2.1 HM.out.2.2.2 HA.out.1 HA.out.2.2 HG7.out.1 HG7.out.2.1 (by repeat (with_reducible first | exact Chg.refl _ _ | refine Chg.setCell ?_ (.inl (by simp)) _))
        · have HR := fun w => right_any (N % 16) (N / 16 % 32) (N / 512 % 1024) cd ((x.W.length : Int) - 2) w
          generalize rightB (N % 16) (N / 16 % 32) (N / 512 % 1024) = rb at *
          by_cases hN : N < 0
          · have t3 : decide (N < 0) = true := decide_eq_true hN
            rw [if_pos (by simp; omega)] at hr
            rw [hr]
            clear hr HR
            go_enter Tryd.func59, Tryd.ntmps59
            go_wp2_with (first
              | (go_at_call 156
                 have HZ := HW.out
                 clear HW
                 rw [HZ]
                 refine (k_ObjC H.out o ho).mono ?_
                 rw [HX.out.1, HX.out.2]
                 rintro e w1 ⟨r, rfl, g1, hr, c1⟩
                 obtain ⟨A1, d1, B1, d2, rfl⟩ := hr.shape
                 obtain ⟨wv', bv', ev, hI, -, -⟩ := hr
                 obtain ⟨rfl, rfl⟩ : .slice A1 x.W.length d1 = wv' ∧ .slice B1 x.B.length d2 = bv' := by simpa [cells2] using ev
                 obtain ⟨b1, off1, hA1, hb1, hz0, h64, -⟩ := hI.at (i := 0) (by omega)
                 obtain ⟨b2, off2, hA2, hb2, hz1, h64', -⟩ := hI.at (i := 1) (by omega)
                 subst hA1
                 obtain ⟨rfl, rfl⟩ : b1 = b2 ∧ off1 = off2 := by cases hA2; exact ⟨rfl, rfl⟩
                 obtain ⟨W6, h6⟩ : ∃ W6, w1.alloc (.cells #[.int .i64 x.cls, .int .i64 x.kind, .slice (some ⟨b1, off1, none⟩) x.W.length d1, .slice B1 x.B.length d2] 41) = W6 := ⟨_, rfl⟩
                 have c16 : Chg No w1 W6 := by rw [← h6]; exact (Chg.refl _ _).alloc _
                 have rO : Row W6 w1.heap.size 41 #[.int .i64 x.cls, .int .i64 x.kind, .slice (some ⟨b1, off1, none⟩) x.W.length d1, .slice B1 x.B.length d2] := by rw [← h6]; exact Row.new w1 _ _
                 have xO := rO.four
                 have rR := HA.out.2.1.keep (c1.trans c16) (fun f => f)
                 have hlw := rR.lt
                 have hzz : ∀ v, Chg No W6 v → v.cell? ⟨b1, off1, none⟩ = some (.int .i64 hd) ∧ v.cell? ⟨b1, off1 + 1, none⟩ = some (.int .i64 cd) := fun v hv => by
                   have hc := c16.trans hv
                   refine ⟨(hc.cell hb1 (fun f => f)).trans ?_, (hc.cell hb1 (fun f => f)).trans ?_⟩
                   · rw [← HD.out.1]; exact hz0
                   · rw [← HD.out.2]; exact hz1
                 have H6 := Lib.hid h6
                 have HG := Lib.hid (And.intro (g1.world c16) (And.intro ((HA.out.1.trans c1).trans c16) (And.intro rO (And.intro rR hzz))))
                 clear h6 g1 c16 c1 rO rR hI hA2 hz0 hz1 h64 h64' hzz ev)
              | (go_at_call 43
                 refine (Size_any _ _ _ _ _ _ _ _ _ _ rfl rfl _).mono ?_
                 rw [if_pos HK.out]
                 rintro e w2 ⟨rfl, hb⟩
                 have c2 := Chg.of_below (F := No) hb
                 have rO2 := HG.out.2.2.1.keep c2 (fun f => f)
                 have rR2 := HG.out.2.2.2.1.keep c2 (fun f => f)
                 have xR2 := rR2.five
                 have yO : ∀ v, Chg No w2 v → v.cell? ⟨w1.heap.size, 2, none⟩ = some (.slice (some ⟨b1, off1, none⟩) x.W.length d1) := fun v hv => (rO2.keep hv (fun f => f)).cell 2
                 have yO2 := yO w2 (Chg.refl _ _)
                 have yZ : ∀ v, Chg No w2 v → v.cell? ⟨b1, off1, none⟩ = some (.int .i64 hd) ∧ v.cell? ⟨b1, off1 + 1, none⟩ = some (.int .i64 cd) := fun v hv => HG.out.2.2.2.2 v (c2.trans hv); have yZ2 := yZ w2 (Chg.refl _ _)
                 have HG2 := Lib.hid (And.intro (HG.out.1.world c2) (And.intro (HG.out.2.1.trans c2) rR2))
                 clear hb c2 rO2 rR2)
              | (go_at_call 35; refine (HN _).mono ?_; rintro e w' ⟨rfl, rfl⟩)
              | (rw [H6.out]))
            go_region_held3 (fun w' => Chg No w2 w') (repeat (with_reducible first | assumption | exact Chg.refl _ _ | refine Chg.drew ?_ | refine Chg.alloc ?_ _ | refine Chg.setCell ?_ (.inr (by first | exact Nat.le_refl _ | (simp; done) | (simp; omega))) _)) (fail)
            obtain ⟨W7, h7⟩ : ∃ W7, (w2.alloc (.cells #[.int .i64 (N % 16), .int .i64 (N / 16 % 32), .int .i64 (N / 512 % 1024), .int .i64 cd, .int .i64 ((x.W.length : Int) - 2)] 103)).drew = W7 := ⟨_, rfl⟩
            rw [h7]
            have c27 : Chg No w2 W7 := by rw [← h7]; exact ((Chg.refl _ _).alloc _).drew
            have rM : Row W7 w2.heap.size 103 #[.int .i64 (N % 16), .int .i64 (N / 16 % 32), .int .i64 (N / 512 % 1024), .int .i64 cd, .int .i64 ((x.W.length : Int) - 2)] := by rw [← h7]; exact (Row.new w2 _ _).drew
            have rR7 := HG2.out.2.2.keep c27 (fun f => f)
            have xM := rM.five
            have xR7 := rR7.five
            have HG7 := Lib.hid (And.intro (HG2.out.1.world c27) (And.intro (HG2.out.2.1.trans c27) (And.intro rM rR7)))
            clear h7 c27 rM rR7
            go_wp2_with fail
            refine bodyPost_ret (v := .tuple #[.agg #[.int .i64 0, .int .i64 0, .int .i64 0, .int .i64 0, .int .i64 0], .int .i64 2]) (by simp [results, Tryd.results59, go_sem, xR7]) rfl ⟨rfl, ?_⟩
            exact read_end HM.out.1 HM.out.2.1 HM.out.2.2.1 HM.out.2.2.2 HA.out.1 HA.out.2.2 HG7.out.1 HG7.out.2.1 (by repeat (with_reducible first | exact Chg.refl _ _ | refine Chg.setCell ?_ (.inl (by simp)) _))
          · have t3 : decide (N < 0) = false := decide_eq_false hN
            cases rb
            · rw [if_pos (by simp)] at hr
              rw [hr]
              clear hr
              go_enter Tryd.func59, Tryd.ntmps59
              go_wp2_with (first
                | (go_at_call 156
                   have HZ := HW.out
                   clear HW
                   rw [HZ]
                   refine (k_ObjC H.out o ho).mono ?_
                   rw [HX.out.1, HX.out.2]
                   rintro e w1 ⟨r, rfl, g1, hr, c1⟩
                   obtain ⟨A1, d1, B1, d2, rfl⟩ := hr.shape
                   obtain ⟨wv', bv', ev, hI, -, -⟩ := hr
                   obtain ⟨rfl, rfl⟩ : .slice A1 x.W.length d1 = wv' ∧ .slice B1 x.B.length d2 = bv' := by simpa [cells2] using ev
                   obtain ⟨b1, off1, hA1, hb1, hz0, h64, -⟩ := hI.at (i := 0) (by omega)
                   obtain ⟨b2, off2, hA2, hb2, hz1, h64', -⟩ := hI.at (i := 1) (by omega)
                   subst hA1
                   obtain ⟨rfl, rfl⟩ : b1 = b2 ∧ off1 = off2 := by cases hA2; exact ⟨rfl, rfl⟩
                   obtain ⟨W6, h6⟩ : ∃ W6, w1.alloc (.cells #[.int .i64 x.cls, .int .i64 x.kind, .slice (some ⟨b1, off1, none⟩) x.W.length d1, .slice B1 x.B.length d2] 41) = W6 := ⟨_, rfl⟩
                   have c16 : Chg No w1 W6 := by rw [← h6]; exact (Chg.refl _ _).alloc _
                   have rO : Row W6 w1.heap.size 41 #[.int .i64 x.cls, .int .i64 x.kind, .slice (some ⟨b1, off1, none⟩) x.W.length d1, .slice B1 x.B.length d2] := by rw [← h6]; exact Row.new w1 _ _
                   have xO := rO.four
                   have rR := HA.out.2.1.keep (c1.trans c16) (fun f => f)
                   have hlw := rR.lt
                   have hzz : ∀ v, Chg No W6 v → v.cell? ⟨b1, off1, none⟩ = some (.int .i64 hd) ∧ v.cell? ⟨b1, off1 + 1, none⟩ = some (.int .i64 cd) := fun v hv => by
                     have hc := c16.trans hv
                     refine ⟨(hc.cell hb1 (fun f => f)).trans ?_, (hc.cell hb1 (fun f => f)).trans ?_⟩
                     · rw [← HD.out.1]; exact hz0
                     · rw [← HD.out.2]; exact hz1
                   have H6 := Lib.hid h6
                   have HG := Lib.hid (And.intro (g1.world c16) (And.intro ((HA.out.1.trans c1).trans c16) (And.intro rO (And.intro rR hzz))))
                   clear h6 g1 c16 c1 rO rR hI hA2 hz0 hz1 h64 h64' hzz ev)
                | (go_at_call 43
                   refine (Size_any _ _ _ _ _ _ _ _ _ _ rfl rfl _).mono ?_
                   rw [if_pos HK.out]
                   rintro e w2 ⟨rfl, hb⟩
                   have c2 := Chg.of_below (F := No) hb
                   have rO2 := HG.out.2.2.1.keep c2 (fun f => f)
                   have rR2 := HG.out.2.2.2.1.keep c2 (fun f => f)
                   have xR2 := rR2.five
                   have yO : ∀ v, Chg No w2 v → v.cell? ⟨w1.heap.size, 2, none⟩ = some (.slice (some ⟨b1, off1, none⟩) x.W.length d1) := fun v hv => (rO2.keep hv (fun f => f)).cell 2
                   have yO2 := yO w2 (Chg.refl _ _)
                   have yZ : ∀ v, Chg No w2 v → v.cell? ⟨b1, off1, none⟩ = some (.int .i64 hd) ∧ v.cell? ⟨b1, off1 + 1, none⟩ = some (.int .i64 cd) := fun v hv => HG.out.2.2.2.2 v (c2.trans hv); have yZ2 := yZ w2 (Chg.refl _ _)
                   have HG2 := Lib.hid (And.intro (HG.out.1.world c2) (And.intro (HG.out.2.1.trans c2) rR2))
                   clear hb c2 rO2 rR2)
                | (go_at_call 35; refine (HN _).mono ?_; rintro e w' ⟨rfl, rfl⟩)
                | (rw [H6.out]))
              go_region_held3 (fun w' => Chg No w2 w') (repeat (with_reducible first | assumption | exact Chg.refl _ _ | refine Chg.drew ?_ | refine Chg.alloc ?_ _ | refine Chg.setCell ?_ (.inr (by first | exact Nat.le_refl _ | (simp; done) | (simp; omega))) _)) (fail)
              obtain ⟨W7, h7⟩ : ∃ W7, (w2.alloc (.cells #[.int .i64 (N % 16), .int .i64 (N / 16 % 32), .int .i64 (N / 512 % 1024), .int .i64 cd, .int .i64 ((x.W.length : Int) - 2)] 103)).drew = W7 := ⟨_, rfl⟩
              rw [h7]
              have c27 : Chg No w2 W7 := by rw [← h7]; exact ((Chg.refl _ _).alloc _).drew
              have rM : Row W7 w2.heap.size 103 #[.int .i64 (N % 16), .int .i64 (N / 16 % 32), .int .i64 (N / 512 % 1024), .int .i64 cd, .int .i64 ((x.W.length : Int) - 2)] := by rw [← h7]; exact (Row.new w2 _ _).drew
              have rR7 := HG2.out.2.2.keep c27 (fun f => f)
              have xM := rM.five
              have xR7 := rR7.five
              have HG7 := Lib.hid (And.intro (HG2.out.1.world c27) (And.intro (HG2.out.2.1.trans c27) (And.intro rM rR7)))
              clear h7 c27 rM rR7
              go_wp2_with (go_at_call 91
                           refine (HR _).mono ?_
                           rintro e w8 ⟨rfl, c8⟩
                           have xM8 := (HG7.out.2.2.1.keep c8 (fun f => f)).five
                           have xR8 := (HG7.out.2.2.2.keep c8 (fun f => f)).five
                           have HG8 := Lib.hid (And.intro (HG7.out.1.world c8) (HG7.out.2.1.trans c8))
                           clear c8)
              refine bodyPost_ret (v := .tuple #[.agg #[.int .i64 0, .int .i64 0, .int .i64 0, .int .i64 0, .int .i64 0], .int .i64 2]) (by simp [results, Tryd.results59, go_sem, xR8]) rfl ⟨rfl, ?_⟩
              exact read_end HM.out.1 HM.out.2.1 HM.out.2.2.1 HM.out.2.2.2 HA.out.1 HA.out.2.2 HG8.out.1 HG8.out.2 (by repeat (with_reducible first | exact Chg.refl _ _ | refine Chg.setCell ?_ (.inl (by simp)) _))
            · rw [if_neg (by simp; omega)] at hr
              rw [hr]
              clear hr
              go_enter Tryd.func59, Tryd.ntmps59
              go_wp2_with (first
                | (go_at_call 156
                   have HZ := HW.out
                   clear HW
                   rw [HZ]
                   refine (k_ObjC H.out o ho).mono ?_
                   rw [HX.out.1, HX.out.2]
                   rintro e w1 ⟨r, rfl, g1, hr, c1⟩
                   obtain ⟨A1, d1, B1, d2, rfl⟩ := hr.shape
                   obtain ⟨wv', bv', ev, hI, -, -⟩ := hr
                   obtain ⟨rfl, rfl⟩ : .slice A1 x.W.length d1 = wv' ∧ .slice B1 x.B.length d2 = bv' := by simpa [cells2] using ev
                   obtain ⟨b1, off1, hA1, hb1, hz0, h64, -⟩ := hI.at (i := 0) (by omega)
                   obtain ⟨b2, off2, hA2, hb2, hz1, h64', -⟩ := hI.at (i := 1) (by omega)
                   subst hA1
                   obtain ⟨rfl, rfl⟩ : b1 = b2 ∧ off1 = off2 := by cases hA2; exact ⟨rfl, rfl⟩
                   obtain ⟨W6, h6⟩ : ∃ W6, w1.alloc (.cells #[.int .i64 x.cls, .int .i64 x.kind, .slice (some ⟨b1, off1, none⟩) x.W.length d1, .slice B1 x.B.length d2] 41) = W6 := ⟨_, rfl⟩
                   have c16 : Chg No w1 W6 := by rw [← h6]; exact (Chg.refl _ _).alloc _
                   have rO : Row W6 w1.heap.size 41 #[.int .i64 x.cls, .int .i64 x.kind, .slice (some ⟨b1, off1, none⟩) x.W.length d1, .slice B1 x.B.length d2] := by rw [← h6]; exact Row.new w1 _ _
                   have xO := rO.four
                   have rR := HA.out.2.1.keep (c1.trans c16) (fun f => f)
                   have hlw := rR.lt
                   have hzz : ∀ v, Chg No W6 v → v.cell? ⟨b1, off1, none⟩ = some (.int .i64 hd) ∧ v.cell? ⟨b1, off1 + 1, none⟩ = some (.int .i64 cd) := fun v hv => by
                     have hc := c16.trans hv
                     refine ⟨(hc.cell hb1 (fun f => f)).trans ?_, (hc.cell hb1 (fun f => f)).trans ?_⟩
                     · rw [← HD.out.1]; exact hz0
                     · rw [← HD.out.2]; exact hz1
                   have H6 := Lib.hid h6
                   have HG := Lib.hid (And.intro (g1.world c16) (And.intro ((HA.out.1.trans c1).trans c16) (And.intro rO (And.intro rR hzz))))
                   clear h6 g1 c16 c1 rO rR hI hA2 hz0 hz1 h64 h64' hzz ev)
                | (go_at_call 43
                   refine (Size_any _ _ _ _ _ _ _ _ _ _ rfl rfl _).mono ?_
                   rw [if_pos HK.out]
                   rintro e w2 ⟨rfl, hb⟩
                   have c2 := Chg.of_below (F := No) hb
                   have rO2 := HG.out.2.2.1.keep c2 (fun f => f)
                   have rR2 := HG.out.2.2.2.1.keep c2 (fun f => f)
                   have xR2 := rR2.five
                   have yO : ∀ v, Chg No w2 v → v.cell? ⟨w1.heap.size, 2, none⟩ = some (.slice (some ⟨b1, off1, none⟩) x.W.length d1) := fun v hv => (rO2.keep hv (fun f => f)).cell 2
                   have yO2 := yO w2 (Chg.refl _ _)
                   have yZ : ∀ v, Chg No w2 v → v.cell? ⟨b1, off1, none⟩ = some (.int .i64 hd) ∧ v.cell? ⟨b1, off1 + 1, none⟩ = some (.int .i64 cd) := fun v hv => HG.out.2.2.2.2 v (c2.trans hv); have yZ2 := yZ w2 (Chg.refl _ _)
                   have HG2 := Lib.hid (And.intro (HG.out.1.world c2) (And.intro (HG.out.2.1.trans c2) rR2))
                   clear hb c2 rO2 rR2)
                | (go_at_call 35; refine (HN _).mono ?_; rintro e w' ⟨rfl, rfl⟩)
                | (rw [H6.out]))
              go_region_held3 (fun w' => Chg No w2 w') (repeat (with_reducible first | assumption | exact Chg.refl _ _ | refine Chg.drew ?_ | refine Chg.alloc ?_ _ | refine Chg.setCell ?_ (.inr (by first | exact Nat.le_refl _ | (simp; done) | (simp; omega))) _)) (fail)
              obtain ⟨W7, h7⟩ : ∃ W7, (w2.alloc (.cells #[.int .i64 (N % 16), .int .i64 (N / 16 % 32), .int .i64 (N / 512 % 1024), .int .i64 cd, .int .i64 ((x.W.length : Int) - 2)] 103)).drew = W7 := ⟨_, rfl⟩
              rw [h7]
              have c27 : Chg No w2 W7 := by rw [← h7]; exact ((Chg.refl _ _).alloc _).drew
              have rM : Row W7 w2.heap.size 103 #[.int .i64 (N % 16), .int .i64 (N / 16 % 32), .int .i64 (N / 512 % 1024), .int .i64 cd, .int .i64 ((x.W.length : Int) - 2)] := by rw [← h7]; exact (Row.new w2 _ _).drew
              have rR7 := HG2.out.2.2.keep c27 (fun f => f)
              have xM := rM.five
              have xR7 := rR7.five
              have HG7 := Lib.hid (And.intro (HG2.out.1.world c27) (And.intro (HG2.out.2.1.trans c27) (And.intro rM rR7)))
              clear h7 c27 rM rR7
              go_wp2_with (go_at_call 91
                           refine (HR _).mono ?_
                           rintro e w8 ⟨rfl, c8⟩
                           have xM8 := (HG7.out.2.2.1.keep c8 (fun f => f)).five
                           have xR8 := (HG7.out.2.2.2.keep c8 (fun f => f)).five
                           have HG8 := Lib.hid (And.intro (HG7.out.1.world c8) (HG7.out.2.1.trans c8))
                           clear c8)
              refine bodyPost_ret (v := .tuple #[.agg #[.int .i64 (N % 16), .int .i64 (N / 16 % 32), .int .i64 (N / 512 % 1024), .int .i64 cd, .int .i64 ((x.W.length : Int) - 2)], .int .i64 0]) (by simp [results, Tryd.results59, go_sem, xR8]) rfl ⟨rfl, ?_⟩
              exact read_end HM.out.1 HM.out.2.1 HM.out.2.2.1 HM.out.2.2.2 HA.out.1 HA.out.2.2 HG8.out.1 HG8.out.2 (by repeat (with_reducible first | exact Chg.refl _ _ | refine Chg.setCell ?_ (.inl (by simp)) _))
    · have hr : readM L o = ⟨0, 0, 0, 0, 0, 20⟩ := by unfold readM; rw [hoe, hx, if_neg (by simp), if_pos hk]
      have t1 : (x.kind != 1) = true := by simpa using hk
      rw [hr]
      clear hr hoe hx hxk hokat hk hxo
      go_enter Tryd.func59, Tryd.ntmps59
      go_wp2_with (first
        | (go_at_call 156
           have HZ := HW.out
           clear HW
           rw [HZ]
           refine (k_ObjC H.out o ho).mono ?_
           rw [HX.out.1, HX.out.2]
           rintro e w1 ⟨r, rfl, g1, hr, c1⟩
           obtain ⟨A1, d1, B1, d2, rfl⟩ := hr.shape
           obtain ⟨W6, h6⟩ : ∃ W6, w1.alloc (.cells #[.int .i64 x.cls, .int .i64 x.kind, .slice A1 x.W.length d1, .slice B1 x.B.length d2] 41) = W6 := ⟨_, rfl⟩
           have c16 : Chg No w1 W6 := by rw [← h6]; exact (Chg.refl _ _).alloc _
           have rO : Row W6 w1.heap.size 41 #[.int .i64 x.cls, .int .i64 x.kind, .slice A1 x.W.length d1, .slice B1 x.B.length d2] := by rw [← h6]; exact Row.new w1 _ _
           have xO := rO.four
           have rR := HA.out.2.1.keep (c1.trans c16) (fun f => f)
           have xR := rR.five
           have hlw := rR.lt
           have hr6 := hr.keep c16 (fun _ _ f => f)
           have H6 := Lib.hid h6
           have HG := Lib.hid (And.intro (g1.world c16) (And.intro ((HA.out.1.trans c1).trans c16) (And.intro rO (And.intro rR hr6))))
           clear h6 g1 c16 c1 rO rR hr hr6 HZ)
        | (rw [H6.out]))
      refine bodyPost_ret (v := .tuple #[.agg #[.int .i64 0, .int .i64 0, .int .i64 0, .int .i64 0, .int .i64 0], .int .i64 20]) (by simp [results, Tryd.results59, go_sem, xR]) rfl ⟨rfl, ?_⟩
      exact read_end HM.out.1 HM.out.2.1 HM.out.2.2.1 HM.out.2.2.2 HA.out.1 HA.out.2.2 HG.out.1 HG.out.2.1 (by repeat (with_reducible first | exact Chg.refl _ _ | refine Chg.setCell ?_ (.inl (by simp)) _))
  · have hr : readM L o = ⟨0, 0, 0, 0, 0, oe⟩ := by unfold readM; rw [hoe, if_pos h0]
    have t0 : (oe != 0) = true := by simpa using h0
    rw [hr]
    clear hr hoe hx hxk hokat h0
    go_enter Tryd.func59, Tryd.ntmps59
    go_wp2_with (first
      | (go_at_call 156
         have HZ := HW.out
         clear HW
         rw [HZ]
         refine (k_ObjC H.out o ho).mono ?_
         rw [HX.out.1, HX.out.2]
         rintro e w1 ⟨r, rfl, g1, hr, c1⟩
         obtain ⟨A1, d1, B1, d2, rfl⟩ := hr.shape
         obtain ⟨W6, h6⟩ : ∃ W6, w1.alloc (.cells #[.int .i64 x.cls, .int .i64 x.kind, .slice A1 x.W.length d1, .slice B1 x.B.length d2] 41) = W6 := ⟨_, rfl⟩
         have c16 : Chg No w1 W6 := by rw [← h6]; exact (Chg.refl _ _).alloc _
         have rO : Row W6 w1.heap.size 41 #[.int .i64 x.cls, .int .i64 x.kind, .slice A1 x.W.length d1, .slice B1 x.B.length d2] := by rw [← h6]; exact Row.new w1 _ _
         have xO := rO.four
         have rR := HA.out.2.1.keep (c1.trans c16) (fun f => f)
         have xR := rR.five
         have hlw := rR.lt
         have hr6 := hr.keep c16 (fun _ _ f => f)
         have H6 := Lib.hid h6
         have HG := Lib.hid (And.intro (g1.world c16) (And.intro ((HA.out.1.trans c1).trans c16) (And.intro rO (And.intro rR hr6))))
         clear h6 g1 c16 c1 rO rR hr hr6 HZ)
      | (rw [H6.out]))
    refine bodyPost_ret (v := .tuple #[.agg #[.int .i64 0, .int .i64 0, .int .i64 0, .int .i64 0, .int .i64 0], .int .i64 oe]) (by simp [results, Tryd.results59, go_sem, xR]) rfl ⟨rfl, ?_⟩
    exact read_end HM.out.1 HM.out.2.1 HM.out.2.2.1 HM.out.2.2.2 HA.out.1 HA.out.2.2 HG.out.1 HG.out.2.1 (by repeat (with_reducible first | exact Chg.refl _ _ | refine Chg.setCell ?_ (.inl (by simp)) _))
end

end Go.Proofs.YtncoanmgifgcbaaDoor
