/- What Enter pushes, as one list. -/
import Derived.Test.YtjanojignaonfaaRef14c
import Derived.Test.YtjanojignaonfaaKitC
import Derived.Test.YtjanojignaonfaaFrameP
import Derived.Test.YtjanojignaonfaaFrameC
import Derived.Test.YtjanojignaonfaaFrameE
namespace Go.Proofs.Ytjanojignaonfaa
set_option linter.unusedVariables false
set_option linter.unusedSimpArgs false
open Go.RowKit

theorem zeros5 (w : World) (t : TypeId) : Row (w.alloc (.cells #[.int .i64 0, .int .i64 0, .int .i64 0, .int .i64 0, .int .i64 0] t)) w.heap.size t #[.int .i64 0, .int .i64 0, .int .i64 0, .int .i64 0, .int .i64 0] := Row.new w t _
theorem head_right {N : Int} (h : 0 ≤ N) : rightB (N % 16) (N / 16 % 32) (N / 512 % 1024) = (decide (N % 16 ≤ N / 16 % 32) && decide (N / 16 % 32 ≤ 20)) := by
  unfold rightB
  have h1 : 0 ≤ N % 16 ∧ N % 16 < 16 := by omega
  have h2 : 0 ≤ N / 512 % 1024 ∧ N / 512 % 1024 < 1024 := by omega
  simp [h1.1, h1.2, h2.1, h2.2]
theorem ObjR.ints {w : World} {S : Nat → Prop} {A : Option Addr} {B : Option Addr} {n d m e : Nat} {c k : Int} {x : O} (h : ObjR w S (.agg #[.int .i64 c, .int .i64 k, .slice A n d, .slice B m e]) x) : IntS w S (.slice A n d) x.W := by
  obtain ⟨wv, bv, ea, hI, -⟩ := h
  have e2 : wv = .slice A n d := by
    have := congrArg (fun u => match u with | Value.agg xs => xs[2]?.getD (Value.bool false) | _ => Value.bool false) ea
    simpa [cells2] using this.symm
  rw [e2] at hI
  exact hI
theorem IntS.lay' {w : World} {S : Nat → Prop} {b off n c : Nat} {l : List Int} (h : IntS w S (.slice (some ⟨b, off, none⟩) n c) l) {i : Nat} (hi : i < l.length) : w.cell? ⟨b, off + i, none⟩ = some (.int .i64 (l[i]?.getD 0)) ∧ In64 (l[i]?.getD 0) := by
  obtain ⟨A', c', eA, -, -, -, hat⟩ := h.form
  obtain ⟨b', off', e, -, -, y, z⟩ := hat i hi
  obtain ⟨rfl, -, -⟩ := Value.slice.inj eA
  obtain ⟨rfl, rfl⟩ : b = b' ∧ off = off' := by simpa using Option.some.inj e
  exact ⟨y, z⟩
theorem IntS.some' {w : World} {S : Nat → Prop} {A : Option Addr} {n c : Nat} {l : List Int} (h : IntS w S (.slice A n c) l) (hl : 0 < l.length) : ∃ b off, A = some ⟨b, off, none⟩ := by
  obtain ⟨A', c', eA, -, -, -, hat⟩ := h.form
  obtain ⟨b', off', e, -⟩ := hat 0 hl
  obtain ⟨rfl, -, -⟩ := Value.slice.inj eA
  exact ⟨b', off', e⟩
theorem IntS.blk {w : World} {S : Nat → Prop} {b off n c : Nat} {l : List Int} (h : IntS w S (.slice (some ⟨b, off, none⟩) n c) l) (hl : 0 < l.length) : b < w.heap.size ∧ S b := by
  obtain ⟨A', c', eA, -, -, -, hat⟩ := h.form
  obtain ⟨b', off', e, h1, h2, -⟩ := hat 0 hl
  obtain ⟨rfl, -, -⟩ := Value.slice.inj eA
  obtain ⟨rfl, rfl⟩ : b = b' ∧ off = off' := by simpa using Option.some.inj e
  exact ⟨h2, h1⟩
set_option maxRecDepth 100000 in
set_option maxHeartbeats 4000000 in
theorem Read14_any (mv : Value) (S : Nat → Prop) (L : List O) (w : World) (hv : RefM w S mv L) (hok : ∀ i, (ob L i).kind ≠ 0 → (ob L i).ok) (o : Int) (o64 : In64 o) :
    Calls Try.prog 79 #[mv, .int .i64 o] w fun e w' => e = .returned (.tuple #[.agg (readM L o).cells, .int .i64 (readM L o).e]) ∧ Chg No w w' := by
  obtain ⟨lv, rfl, hl⟩ := hv
  obtain ⟨A, cp, rfl, -⟩ := hl.form
  have hold : RefM w (fun b => S b ∧ b < w.heap.size) (.agg #[.slice A L.length cp]) L := RefM.more (S' := fun b => S b ∧ b < w.heap.size) ⟨_, rfl, hl⟩ (fun b h1 h2 => ⟨h2, h1⟩)
  have HV := Lib.hid hold
  clear hl hold
  obtain ⟨W, hW⟩ : ∃ W, (w.alloc (.cells #[.slice A L.length cp] 33)).alloc (.cells #[.int .i64 0, .int .i64 0, .int .i64 0, .int .i64 0, .int .i64 0] 23) = W := ⟨_, rfl⟩
  have cW : Chg No w W := by rw [← hW]; exact ((Chg.refl _ _).alloc _).alloc _
  have rB : Row W (w.heap.size + 1) 23 #[.int .i64 0, .int .i64 0, .int .i64 0, .int .i64 0, .int .i64 0] := by rw [← hW]; exact Row.new2' w _ _ _
  have sW : w.heap.size + 2 ≤ W.heap.size := by have := rB.lt; omega
  have HA := Lib.hid (And.intro cW (And.intro rB sW))
  have HW := Lib.hid hW
  clear hW cW rB sW
  obtain ⟨x, hx⟩ : ∃ x, objV L o = x := ⟨_, rfl⟩
  obtain ⟨oe, hoe⟩ : ∃ oe, objE L o = oe := ⟨_, rfl⟩
  have HX := Lib.hid (And.intro hoe hx)
  have hxk : oe = 0 → x.ok := fun h0 => by
    rw [h0] at hoe
    unfold objE at hoe
    unfold objV at hx
    cases hfd : fnd L o with
    | none => rw [hfd] at hoe; cases hoe
    | some i =>
      rw [hfd] at hx
      rw [← hx]
      exact hok i (fnd_some hfd).2.1
  clear hok
  by_cases h0 : oe = 0
  · subst h0
    have hxo := hxk rfl
    clear hxk
    by_cases hk : x.kind = 1
    · have t1 : (x.kind != 1) = false := by simp [hk]
      by_cases hl2 : x.W.length < 2
      · have hr : readM L o = ⟨0, 0, 0, 0, 0, 2⟩ := by unfold readM; rw [hoe, hx, if_neg (by simp), if_neg (by simp [hk]), if_pos hl2]
        have t2 : decide ((x.W.length : Int) < 2) = true := decide_eq_true (by omega)
        rw [hr]
        clear hr hoe hx hk hxo
        generalize L.length = n at *
        go_enter Try.func79, Try.ntmps79
        go_wp2_with (first
          | (go_at_call 25
             have HZ := HW.out
             clear HW
             rw [HZ]
             refine (Get14_any _ _ L W (HV.out.keep HA.out.1 (fun _ _ f => f)) o o64).mono ?_
             rw [HX.out.1, HX.out.2]
             rintro e w1 ⟨r, rfl, xv, rfl, hxr, c1⟩
             obtain ⟨A1, d1, B1, d2, rfl⟩ := hxr.shape
             obtain ⟨W6, h6⟩ : ∃ W6, w1.alloc (.cells #[.int .i64 x.cls, .int .i64 x.kind, .slice A1 x.W.length d1, .slice B1 x.B.length d2] 39) = W6 := ⟨_, rfl⟩
             have c16 : Chg No w1 W6 := by rw [← h6]; exact (Chg.refl _ _).alloc _
             have rO : Row W6 w1.heap.size 39 #[.int .i64 x.cls, .int .i64 x.kind, .slice A1 x.W.length d1, .slice B1 x.B.length d2] := by rw [← h6]; exact Row.new w1 _ _
             have xO := rO.four
             have rR := HA.out.2.1.keep (c1.trans c16) (fun f => f)
             have xR := rR.five
             have s1 := c1.size
             have sW := HA.out.2.2
             have H6 := Lib.hid h6
             have HG := Lib.hid (HA.out.1.trans (c1.trans c16))
             clear c1 c16 rO rR hxr HZ h6)
          | (rw [H6.out]))
        refine bodyPost_ret (v := .tuple #[.agg #[.int .i64 0, .int .i64 0, .int .i64 0, .int .i64 0, .int .i64 0], .int .i64 2]) (by simp [results, Try.results79, go_sem, xR]) rfl ⟨rfl, ?_⟩
        repeat (with_reducible first | exact HG.out | refine Chg.setCell ?_ (.inr (by dsimp only; omega)) _ | refine Chg.drew ?_)
      · have t2 : decide ((x.W.length : Int) < 2) = false := decide_eq_false (by omega)
        obtain ⟨hd, hhd⟩ : ∃ hd, x.W[0]?.getD 0 = hd := ⟨_, rfl⟩
        obtain ⟨cd, hcd⟩ : ∃ cd, x.W[1]?.getD 0 = cd := ⟨_, rfl⟩
        have HD := Lib.hid (And.intro hhd hcd)
        have hd64 : In64 hd := by
          rw [← hhd, List.getElem?_eq_getElem (by omega)]
          exact ref64 (hxo.2.2.2.2.1 _ (List.getElem_mem _))
        have hlW := hxo.2.2.1
        have hr : readM L o = if headOk hd = false then ⟨0, 0, 0, 0, 0, 2⟩ else ⟨numV hd % 16, numV hd / 16 % 32, numV hd / 512 % 1024, cd, (x.W.length : Int) - 2, 0⟩ := by unfold readM; rw [hoe, hx, if_neg (by simp), if_neg (by simp [hk]), if_neg hl2, hhd, hcd]
        have HN := fun w => Number01_any hd hd64 w
        have hnb := numV_bd hd
        have hho : headOk hd = (numOk hd && decide (0 ≤ numV hd) && rightB (numV hd % 16) (numV hd / 16 % 32) (numV hd / 512 % 1024)) := rfl
        have wl : IntKind.i64.wrap ((x.W.length : Int) - 2) = (x.W.length : Int) - 2 := IntWalk.i64_in _ (by omega)
        have hl1 : (1 : Int) < (x.W.length : Int) := by omega
        have hl0 : (0 : Int) < (x.W.length : Int) := by omega
        rw [hho] at hr
        clear hoe hx hk hxo hhd hcd hho
        generalize numV hd = N at *
        generalize numOk hd = ok at *
        cases ok
        · rw [if_pos (by simp)] at hr
          rw [hr]
          clear hr
          generalize L.length = n at *
          go_enter Try.func79, Try.ntmps79
          go_wp2_with (first
            | (go_at_call 25
               have HZ := HW.out
               clear HW
               rw [HZ]
               refine (Get14_any _ _ L W (HV.out.keep HA.out.1 (fun _ _ f => f)) o o64).mono ?_
               rw [HX.out.1, HX.out.2]
               rintro e w1 ⟨r, rfl, xv, rfl, hxr, c1⟩
               obtain ⟨A1, d1, B1, d2, rfl⟩ := hxr.shape
               obtain ⟨W6, h6⟩ : ∃ W6, w1.alloc (.cells #[.int .i64 x.cls, .int .i64 x.kind, .slice A1 x.W.length d1, .slice B1 x.B.length d2] 39) = W6 := ⟨_, rfl⟩
               have c16 : Chg No w1 W6 := by rw [← h6]; exact (Chg.refl _ _).alloc _
               have rO : Row W6 w1.heap.size 39 #[.int .i64 x.cls, .int .i64 x.kind, .slice A1 x.W.length d1, .slice B1 x.B.length d2] := by rw [← h6]; exact Row.new w1 _ _
               have xO := rO.four
               have rR := HA.out.2.1.keep (c1.trans c16) (fun f => f)
               have xR := rR.five
               have s1 := c1.size
               have sW := HA.out.2.2
               have hI := (hxr.keep c16 (fun _ _ f => f)).ints
               obtain ⟨b1, off1, rfl⟩ := IntS.some' hI (by omega)
               have y0 := (hI.lay' (i := 0) (by omega)).1
               have y1 := (hI.lay' (i := 1) (by omega)).1
               have y2 := hI.blk (by omega)
               have hn1 : b1 ≠ w.heap.size + 1 := fun e => by rcases y2.2 with h | h <;> omega
               rw [HD.out.1, Nat.add_zero] at y0
               rw [HD.out.2] at y1
               have z6 : ∀ v, Chg (fun b => b = w.heap.size + 1) W6 v → v.cell? ⟨w1.heap.size, 2, none⟩ = some (.slice (some ⟨b1, off1, none⟩) x.W.length d1) ∧ v.cell? ⟨b1, off1 + 1, none⟩ = some (.int .i64 cd) := fun v hv => ⟨(rO.keep hv (by omega)).cell 2, (hv.cell (p := ⟨b1, off1 + 1, none⟩) y2.1 hn1).trans y1⟩
               have H6 := Lib.hid h6
               have HG := Lib.hid (HA.out.1.trans (c1.trans c16))
               clear c1 c16 rO rR hxr HZ h6)
            | (go_at_call 59; refine (HN _).mono ?_; rintro e w' ⟨rfl, rfl⟩)
            | (rw [H6.out]))
          refine bodyPost_ret (v := .tuple #[.agg #[.int .i64 0, .int .i64 0, .int .i64 0, .int .i64 0, .int .i64 0], .int .i64 2]) (by simp [results, Try.results79, go_sem, xR]) rfl ⟨rfl, ?_⟩
          repeat (with_reducible first | exact HG.out | refine Chg.setCell ?_ (.inr (by dsimp only; omega)) _ | refine Chg.drew ?_)
        · by_cases hN : N < 0
          · have t3 : decide (N < 0) = true := decide_eq_true hN
            rw [if_pos (by simp; omega)] at hr
            rw [hr]
            clear hr
            generalize L.length = n at *
            go_enter Try.func79, Try.ntmps79
            go_wp2_with (first
              | (go_at_call 25
                 have HZ := HW.out
                 clear HW
                 rw [HZ]
                 refine (Get14_any _ _ L W (HV.out.keep HA.out.1 (fun _ _ f => f)) o o64).mono ?_
                 rw [HX.out.1, HX.out.2]
                 rintro e w1 ⟨r, rfl, xv, rfl, hxr, c1⟩
                 obtain ⟨A1, d1, B1, d2, rfl⟩ := hxr.shape
                 obtain ⟨W6, h6⟩ : ∃ W6, w1.alloc (.cells #[.int .i64 x.cls, .int .i64 x.kind, .slice A1 x.W.length d1, .slice B1 x.B.length d2] 39) = W6 := ⟨_, rfl⟩
                 have c16 : Chg No w1 W6 := by rw [← h6]; exact (Chg.refl _ _).alloc _
                 have rO : Row W6 w1.heap.size 39 #[.int .i64 x.cls, .int .i64 x.kind, .slice A1 x.W.length d1, .slice B1 x.B.length d2] := by rw [← h6]; exact Row.new w1 _ _
                 have xO := rO.four
                 have rR := HA.out.2.1.keep (c1.trans c16) (fun f => f)
                 have xR := rR.five
                 have s1 := c1.size
                 have sW := HA.out.2.2
                 have hI := (hxr.keep c16 (fun _ _ f => f)).ints
                 obtain ⟨b1, off1, rfl⟩ := IntS.some' hI (by omega)
                 have y0 := (hI.lay' (i := 0) (by omega)).1
                 have y1 := (hI.lay' (i := 1) (by omega)).1
                 have y2 := hI.blk (by omega)
                 have hn1 : b1 ≠ w.heap.size + 1 := fun e => by rcases y2.2 with h | h <;> omega
                 rw [HD.out.1, Nat.add_zero] at y0
                 rw [HD.out.2] at y1
                 have z6 : ∀ v, Chg (fun b => b = w.heap.size + 1) W6 v → v.cell? ⟨w1.heap.size, 2, none⟩ = some (.slice (some ⟨b1, off1, none⟩) x.W.length d1) ∧ v.cell? ⟨b1, off1 + 1, none⟩ = some (.int .i64 cd) := fun v hv => ⟨(rO.keep hv (by omega)).cell 2, (hv.cell (p := ⟨b1, off1 + 1, none⟩) y2.1 hn1).trans y1⟩
                 have H6 := Lib.hid h6
                 have HG := Lib.hid (HA.out.1.trans (c1.trans c16))
                 clear c1 c16 rO rR hxr HZ h6)
              | (go_at_call 59; refine (HN _).mono ?_; rintro e w' ⟨rfl, rfl⟩)
              | (rw [H6.out]))
            refine bodyPost_ret (v := .tuple #[.agg #[.int .i64 0, .int .i64 0, .int .i64 0, .int .i64 0, .int .i64 0], .int .i64 2]) (by simp [results, Try.results79, go_sem, xR]) rfl ⟨rfl, ?_⟩
            repeat (with_reducible first | exact HG.out | refine Chg.setCell ?_ (.inr (by dsimp only; omega)) _ | refine Chg.drew ?_)
          · have t3 : decide (N < 0) = false := decide_eq_false hN
            rw [head_right (by omega)] at hr
            have m1 : N.tmod 16 = N % 16 := Int.tmod_eq_emod_of_nonneg (by omega)
            have m2 : N.tdiv 16 = N / 16 := Int.tdiv_eq_ediv_of_nonneg (by omega)
            have m3 : (N / 16).tmod 32 = N / 16 % 32 := Int.tmod_eq_emod_of_nonneg (by omega)
            have m4 : N.tdiv 512 = N / 512 := Int.tdiv_eq_ediv_of_nonneg (by omega)
            have m5 : (N / 512).tmod 1024 = N / 512 % 1024 := Int.tmod_eq_emod_of_nonneg (by omega)
            have u1 : IntKind.i64.wrap (N % 16) = N % 16 := IntWalk.i64_in _ (by omega)
            have u2 : IntKind.i64.wrap (N / 16) = N / 16 := IntWalk.i64_in _ (by omega)
            have u3 : IntKind.i64.wrap (N / 16 % 32) = N / 16 % 32 := IntWalk.i64_in _ (by omega)
            have u4 : IntKind.i64.wrap (N / 512) = N / 512 := IntWalk.i64_in _ (by omega)
            have u5 : IntKind.i64.wrap (N / 512 % 1024) = N / 512 % 1024 := IntWalk.i64_in _ (by omega)
            obtain ⟨na, hna⟩ : ∃ na, N % 16 = na := ⟨_, rfl⟩
            obtain ⟨nt, hnt⟩ : ∃ nt, N / 16 % 32 = nt := ⟨_, rfl⟩
            obtain ⟨np, hnp⟩ : ∃ np, N / 512 % 1024 = np := ⟨_, rfl⟩
            rw [hna, hnt, hnp] at hr
            rw [hna] at m1 u1
            rw [hnt] at m3 u3
            rw [hnp] at m5 u5
            clear hna hnt hnp
            by_cases ha : nt < na
            · have t4 : decide (nt < na) = true := decide_eq_true ha
              rw [if_pos (by simp; omega)] at hr
              rw [hr]
              clear hr
              generalize L.length = n at *
              go_enter Try.func79, Try.ntmps79
              go_wp2_with (first
                | (go_at_call 25
                   have HZ := HW.out
                   clear HW
                   rw [HZ]
                   refine (Get14_any _ _ L W (HV.out.keep HA.out.1 (fun _ _ f => f)) o o64).mono ?_
                   rw [HX.out.1, HX.out.2]
                   rintro e w1 ⟨r, rfl, xv, rfl, hxr, c1⟩
                   obtain ⟨A1, d1, B1, d2, rfl⟩ := hxr.shape
                   obtain ⟨W6, h6⟩ : ∃ W6, w1.alloc (.cells #[.int .i64 x.cls, .int .i64 x.kind, .slice A1 x.W.length d1, .slice B1 x.B.length d2] 39) = W6 := ⟨_, rfl⟩
                   have c16 : Chg No w1 W6 := by rw [← h6]; exact (Chg.refl _ _).alloc _
                   have rO : Row W6 w1.heap.size 39 #[.int .i64 x.cls, .int .i64 x.kind, .slice A1 x.W.length d1, .slice B1 x.B.length d2] := by rw [← h6]; exact Row.new w1 _ _
                   have xO := rO.four
                   have rR := HA.out.2.1.keep (c1.trans c16) (fun f => f)
                   have xR := rR.five
                   have s1 := c1.size
                   have sW := HA.out.2.2
                   have hI := (hxr.keep c16 (fun _ _ f => f)).ints
                   obtain ⟨b1, off1, rfl⟩ := IntS.some' hI (by omega)
                   have y0 := (hI.lay' (i := 0) (by omega)).1
                   have y1 := (hI.lay' (i := 1) (by omega)).1
                   have y2 := hI.blk (by omega)
                   have hn1 : b1 ≠ w.heap.size + 1 := fun e => by rcases y2.2 with h | h <;> omega
                   rw [HD.out.1, Nat.add_zero] at y0
                   rw [HD.out.2] at y1
                   have z6 : ∀ v, Chg (fun b => b = w.heap.size + 1) W6 v → v.cell? ⟨w1.heap.size, 2, none⟩ = some (.slice (some ⟨b1, off1, none⟩) x.W.length d1) ∧ v.cell? ⟨b1, off1 + 1, none⟩ = some (.int .i64 cd) := fun v hv => ⟨(rO.keep hv (by omega)).cell 2, (hv.cell (p := ⟨b1, off1 + 1, none⟩) y2.1 hn1).trans y1⟩
                   have H6 := Lib.hid h6
                   have HG := Lib.hid (HA.out.1.trans (c1.trans c16))
                   clear c1 c16 rO rR hxr HZ h6)
                | (go_at_call 59; refine (HN _).mono ?_; rintro e w' ⟨rfl, rfl⟩)
                | (rw [H6.out]))
              refine bodyPost_ret (v := .tuple #[.agg #[.int .i64 0, .int .i64 0, .int .i64 0, .int .i64 0, .int .i64 0], .int .i64 2]) (by simp [results, Try.results79, go_sem, xR]) rfl ⟨rfl, ?_⟩
              repeat (with_reducible first | exact HG.out | refine Chg.setCell ?_ (.inr (by dsimp only; omega)) _ | refine Chg.drew ?_)
            · have t4 : decide (nt < na) = false := decide_eq_false ha
              by_cases hb : 20 < nt
              · have t5 : decide (20 < nt) = true := decide_eq_true hb
                rw [if_pos (by simp; omega)] at hr
                rw [hr]
                clear hr
                generalize L.length = n at *
                go_enter Try.func79, Try.ntmps79
                go_wp2_with (first
                  | (go_at_call 25
                     have HZ := HW.out
                     clear HW
                     rw [HZ]
                     refine (Get14_any _ _ L W (HV.out.keep HA.out.1 (fun _ _ f => f)) o o64).mono ?_
                     rw [HX.out.1, HX.out.2]
                     rintro e w1 ⟨r, rfl, xv, rfl, hxr, c1⟩
                     obtain ⟨A1, d1, B1, d2, rfl⟩ := hxr.shape
                     obtain ⟨W6, h6⟩ : ∃ W6, w1.alloc (.cells #[.int .i64 x.cls, .int .i64 x.kind, .slice A1 x.W.length d1, .slice B1 x.B.length d2] 39) = W6 := ⟨_, rfl⟩
                     have c16 : Chg No w1 W6 := by rw [← h6]; exact (Chg.refl _ _).alloc _
                     have rO : Row W6 w1.heap.size 39 #[.int .i64 x.cls, .int .i64 x.kind, .slice A1 x.W.length d1, .slice B1 x.B.length d2] := by rw [← h6]; exact Row.new w1 _ _
                     have xO := rO.four
                     have rR := HA.out.2.1.keep (c1.trans c16) (fun f => f)
                     have xR := rR.five
                     have s1 := c1.size
                     have sW := HA.out.2.2
                     have hI := (hxr.keep c16 (fun _ _ f => f)).ints
                     obtain ⟨b1, off1, rfl⟩ := IntS.some' hI (by omega)
                     have y0 := (hI.lay' (i := 0) (by omega)).1
                     have y1 := (hI.lay' (i := 1) (by omega)).1
                     have y2 := hI.blk (by omega)
                     have hn1 : b1 ≠ w.heap.size + 1 := fun e => by rcases y2.2 with h | h <;> omega
                     rw [HD.out.1, Nat.add_zero] at y0
                     rw [HD.out.2] at y1
                     have z6 : ∀ v, Chg (fun b => b = w.heap.size + 1) W6 v → v.cell? ⟨w1.heap.size, 2, none⟩ = some (.slice (some ⟨b1, off1, none⟩) x.W.length d1) ∧ v.cell? ⟨b1, off1 + 1, none⟩ = some (.int .i64 cd) := fun v hv => ⟨(rO.keep hv (by omega)).cell 2, (hv.cell (p := ⟨b1, off1 + 1, none⟩) y2.1 hn1).trans y1⟩
                     have H6 := Lib.hid h6
                     have HG := Lib.hid (HA.out.1.trans (c1.trans c16))
                     clear c1 c16 rO rR hxr HZ h6)
                  | (go_at_call 59; refine (HN _).mono ?_; rintro e w' ⟨rfl, rfl⟩)
                  | (rw [H6.out]))
                refine bodyPost_ret (v := .tuple #[.agg #[.int .i64 0, .int .i64 0, .int .i64 0, .int .i64 0, .int .i64 0], .int .i64 2]) (by simp [results, Try.results79, go_sem, xR]) rfl ⟨rfl, ?_⟩
                repeat (with_reducible first | exact HG.out | refine Chg.setCell ?_ (.inr (by dsimp only; omega)) _ | refine Chg.drew ?_)
              · have t5 : decide (20 < nt) = false := decide_eq_false hb
                rw [if_neg (by simp; omega)] at hr
                rw [hr]
                clear hr
                generalize L.length = n at *
                go_enter Try.func79, Try.ntmps79
                go_wp2_with (first
                  | (go_at_call 25
                     have HZ := HW.out
                     clear HW
                     rw [HZ]
                     refine (Get14_any _ _ L W (HV.out.keep HA.out.1 (fun _ _ f => f)) o o64).mono ?_
                     rw [HX.out.1, HX.out.2]
                     rintro e w1 ⟨r, rfl, xv, rfl, hxr, c1⟩
                     obtain ⟨A1, d1, B1, d2, rfl⟩ := hxr.shape
                     obtain ⟨W6, h6⟩ : ∃ W6, w1.alloc (.cells #[.int .i64 x.cls, .int .i64 x.kind, .slice A1 x.W.length d1, .slice B1 x.B.length d2] 39) = W6 := ⟨_, rfl⟩
                     have c16 : Chg No w1 W6 := by rw [← h6]; exact (Chg.refl _ _).alloc _
                     have rO : Row W6 w1.heap.size 39 #[.int .i64 x.cls, .int .i64 x.kind, .slice A1 x.W.length d1, .slice B1 x.B.length d2] := by rw [← h6]; exact Row.new w1 _ _
                     have xO := rO.four
                     have rR := HA.out.2.1.keep (c1.trans c16) (fun f => f)
                     have xR := rR.five
                     have s1 := c1.size
                     have sW := HA.out.2.2
                     have hI := (hxr.keep c16 (fun _ _ f => f)).ints
                     obtain ⟨b1, off1, rfl⟩ := IntS.some' hI (by omega)
                     have y0 := (hI.lay' (i := 0) (by omega)).1
                     have y1 := (hI.lay' (i := 1) (by omega)).1
                     have y2 := hI.blk (by omega)
                     have hn1 : b1 ≠ w.heap.size + 1 := fun e => by rcases y2.2 with h | h <;> omega
                     rw [HD.out.1, Nat.add_zero] at y0
                     rw [HD.out.2] at y1
                     have z6 : ∀ v, Chg (fun b => b = w.heap.size + 1) W6 v → v.cell? ⟨w1.heap.size, 2, none⟩ = some (.slice (some ⟨b1, off1, none⟩) x.W.length d1) ∧ v.cell? ⟨b1, off1 + 1, none⟩ = some (.int .i64 cd) := fun v hv => ⟨(rO.keep hv (by omega)).cell 2, (hv.cell (p := ⟨b1, off1 + 1, none⟩) y2.1 hn1).trans y1⟩
                     have H6 := Lib.hid h6
                     have HG := Lib.hid (HA.out.1.trans (c1.trans c16))
                     clear c1 c16 rO rR hxr HZ h6)
                  | (go_at_call 59; refine (HN _).mono ?_; rintro e w' ⟨rfl, rfl⟩)
                  | (rw [H6.out]))
                go_region_held3 (fun w' => Chg (fun b => b = w.heap.size + 1) W6 w') (repeat (with_reducible first | assumption | exact Chg.refl _ _ | refine Chg.drew ?_ | refine Chg.setCell ?_ (Or.inl (by simp)) _)) (fail)
                all_goals
                  go_wp2_with fail
                  refine bodyPost_ret (v := .tuple #[.agg #[.int .i64 na, .int .i64 nt, .int .i64 np, .int .i64 cd, .int .i64 ((x.W.length : Int) - 2)], .int .i64 0]) (by simp [results, Try.results79, go_sem, xR]) rfl ⟨rfl, ?_⟩
                  repeat (with_reducible first | exact HG.out | refine Chg.setCell ?_ (.inr (by dsimp only; omega)) _ | refine Chg.drew ?_)
    · have hr : readM L o = ⟨0, 0, 0, 0, 0, 20⟩ := by unfold readM; rw [hoe, hx, if_neg (by simp), if_pos hk]
      have t1 : (x.kind != 1) = true := by simpa using hk
      rw [hr]
      clear hr hoe hx hk hxo
      generalize L.length = n at *
      go_enter Try.func79, Try.ntmps79
      go_wp2_with (first
        | (go_at_call 25
           have HZ := HW.out
           clear HW
           rw [HZ]
           refine (Get14_any _ _ L W (HV.out.keep HA.out.1 (fun _ _ f => f)) o o64).mono ?_
           rw [HX.out.1, HX.out.2]
           rintro e w1 ⟨r, rfl, xv, rfl, hxr, c1⟩
           obtain ⟨A1, d1, B1, d2, rfl⟩ := hxr.shape
           obtain ⟨W6, h6⟩ : ∃ W6, w1.alloc (.cells #[.int .i64 x.cls, .int .i64 x.kind, .slice A1 x.W.length d1, .slice B1 x.B.length d2] 39) = W6 := ⟨_, rfl⟩
           have c16 : Chg No w1 W6 := by rw [← h6]; exact (Chg.refl _ _).alloc _
           have rO : Row W6 w1.heap.size 39 #[.int .i64 x.cls, .int .i64 x.kind, .slice A1 x.W.length d1, .slice B1 x.B.length d2] := by rw [← h6]; exact Row.new w1 _ _
           have xO := rO.four
           have rR := HA.out.2.1.keep (c1.trans c16) (fun f => f)
           have xR := rR.five
           have s1 := c1.size
           have sW := HA.out.2.2
           have H6 := Lib.hid h6
           have HG := Lib.hid (HA.out.1.trans (c1.trans c16))
           clear c1 c16 rO rR hxr HZ h6)
        | (rw [H6.out]))
      refine bodyPost_ret (v := .tuple #[.agg #[.int .i64 0, .int .i64 0, .int .i64 0, .int .i64 0, .int .i64 0], .int .i64 20]) (by simp [results, Try.results79, go_sem, xR]) rfl ⟨rfl, ?_⟩
      repeat (with_reducible first | exact HG.out | refine Chg.setCell ?_ (.inr (by dsimp only; omega)) _ | refine Chg.drew ?_)
  · have hr : readM L o = ⟨0, 0, 0, 0, 0, oe⟩ := by unfold readM; rw [hoe, if_pos h0]
    have t0 : (oe != 0) = true := by simpa using h0
    rw [hr]
    clear hr hoe hx hxk h0
    generalize L.length = n at *
    go_enter Try.func79, Try.ntmps79
    go_wp2_with (first
      | (go_at_call 25
         have HZ := HW.out
         clear HW
         rw [HZ]
         refine (Get14_any _ _ L W (HV.out.keep HA.out.1 (fun _ _ f => f)) o o64).mono ?_
         rw [HX.out.1, HX.out.2]
         rintro e w1 ⟨r, rfl, xv, rfl, hxr, c1⟩
         obtain ⟨A1, d1, B1, d2, rfl⟩ := hxr.shape
         obtain ⟨W6, h6⟩ : ∃ W6, w1.alloc (.cells #[.int .i64 x.cls, .int .i64 x.kind, .slice A1 x.W.length d1, .slice B1 x.B.length d2] 39) = W6 := ⟨_, rfl⟩
         have c16 : Chg No w1 W6 := by rw [← h6]; exact (Chg.refl _ _).alloc _
         have rO : Row W6 w1.heap.size 39 #[.int .i64 x.cls, .int .i64 x.kind, .slice A1 x.W.length d1, .slice B1 x.B.length d2] := by rw [← h6]; exact Row.new w1 _ _
         have xO := rO.four
         have rR := HA.out.2.1.keep (c1.trans c16) (fun f => f)
         have xR := rR.five
         have s1 := c1.size
         have sW := HA.out.2.2
         have H6 := Lib.hid h6
         have HG := Lib.hid (HA.out.1.trans (c1.trans c16))
         clear c1 c16 rO rR hxr HZ h6)
      | (rw [H6.out]))
    refine bodyPost_ret (v := .tuple #[.agg #[.int .i64 0, .int .i64 0, .int .i64 0, .int .i64 0, .int .i64 0], .int .i64 oe]) (by simp [results, Try.results79, go_sem, xR]) rfl ⟨rfl, ?_⟩
    repeat (with_reducible first | exact HG.out | refine Chg.setCell ?_ (.inr (by dsimp only; omega)) _ | refine Chg.drew ?_)


/-- all objects are right -/
def OkL (L : List O) : Prop := ∀ i, (ob L i).kind ≠ 0 → (ob L i).ok
theorem OkL.setL {L : List O} (h : OkL L) (o i v : Int) : OkL (setL L o i v) := by
  cases hf : fnd L o with
  | none => rw [show Proofs.Ytjanojignaonfaa.setL L o i v = L by simp [Proofs.Ytjanojignaonfaa.setL, hf]]; exact h
  | some j =>
    by_cases he : setE L o i v = 0
    · have hp : placeE L o 1 i = 0 ∧ refOk v = true := by
        unfold setE at he
        split at he
        · rename_i hp
          split at he
          · rename_i hr; exact ⟨hp, hr⟩
          · omega
        · rename_i hp; exact absurd he hp
      obtain ⟨j', h1, h2, h3, -, -, -, h7⟩ := set_ok hp.1 hp.2
      rw [h7]
      intro k hk
      rw [obSet] at hk ⊢
      split
      · rename_i e
        exact setW_ok (h j' (by rw [h3]; decide)) h3 hp.2 _
      · rename_i e
        rw [if_neg e] at hk
        exact h k hk
    · rw [show Proofs.Ytjanojignaonfaa.setL L o i v = L by simp [Proofs.Ytjanojignaonfaa.setL, hf, he]]; exact h
theorem setL_bad {L : List O} {o i v : Int} (h : setE L o i v ≠ 0) : setL L o i v = L := by
  unfold setL
  cases hf : fnd L o with
  | none => rfl
  | some j => simp only []; rw [if_neg h]
theorem OkL.newL {L : List O} (h : OkL L) (c k s : Int) : OkL (newL L c k s) := by
  unfold Proofs.Ytjanojignaonfaa.newL
  split
  · rename_i hb
    intro i hi
    rcases Nat.lt_trichotomy i L.length with h1 | h1 | h1
    · have e : ob (L ++ [newO c k s]) i = ob L i := by unfold ob; rw [List.getElem?_append_left h1]
      rw [e] at hi ⊢
      exact h i hi
    · have e : ob (L ++ [newO c k s]) i = newO c k s := by unfold ob; subst h1; simp
      rw [e]
      exact newO_ok hb
    · have e : ob (L ++ [newO c k s]) i = O.zero := by unfold ob; rw [List.getElem?_eq_none (by simp; omega)]; rfl
      rw [e] at hi
      exact absurd rfl hi
  · exact h
theorem newL_len (L : List O) (c k s : Int) : (newL L c k s).length ≤ L.length + 1 := by
  unfold newL
  split <;> simp
/-- what is told, and the memory behind it -/
def Went (w : World) (S : Nat → Prop) (L' : List O) (e : Int) (r : Value) (w' : World) : Prop :=
  ∃ x, r = .tuple #[x, .int .i64 e] ∧ Chg No w w' ∧ RefM w' (fun b => S b ∨ w.heap.size ≤ b) x L'

set_option maxRecDepth 100000 in
set_option maxHeartbeats 2000000 in
theorem Set15_any (mv : Value) (S : Nat → Prop) (L : List O) (w : World) (hv : RefM w S mv L) (hok : OkL L) (hL : L.length < 1073741823) (o i x : Int) (o64 : In64 o) (x64 : In64 x) :
    Calls Try.prog 100 #[mv, .int .i64 o, .int .i64 i, .int .i64 x] w (Ret (Went w S (setL L o i x) (setE L o i x))) := by
  obtain ⟨lv, rfl, hl⟩ := hv
  obtain ⟨A, cp, rfl, -⟩ := hl.form
  have hold : RefM w (fun b => S b ∧ b < w.heap.size) (.agg #[.slice A L.length cp]) L := RefM.more (S' := fun b => S b ∧ b < w.heap.size) ⟨_, rfl, hl⟩ (fun b h1 h2 => ⟨h2, h1⟩)
  have HV := Lib.hid hold
  have HOK := Lib.hid hok
  have HNL := Lib.hid hL
  clear hl hok hL hold
  generalize hn : L.length = n at *
  obtain ⟨W, hW⟩ : ∃ W, (w.alloc (.cells #[.slice A n cp] 33)).alloc (.cells #[.slice none 0 0] 33) = W := ⟨_, rfl⟩
  have cW : Chg No w W := by rw [← hW]; exact ((Chg.refl _ _).alloc _).alloc _
  have rA : Row W w.heap.size 33 #[.slice A n cp] := by rw [← hW]; exact (Row.new w _ _).alloc _
  have rB : Row W (w.heap.size + 1) 33 #[.slice none 0 0] := by rw [← hW]; exact Row.new2' w _ _ _
  have sW : w.heap.size + 2 ≤ W.heap.size := by have := rB.lt; omega
  have HA := Lib.hid (And.intro cW (And.intro rA (And.intro rB sW)))
  have HW := Lib.hid hW
  clear hW cW rA rB sW
  go_enter Try.func100, Try.ntmps100
  go_wp2_with (first
    | (go_at_call 66
       have HZ := HW.out
       clear HW
       rw [HZ]
       refine (step10_4 _ _ L W (HV.out.keep HA.out.1 (fun _ _ f => f)) (by rw [hn]; exact HNL.out) HOK.out o i x o64 x64).mono ?_
       rintro e w1 ⟨r1, rfl, m', t', rfl, ⟨lx, rfl, hlx⟩, ⟨wv, bv, rfl, hI, hB, -, -⟩, c1⟩
       obtain ⟨A5, k5, rfl, -⟩ := hlx.form
       obtain ⟨A6, c6, rfl, -⟩ := hI.form
       obtain ⟨A7, c7, rfl, -⟩ := hB.form
       simp only [TD.cells, O.zero, List.length_nil]
       clear hI hB
       generalize (setL L o i x).length = n5 at *
       obtain ⟨W6, h6⟩ : ∃ W6, (w1.alloc (.cells #[.slice A5 n5 k5] 33)).alloc (.cells #[.int .i64 0, .int .i64 0, .int .i64 0, .slice A6 0 c6, .slice A7 0 c7, .bool false, .int .i64 (setE L o i x)] 102) = W6 := ⟨_, rfl⟩
       have c16 : Chg No w1 W6 := by rw [← h6]; exact ((Chg.refl _ _).alloc _).alloc _
       have r5 : Row W6 w1.heap.size 33 #[.slice A5 n5 k5] := by rw [← h6]; exact (Row.new w1 _ _).alloc _
       have r6 : Row W6 (w1.heap.size + 1) 102 #[.int .i64 0, .int .i64 0, .int .i64 0, .slice A6 0 c6, .slice A7 0 c7, .bool false, .int .i64 (setE L o i x)] := by
         rw [← h6]
         exact Row.new2' w1 _ _ _
       have s1 := c1.size
       have sW := HA.out.2.2.2
       have rB := HA.out.2.2.1.keep (c1.trans c16) (fun f => f)
       have xB : W6.cell? ⟨w.heap.size + 1, 0, none⟩ = some (.slice none 0 0) := rB.cell 0
       have yB := rB.frozen 0
       have zB := (rB.set 0 (.slice A5 n5 k5)).cell 0
       have z6 : ∀ v, Chg (fun b => b = w.heap.size + 1) W6 v → v.cell? ⟨w1.heap.size, 0, none⟩ = some (.slice A5 n5 k5) ∧ v.cell? ⟨w1.heap.size + 1, 6, none⟩ = some (.int .i64 (setE L o i x)) := fun v hv => ⟨(r5.keep hv (by omega)).cell 0, (r6.keep hv (by omega)).cell 6⟩
       have H6 := Lib.hid h6
       have HC := Lib.hid (And.intro (HA.out.1.trans (c1.trans c16)) (And.intro (hlx.keep c16 (fun _ _ f => f)) (show w.heap.size + 2 ≤ W.heap.size from sW)))
       clear h6 r5 r6 c16 c1 hlx rB HZ)
    | (rw [H6.out]))
  go_region_held3 (fun w' => Chg (fun b => b = w.heap.size + 1) W6 w') (repeat (with_reducible first | assumption | exact Chg.refl _ _ | refine Chg.drew ?_ | refine Chg.setCell ?_ (Or.inl (by simp)) _)) (fail)
  all_goals
    go_wp2_with fail
    refine bodyPost_ret (v := .tuple #[.agg #[.slice A5 n5 k5], .int .i64 (setE L o i x)]) (by simp [results, Try.results100, go_sem, xB]) rfl (Ret.mk ⟨_, rfl, ?_⟩)
    refine made_end (S := S) ⟨_, rfl, HC.out.2.1⟩ (fun b h => h.elim .inl (fun h => .inr (Nat.le_trans HC.out.2.2 h))) HC.out.1 ?_
    repeat (with_reducible first | assumption | exact Chg.refl _ _ | refine Chg.drew ?_ | refine Chg.setCell ?_ (Or.inl (by simp)) _)

set_option maxRecDepth 100000 in
set_option maxHeartbeats 2000000 in
theorem SetNum15_any (mv : Value) (S : Nat → Prop) (L : List O) (w : World) (hv : RefM w S mv L) (hok : OkL L) (hL : L.length < 1073741823) (f i q : Int) (f64 : In64 f) (q64 : In64 q) :
    Calls Try.prog 102 #[mv, .int .i64 f, .int .i64 i, .int .i64 q] w (Ret (Went w S (setNumL L f i q) (setNumE L f i q))) := by
  obtain ⟨lv, rfl, hl⟩ := hv
  have HS := fun w => Small01_any q q64 w
  have v64 := smallV64 q
  unfold setNumL setNumE
  by_cases h0 : smallE q = 0
  · rw [if_pos h0, if_pos h0]
    rw [h0] at HS
    generalize smallV q = v at *
    clear h0
    obtain ⟨A, cp, rfl, -⟩ := hl.form
    have hold : RefM w (fun b => S b ∧ b < w.heap.size) (.agg #[.slice A L.length cp]) L := RefM.more (S' := fun b => S b ∧ b < w.heap.size) ⟨_, rfl, hl⟩ (fun b h1 h2 => ⟨h2, h1⟩)
    have HV := Lib.hid hold
    have HOK := Lib.hid hok
    have HNL := Lib.hid hL
    clear hl hok hL hold
    generalize hn : L.length = n at *
    obtain ⟨W, hW⟩ : ∃ W, (w.alloc (.cells #[.slice A n cp] 33)).alloc (.cells #[.slice none 0 0] 33) = W := ⟨_, rfl⟩
    have cW : Chg No w W := by rw [← hW]; exact ((Chg.refl _ _).alloc _).alloc _
    have rA : Row W w.heap.size 33 #[.slice A n cp] := by rw [← hW]; exact (Row.new w _ _).alloc _
    have rB : Row W (w.heap.size + 1) 33 #[.slice none 0 0] := by rw [← hW]; exact Row.new2' w _ _ _
    have sW : w.heap.size + 2 ≤ W.heap.size := by have := rB.lt; omega
    have HA := Lib.hid (And.intro cW (And.intro rA (And.intro rB sW)))
    have HW := Lib.hid hW
    clear hW cW rA rB sW
    go_enter Try.func102, Try.ntmps102
    go_wp2_with (first
      | (go_at_call 107; refine (HS _).mono ?_; rintro e w' ⟨rfl, rfl⟩)
      | (go_at_call 100
         have HZ := HW.out
         clear HW
         rw [HZ]
         refine (Set15_any _ _ L W (HV.out.keep HA.out.1 (fun _ _ f => f)) HOK.out (by rw [hn]; exact HNL.out) f i v f64 v64).mono ?_
         rintro e w2 ⟨r1, rfl, x, rfl, c2, ⟨lx, rfl, hlx⟩⟩
         obtain ⟨A5, k5, rfl, -⟩ := hlx.form
         generalize (setL L f i v).length = n5 at *
         have rB2 := HA.out.2.2.1.keep c2 (fun f => f)
         have xB2 : w2.cell? ⟨w.heap.size + 1, 0, none⟩ = some (.slice none 0 0) := rB2.cell 0
         have yB2 := rB2.frozen 0
         have zB2 := (rB2.set 0 (.slice A5 n5 k5)).cell 0
         have H2 := Lib.hid (And.intro (HA.out.1.trans c2) (And.intro hlx HA.out.2.2.2))
         clear c2 rB2 hlx HZ)
      | fail)
    refine bodyPost_ret (v := .tuple #[.agg #[.slice A5 n5 k5], .int .i64 (setE L f i v)]) (by simp [results, Try.results102, go_sem, zB2]; try exact zB2) rfl (Ret.mk ⟨_, rfl, ?_⟩)
    exact made_end (S := S) ⟨_, rfl, H2.out.2.1⟩ (fun b h => h.elim .inl (fun h => .inr (Nat.le_trans H2.out.2.2 h))) H2.out.1 ((Chg.refl _ _).setCell (.inl (by simp)) _)
  · rw [if_neg h0, if_neg h0]
    generalize smallE q = qe at *
    have t0 : (qe != 0) = true := by simpa using h0
    clear h0
    obtain ⟨A, cp, rfl, -⟩ := hl.form
    have hold : RefM w (fun b => S b ∧ b < w.heap.size) (.agg #[.slice A L.length cp]) L := RefM.more (S' := fun b => S b ∧ b < w.heap.size) ⟨_, rfl, hl⟩ (fun b h1 h2 => ⟨h2, h1⟩)
    have HV := Lib.hid hold
    have HOK := Lib.hid hok
    have HNL := Lib.hid hL
    clear hl hok hL hold
    generalize hn : L.length = n at *
    obtain ⟨W, hW⟩ : ∃ W, (w.alloc (.cells #[.slice A n cp] 33)).alloc (.cells #[.slice none 0 0] 33) = W := ⟨_, rfl⟩
    have cW : Chg No w W := by rw [← hW]; exact ((Chg.refl _ _).alloc _).alloc _
    have rA : Row W w.heap.size 33 #[.slice A n cp] := by rw [← hW]; exact (Row.new w _ _).alloc _
    have rB : Row W (w.heap.size + 1) 33 #[.slice none 0 0] := by rw [← hW]; exact Row.new2' w _ _ _
    have sW : w.heap.size + 2 ≤ W.heap.size := by have := rB.lt; omega
    have HA := Lib.hid (And.intro cW (And.intro rA (And.intro rB sW)))
    have HW := Lib.hid hW
    clear hW cW rA rB sW
    have xA : W.cell? ⟨w.heap.size, 0, none⟩ = some (.slice A n cp) := HA.out.2.1.cell 0
    have xB : W.cell? ⟨w.heap.size + 1, 0, none⟩ = some (.slice none 0 0) := HA.out.2.2.1.cell 0
    have yB := HA.out.2.2.1.frozen 0
    have zB := (HA.out.2.2.1.set 0 (.slice A n cp)).cell 0
    go_enter Try.func102, Try.ntmps102
    go_wp2_with (first
      | (go_at_call 107; rw [HW.out]; refine (HS _).mono ?_; rintro e w' ⟨rfl, rfl⟩)
      | fail)
    refine bodyPost_ret (v := .tuple #[.agg #[.slice A n cp], .int .i64 qe]) (by simp [results, Try.results102, go_sem, zB]; try exact zB) rfl (Ret.mk ⟨_, rfl, ?_⟩)
    exact made_end (S := S) (HV.out.keep HA.out.1 (fun _ _ f => f)) (fun b h => .inl h) HA.out.1 ((Chg.refl _ _).setCell (.inl (by simp)) _)

set_option maxRecDepth 100000 in
set_option maxHeartbeats 2000000 in
theorem Num15_any (mv : Value) (S : Nat → Prop) (L : List O) (w : World) (hv : RefM w S mv L) (hok : OkL L) (f i : Int) (f64 : In64 f) :
    Calls Try.prog 101 #[mv, .int .i64 f, .int .i64 i] w fun e w' => e = .returned (.tuple #[.int .i64 (numR L f i).1, .int .i64 (numR L f i).2]) ∧ Chg No w w' := by
  have HV := Lib.hid hv
  obtain ⟨lv, rfl, hl⟩ := hv
  obtain ⟨A, c, rfl, hm⟩ := hl.form
  clear hl
  have cA : Chg No w (w.alloc (.cells #[.slice A L.length c] 33)) := (Chg.refl _ _).alloc _
  have HA := Lib.hid cA
  have HOK := Lib.hid hok
  have h64 := fetch64 hok f i
  clear cA hok
  generalize L.length = n at *
  obtain ⟨p, hp⟩ : ∃ p, placeE L f 1 i = p := ⟨_, rfl⟩
  obtain ⟨v, hv⟩ : ∃ v, fetchV L f i = v := ⟨_, rfl⟩
  rw [hv] at h64
  unfold numR
  rw [hp, hv]
  have HPF := Lib.hid (And.intro hp hv)
  clear hp hv
  have HN := fun w => Number01_any v h64 w
  by_cases hp0 : p = 0
  · subst hp0
    rw [if_pos rfl]
    cases hn : numOk v
    · rw [hn] at HN
      rw [if_neg (by simp)]
      clear hn
      go_enter Try.func101, Try.ntmps101
      go_wp2_with (first
        | (go_at_call 60; refine (Fetch14_any _ S L _ (HV.out.keep HA.out (fun _ _ f => f)) HOK.out f i f64).mono ?_; rw [HPF.out.1, HPF.out.2]; rintro e w1 ⟨rfl, c1⟩)
        | (go_at_call 59; refine (HN _).mono ?_; rintro e w' ⟨rfl, rfl⟩)
        | fail)
      go_ret2
      exact ⟨rfl, HA.out.trans c1⟩
    · rw [hn] at HN
      rw [if_pos rfl]
      clear hn
      go_enter Try.func101, Try.ntmps101
      go_wp2_with (first
        | (go_at_call 60; refine (Fetch14_any _ S L _ (HV.out.keep HA.out (fun _ _ f => f)) HOK.out f i f64).mono ?_; rw [HPF.out.1, HPF.out.2]; rintro e w1 ⟨rfl, c1⟩)
        | (go_at_call 59; refine (HN _).mono ?_; rintro e w' ⟨rfl, rfl⟩)
        | fail)
      go_ret2
      exact ⟨rfl, HA.out.trans c1⟩
  · rw [if_neg hp0]
    have t0 : (p != 0) = true := by simpa using hp0
    clear hp0
    go_enter Try.func101, Try.ntmps101
    go_wp2_with (first
      | (go_at_call 60; refine (Fetch14_any _ S L _ (HV.out.keep HA.out (fun _ _ f => f)) HOK.out f i f64).mono ?_; rw [HPF.out.1, HPF.out.2]; rintro e w1 ⟨rfl, c1⟩)
      | fail)
    go_ret2
    exact ⟨rfl, HA.out.trans c1⟩


theorem pushR_append (f : Int) : ∀ (a : List Int) (L : List O) (b : List Int), pushR f L (a ++ b) = if (pushR f L a).2 = 0 then pushR f (pushR f L a).1 b else pushR f L a
  | [], L, b => by rw [List.nil_append, pushR, if_pos rfl]
  | v :: r, L, b => by
    rw [List.cons_append, pushR, pushR]
    by_cases h : push1E L f v = 0
    · rw [if_pos h, if_pos h, pushR_append f r]
    · rw [if_neg h, if_neg h, if_neg h]
theorem nilsR_eq (f : Int) : ∀ (k : Nat) (L : List O), nilsR f k L = pushR f L (List.replicate k 2)
  | 0, L => by rw [nilsR, List.replicate_zero, pushR]
  | k + 1, L => by rw [nilsR, nilsR_eq f k, show List.replicate (k + 1) (2 : Int) = [2] ++ List.replicate k 2 from rfl, pushR_append]
theorem fillR_eq (f : Int) (L : List O) (args : List Int) (k : Nat) : fillR f L args k = pushR f L (args ++ List.replicate k 2) := by
  rw [pushR_append, fillR, nilsR_eq]
/-- all that Enter pushes -/
def fillL (args : List Int) (t : Nat) : List Int := args ++ List.replicate (t - args.length) 2
theorem fillL_len {args : List Int} {t : Nat} (h : args.length ≤ t) : (fillL args t).length = t := by
  unfold fillL
  rw [List.length_append, List.length_replicate]
  omega
theorem fillL_lo {args : List Int} {t i : Nat} (h : i < args.length) : (fillL args t)[i]?.getD 0 = args[i]?.getD 0 := by
  unfold fillL
  rw [List.getElem?_append_left h]
theorem fillL_hi {args : List Int} {t i : Nat} (h : args.length ≤ i) (ht : i < t) : (fillL args t)[i]?.getD 0 = 2 := by
  unfold fillL
  rw [List.getElem?_append_right h, List.getElem?_replicate, if_pos (by omega)]
  rfl
theorem readM_le (L : List O) (o : Int) (h : (readM L o).e = 0) : (readM L o).a ≤ (readM L o).t := by
  unfold readM at h ⊢
  split
  · exact Int.le_refl _
  split
  · exact Int.le_refl _
  split
  · exact Int.le_refl _
  split
  · exact Int.le_refl _
  · rename_i h4
    simp only at h4 ⊢
    simp [headOk, rightB] at h4
    omega
theorem OkL.setNumL {L : List O} (h : OkL L) (f i n : Int) : OkL (setNumL L f i n) := by
  unfold Proofs.Ytjanojignaonfaa.setNumL
  split
  · exact h.setL _ _ _
  · exact h
theorem length_setNumL (L : List O) (f i n : Int) : (setNumL L f i n).length = L.length := by
  unfold setNumL
  split
  · exact length_setL _ _ _ _
  · rfl
theorem OkL.push1L {L : List O} (h : OkL L) (f v : Int) : OkL (push1L L f v) := by
  unfold Proofs.Ytjanojignaonfaa.push1L
  split
  · split
    · exact (h.setL _ _ _).setNumL _ _ _
    · exact h.setL _ _ _
  · exact h
theorem length_push1L (L : List O) (f v : Int) : (push1L L f v).length = L.length := by
  unfold push1L
  split
  · split
    · rw [length_setNumL, length_setL]
    · exact length_setL _ _ _ _
  · rfl
theorem OkL.setsR {f : Int} : ∀ (l : List Int) (i : Int) (L : List O) (e : Int), OkL L → OkL (setsR f i L e l).1 ∧ (setsR f i L e l).1.length = L.length
  | [], i, L, e, h => ⟨h, rfl⟩
  | v :: r, i, L, e, h => by
    rw [Proofs.Ytjanojignaonfaa.setsR]
    split
    · obtain ⟨h1, h2⟩ := OkL.setsR (f := f) r (i + 1) (Proofs.Ytjanojignaonfaa.setL L f i v) (setE L f i v) (h.setL _ _ _)
      exact ⟨h1, h2.trans (length_setL _ _ _ _)⟩
    · exact OkL.setsR (f := f) r (i + 1) L e h
theorem OkL.madeL {L : List O} (h : OkL L) (sp : Int) (l : List Int) : OkL (madeL L sp l) ∧ (madeL L sp l).length ≤ L.length + 1 := by
  unfold Proofs.Ytjanojignaonfaa.madeL
  split
  · unfold madeS
    obtain ⟨h1, h2⟩ := OkL.setsR (f := newN L (fetchV L 8 sp) 1 32) l 0 (Proofs.Ytjanojignaonfaa.newL L (fetchV L 8 sp) 1 32) (newE (fetchV L 8 sp) 1 32) (h.newL _ _ _)
    exact ⟨h1, by rw [h2]; exact newL_len _ _ _ _⟩
  · exact ⟨h, by omega⟩

end Go.Proofs.Ytjanojignaonfaa
