/- The document on methods (websterref14): Read. -/
import Derived.Test.YtifcigjminbllaaGreatDoorRef14
import Derived.Test.YtifcigjminbllaaGreatDoorKitC
namespace Go.Proofs.YtifcigjminbllaaGreatDoor
set_option linter.unusedVariables false
set_option linter.unusedSimpArgs false
open Go.RowKit

theorem Row.new2' (w : World) (o : Obj) (t : TypeId) (cs : Array Value) : Row ((w.alloc o).alloc (.cells cs t)) (w.heap.size + 1) t cs := by
  have h := Row.new (w.alloc o) t cs
  rwa [show (w.alloc o).heap.size = w.heap.size + 1 by simp] at h
theorem zeros5 (w : World) (t : TypeId) : Row (w.alloc (.cells #[.int .i64 0, .int .i64 0, .int .i64 0, .int .i64 0, .int .i64 0] t)) w.heap.size t #[.int .i64 0, .int .i64 0, .int .i64 0, .int .i64 0, .int .i64 0] := Row.new w t _
theorem head_right {N : Int} (h : 0 ≤ N) : rightB (N % 16) (N / 16 % 32) (N / 512 % 1024) = (decide (N % 16 ≤ N / 16 % 32) && decide (N / 16 % 32 ≤ 20)) := by
  unfold rightB
  have h1 : 0 ≤ N % 16 ∧ N % 16 < 16 := by omega
  have h2 : 0 ≤ N / 512 % 1024 ∧ N / 512 % 1024 < 1024 := by omega
  simp [h1.1, h1.2, h2.1, h2.2]
theorem ObjR.ints {w : World} {S : Nat → Prop} {A : Option Addr} {B : Option Addr} {n d m e : Nat} {c k : Int} {x : O} (h : ObjR w S (.agg #[.int .i64 c, .int .i64 k, .slice A n d, .slice B m e]) x) : IntS w S (.slice A n d) x.W := by
  obtain ⟨wv, bv, ea, hI, -⟩ := h
  have e2 : wv = .slice A n d := by
    have := congrArg (fun u => match u with | Value.agg xs => xs[2]?.getD (Value.bool false) | _ => Value.bool false) ea
    simpa [cells2] using this.symm
  rw [e2] at hI
  exact hI
theorem IntS.lay' {w : World} {S : Nat → Prop} {b off n c : Nat} {l : List Int} (h : IntS w S (.slice (some ⟨b, off, none⟩) n c) l) {i : Nat} (hi : i < l.length) : w.cell? ⟨b, off + i, none⟩ = some (.int .i64 (l[i]?.getD 0)) ∧ In64 (l[i]?.getD 0) := by
  obtain ⟨A', c', eA, -, -, -, hat⟩ := h.form
  obtain ⟨b', off', e, -, -, y, z⟩ := hat i hi
  obtain ⟨rfl, -, -⟩ := Value.slice.inj eA
  obtain ⟨rfl, rfl⟩ : b = b' ∧ off = off' := by simpa using Option.some.inj e
  exact ⟨y, z⟩
theorem IntS.some' {w : World} {S : Nat → Prop} {A : Option Addr} {n c : Nat} {l : List Int} (h : IntS w S (.slice A n c) l) (hl : 0 < l.length) : ∃ b off, A = some ⟨b, off, none⟩ := by
  obtain ⟨A', c', eA, -, -, -, hat⟩ := h.form
  obtain ⟨b', off', e, -⟩ := hat 0 hl
  obtain ⟨rfl, -, -⟩ := Value.slice.inj eA
  exact ⟨b', off', e⟩
theorem IntS.blk {w : World} {S : Nat → Prop} {b off n c : Nat} {l : List Int} (h : IntS w S (.slice (some ⟨b, off, none⟩) n c) l) (hl : 0 < l.length) : b < w.heap.size ∧ S b := by
  obtain ⟨A', c', eA, -, -, -, hat⟩ := h.form
  obtain ⟨b', off', e, h1, h2, -⟩ := hat 0 hl
  obtain ⟨rfl, -, -⟩ := Value.slice.inj eA
  obtain ⟨rfl, rfl⟩ : b = b' ∧ off = off' := by simpa using Option.some.inj e
  exact ⟨h2, h1⟩
set_option maxRecDepth 100000 in
set_option maxHeartbeats 4000000 in
theorem Read14_any (mv : Value) (S : Nat → Prop) (L : List O) (w : World) (hv : RefM w S mv L) (hok : ∀ i, (ob L i).kind ≠ 0 → (ob L i).ok) (o : Int) (o64 : In64 o) :
    Calls Tryz.prog 37 #[mv, .int .i64 o] w fun e w' => e = .returned (.tuple #[.agg (readM L o).cells, .int .i64 (readM L o).e]) ∧ Chg No w w' := by
  obtain ⟨lv, rfl, hl⟩ := hv
  obtain ⟨A, cp, rfl, -⟩ := hl.form
  have hold : RefM w (fun b => S b ∧ b < w.heap.size) (.agg #[.slice A L.length cp]) L := RefM.more (S' := fun b => S b ∧ b < w.heap.size) ⟨_, rfl, hl⟩ (fun b h1 h2 => ⟨h2, h1⟩)
  have HV := Lib.hid hold
  clear hl hold
  obtain ⟨W, hW⟩ : ∃ W, (w.alloc (.cells #[.slice A L.length cp] 71)).alloc (.cells #[.int .i64 0, .int .i64 0, .int .i64 0, .int .i64 0, .int .i64 0] 74) = W := ⟨_, rfl⟩
  have cW : Chg No w W := by rw [← hW]; exact ((Chg.refl _ _).alloc _).alloc _
  have rB : Row W (w.heap.size + 1) 74 #[.int .i64 0, .int .i64 0, .int .i64 0, .int .i64 0, .int .i64 0] := by rw [← hW]; exact Row.new2' w _ _ _
  have sW : w.heap.size + 2 ≤ W.heap.size := by have := rB.lt; omega
  have HA := Lib.hid (And.intro cW (And.intro rB sW))
  have HW := Lib.hid hW
  clear hW cW rB sW
  obtain ⟨x, hx⟩ : ∃ x, objV L o = x := ⟨_, rfl⟩
  obtain ⟨oe, hoe⟩ : ∃ oe, objE L o = oe := ⟨_, rfl⟩
  have HX := Lib.hid (And.intro hoe hx)
  have hxk : oe = 0 → x.ok := fun h0 => by
    rw [h0] at hoe
    unfold objE at hoe
    unfold objV at hx
    cases hfd : fnd L o with
    | none => rw [hfd] at hoe; cases hoe
    | some i =>
      rw [hfd] at hx
      rw [← hx]
      exact hok i (fnd_some hfd).2.1
  clear hok
  by_cases h0 : oe = 0
  · subst h0
    have hxo := hxk rfl
    clear hxk
    by_cases hk : x.kind = 1
    · have t1 : (x.kind != 1) = false := by simp [hk]
      by_cases hl2 : x.W.length < 2
      · have hr : readM L o = ⟨0, 0, 0, 0, 0, 2⟩ := by unfold readM; rw [hoe, hx, if_neg (by simp), if_neg (by simp [hk]), if_pos hl2]
        have t2 : decide ((x.W.length : Int) < 2) = true := decide_eq_true (by omega)
        rw [hr]
        clear hr hoe hx hk hxo
        generalize L.length = n at *
        go_enter Tryz.func37, Tryz.ntmps37
        go_wp2_with (first
          | (go_at_call 38
             have HZ := HW.out
             clear HW
             rw [HZ]
             refine (Get14_any _ _ L W (HV.out.keep HA.out.1 (fun _ _ f => f)) o o64).mono ?_
             rw [HX.out.1, HX.out.2]
             rintro e w1 ⟨r, rfl, xv, rfl, hxr, c1⟩
             obtain ⟨A1, d1, B1, d2, rfl⟩ := hxr.shape
             obtain ⟨W6, h6⟩ : ∃ W6, w1.alloc (.cells #[.int .i64 x.cls, .int .i64 x.kind, .slice A1 x.W.length d1, .slice B1 x.B.length d2] 50) = W6 := ⟨_, rfl⟩
             have c16 : Chg No w1 W6 := by rw [← h6]; exact (Chg.refl _ _).alloc _
             have rO : Row W6 w1.heap.size 50 #[.int .i64 x.cls, .int .i64 x.kind, .slice A1 x.W.length d1, .slice B1 x.B.length d2] := by rw [← h6]; exact Row.new w1 _ _
             have xO := rO.four
             have rR := HA.out.2.1.keep (c1.trans c16) (fun f => f)
             have xR := rR.five
             have s1 := c1.size
             have sW := HA.out.2.2
             have H6 := Lib.hid h6
             have HG := Lib.hid (HA.out.1.trans (c1.trans c16))
             clear c1 c16 rO rR hxr HZ h6)
          | (rw [H6.out]))
        refine bodyPost_ret (v := .tuple #[.agg #[.int .i64 0, .int .i64 0, .int .i64 0, .int .i64 0, .int .i64 0], .int .i64 2]) (by simp [results, Tryz.results37, go_sem, xR]) rfl ⟨rfl, ?_⟩
        repeat (with_reducible first | exact HG.out | refine Chg.setCell ?_ (.inr (by dsimp only; omega)) _ | refine Chg.drew ?_)
      · have t2 : decide ((x.W.length : Int) < 2) = false := decide_eq_false (by omega)
        obtain ⟨hd, hhd⟩ : ∃ hd, x.W[0]?.getD 0 = hd := ⟨_, rfl⟩
        obtain ⟨cd, hcd⟩ : ∃ cd, x.W[1]?.getD 0 = cd := ⟨_, rfl⟩
        have HD := Lib.hid (And.intro hhd hcd)
        have hd64 : In64 hd := by
          rw [← hhd, List.getElem?_eq_getElem (by omega)]
          exact ref64 (hxo.2.2.2.2.1 _ (List.getElem_mem _))
        have hlW := hxo.2.2.1
        have hr : readM L o = if headOk hd = false then ⟨0, 0, 0, 0, 0, 2⟩ else ⟨numV hd % 16, numV hd / 16 % 32, numV hd / 512 % 1024, cd, (x.W.length : Int) - 2, 0⟩ := by unfold readM; rw [hoe, hx, if_neg (by simp), if_neg (by simp [hk]), if_neg hl2, hhd, hcd]
        have HN := fun w => Number01_any hd hd64 w
        have hnb := numV_bd hd
        have hho : headOk hd = (numOk hd && decide (0 ≤ numV hd) && rightB (numV hd % 16) (numV hd / 16 % 32) (numV hd / 512 % 1024)) := rfl
        have wl : IntKind.i64.wrap ((x.W.length : Int) - 2) = (x.W.length : Int) - 2 := IntWalk.i64_in _ (by omega)
        have hl1 : (1 : Int) < (x.W.length : Int) := by omega
        have hl0 : (0 : Int) < (x.W.length : Int) := by omega
        rw [hho] at hr
        clear hoe hx hk hxo hhd hcd hho
        generalize numV hd = N at *
        generalize numOk hd = ok at *
        cases ok
        · rw [if_pos (by simp)] at hr
          rw [hr]
          clear hr
          generalize L.length = n at *
          go_enter Tryz.func37, Tryz.ntmps37
          go_wp2_with (first
            | (go_at_call 38
               have HZ := HW.out
               clear HW
               rw [HZ]
               refine (Get14_any _ _ L W (HV.out.keep HA.out.1 (fun _ _ f => f)) o o64).mono ?_
               rw [HX.out.1, HX.out.2]
               rintro e w1 ⟨r, rfl, xv, rfl, hxr, c1⟩
               obtain ⟨A1, d1, B1, d2, rfl⟩ := hxr.shape
               obtain ⟨W6, h6⟩ : ∃ W6, w1.alloc (.cells #[.int .i64 x.cls, .int .i64 x.kind, .slice A1 x.W.length d1, .slice B1 x.B.length d2] 50) = W6 := ⟨_, rfl⟩
               have c16 : Chg No w1 W6 := by rw [← h6]; exact (Chg.refl _ _).alloc _
               have rO : Row W6 w1.heap.size 50 #[.int .i64 x.cls, .int .i64 x.kind, .slice A1 x.W.length d1, .slice B1 x.B.length d2] := by rw [← h6]; exact Row.new w1 _ _
               have xO := rO.four
               have rR := HA.out.2.1.keep (c1.trans c16) (fun f => f)
               have xR := rR.five
               have s1 := c1.size
               have sW := HA.out.2.2
               have hI := (hxr.keep c16 (fun _ _ f => f)).ints
               obtain ⟨b1, off1, rfl⟩ := IntS.some' hI (by omega)
               have y0 := (hI.lay' (i := 0) (by omega)).1
               have y1 := (hI.lay' (i := 1) (by omega)).1
               have y2 := hI.blk (by omega)
               have hn1 : b1 ≠ w.heap.size + 1 := fun e => by rcases y2.2 with h | h <;> omega
               rw [HD.out.1, Nat.add_zero] at y0
               rw [HD.out.2] at y1
               have z6 : ∀ v, Chg (fun b => b = w.heap.size + 1) W6 v → v.cell? ⟨w1.heap.size, 2, none⟩ = some (.slice (some ⟨b1, off1, none⟩) x.W.length d1) ∧ v.cell? ⟨b1, off1 + 1, none⟩ = some (.int .i64 cd) := fun v hv => ⟨(rO.keep hv (by omega)).cell 2, (hv.cell (p := ⟨b1, off1 + 1, none⟩) y2.1 hn1).trans y1⟩
               have H6 := Lib.hid h6
               have HG := Lib.hid (HA.out.1.trans (c1.trans c16))
               clear c1 c16 rO rR hxr HZ h6)
            | (go_at_call 59; refine (HN _).mono ?_; rintro e w' ⟨rfl, rfl⟩)
            | (rw [H6.out]))
          refine bodyPost_ret (v := .tuple #[.agg #[.int .i64 0, .int .i64 0, .int .i64 0, .int .i64 0, .int .i64 0], .int .i64 2]) (by simp [results, Tryz.results37, go_sem, xR]) rfl ⟨rfl, ?_⟩
          repeat (with_reducible first | exact HG.out | refine Chg.setCell ?_ (.inr (by dsimp only; omega)) _ | refine Chg.drew ?_)
        · by_cases hN : N < 0
          · have t3 : decide (N < 0) = true := decide_eq_true hN
            rw [if_pos (by simp; omega)] at hr
            rw [hr]
            clear hr
            generalize L.length = n at *
            go_enter Tryz.func37, Tryz.ntmps37
            go_wp2_with (first
              | (go_at_call 38
                 have HZ := HW.out
                 clear HW
                 rw [HZ]
                 refine (Get14_any _ _ L W (HV.out.keep HA.out.1 (fun _ _ f => f)) o o64).mono ?_
                 rw [HX.out.1, HX.out.2]
                 rintro e w1 ⟨r, rfl, xv, rfl, hxr, c1⟩
                 obtain ⟨A1, d1, B1, d2, rfl⟩ := hxr.shape
                 obtain ⟨W6, h6⟩ : ∃ W6, w1.alloc (.cells #[.int .i64 x.cls, .int .i64 x.kind, .slice A1 x.W.length d1, .slice B1 x.B.length d2] 50) = W6 := ⟨_, rfl⟩
                 have c16 : Chg No w1 W6 := by rw [← h6]; exact (Chg.refl _ _).alloc _
                 have rO : Row W6 w1.heap.size 50 #[.int .i64 x.cls, .int .i64 x.kind, .slice A1 x.W.length d1, .slice B1 x.B.length d2] := by rw [← h6]; exact Row.new w1 _ _
                 have xO := rO.four
                 have rR := HA.out.2.1.keep (c1.trans c16) (fun f => f)
                 have xR := rR.five
                 have s1 := c1.size
                 have sW := HA.out.2.2
                 have hI := (hxr.keep c16 (fun _ _ f => f)).ints
                 obtain ⟨b1, off1, rfl⟩ := IntS.some' hI (by omega)
                 have y0 := (hI.lay' (i := 0) (by omega)).1
                 have y1 := (hI.lay' (i := 1) (by omega)).1
                 have y2 := hI.blk (by omega)
                 have hn1 : b1 ≠ w.heap.size + 1 := fun e => by rcases y2.2 with h | h <;> omega
                 rw [HD.out.1, Nat.add_zero] at y0
                 rw [HD.out.2] at y1
                 have z6 : ∀ v, Chg (fun b => b = w.heap.size + 1) W6 v → v.cell? ⟨w1.heap.size, 2, none⟩ = some (.slice (some ⟨b1, off1, none⟩) x.W.length d1) ∧ v.cell? ⟨b1, off1 + 1, none⟩ = some (.int .i64 cd) := fun v hv => ⟨(rO.keep hv (by omega)).cell 2, (hv.cell (p := ⟨b1, off1 + 1, none⟩) y2.1 hn1).trans y1⟩
                 have H6 := Lib.hid h6
                 have HG := Lib.hid (HA.out.1.trans (c1.trans c16))
                 clear c1 c16 rO rR hxr HZ h6)
              | (go_at_call 59; refine (HN _).mono ?_; rintro e w' ⟨rfl, rfl⟩)
              | (rw [H6.out]))
            refine bodyPost_ret (v := .tuple #[.agg #[.int .i64 0, .int .i64 0, .int .i64 0, .int .i64 0, .int .i64 0], .int .i64 2]) (by simp [results, Tryz.results37, go_sem, xR]) rfl ⟨rfl, ?_⟩
            repeat (with_reducible first | exact HG.out | refine Chg.setCell ?_ (.inr (by dsimp only; omega)) _ | refine Chg.drew ?_)
          · have t3 : decide (N < 0) = false := decide_eq_false hN
            rw [head_right (by omega)] at hr
            have m1 : N.tmod 16 = N % 16 := Int.tmod_eq_emod_of_nonneg (by omega)
            have m2 : N.tdiv 16 = N / 16 := Int.tdiv_eq_ediv_of_nonneg (by omega)
            have m3 : (N / 16).tmod 32 = N / 16 % 32 := Int.tmod_eq_emod_of_nonneg (by omega)
            have m4 : N.tdiv 512 = N / 512 := Int.tdiv_eq_ediv_of_nonneg (by omega)
            have m5 : (N / 512).tmod 1024 = N / 512 % 1024 := Int.tmod_eq_emod_of_nonneg (by omega)
            have u1 : IntKind.i64.wrap (N % 16) = N % 16 := IntWalk.i64_in _ (by omega)
            have u2 : IntKind.i64.wrap (N / 16) = N / 16 := IntWalk.i64_in _ (by omega)
            have u3 : IntKind.i64.wrap (N / 16 % 32) = N / 16 % 32 := IntWalk.i64_in _ (by omega)
            have u4 : IntKind.i64.wrap (N / 512) = N / 512 := IntWalk.i64_in _ (by omega)
            have u5 : IntKind.i64.wrap (N / 512 % 1024) = N / 512 % 1024 := IntWalk.i64_in _ (by omega)
            obtain ⟨na, hna⟩ : ∃ na, N % 16 = na := ⟨_, rfl⟩
            obtain ⟨nt, hnt⟩ : ∃ nt, N / 16 % 32 = nt := ⟨_, rfl⟩
            obtain ⟨np, hnp⟩ : ∃ np, N / 512 % 1024 = np := ⟨_, rfl⟩
            rw [hna, hnt, hnp] at hr
            rw [hna] at m1 u1
            rw [hnt] at m3 u3
            rw [hnp] at m5 u5
            clear hna hnt hnp
            by_cases ha : nt < na
            · have t4 : decide (nt < na) = true := decide_eq_true ha
              rw [if_pos (by simp; omega)] at hr
              rw [hr]
              clear hr
              generalize L.length = n at *
              go_enter Tryz.func37, Tryz.ntmps37
              go_wp2_with (first
                | (go_at_call 38
                   have HZ := HW.out
                   clear HW
                   rw [HZ]
                   refine (Get14_any _ _ L W (HV.out.keep HA.out.1 (fun _ _ f => f)) o o64).mono ?_
                   rw [HX.out.1, HX.out.2]
                   rintro e w1 ⟨r, rfl, xv, rfl, hxr, c1⟩
                   obtain ⟨A1, d1, B1, d2, rfl⟩ := hxr.shape
                   obtain ⟨W6, h6⟩ : ∃ W6, w1.alloc (.cells #[.int .i64 x.cls, .int .i64 x.kind, .slice A1 x.W.length d1, .slice B1 x.B.length d2] 50) = W6 := ⟨_, rfl⟩
                   have c16 : Chg No w1 W6 := by rw [← h6]; exact (Chg.refl _ _).alloc _
                   have rO : Row W6 w1.heap.size 50 #[.int .i64 x.cls, .int .i64 x.kind, .slice A1 x.W.length d1, .slice B1 x.B.length d2] := by rw [← h6]; exact Row.new w1 _ _
                   have xO := rO.four
                   have rR := HA.out.2.1.keep (c1.trans c16) (fun f => f)
                   have xR := rR.five
                   have s1 := c1.size
                   have sW := HA.out.2.2
                   have hI := (hxr.keep c16 (fun _ _ f => f)).ints
                   obtain ⟨b1, off1, rfl⟩ := IntS.some' hI (by omega)
                   have y0 := (hI.lay' (i := 0) (by omega)).1
                   have y1 := (hI.lay' (i := 1) (by omega)).1
                   have y2 := hI.blk (by omega)
                   have hn1 : b1 ≠ w.heap.size + 1 := fun e => by rcases y2.2 with h | h <;> omega
                   rw [HD.out.1, Nat.add_zero] at y0
                   rw [HD.out.2] at y1
                   have z6 : ∀ v, Chg (fun b => b = w.heap.size + 1) W6 v → v.cell? ⟨w1.heap.size, 2, none⟩ = some (.slice (some ⟨b1, off1, none⟩) x.W.length d1) ∧ v.cell? ⟨b1, off1 + 1, none⟩ = some (.int .i64 cd) := fun v hv => ⟨(rO.keep hv (by omega)).cell 2, (hv.cell (p := ⟨b1, off1 + 1, none⟩) y2.1 hn1).trans y1⟩
                   have H6 := Lib.hid h6
                   have HG := Lib.hid (HA.out.1.trans (c1.trans c16))
                   clear c1 c16 rO rR hxr HZ h6)
                | (go_at_call 59; refine (HN _).mono ?_; rintro e w' ⟨rfl, rfl⟩)
                | (rw [H6.out]))
              refine bodyPost_ret (v := .tuple #[.agg #[.int .i64 0, .int .i64 0, .int .i64 0, .int .i64 0, .int .i64 0], .int .i64 2]) (by simp [results, Tryz.results37, go_sem, xR]) rfl ⟨rfl, ?_⟩
              repeat (with_reducible first | exact HG.out | refine Chg.setCell ?_ (.inr (by dsimp only; omega)) _ | refine Chg.drew ?_)
            · have t4 : decide (nt < na) = false := decide_eq_false ha
              by_cases hb : 20 < nt
              · have t5 : decide (20 < nt) = true := decide_eq_true hb
                rw [if_pos (by simp; omega)] at hr
                rw [hr]
                clear hr
                generalize L.length = n at *
                go_enter Tryz.func37, Tryz.ntmps37
                go_wp2_with (first
                  | (go_at_call 38
                     have HZ := HW.out
                     clear HW
                     rw [HZ]
                     refine (Get14_any _ _ L W (HV.out.keep HA.out.1 (fun _ _ f => f)) o o64).mono ?_
                     rw [HX.out.1, HX.out.2]
                     rintro e w1 ⟨r, rfl, xv, rfl, hxr, c1⟩
                     obtain ⟨A1, d1, B1, d2, rfl⟩ := hxr.shape
                     obtain ⟨W6, h6⟩ : ∃ W6, w1.alloc (.cells #[.int .i64 x.cls, .int .i64 x.kind, .slice A1 x.W.length d1, .slice B1 x.B.length d2] 50) = W6 := ⟨_, rfl⟩
                     have c16 : Chg No w1 W6 := by rw [← h6]; exact (Chg.refl _ _).alloc _
                     have rO : Row W6 w1.heap.size 50 #[.int .i64 x.cls, .int .i64 x.kind, .slice A1 x.W.length d1, .slice B1 x.B.length d2] := by rw [← h6]; exact Row.new w1 _ _
                     have xO := rO.four
                     have rR := HA.out.2.1.keep (c1.trans c16) (fun f => f)
                     have xR := rR.five
                     have s1 := c1.size
                     have sW := HA.out.2.2
                     have hI := (hxr.keep c16 (fun _ _ f => f)).ints
                     obtain ⟨b1, off1, rfl⟩ := IntS.some' hI (by omega)
                     have y0 := (hI.lay' (i := 0) (by omega)).1
                     have y1 := (hI.lay' (i := 1) (by omega)).1
                     have y2 := hI.blk (by omega)
                     have hn1 : b1 ≠ w.heap.size + 1 := fun e => by rcases y2.2 with h | h <;> omega
                     rw [HD.out.1, Nat.add_zero] at y0
                     rw [HD.out.2] at y1
                     have z6 : ∀ v, Chg (fun b => b = w.heap.size + 1) W6 v → v.cell? ⟨w1.heap.size, 2, none⟩ = some (.slice (some ⟨b1, off1, none⟩) x.W.length d1) ∧ v.cell? ⟨b1, off1 + 1, none⟩ = some (.int .i64 cd) := fun v hv => ⟨(rO.keep hv (by omega)).cell 2, (hv.cell (p := ⟨b1, off1 + 1, none⟩) y2.1 hn1).trans y1⟩
                     have H6 := Lib.hid h6
                     have HG := Lib.hid (HA.out.1.trans (c1.trans c16))
                     clear c1 c16 rO rR hxr HZ h6)
                  | (go_at_call 59; refine (HN _).mono ?_; rintro e w' ⟨rfl, rfl⟩)
                  | (rw [H6.out]))
                refine bodyPost_ret (v := .tuple #[.agg #[.int .i64 0, .int .i64 0, .int .i64 0, .int .i64 0, .int .i64 0], .int .i64 2]) (by simp [results, Tryz.results37, go_sem, xR]) rfl ⟨rfl, ?_⟩
                repeat (with_reducible first | exact HG.out | refine Chg.setCell ?_ (.inr (by dsimp only; omega)) _ | refine Chg.drew ?_)
              · have t5 : decide (20 < nt) = false := decide_eq_false hb
                rw [if_neg (by simp; omega)] at hr
                rw [hr]
                clear hr
                generalize L.length = n at *
                go_enter Tryz.func37, Tryz.ntmps37
                go_wp2_with (first
                  | (go_at_call 38
                     have HZ := HW.out
                     clear HW
                     rw [HZ]
                     refine (Get14_any _ _ L W (HV.out.keep HA.out.1 (fun _ _ f => f)) o o64).mono ?_
                     rw [HX.out.1, HX.out.2]
                     rintro e w1 ⟨r, rfl, xv, rfl, hxr, c1⟩
                     obtain ⟨A1, d1, B1, d2, rfl⟩ := hxr.shape
                     obtain ⟨W6, h6⟩ : ∃ W6, w1.alloc (.cells #[.int .i64 x.cls, .int .i64 x.kind, .slice A1 x.W.length d1, .slice B1 x.B.length d2] 50) = W6 := ⟨_, rfl⟩
                     have c16 : Chg No w1 W6 := by rw [← h6]; exact (Chg.refl _ _).alloc _
                     have rO : Row W6 w1.heap.size 50 #[.int .i64 x.cls, .int .i64 x.kind, .slice A1 x.W.length d1, .slice B1 x.B.length d2] := by rw [← h6]; exact Row.new w1 _ _
                     have xO := rO.four
                     have rR := HA.out.2.1.keep (c1.trans c16) (fun f => f)
                     have xR := rR.five
                     have s1 := c1.size
                     have sW := HA.out.2.2
                     have hI := (hxr.keep c16 (fun _ _ f => f)).ints
                     obtain ⟨b1, off1, rfl⟩ := IntS.some' hI (by omega)
                     have y0 := (hI.lay' (i := 0) (by omega)).1
                     have y1 := (hI.lay' (i := 1) (by omega)).1
                     have y2 := hI.blk (by omega)
                     have hn1 : b1 ≠ w.heap.size + 1 := fun e => by rcases y2.2 with h | h <;> omega
                     rw [HD.out.1, Nat.add_zero] at y0
                     rw [HD.out.2] at y1
                     have z6 : ∀ v, Chg (fun b => b = w.heap.size + 1) W6 v → v.cell? ⟨w1.heap.size, 2, none⟩ = some (.slice (some ⟨b1, off1, none⟩) x.W.length d1) ∧ v.cell? ⟨b1, off1 + 1, none⟩ = some (.int .i64 cd) := fun v hv => ⟨(rO.keep hv (by omega)).cell 2, (hv.cell (p := ⟨b1, off1 + 1, none⟩) y2.1 hn1).trans y1⟩
                     have H6 := Lib.hid h6
                     have HG := Lib.hid (HA.out.1.trans (c1.trans c16))
                     clear c1 c16 rO rR hxr HZ h6)
                  | (go_at_call 59; refine (HN _).mono ?_; rintro e w' ⟨rfl, rfl⟩)
                  | (rw [H6.out]))
                go_region_held3 (fun w' => Chg (fun b => b = w.heap.size + 1) W6 w') (repeat (with_reducible first | assumption | exact Chg.refl _ _ | refine Chg.drew ?_ | refine Chg.setCell ?_ (Or.inl (by simp)) _)) (fail)
                all_goals
                  go_wp2_with fail
                  refine bodyPost_ret (v := .tuple #[.agg #[.int .i64 na, .int .i64 nt, .int .i64 np, .int .i64 cd, .int .i64 ((x.W.length : Int) - 2)], .int .i64 0]) (by simp [results, Tryz.results37, go_sem, xR]) rfl ⟨rfl, ?_⟩
                  repeat (with_reducible first | exact HG.out | refine Chg.setCell ?_ (.inr (by dsimp only; omega)) _ | refine Chg.drew ?_)
    · have hr : readM L o = ⟨0, 0, 0, 0, 0, 20⟩ := by unfold readM; rw [hoe, hx, if_neg (by simp), if_pos hk]
      have t1 : (x.kind != 1) = true := by simpa using hk
      rw [hr]
      clear hr hoe hx hk hxo
      generalize L.length = n at *
      go_enter Tryz.func37, Tryz.ntmps37
      go_wp2_with (first
        | (go_at_call 38
           have HZ := HW.out
           clear HW
           rw [HZ]
           refine (Get14_any _ _ L W (HV.out.keep HA.out.1 (fun _ _ f => f)) o o64).mono ?_
           rw [HX.out.1, HX.out.2]
           rintro e w1 ⟨r, rfl, xv, rfl, hxr, c1⟩
           obtain ⟨A1, d1, B1, d2, rfl⟩ := hxr.shape
           obtain ⟨W6, h6⟩ : ∃ W6, w1.alloc (.cells #[.int .i64 x.cls, .int .i64 x.kind, .slice A1 x.W.length d1, .slice B1 x.B.length d2] 50) = W6 := ⟨_, rfl⟩
           have c16 : Chg No w1 W6 := by rw [← h6]; exact (Chg.refl _ _).alloc _
           have rO : Row W6 w1.heap.size 50 #[.int .i64 x.cls, .int .i64 x.kind, .slice A1 x.W.length d1, .slice B1 x.B.length d2] := by rw [← h6]; exact Row.new w1 _ _
           have xO := rO.four
           have rR := HA.out.2.1.keep (c1.trans c16) (fun f => f)
           have xR := rR.five
           have s1 := c1.size
           have sW := HA.out.2.2
           have H6 := Lib.hid h6
           have HG := Lib.hid (HA.out.1.trans (c1.trans c16))
           clear c1 c16 rO rR hxr HZ h6)
        | (rw [H6.out]))
      refine bodyPost_ret (v := .tuple #[.agg #[.int .i64 0, .int .i64 0, .int .i64 0, .int .i64 0, .int .i64 0], .int .i64 20]) (by simp [results, Tryz.results37, go_sem, xR]) rfl ⟨rfl, ?_⟩
      repeat (with_reducible first | exact HG.out | refine Chg.setCell ?_ (.inr (by dsimp only; omega)) _ | refine Chg.drew ?_)
  · have hr : readM L o = ⟨0, 0, 0, 0, 0, oe⟩ := by unfold readM; rw [hoe, if_pos h0]
    have t0 : (oe != 0) = true := by simpa using h0
    rw [hr]
    clear hr hoe hx hxk h0
    generalize L.length = n at *
    go_enter Tryz.func37, Tryz.ntmps37
    go_wp2_with (first
      | (go_at_call 38
         have HZ := HW.out
         clear HW
         rw [HZ]
         refine (Get14_any _ _ L W (HV.out.keep HA.out.1 (fun _ _ f => f)) o o64).mono ?_
         rw [HX.out.1, HX.out.2]
         rintro e w1 ⟨r, rfl, xv, rfl, hxr, c1⟩
         obtain ⟨A1, d1, B1, d2, rfl⟩ := hxr.shape
         obtain ⟨W6, h6⟩ : ∃ W6, w1.alloc (.cells #[.int .i64 x.cls, .int .i64 x.kind, .slice A1 x.W.length d1, .slice B1 x.B.length d2] 50) = W6 := ⟨_, rfl⟩
         have c16 : Chg No w1 W6 := by rw [← h6]; exact (Chg.refl _ _).alloc _
         have rO : Row W6 w1.heap.size 50 #[.int .i64 x.cls, .int .i64 x.kind, .slice A1 x.W.length d1, .slice B1 x.B.length d2] := by rw [← h6]; exact Row.new w1 _ _
         have xO := rO.four
         have rR := HA.out.2.1.keep (c1.trans c16) (fun f => f)
         have xR := rR.five
         have s1 := c1.size
         have sW := HA.out.2.2
         have H6 := Lib.hid h6
         have HG := Lib.hid (HA.out.1.trans (c1.trans c16))
         clear c1 c16 rO rR hxr HZ h6)
      | (rw [H6.out]))
    refine bodyPost_ret (v := .tuple #[.agg #[.int .i64 0, .int .i64 0, .int .i64 0, .int .i64 0, .int .i64 0], .int .i64 oe]) (by simp [results, Tryz.results37, go_sem, xR]) rfl ⟨rfl, ?_⟩
    repeat (with_reducible first | exact HG.out | refine Chg.setCell ?_ (.inr (by dsimp only; omega)) _ | refine Chg.drew ?_)

end Go.Proofs.YtifcigjminbllaaGreatDoor
