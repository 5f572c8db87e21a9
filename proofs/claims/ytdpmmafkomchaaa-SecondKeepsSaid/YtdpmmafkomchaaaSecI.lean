/- Rows of bytes in runs of sectors: extent.Space: Put, wipe, Get, Set, New, Used. -/
import Derived.Test.YtdpmmafkomchaaaSecH
namespace Go.Proofs.Ytdpmmafkomchaaa
set_option linter.unusedVariables false
set_option linter.unusedSimpArgs false
open Go.RowKit
open Go.ChangeMaps (setBlock)



/-- what the rows take -/
def tX (X : List Xt) (i : Nat) : Bool := X.any fun x => decide (x.f ≤ i) && decide (i < x.f + x.n)
/-- the first place, of N sectors, where n are free -/
def placeX (X : List Xt) (N n : Nat) : Option Nat := firstB (tX X) N n
theorem ExtV.t_eq {N : Nat} {D : List Int} {t : Nat → Bool} {E : List (Ex × Value)} {X : List Xt} (h : ExtV N D t E X) : t = tX X := by
  funext i
  rw [Bool.eq_iff_iff, h.cov.2 i]
  unfold tX
  simp only [List.any_eq_true, Bool.and_eq_true, decide_eq_true_eq, List.mem_map]
  constructor
  · rintro ⟨r, ⟨y, hy, rfl⟩, h⟩
    exact ⟨y, hy, h⟩
  · rintro ⟨y, hy, h⟩
    exact ⟨_, ⟨y, hy, rfl⟩, h⟩
/-- the space B has N sectors, on which X stands -/
def ExtS (w : World) (B : Blk) (N : Nat) (X : List Xt) : Prop := ∃ D ws E, ExtI w B N D ws E ∧ ExtV N D (bitT ws) E X
section
variable {w w' : World} {B : Blk} {N : Nat} {X Y : List Xt} {F : Nat → Prop}
theorem ExtS.keep (H : ExtS w B N X) (c : Chg F w w') (hF : ∀ k, B.has k → ¬ F k) : ExtS w' B N X := by
  obtain ⟨D, ws, E, h1, h2⟩ := H
  exact ⟨D, ws, E, h1.keep c hF, h2⟩
theorem ExtS.lt (H : ExtS w B N X) {k : Nat} (hk : B.has k) : k < w.heap.size := by
  obtain ⟨D, ws, E, h1, h2⟩ := H
  exact h1.lt hk
theorem ExtS.perm (H : ExtS w B N X) (p : X.Perm Y) : ExtS w B N Y := by
  obtain ⟨D, ws, E, h1, h2⟩ := H
  exact ⟨D, ws, E, h1, h2.perm p⟩
end

set_option maxRecDepth 100000 in
set_option maxHeartbeats 1000000 in
theorem Put_none {w : World} {B : Blk} {N : Nat} {X : List Xt} (H : ExtS w B N X) (bv : Value) (l : List Int) (S : Nat → Prop) (hb : ByteS w S bv l) (hl2 : l.length ≤ 1000000) (hp : placeX X N (secN l.length) = none) :
    Calls Try.prog 29 #[.pointer (some ⟨B.r, 0, none⟩), bv] w fun e w' => e = .returned (.tuple #[.agg #[.int .i64 0, .int .i64 0, .int .i64 0], .int .i64 3]) ∧ Chg No w w' := by
  obtain ⟨D, ws, E, H, V⟩ := H
  obtain ⟨A, c, rfl, -⟩ := hb.form
  have hp2 : firstB (bitT ws) N (secN l.length) = none := by rw [V.t_eq]; exact hp
  generalize l.length = m at *
  obtain ⟨W1, hW1⟩ : ∃ W, w.alloc (.cells #[.int .i64 0, .int .i64 0, .int .i64 0] 67) = W := ⟨_, rfl⟩
  have c1 : Chg No w W1 := by rw [← hW1]; exact (Chg.refl _ _).alloc _
  have ry : Row W1 w.heap.size 67 #[.int .i64 0, .int .i64 0, .int .i64 0] := by rw [← hW1]; exact Row.new w _ _
  have H1 := H.keep c1 (fun _ _ f => f)
  have f1 : W1.cell? ⟨B.r, 1, none⟩ = some (.pointer (some ⟨B.b, 0, none⟩)) := H1.row.cell 1
  have hq := First_any H1.bits (secN m) (secN_pos _) (by unfold secN; omega)
  rw [hp2] at hq
  obtain ⟨y0, y1, y2, yf⟩ := IExt.cells ry
  have HQ := Lib.hid hq
  have HY := Lib.hid c1
  have HW := Lib.hid hW1
  clear hb V H H1 hq hp hp2 c1 ry hW1
  go_enter Try.func29, Try.ntmps29
  go_wp2_with (first
    | (rw [HW.out])
    | (go_at_call 52; refine (Sectors_any m (by omega) _).mono ?_; rintro e w' ⟨rfl, rfl⟩)
    | (go_at_call 53; refine HQ.out.mono ?_; rintro e w' ⟨rfl, rfl⟩)
    | fail)
  have cF : ∀ U, Chg (fun k => k = w.heap.size) W1 U → Chg No w U := fun U hU => HY.out.then hU (fun k hk h => by omega)
  refine bodyPost_ret (v := .tuple #[.agg #[.int .i64 0, .int .i64 0, .int .i64 0], .int .i64 3]) (by simp [results, Try.results29, go_sem, y0, y1, y2]) rfl ⟨rfl, cF _ ?_⟩
  repeat (with_reducible first | exact Chg.refl _ _ | refine Chg.setCell ?_ (.inl (by simp)) _)

/-- what Put gives -/
def Stood (w : World) (B : Blk) (N : Nat) (X : List Xt) (x : Xt) (v : Value) (w' : World) : Prop := v = .tuple #[.agg #[.int .i64 x.f, .int .i64 x.n, .int .i64 x.b.length], .int .i64 0] ∧ ExtS w' B N (x :: X) ∧ Chg B.has w w'
theorem has_dgv {B : Blk} {k : Nat} (h : k = B.d ∨ k = B.g ∨ k = B.v) : B.has k := by
  rcases h with h | h | h
  · exact .inr (.inl h)
  · exact .inr (.inr (.inl h))
  · exact .inr (.inr (.inr (.inr (.inr h))))
theorem flips_eq {w : World} {b h N : Nat} {ws : List Nat} (H : BitI w b h N ws) {f n : Nat} (hf : f + n ≤ N) (j : Nat) : bitT (flips ws f n) j = if f ≤ j ∧ j < f + n then !bitT ws j else bitT ws j :=
  flips_bit n (by have := H.words; omega) j
/-- the rows behind a lay -/
theorem ExtI.stood {w w1 : World} {B : Blk} {N : Nat} {D : List Int} {ws ws' : List Nat} {E : List (Ex × Value)} {X : List Xt} (V : ExtV N D (bitT ws) E X) (f : Nat) (l : List Int) (hl : ∀ z ∈ l, 0 ≤ z ∧ z ≤ 255) (hf : f + secN l.length ≤ N) (hfree : freeB (bitT ws) f (secN l.length) = true)
    (hD : D.length = N * 64) (ht : ∀ j, bitT ws' j = if f ≤ j ∧ j < f + secN l.length then !bitT ws j else bitT ws j)
    (H : ExtI w1 B N (layD D f l (secN l.length)) ws' (gset ((f : Int), (secN l.length : Int), (l.length : Int)) (.bool true) E)) : ExtS w1 B N (⟨f, l⟩ :: X) := by
  have hl2 : l.length ≤ secN l.length * 64 := by unfold secN; omega
  exact ⟨_, _, _, H, V.put (y := ⟨f, l⟩) (fun i hi => freeB_iff.1 hfree i hi) hf ht (fun j hj => layD_in hD _ hf j (by dsimp only at hj; omega) hj) (fun j hj => layD_out hD _ hf j hj) hl⟩

set_option maxRecDepth 100000 in
set_option maxHeartbeats 1000000 in
theorem Put_some {w : World} {B : Blk} {N : Nat} {X : List Xt} (H : ExtS w B N X) (bv : Value) (l : List Int) (S : Nat → Prop) (hb : ByteS w S bv l) (hS : ∀ k, S k → ¬ B.has k) (hl1 : 1 ≤ l.length) (hl2 : l.length ≤ 1000000) {f : Nat} (hp : placeX X N (secN l.length) = some f) :
    Calls Try.prog 29 #[.pointer (some ⟨B.r, 0, none⟩), bv] w (Ret (Stood w B N X ⟨f, l⟩)) := by
  obtain ⟨D, ws, E, H, V⟩ := H
  obtain ⟨A, c, rfl, -⟩ := hb.form
  have hp2 : firstB (bitT ws) N (secN l.length) = some f := by rw [V.t_eq]; exact hp
  obtain ⟨hf, hfree, -⟩ := firstB_some hp2
  have HV := Lib.hid (And.intro V (And.intro hfree hb.2))
  obtain ⟨W1, hW1⟩ : ∃ W, w.alloc (.cells #[.int .i64 0, .int .i64 0, .int .i64 0] 67) = W := ⟨_, rfl⟩
  have c1 : Chg No w W1 := by rw [← hW1]; exact (Chg.refl _ _).alloc _
  have ry : Row W1 w.heap.size 67 #[.int .i64 0, .int .i64 0, .int .i64 0] := by rw [← hW1]; exact Row.new w _ _
  have H1 := H.keep c1 (fun _ _ f => f)
  have f1 : W1.cell? ⟨B.r, 1, none⟩ = some (.pointer (some ⟨B.b, 0, none⟩)) := H1.row.cell 1
  have hq := First_any H1.bits (secN l.length) (secN_pos _) (by unfold secN; omega)
  rw [hp2] at hq
  have HT := Lib.hid (Take_ok H1.bits f (secN l.length) (secN_pos _) hf (freeB_iff.1 hfree))
  have HLT := Lib.hid (fun k (hk : B.has k) => H.lt hk)
  have HNE := Lib.hid H.ne
  have HS := Lib.hid hS
  have HI := Lib.hid (And.intro H1 (And.intro c1 (And.intro ry (hb.keep c1 (fun _ _ f => f)))))
  have HQ := Lib.hid hq
  have HW := Lib.hid hW1
  generalize hm : l.length = m at *
  have HM := Lib.hid hm
  generalize hsn : secN m = n at *
  have HN := Lib.hid hsn
  clear hb V H H1 hq hp hp2 c1 ry hW1 hfree hS hm hsn
  go_enter Try.func29, Try.ntmps29
  go_wp2_with (first
    | (rw [HW.out])
    | (go_at_call 52; refine (Sectors_any m (by omega) _).mono ?_; rw [HN.out]; rintro e w' ⟨rfl, rfl⟩)
    | (go_at_call 53; refine HQ.out.mono ?_; rintro e w' ⟨rfl, rfl⟩)
    | (go_at_call 54
       refine HT.out.mono ?_
       rintro e w2 ⟨rfl, hb2, c2⟩
       have h2 : ExtI w2 B N D (flips ws f n) E := ⟨HI.out.1.row.keep c2 HNE.out.1.2.2.2.1, HI.out.1.disk.keep c2 HNE.out.2.1.2.2.1 HNE.out.2.2.1.2.1, hb2, HI.out.1.live.keep c2 HNE.out.2.2.2.2.symm⟩
       have hl := lay_ok h2 f n 0 _ l S (HI.out.2.2.2.keep c2 (fun k hk h => HS.out k hk (.inr (.inr (.inr (.inr (.inl h))))))) HS.out (by rw [HM.out, HN.out]) (by rw [HM.out]; exact hl1) (by rw [HM.out]; exact hl2) hf
       rw [HM.out] at hl
       have HL := Lib.hid hl
       have H2 := Lib.hid (And.intro h2 c2)
       clear hb2 c2 h2 hl)
    | (go_at_call 55
       (with_reducible refine HL.out.mono ?_)
       rintro e w3 ⟨rfl, h3, c3⟩
       have y3 := HI.out.2.2.1.keep H2.out.2 (fun e => by have := HLT.out B.h (.inr (.inr (.inr (.inr (.inl rfl))))); omega)
       have y4 := IExt.cells (y3.keep c3 (fun e => by have := HLT.out _ (has_dgv e); omega))
       have H3 := Lib.hid (And.intro h3 (Chg.trans (HI.out.2.1.no.trans (H2.out.2.mono fun k _ h => .inr (.inr (.inr (.inr (.inl h)))))) (c3.mono fun k _ h => has_dgv h)))
       clear h3 c3 y3)
    | fail)
  have en : Xt.n ⟨f, l⟩ = n := by show secN l.length = n; rw [HM.out, HN.out]
  have cF : ∀ U, Chg (fun k => k = w.heap.size) w3 U → ExtS U B N (⟨f, l⟩ :: X) ∧ Chg B.has w U := fun U hU => by
    have hb2 : BitI W1 B.b B.h N ws := HI.out.1.bits
    have hx := H3.out.1.keep hU (fun k hk e => by have := HLT.out k hk; omega)
    refine ⟨ExtI.stood (w := w) HV.out.1 f l HV.out.2.2 (by rw [HM.out, HN.out]; exact hf) (by rw [HM.out, HN.out]; exact HV.out.2.1) HI.out.1.disk.len (ws' := flips ws f n) (fun j => by rw [HM.out, HN.out]; exact flips_eq hb2 hf j) (by rw [HM.out, HN.out]; exact hx), H3.out.2.then hU (fun k hk e => by omega)⟩
  refine bodyPost_ret (v := .tuple #[.agg #[.int .i64 f, .int .i64 n, .int .i64 m], .int .i64 0]) (by simp [results, Try.results29, go_sem, y4]) rfl (Ret.mk ⟨by rw [en, HM.out], cF _ ?_⟩)
  repeat (with_reducible first | exact Chg.refl _ _ | refine Chg.setCell ?_ (.inl (by simp)) _)

set_option maxRecDepth 100000 in
set_option maxHeartbeats 1000000 in
theorem wipe_ok {w : World} {B : Blk} {N : Nat} {D : List Int} {ws : List Nat} {E : List (Ex × Value)} (H : ExtI w B N D ws E) (f n : Nat) (z : Int) (hf : f + n ≤ N) :
    Calls Try.prog 62 #[.pointer (some ⟨B.r, 0, none⟩), .agg #[.int .i64 f, .int .i64 n, .int .i64 z]] w fun e w' => e = .returned (.tuple #[]) ∧
      ExtI w' B N (wipeD D f n) ws (gdel ((f : Int), (n : Int), z) E) ∧ Chg (fun k => k = B.g ∨ k = B.v) w w' := by
  have hmax := H.disk.max
  obtain ⟨W1, hW1⟩ : ∃ W, w.alloc (.cells #[.int .i64 f, .int .i64 n, .int .i64 z] 67) = W := ⟨_, rfl⟩
  have c1 : Chg No w W1 := by rw [← hW1]; exact (Chg.refl _ _).alloc _
  have hs1 : W1.heap.size = w.heap.size + 1 := by rw [← hW1]; simp
  have rx : Row W1 w.heap.size 67 #[.int .i64 f, .int .i64 n, .int .i64 z] := by rw [← hW1]; exact Row.new w _ _
  have HW := Lib.hid hW1
  have H1 := Lib.hid (And.intro (H.keep c1 (fun _ _ f => f)) (And.intro c1 rx))
  have HLT := Lib.hid (fun k (hk : B.has k) => H.lt hk)
  have HNE := Lib.hid H.ne
  obtain ⟨y0, y1, y2, yf⟩ := IExt.cells rx
  clear hW1 c1 H rx yf
  go_enter Try.func62, Try.ntmps62
  go_wp2_with (first | (rw [HW.out]) | fail)
  go_loopg [7] n (fun j v7 wr => ∃ i : Nat, v7 = .int .i64 (i : Int) ∧ i ≤ n ∧ n - i ≤ j ∧ DiskI wr B.d B.g N (wipeD D f i) ∧ Chg (fun k => k = B.g) W1 wr)
  case atStart => exact ⟨0, rfl, by omega, by omega, H1.out.1.disk, Chg.refl _ _⟩
  case round =>
    clear y0 y1 y2
    obtain ⟨i, rfl, i1, i2, hd, cw⟩ := hrel
    have hbx : ∀ k, w.heap.size ≤ k → ¬ (k = B.g) := fun k hk h => by
      have h2 := HLT.out B.g (.inr (.inr (.inl rfl)))
      omega
    by_cases hi : i < n
    · have e4 : IntKind.i64.wrap ((f : Int) + (i : Int)) = (f : Int) + (i : Int) := IntWalk.i64_in _ (by omega)
      have t1 : decide ((i : Int) < (n : Int)) = true := decide_eq_true (by omega)
      have fr : ∀ v, Chg (fun k => k = B.g) wr v → v.cell? ⟨B.r, 0, none⟩ = some (.pointer (some ⟨B.d, 0, none⟩)) := fun v hv => ((H1.out.1.row.keep cw HNE.out.1.2.1).keep hv HNE.out.1.2.1).cell 0
      have hxd : ∀ v, Chg (fun k => k = B.g) wr v → Row v w.heap.size 67 #[.int .i64 f, .int .i64 n, .int .i64 z] := fun v hv => (H1.out.2.2.keep cw (hbx _ (Nat.le_refl _))).keep hv (hbx _ (Nat.le_refl _))
      have fx : ∀ v, Chg (fun k => k = B.g) wr v → v.cell? ⟨w.heap.size, 0, none⟩ = some (.int .i64 f) := fun v hv => (hxd v hv).cell 0
      have HD := Lib.hid (And.intro hd cw)
      clear hxd hd cw
      go_wp2_with fail
      go_region_held3 (fun w' => Chg (fun k => k = B.g) wr w') (repeat (with_reducible first | assumption | exact Chg.refl _ _ | refine Chg.drew ?_ | refine Chg.alloc ?_ _))
        (first
        | (go_at_call 83
           refine (Calls.heldC (F := No) (W := wr) (by (repeat (with_reducible first | assumption | exact Chg.refl _ _ | refine Chg.drew ?_ | refine Chg.alloc ?_ _))) (diskClear_ok (HD.out.1.keep (F := No) (by (repeat (with_reducible first | assumption | exact Chg.refl _ _ | refine Chg.drew ?_ | refine Chg.alloc ?_ _))) (fun f => f) (fun f => f)) (f + i) (by omega) ((f : Int) + (i : Int)) (by omega) _ (Row.drew2 (Row.new _ _ _)))).mono ?_
           rintro e1 w3 ⟨⟨rfl, hd3, c3⟩, hh3⟩
           have H3 := Lib.hid (And.intro hd3 ((HD.out.2.trans hh3.no).trans c3))
           have c9 : Chg (fun k => k = B.g) wr w3 := hh3.no.trans c3
           clear hd3 c3 hh3)
        | fail)
      all_goals
        go_wp2_with fail
        go_roundg (n - (i + 1))
        case measure => omega
        case rel => exact ⟨i + 1, by go_num, by omega, by omega, H3.out.1, H3.out.2⟩
    · obtain rfl : i = n := by omega
      have t1 : decide ((i : Int) < (i : Int)) = false := decide_eq_false (by omega)
      have rxw := H1.out.2.2.keep cw (hbx _ (Nat.le_refl _))
      have hv := H1.out.1.live.keep cw (fun h => HNE.out.2.2.1.2.2 h.symm)
      have hr := H1.out.1.row.keep cw HNE.out.1.2.1
      have hB := H1.out.1.bits.keep cw (fun h => HNE.out.2.2.1.1 h.symm) (fun h => HNE.out.2.2.1.2.1 h.symm)
      have fr : ∀ v, Chg No wr v → v.cell? ⟨B.r, 2, none⟩ = some (.map (some B.v)) := fun v hv => (hr.keep hv (fun f => f)).cell 2
      have fx : ∀ v, Chg No wr v → v.cell? ⟨w.heap.size, 0, none⟩ = some (.int .i64 f) := fun v hv => (rxw.keep hv (fun f => f)).cell 0
      have fx1 : ∀ v, Chg No wr v → v.cell? ⟨w.heap.size, 1, none⟩ = some (.int .i64 i) := fun v hv => (rxw.keep hv (fun f => f)).cell 1
      have fx2 : ∀ v, Chg No wr v → v.cell? ⟨w.heap.size, 2, none⟩ = some (.int .i64 z) := fun v hv => (rxw.keep hv (fun f => f)).cell 2
      have HR := Lib.hid (And.intro (And.intro hv (And.intro hr (And.intro hB hd))) cw)
      clear hv hr hB hd cw rxw
      go_wp2_with fail
      refine rem_start (by kernel_rfl) (by kernel_rfl) ?_
      refine rem_quiet 5 (C := (Chg No wr)) (by kernel_rfl) (by simp only [List.toList_toArray, List.drop_succ_cons, List.drop_zero, List.take_succ_cons, List.take_zero, Nat.reduceSub, Nat.reduceAdd]; rfl) ?_ ?_
      · exact (Chg.refl _ _).drew
      repeat
        refine q_step (fun K hK => ?_)
        go_simp
        first
          | ((with_reducible refine hK _ ?_); clear hK K)
          | (refine (if_neg (by simp [undef])).mpr ?_; (with_reducible refine hK _ ?_); clear hK K)
          | (apply Exists.intro
             with_reducible refine ⟨fun v hv => ?_, hK _ ?_⟩
             · first
                 | with_reducible exact rfl
                 | with_reducible exact ⟨rfl, rfl⟩
                 | (go_simp
                    first
                      | done
                      | with_reducible exact rfl
                      | with_reducible exact ⟨rfl, rfl⟩
                      | fail)
             clear hK K)
      refine q_nil ?_
      intro V hV
      obtain ⟨o, hrun, hmap⟩ := (HR.out.1.1.keep hV (fun f => f)).delete (P := Try.prog) elem_live key3 ((f : Int), (i : Int), z) 0 67
      simp only [kv3] at hrun
      have c3 : Chg (fun k => k = B.v) V (setBlock V B.v o) := Chg.setBlock (F := fun k => k = B.v) (Chg.refl _ _) (.inl rfl) _
      generalize setBlock V B.v o = W3 at *
      refine rem_one (by kernel_rfl) (by kernel_rfl) rfl (by kernel_rfl) (fun K hK => ?_)
      go_wp2_with fail
      refine rem_end (by kernel_rfl) ?_
      go_wp2_with fail
      go_end0
      have hne := HNE.out
      obtain ⟨⟨-, hr, hB, hd⟩, cw⟩ := HR.out
      exact ⟨rfl, ⟨(hr.keep hV (fun f => f)).keep c3 hne.1.2.2.2.2, (hd.keep hV (fun f => f) (fun f => f)).keep c3 hne.2.1.2.2.2 hne.2.2.1.2.2, (hB.keep hV (fun f => f) (fun f => f)).keep c3 hne.2.2.2.1.2 hne.2.2.2.2, hmap⟩,
        ((H1.out.2.1.no.trans (cw.mono fun k _ h => .inl h)).trans (hV.no)).trans (c3.mono fun k _ h => .inr h)⟩

end Go.Proofs.Ytdpmmafkomchaaa
