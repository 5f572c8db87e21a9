/- Large numbers: Cmp, over slices.Backward. -/
import Derived.Test.YtncoanmgifgcbaaDoorLgDE
namespace Go.Proofs.YtncoanmgifgcbaaDoor
set_option linter.unusedVariables false
set_option linter.unusedSimpArgs false
open Go.RowKit Go.Shelf

attribute [local go_sem] Oper.semAt_some

/-- less, the same, greater -/
def cmpN (a b : Nat) : Int := if a < b then -1 else if b < a then 1 else 0
theorem dg_lt {a b : Nat} {da db : List Int} (hda : dg a = da) (hdb : dg b = db) (hl : da.length = db.length) {i : Nat} (hi : i < da.length) (heq : da.drop (i + 1) = db.drop (i + 1)) (hlt : da[i]?.getD 0 < db[i]?.getD 0) : a < b := by
  subst hda hdb
  have := val_cmp (dg_by a) (dg_by b) hl hi heq hlt
  rw [val_dg, val_dg] at this
  omega
theorem drop_eq {a b : List Int} (hl : a.length = b.length) {i : Nat} (hi : i < a.length) (heq : a.drop (i + 1) = b.drop (i + 1)) (he : a[i]?.getD 0 = b[i]?.getD 0) : a.drop i = b.drop i := by
  rw [List.drop_eq_getElem_cons hi, List.drop_eq_getElem_cons (by omega : i < b.length), heq]
  rw [List.getElem?_eq_getElem hi, List.getElem?_eq_getElem (by omega : i < b.length)] at he
  simp only [Option.getD_some] at he
  rw [he]

theorem ByteS.over {w X Y : World} {n : Nat} {v : Value} {l : List Int} (h : ByteS X (fun b => b < n) v l) (hn : n ≤ w.heap.size) (hx : Below n w X) (hy : Below n w Y) : ByteS Y (fun b => b < n) v l := by
  obtain ⟨⟨A, c, e, hl, h1, h2, h0, h3⟩, hw⟩ := h
  refine ⟨⟨A, c, e, hl, h1, h2, h0, fun hne => ?_⟩, hw⟩
  obtain ⟨b, off, hA, hS, hlt, hc⟩ := h3 hne
  exact ⟨b, off, hA, hS, Nat.lt_of_lt_of_le hS (Nat.le_trans hn hy.size), fun i u hu => (hy.cell (p := ⟨b, off + i, none⟩) hS).trans ((hx.cell (p := ⟨b, off + i, none⟩) hS).symm.trans (hc i u hu))⟩
/-- an ending without a panic -/
def noPanic (Q : Exit → Act → World → Prop) : Exit → Act → World → Prop
  | .panic _, _, _ => False
  | e, a, w => Q e a w
theorem wp_noPanic {P : Program} {c : Code} {Q : Exit → Act → World → Prop} {a : Act} {w : World} (h : c.wp P (noPanic Q) a w) : c.wp P Q a w :=
  wp_mono h (fun e a w h => by cases e <;> first | exact h | exact h.elim)

set_option maxRecDepth 100000 in
set_option maxHeartbeats 800000 in
theorem Cmp_good (va vb : Value) (a b : List Int) (w : World) (ha : ByteS w (fun k => k < w.heap.size) va a) (hb : ByteS w (fun k => k < w.heap.size) vb b) :
    CallsIn Fence.wide 4 Tryd.prog 103 #[va, vb] w fun e W' => e = .returned (.int .i64 (cmpN (val a).toNat (val b).toNat)) ∧ Below w.heap.size w W' := by
  obtain ⟨na, hna⟩ : ∃ n, (val a).toNat = n := ⟨_, rfl⟩
  obtain ⟨nb, hnb⟩ : ∃ n, (val b).toNat = n := ⟨_, rfl⟩
  obtain ⟨r, hr⟩ : ∃ r, cmpN na nb = r := ⟨_, rfl⟩
  rw [hna, hnb, hr]
  have cA := fun w' (h : ByteS w' (fun k => k < w.heap.size) va a) => cut_eq va a _ w' h
  have cB := fun w' (h : ByteS w' (fun k => k < w.heap.size) vb b) => cut_eq vb b _ w' h
  rw [hna] at cA
  rw [hnb] at cB
  have CA := Lib.hid cA
  have CB := Lib.hid cB
  have HR := Lib.hid hr
  obtain ⟨A1, c1, rfl, -⟩ := ha.form
  obtain ⟨A2, c2, rfl, -⟩ := hb.form
  generalize a.length = n1 at *
  generalize b.length = n2 at *
  have hbl : Below w.heap.size w ((w.alloc (.cells #[.slice A2 n2 c2] 39)).alloc (.cells #[.int .i64 0] 3)) := ((Below.refl _ w).alloc (Nat.le_refl _) _).alloc (by simp) _
  have hA : ∀ V, Chg No ((w.alloc (.cells #[.slice A2 n2 c2] 39)).alloc (.cells #[.int .i64 0] 3)) V → ByteS V (fun k => k < w.heap.size) (.slice A1 n1 c1) a := fun V hV => (ha.below hbl).keep hV (fun _ _ f => f)
  have hB : ∀ V, Chg No ((w.alloc (.cells #[.slice A2 n2 c2] 39)).alloc (.cells #[.int .i64 0] 3)) V → ByteS V (fun k => k < w.heap.size) (.slice A2 n2 c2) b := fun V hV => (hb.below hbl).keep hV (fun _ _ f => f)
  have HA := Lib.hid hA
  have HB := Lib.hid hB
  have HL := Lib.hid hbl
  clear ha hb hA hB cA cB hr hna hnb hbl
  refine callsIn_of_wp_marks Tryd.func103 rfl trivial ?_ rfl
  refine wpIn_wide.2 (wp_noPanic ?_)
  simp only [Tryd.ntmps103, List.size_toArray, List.length_cons, List.length_nil, Nat.reduceAdd, Nat.reduceSub, Array.replicate_succ, Array.replicate_zero, List.push_toArray, List.append_toArray, List.nil_append, List.cons_append]
  go_wp2_with fail
  go_region_with (first
    | (go_at_call 125
       with_reducible refine (CA.out _ (HA.out _ ?hh)).mono ?_
       case hh => repeat (with_reducible first | exact Chg.refl _ _ | refine Chg.drew ?_)
       rintro e w1 ⟨v1, rfl, h1, rfl⟩
       obtain ⟨A3, c3, rfl, -⟩ := h1.form
       have H1 := Lib.hid h1
       clear h1)
    | (go_at_call 125
       with_reducible refine (CB.out _ (HB.out _ ?hh)).mono ?_
       case hh => repeat (with_reducible first | exact Chg.refl _ _ | refine Chg.drew ?_)
       rintro e w1 ⟨v1, rfl, h1, rfl⟩
       obtain ⟨A4, c4, rfl, -⟩ := h1.form
       have H2 := Lib.hid h1
       clear h1)
    | fail)
  all_goals
    have hbl : Below w.heap.size w ((w.alloc (.cells #[.slice A4 (dg nb).length c4] 39)).alloc (.cells #[.int .i64 0] 3)).drew := (((Below.refl _ w).alloc (Nat.le_refl _) _).alloc (by simp) _).drew
    have g1 := H1.out.over (Nat.le_refl _) (HL.out.drew) hbl
    have g2 := H2.out.over (Nat.le_refl _) (HL.out.drew) hbl
    have G1 := Lib.hid g1
    have G2 := Lib.hid g2
    have GL := Lib.hid hbl
    clear g1 g2 hbl H1 H2 HA HB CA CB HL
    rcases Nat.lt_trichotomy (dg na).length (dg nb).length with hlt | heq | hgt
    · have t1 : (((dg na).length : Int) != ((dg nb).length : Int)) = true := by simp; omega
      have t2 : decide ((dg na).length < (dg nb).length) = true := decide_eq_true (by omega)
      have hn : na < nb := dg_len_lt hlt
      obtain rfl : -1 = r := by have := HR.out; unfold cmpN at this; rw [if_pos hn] at this; exact this
      clear hlt HR hn
      go_wp2_with fail
      refine ⟨_, by simp [results, Tryd.results103, go_sem] <;> rfl, rfl, (((Below.refl _ w).alloc (Nat.le_refl _) _).alloc (by simp) _).drew⟩
    · obtain ⟨da, hda⟩ : ∃ l, dg na = l := ⟨_, rfl⟩
      obtain ⟨db, hdb⟩ : ∃ l, dg nb = l := ⟨_, rfl⟩
      obtain ⟨n, hn⟩ : ∃ n, db.length = n := ⟨_, rfl⟩
      have g1 := G1.out
      have g2 := G2.out
      have gl := GL.out
      rw [hda, hdb] at heq g1
      rw [hdb] at g2 gl ⊢
      rw [hda]
      rw [hn] at heq g1 g2 gl ⊢
      rw [heq] at g1 ⊢
      obtain ⟨-, c9, -, hlc, hmx, -⟩ := g2.form
      have hmax : n ≤ 9223372036854775807 := by unfold maxLen at hmx; simp at hmx; omega
      have HN := Lib.hid (And.intro heq (And.intro hn (And.intro hda hdb)))
      have GA := Lib.hid g1
      have GB := Lib.hid g2
      have GW := Lib.hid gl
      clear G1 G2 GL g1 g2 gl heq hn hda hdb hmx hlc
      have t1 : ((n : Int) != (n : Int)) = false := by simp
      go_wp2_with (first
        | (go_at_call 106
           refine ((callsIn_wide (n := 3)).1 (backward_in Fence.wide 3 trivial rfl _ _ _ _)).mono ?_
           rintro e w' ⟨rfl, rfl⟩)
        | fail)
      have bB := Boxed.new w 39 (.slice A4 n c4)
      have bR := Boxed.new (w.alloc (.cells #[.slice A4 n c4] 39)) 3 (.int .i64 0)
      have bS := Boxed.new ((w.alloc (.cells #[.slice A4 n c4] 39)).alloc (.cells #[.int .i64 0] 3)) 39 (.slice A3 n c3)
      simp only [World.size_alloc] at bR bS
      obtain ⟨W3, hW3⟩ : ∃ W, (((w.alloc (.cells #[.slice A4 n c4] 39)).alloc (.cells #[.int .i64 0] 3)).alloc (.cells #[.slice A3 n c3] 39)).drew = W := ⟨_, rfl⟩
      have f1 : W3.cell? ⟨w.heap.size, 0, none⟩ = some (.slice A4 n c4) := by rw [← hW3]; exact ((bB.alloc _).alloc _).cell
      have f2 : W3.cell? ⟨w.heap.size + 1, 0, none⟩ = some (.int .i64 0) := by rw [← hW3]; exact (bR.alloc _).cell
      have f3 : W3.frozen? ⟨w.heap.size + 1, 0, none⟩ = false := by rw [← hW3]; exact (bR.alloc _).frozen
      have f4 : W3.cell? ⟨w.heap.size + 1 + 1, 0, none⟩ = some (.slice A3 n c3) := by rw [← hW3]; exact bS.cell
      have f5 : W3.heap.size = w.heap.size + 3 := by rw [← hW3]; simp
      have f6 : Below w.heap.size w W3 := by rw [← hW3]; exact ((((Below.refl _ w).alloc (Nat.le_refl _) _).alloc (by simp) _).alloc (by simp; omega) _).drew
      have f7 := GA.out.over (Nat.le_refl _) GW.out f6
      rw [hW3]
      clear hW3 bB bR bS
      refine' wpIn_wide.1 (wpIn_rangeFunc_ownG (n := 4) (F := Fence.wide) rfl (by omega) (gf := 126) (lb := #[.pointer (some ⟨w.heap.size + 1 + 1, 0, none⟩)]) rfl trivial (enters_of Tryd.func126 (by kernel_rfl) rfl)
        (backward_stops Fence.wide 3 trivial rfl (by omega) (w.heap.size + 1 + 1) w.heap.size _ da (by rw [HN.out.1]; exact hmax) _ (by omega) (by omega) f4 f7) kpB_t (kpB_b (by omega)) (Below.refl _ _) (fun _ => rfl)
        (fun pre W => (W.cell? ⟨w.heap.size, 0, none⟩ = some (.slice A4 n c4) ∧ W.cell? ⟨w.heap.size + 1, 0, none⟩ = some (.int .i64 0) ∧ W.frozen? ⟨w.heap.size + 1, 0, none⟩ = false ∧ ∀ k, k ≤ n → upTo pre k → da.drop (n - k) = db.drop (n - k)) ∧ Below w.heap.size w W)
        (fun c pre W => (c = .ret ∧ ∃ s, W.cell? ⟨w.heap.size + 1, 0, none⟩ = some (.int .i64 s) ∧ ∀ k, k ≤ n → upTo pre k → s = r) ∧ Below w.heap.size w W)
        (OwnFrom.and (Own.from (fun s A B row hs hg hr => ⟨cell_kept hs.1 hg hr, cell_kept hs.2.1 hg hr, (frozen_kept hs.2.1 hg hr).trans hs.2.2.1, hs.2.2.2⟩) _) (ownFrom_below (Nat.le_refl _) (by omega)))
        (fun c => OwnFrom.and (Own.from (fun s A B row hs hg hr => (by
          obtain ⟨hc, s, e4, e5⟩ := hs
          exact ⟨hc, s, cell_kept e4 hg hr, e5⟩)) _) (ownFrom_below (Nat.le_refl _) (by omega)))
        ⟨⟨f1, f2, f3, fun k hk hu => (by
          obtain rfl : 0 = k := upTo_len hu
          rw [List.drop_eq_nil_of_le (by rw [HN.out.1]; omega), List.drop_eq_nil_of_le (by rw [HN.out.2.1]; omega)])⟩, f6⟩
        _ ?assign ?body ?done ?stop)
      case assign =>
        intro lp x W K hK
        unfold bwA
        gi_wp2
        exact hK
      case body =>
        rintro lp pre x W ⟨⟨hc1, hc2, hf, hv⟩, hB⟩ hlen
        obtain ⟨i, hi⟩ : ∃ i, da.length - 1 - x.1 = i := ⟨_, rfl⟩
        have hxl := x.2
        have hin : i < n := by have := HN.out.1; omega
        obtain ⟨b1, off, rfl, -, hlt, hcb, -⟩ := (GB.out.over (Nat.le_refl _) GW.out hB).getAt (i := i) (by rw [HN.out.2.1]; exact hin)
        have key : ∀ m, upTo pre m → x.1 = m → n - m = i + 1 ∧ da.drop (i + 1) = db.drop (i + 1) := fun m hm hx => by
          have h1 : n - m = i + 1 := by have := HN.out.1; omega
          have h2 := hv m (by omega) hm
          rw [h1] at h2
          exact ⟨h1, h2⟩
        obtain ⟨c, hc⟩ : ∃ c, da[i]?.getD 0 = c := ⟨_, rfl⟩
        obtain ⟨d, hd⟩ : ∃ d, db[i]?.getD 0 = d := ⟨_, rfl⟩
        rw [hd] at hcb
        rw [hi, hc]
        have u1 : (i : Int) < (n : Int) := by omega
        have KEY := Lib.hid (And.intro key (And.intro hc hd))
        have HI := Lib.hid hi
        clear key hc hd hi hv f1 f2 f3 f4 f5 f6 f7 hxl
        rcases Int.lt_trichotomy c d with hcd | rfl | hcd
        · have t2 : decide (c < d) = true := decide_eq_true hcd
          gi_wp2
          refine ⟨(KeepsOthers.setCell _ _ _).from _, ⟨rfl, _, World.cell?_setCell_same' _ _ _ (by rw [hc2]; rfl), fun k hk hu => ?_⟩, hB.setCell (p := ⟨w.heap.size + 1, 0, none⟩) (Nat.le_succ _) _⟩
          obtain ⟨m, rfl, hm, hx⟩ := upTo_last hu
          have hn : na < nb := dg_lt HN.out.2.2.1 HN.out.2.2.2 (by rw [HN.out.1, HN.out.2.1]) (i := i) (by rw [HN.out.1]; exact hin) (KEY.out.1 m hm hx).2 (by rw [KEY.out.2.1, KEY.out.2.2]; exact hcd)
          rw [← HR.out]
          unfold cmpN
          rw [if_pos hn]
        · have t2 : decide (c < c) = false := by simp
          gi_wp2
          refine ⟨KeepsFrom.refl _ _, KpB.refl _ _ _, ⟨hc1, hc2, hf, fun k hk hu => ?_⟩, hB⟩
          obtain ⟨m, rfl, hm, hx⟩ := upTo_last hu
          have h2 := KEY.out.1 m hm hx
          have h3 := drop_eq (a := da) (b := db) (by rw [HN.out.1, HN.out.2.1]) (i := i) (by rw [HN.out.1]; exact hin) h2.2 (by rw [KEY.out.2.1, KEY.out.2.2])
          rw [show n - (m + 1) = i by omega]
          exact h3
        · have t2 : decide (c < d) = false := decide_eq_false (by omega)
          have t3 : decide (d < c) = true := decide_eq_true hcd
          gi_wp2
          refine ⟨(KeepsOthers.setCell _ _ _).from _, ⟨rfl, _, World.cell?_setCell_same' _ _ _ (by rw [hc2]; rfl), fun k hk hu => ?_⟩, hB.setCell (p := ⟨w.heap.size + 1, 0, none⟩) (Nat.le_succ _) _⟩
          obtain ⟨m, rfl, hm, hx⟩ := upTo_last hu
          have hn : nb < na := dg_lt HN.out.2.2.2 HN.out.2.2.1 (by rw [HN.out.1, HN.out.2.1]) (i := i) (by rw [HN.out.2.1]; exact hin) (KEY.out.1 m hm hx).2.symm (by rw [KEY.out.2.1, KEY.out.2.2]; exact hcd)
          rw [← HR.out]
          unfold cmpN
          rw [if_neg (by omega), if_pos hn]
      case done =>
        rintro D ys W hD hup ⟨⟨hc1, hc2, hf, hv⟩, hB⟩ hK
        have hn : na = nb := by
          have h1 := hv da.length (Nat.le_of_eq HN.out.1) hup
          rw [HN.out.1, Nat.sub_self, List.drop_zero, List.drop_zero, ← HN.out.2.2.1, ← HN.out.2.2.2] at h1
          exact dg_inj h1
        obtain rfl : 0 = r := by
          rw [← HR.out]
          unfold cmpN
          rw [if_neg (by omega), if_neg (by omega)]
        clear hv f1 f2 f3 f4 f6 f7
        go_wp2_with fail
        have hK' := (KeepsOthers.setCell W ⟨w.heap.size + 1, 0, none⟩ (.int .i64 0)).same D _ hK rfl
        refine ⟨by simp, .inl ⟨_, _, rfl, run_takeDeferred hK', ?_⟩⟩
        have hc5 := cell_kept (World.cell?_setCell_same' W ⟨w.heap.size + 1, 0, none⟩ (.int .i64 0) (by rw [hc2]; rfl)) (grownBy_putObj' _ D (.deferred none)) (fun r e => by cases e; exact ⟨_, hK', rfl⟩)
        refine ⟨.int .i64 0, ?_, rfl, (hB.setCell (p := ⟨w.heap.size + 1, 0, none⟩) (Nat.le_succ _) _).trans (belowK_b (w := w) (Nat.le_refl _) _ D _ _ (by omega) hK' rfl rfl)⟩
        simp [results, Tryd.results103, go_sem, hc5]
      case stop =>
        rintro D c pre W hD ⟨k, hk, hu⟩ ⟨⟨rfl, s, hc2, hs⟩, hB⟩ hK
        obtain rfl : s = r := hs k (by rw [← HN.out.1]; exact hk) hu
        gi_wp2
        refine ⟨by simp, .inl ⟨_, _, rfl, run_takeDeferred hK, ?_⟩⟩
        have hc5 := cell_kept hc2 (grownBy_putObj' _ D (.deferred none)) (fun r e => by cases e; exact ⟨_, hK, rfl⟩)
        refine ⟨.int .i64 s, ?_, rfl, hB.trans (belowK_b (w := w) (Nat.le_refl _) W D _ _ (by omega) hK rfl rfl)⟩
        simp [results, Tryd.results103, go_sem, hc5]
    · have t1 : (((dg na).length : Int) != ((dg nb).length : Int)) = true := by simp; omega
      have t2 : decide ((dg na).length < (dg nb).length) = false := decide_eq_false (by omega)
      have hn : nb < na := dg_len_lt hgt
      obtain rfl : 1 = r := by have := HR.out; unfold cmpN at this; rw [if_neg (by omega), if_pos hn] at this; exact this
      clear hgt HR hn
      go_wp2_with fail
      refine ⟨_, by simp [results, Tryd.results103, go_sem] <;> rfl, rfl, (((Below.refl _ w).alloc (Nat.le_refl _) _).alloc (by simp) _).drew⟩

theorem Cmp_any (va vb : Value) (a b : List Int) (w : World) (ha : ByteS w (fun k => k < w.heap.size) va a) (hb : ByteS w (fun k => k < w.heap.size) vb b) :
    Calls Tryd.prog 103 #[va, vb] w fun e W' => e = .returned (.int .i64 (cmpN (val a).toNat (val b).toNat)) ∧ Below w.heap.size w W' :=
  (callsIn_wide (n := 4)).1 (Cmp_good va vb a b w ha hb)

end Go.Proofs.YtncoanmgifgcbaaDoor
