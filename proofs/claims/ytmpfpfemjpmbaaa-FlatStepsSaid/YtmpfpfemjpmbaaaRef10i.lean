/- The document's memory (websterref10): Collect. -/
import Derived.Test.YtmpfpfemjpmbaaaSeen
import Derived.Test.YtmpfpfemjpmbaaaRefs05
namespace Go.Proofs.Ytmpfpfemjpmbaaa
set_option linter.unusedVariables false
set_option linter.unusedSimpArgs false
open Go.RowKit

theorem info_bool : (Try.prog.info? 4).map (fun i => (i.zero, i.size, i.bytes)) = some (some (.bool false), 1, 1) := by kernel_rfl

/-- the collection's blocks -/
structure CRows (w : World) (A : Option Addr) (n c : Nat) (V : List Bool) (wr : World) : Prop where
  chg : Chg No w wr
  r0 : Row wr w.heap.size 30 #[.slice A n c]
  r1 : Row wr (w.heap.size + 1) 30 #[.slice none 0 0]
  r2 : Row wr (w.heap.size + 1 + 1) 55 #[.int .i64 0, .int .i64 0, .int .i64 0, .slice none 0 0, .slice none 0 0, .bool false, .int .i64 0]
  rV : Row wr (w.heap.size + 1 + 1 + 1) 4 (V.map Value.bool).toArray
theorem CRows.step {w wr wr' : World} {A : Option Addr} {n c : Nat} {V : List Bool} (h : CRows w A n c V wr) (g : Chg No wr wr') : CRows w A n c V wr' := ⟨h.chg.trans g, h.r0.keep g (fun f => f), h.r1.keep g (fun f => f), h.r2.keep g (fun f => f), h.rV.keep g (fun f => f)⟩
theorem CRows.set {w wr : World} {A : Option Addr} {n c : Nat} {V : List Bool} (h : CRows w A n c V wr) (k : Nat) : CRows w A n c (V.set k true) (wr.setCell ⟨w.heap.size + 1 + 1 + 1, k, none⟩ (.bool true)) :=
  ⟨h.chg.setCell (.inr (by dsimp only; omega)) _, h.r0.other (by dsimp only; omega) _, h.r1.other (by dsimp only; omega) _, h.r2.other (by dsimp only; omega) _, by
    have := h.rV.set k (.bool true)
    rwa [show ((V.map Value.bool).toArray.setIfInBounds k (.bool true)) = ((V.set k true).map Value.bool).toArray by rw [List.setIfInBounds_toArray, List.map_set]] at this⟩
theorem CRows.cell {w wr : World} {A : Option Addr} {n c : Nat} {V : List Bool} (h : CRows w A n c V wr) {k : Nat} (hk : k < V.length) : ∀ v, Chg No wr v → v.cell? ⟨w.heap.size + 1 + 1 + 1, k, none⟩ = some (.bool (sn V k)) ∧ v.frozen? ⟨w.heap.size + 1 + 1 + 1, k, none⟩ = false := fun v hv => by
  have hr := h.rV.keep hv (fun f => f)
  refine ⟨?_, hr.frozen k⟩
  rw [hr.cell]
  simp [sn, hk]

theorem CRows.keepB {w wr wr' : World} {A : Option Addr} {n c : Nat} {V : List Bool} (h : CRows w A n c V wr) (g : Chg (fun b => w.heap.size + 4 ≤ b) wr wr') : CRows w A n c V wr' := ⟨h.chg.then g (fun i hi h => by omega), h.r0.keep g (by omega), h.r1.keep g (by omega), h.r2.keep g (by omega), h.rV.keep g (by omega)⟩
theorem app_obj {w : World} {B : Nat} {A : Option Addr} {k c : Nat} {T : List T3} (hown : w.ownsRow B 25 4 (.slice A k c) k (cellsT T)) (hk : k < 1073741823) (hB : B ≤ w.heap.size) (cs : Array Value) (o : O) (A1 A2 : Option Addr) (c1 c2 : Nat) (ty : TypeId) :
    ∃ A' c' w5, (Builtin.append_ #[28, 28] ty #[.slice A k c, .slice (some ⟨w.heap.size + 1, 0, none⟩) 1 1]).run Try.prog ((w.alloc (.cells cs 25)).alloc (.cells #[.int .i64 o.cls, .int .i64 o.kind, .slice A1 o.W.length c1, .slice A2 o.B.length c2] 25)) = .ok (.slice A' (k + 1) c') w5 ∧
      w5.ownsRow B 25 4 (.slice A' (k + 1) c') (k + 1) (cellsT (T ++ [(o, .slice A1 o.W.length c1, .slice A2 o.B.length c2)])) ∧ Chg (fun b => B ≤ b) w w5 := by
  have rN := Row.new (w.alloc (.cells cs 25)) 25 #[.int .i64 o.cls, .int .i64 o.kind, .slice A1 o.W.length c1, .slice A2 o.B.length c2]
  rw [show (w.alloc (.cells cs 25)).heap.size = w.heap.size + 1 by simp] at rN
  obtain ⟨v', w5, hr, ho, hg⟩ := run_app elem_obj (by decide) (own_keep (F := No) hown (((Chg.refl _ _).alloc (.cells cs 25)).alloc (.cells #[.int .i64 o.cls, .int .i64 o.kind, .slice A1 o.W.length c1, .slice A2 o.B.length c2] 25)) (fun _ _ f => f))
    (Slc.row (S := fun _ => True) rN 1 4 rfl (by unfold maxLen; omega) trivial) (by simp [Value.oneCell']) (by unfold maxLen; omega) (by omega) (by simp; omega) ty
  obtain ⟨A', c', rfl⟩ := own_form ho
  refine ⟨A', c', w5, hr, ?_, (((Chg.refl _ _).alloc _).alloc _).grown hg (fun j hj => .inl (own_ge hown hj))⟩
  have e : cellsT (T ++ [(o, .slice A1 o.W.length c1, .slice A2 o.B.length c2)]) = cellsT T ++ [.int .i64 o.cls, .int .i64 o.kind, .slice A1 o.W.length c1, .slice A2 o.B.length c2] := by simp [cellsT, cells2]
  rw [e]
  exact ho

set_option maxRecDepth 100000 in
set_option maxHeartbeats 4000000 in
theorem collect10_any (v : Value) (S : Nat → Prop) (L : List O) (w : World) (hv : RefM w S v L) (hL : L.length < 1073741823) (hg : ∀ i, (ob L i).kind = 0 → ob L i = O.zero) (hok : ∀ i, (ob L i).kind ≠ 0 → (ob L i).ok) (rv : Value) (R0 : List Int) (S2 : Nat → Prop) (hr : IntS w S2 rv R0) (hRl : R0.length ≤ 1073741823) :
    Calls Try.prog 62 #[v, rv] w (Ret (Stepped w S (colL L (numsOf R0)) ⟨(liveN L : Int) - liveN (colL L (numsOf R0)), O.zero, false, 0⟩)) := by
  have HV := Lib.hid hv
  obtain ⟨lv, rfl, hl⟩ := hv
  obtain ⟨A, c, rfl, hm⟩ := hl.form
  have HL := Lib.hid hl
  obtain ⟨A0, c0, rfl, -⟩ := hr.form
  have HR := Lib.hid hr
  obtain ⟨R, hRd⟩ : ∃ R, numsOf R0 = R := ⟨_, rfl⟩
  rw [hRd]
  have HRD := Lib.hid hRd
  have HG := Lib.hid hg
  have HOK := Lib.hid hok
  have hS0 := SInv.start L R
  have HS0 := Lib.hid hS0
  clear hl hr hRd hg hok hS0
  generalize hn : L.length = n at *
  have HN := Lib.hid hn
  clear hn
  generalize hn0 : R0.length = n0 at *
  have HN0 := Lib.hid hn0
  clear hn0
  obtain ⟨i0, hi, hz0, hz1, hz2⟩ := info_parts info_bool
  have Hz := Lib.hid (And.intro hz0 (And.intro hz1 hz2))
  clear hz0 hz1 hz2
  have wn : IntKind.i64.wrap ((n : Int) + 1) = (n : Int) + 1 := IntWalk.i64_in _ (by omega)
  go_enter Try.func62, Try.ntmps62
  go_wp2_with (at_make
               refine wpList_make_full _ rfl _ _ _ rfl (w.heap.size + 1 + 1 + 1) 4 i0 (.bool false) 1 Try.underlying105 hi Hz.out.1 Hz.out.2.1 _ _ _ _ (n + 1) rfl rfl (by omega) (by omega) (by rw [Hz.out.2.2]; omega) (by unfold maxLen; omega) (by simp) ?_
               intro w1 hown hgrow
               have hc1 : Chg No _ w1 := (Chg.refl _ _).grown hgrow (by simp)
               have cw1 : Chg No w w1 := Chg.trans ((((Chg.refl _ _).alloc _).alloc _).alloc _) hc1
               have ha : Row w1 w.heap.size 30 #[.slice A n c] := Row.keep (((Row.new w _ _).alloc _).alloc _) hc1 (fun f => f)
               have hb : Row w1 (w.heap.size + 1) 30 #[.slice none 0 0] := Row.keep (Row.alloc (by simpa using Row.new (w.alloc _) _ _) _) hc1 (fun f => f)
               have hd : Row w1 (w.heap.size + 1 + 1) 55 #[.int .i64 0, .int .i64 0, .int .i64 0, .slice none 0 0, .slice none 0 0, .bool false, .int .i64 0] := Row.keep (by simpa using Row.new ((w.alloc _).alloc _) 55 #[.int .i64 0, .int .i64 0, .int .i64 0, .slice none 0 0, .slice none 0 0, .bool false, .int .i64 0]) hc1 (fun f => f)
               simp only [World.size_alloc] at hown ⊢
               have he : Row w1 (w.heap.size + 1 + 1 + 1) 4 ((List.replicate (n + 1) false).map Value.bool).toArray := by
                 have h := own_row hown
                 simpa [Row, Value.cells, toList_madeCells_one] using h
               have HC := Lib.hid (show CRows w A n c (List.replicate (n + 1) false) w1 from ⟨cw1, ha, hb, hd, he⟩)
               clear ha hb hd he hown hgrow hc1 cw1)
  clear wn
  go_loopg [7] n0 (fun j v7 wr => ∃ (i : Nat) (V : List Bool), v7 = .int .i64 i ∧ i ≤ n0 ∧ n0 - i ≤ j ∧ CRows w A n c V wr ∧ SInv L R V ∧ ∀ o ∈ R0.take i, live L (namedV o) → sn V (namedV o).toNat = true)
  case atStart => exact ⟨0, _, rfl, by omega, by omega, HC.out, HS0.out, by simp⟩
  case round =>
    clear HC
    obtain ⟨i, V, rfl, i1, i2, hC, hS, hRo⟩ := hrel
    by_cases hi : i < n0
    · obtain ⟨b, off, rfl, hb, hc, x64, -⟩ := (HR.out.keep hC.chg (fun _ _ f => f)).at (i := i) (by rw [HN0.out]; exact hi)
      have hts : R0.take (i + 1) = R0.take i ++ [R0[i]?.getD 0] := by rw [List.take_succ_eq_append_getElem (by rw [HN0.out]; exact hi), List.getElem?_eq_getElem (by rw [HN0.out]; exact hi)]; rfl
      have hmem : R0[i]?.getD 0 ∈ R0 := by rw [List.getElem?_eq_getElem (by rw [HN0.out]; exact hi)]; exact List.getElem_mem _
      generalize R0[i]?.getD 0 = o at *
      obtain ⟨hS', hl', f0, f1⟩ := hS.root (o := o) (by rw [← HRD.out]; exact List.mem_map.2 ⟨o, hmem, rfl⟩)
      obtain ⟨fz, hfz⟩ := Int.eq_ofNat_of_zero_le f0
      rw [hfz, HN.out] at f1
      rw [hfz, Int.toNat_natCast] at hS' hl'
      have hlen : fz < V.length := by rw [hS.len, HN.out]; omega
      have hcv := hC.cell hlen
      have hfzn : (fz : Int) < (n : Int) + 1 := by omega
      have y1 : ∀ v, Chg No wr v → v.cell? ⟨b, off + i, none⟩ = some (.int .i64 o) := fun v hv => (hv.cell hb (fun f => f)).trans hc
      have y2 : ∀ v, Chg No wr v → v.cell? ⟨w.heap.size, 0, none⟩ = some (.slice A n c) := fun v hv => (hC.r0.keep hv (fun f => f)).cell 0
      have HC := Lib.hid (And.intro hC (And.intro hS' (And.intro hl' (And.intro hRo (And.intro hts hfz)))))
      clear hC hS hS' hl' hRo hc hts hmem hfz f0 f1 hlen
      go_wp2_with fail
      refine rem_start (by kernel_rfl) (by kernel_rfl) ?_
      refine rem_quiet 8 (C := (Chg No wr)) (by kernel_rfl) (by simp only [List.toList_toArray, List.drop_succ_cons, List.drop_zero, List.take_succ_cons, List.take_zero, Nat.reduceSub, Nat.reduceAdd]; rfl) ?_ ?_
      · exact (Chg.refl _ _).drew
      repeat
        refine q_step (fun K hK => ?_)
        go_simp
        first
          | ((with_reducible refine hK _ ?_); clear hK K)
          | (refine (if_neg (by simp [undef])).mpr ?_; (with_reducible refine hK _ ?_); clear hK K)
          | (apply Exists.intro
             with_reducible refine ⟨fun v hv => ?_, hK _ ?_⟩
             · first
                 | with_reducible exact rfl
                 | with_reducible exact ⟨rfl, rfl⟩
                 | (go_simp
                    first
                      | done
                      | with_reducible exact rfl
                      | with_reducible exact ⟨rfl, rfl⟩
                      | (go_at_call 57; refine (find10_any _ S L _ (HV.out.keep (HC.out.1.chg.trans hv) (fun _ _ f => f)) o x64).mono ?_; rw [HC.out.2.2.2.2.2]; rintro e w' ⟨rfl, c2⟩; exact ⟨rfl, hv.trans c2⟩))
             clear hK K)
      refine q_nil ?_
      intro V' hV'
      obtain ⟨z1, z2⟩ := hcv V' hV'
      refine rem_one (by kernel_rfl) (by kernel_rfl) rfl (by kernel_rfl) (fun K hK => ?_)
      go_wp2_with fail
      refine rem_end (by kernel_rfl) ?_
      go_wp2_with fail
      go_roundg (n0 - (i + 1))
      case measure => omega
      case rel =>
        refine ⟨i + 1, _, by go_num, by omega, by omega, (HC.out.1.step hV').set fz, HC.out.2.1, fun o' ho' hl => ?_⟩
        rw [HC.out.2.2.2.2.1] at ho'
        rcases List.mem_append.1 ho' with h | h
        · exact sn_mono _ _ _ (HC.out.2.2.2.1 o' h hl)
        · obtain rfl := List.mem_singleton.1 h
          exact HC.out.2.2.1 hl
    · obtain rfl : i = n0 := by omega
      rw [List.take_of_length_le (by rw [HN0.out]; exact Nat.le_refl _)] at hRo
      have hRo' : ∀ r ∈ R, live L r → sn V r.toNat = true := fun r hr hl => by
        rw [← HRD.out] at hr
        obtain ⟨o, ho, rfl⟩ := List.mem_map.1 hr
        exact hRo o ho hl
      have HC := Lib.hid (And.intro hC (And.intro hS hRo'))
      clear hC hS hRo hRo'
      go_wp2_with fail
      clear i1 i2 hi
      have hcnt : cntF V ≤ n + 1 := by
        have h1 : cntF V ≤ V.length := List.length_filter_le _ _
        rw [HC.out.2.1.len, HN.out] at h1
        exact h1
      go_loopg [8] (n + 2) (fun j v8 wr => ∃ (V : List Bool) (mo : Bool), v8 = .bool mo ∧ CRows w A n c V wr ∧ SInv L R V ∧ (∀ r ∈ R, live L r → sn V r.toNat = true) ∧ (mo = false → ∀ k, k < n → ClosAt L V k) ∧ (mo = true → cntF V + 1 ≤ j))
      case atStart => exact ⟨V, true, rfl, HC.out.1, HC.out.2.1, HC.out.2.2, (fun h => by cases h), (fun _ => by omega)⟩
      case round =>
        clear HC hcnt V
        obtain ⟨V, mo, rfl, hC, hS, hRo, hcl, hj⟩ := hrel
        cases mo
        · have hcl' := hcl rfl
          have hD := hS.done hRo (fun k hk => hcl' k (by rw [← HN.out]; exact hk))
          have HC := Lib.hid (And.intro hC (And.intro hS hD))
          clear hC hS hRo hcl hj hcl'
          obtain ⟨T0, hT, hs, hok⟩ := HL.out
          have hTL : T0.length = n := by rw [← HN.out, ← hT]; simp
          have hcells : ∀ (i : Nat) (o : O) (wv bv : Value), T0[i]? = some (o, wv, bv) → ob L i = o ∧ okT w S (o, wv, bv) ∧ ∃ b off, A = some ⟨b, off, none⟩ ∧ ∀ v, Chg No w v → v.cell? ⟨b, off + i * 4, none⟩ = some (.int .i64 o.cls) ∧ v.cell? ⟨b, off + i * 4 + 1, none⟩ = some (.int .i64 o.kind) ∧ v.cell? ⟨b, off + i * 4 + 2, none⟩ = some wv ∧ v.cell? ⟨b, off + i * 4 + 3, none⟩ = some bv := fun i o wv bv hti => by
            obtain ⟨A', c', e, hl, h1, h2, h0, h3⟩ := hs
            obtain ⟨rfl, -, rfl⟩ := Value.slice.inj e
            have hi : i < T0.length := (List.getElem?_eq_some_iff.1 hti).1
            obtain ⟨b, off, hA, hS, hb, hc⟩ := h3 (by omega)
            have hcell := fun j hj u hu => hc (4 * i + j) u ((cellsT_at T0 i _ hti j hj).trans hu)
            refine ⟨?_, hok _ (List.mem_of_getElem? hti), b, off, hA, fun v g => ⟨?_, ?_, ?_, ?_⟩⟩
            · rw [ob, ← hT, List.getElem?_map, hti]; rfl
            · rw [Nat.mul_comm]; exact (g.cell hb (fun f => f)).trans (hcell 0 (by omega) _ rfl)
            · rw [Nat.mul_comm, Nat.add_assoc]; exact (g.cell hb (fun f => f)).trans (hcell 1 (by omega) _ rfl)
            · rw [Nat.mul_comm, Nat.add_assoc]; exact (g.cell hb (fun f => f)).trans (hcell 2 (by omega) _ rfl)
            · rw [Nat.mul_comm, Nat.add_assoc]; exact (g.cell hb (fun f => f)).trans (hcell 3 (by omega) _ rfl)
          have HCE := Lib.hid hcells
          clear hs hok hcells hT
          generalize hsw : wr.heap.size = bs
          have hbs : w.heap.size + 4 ≤ bs := by have := HC.out.1.rV.lt; omega
          clear hsw
          go_wp2_with fail
          go_loopg [13, 14, 15] n (fun j v13 v14 v15 wr => ∃ (k : Nat) (T : List T3), v13 = .int .i64 (dead L V k) ∧ v15 = .int .i64 ((k : Int) + 1) ∧ k ≤ n ∧ n - k ≤ j ∧ T.length = k ∧ (∀ i, i < k → (T[i]?).map (·.1) = some (ob (colL L R) i)) ∧ wr.ownsRow (w.heap.size + 4) 25 4 v14 k (cellsT T) ∧ CRows w A n c V wr ∧ ∀ t ∈ T, okT w (fun b => S b ∧ b < w.heap.size) t)
          case atStart => exact ⟨0, [], rfl, rfl, by omega, by omega, rfl, (fun i h => by omega), World.ownsRow_nil _ _ _ _, HC.out.1, by simp⟩
          case round =>
            obtain ⟨k, T, rfl, rfl, k1, k2, hTk, hTo, hown, hC, hTok⟩ := hrel
            obtain ⟨A9, c9, rfl⟩ := own_form hown
            have x0 : wr.cell? ⟨w.heap.size, 0, none⟩ = some (.slice A n c) := hC.r0.cell 0
            by_cases hk : k < n
            · obtain ⟨⟨o, wv, bv⟩, hti⟩ : ∃ t, T0[k]? = some t := ⟨_, List.getElem?_eq_getElem (by rw [hTL]; exact hk)⟩
              obtain ⟨hob, hokt, b, off, rfl, hcl⟩ := HCE.out k o wv bv hti
              obtain ⟨y1, y2, y3, y4⟩ := hcl wr hC.chg
              obtain ⟨A1, c1, hA1, -⟩ := hokt.1.form
              obtain ⟨A2, c2, hA2, -⟩ := hokt.2.1.form
              dsimp only at hA1 hA2
              subst hA1 hA2
              have t1 : decide ((k : Int) + 1 ≤ (n : Int)) = true := decide_eq_true (by omega)
              have hlen : k + 1 < V.length := by rw [HC.out.2.1.len, HN.out]; omega
              have hkn : (k : Int) + 1 < (n : Int) + 1 := by omega
              have v1 : IntKind.i64.wrap ((k : Int) + 1 - 1) = (k : Int) := (IntWalk.i64_in _ (by omega)).trans (by omega)
              have v2 : IntKind.i64.wrap (k : Int) = (k : Int) := IntWalk.i64_in _ (by omega)
              obtain ⟨y0, yf⟩ := hC.cell hlen (wr.alloc (.cells #[.int .i64 o.cls, .int .i64 o.kind, .slice A1 o.W.length c1, .slice A2 o.B.length c2] 25)) ((Chg.refl _ _).alloc _)
              have hdk := dead_le L V k
              have hds := dead_succ L V k
              have hoc := ob_colV HC.out.2.2 HG.out k
              rw [hob] at hds hoc
              have hokt2 : okT w (fun b => S b ∧ b < w.heap.size) (o, .slice A1 o.W.length c1, .slice A2 o.B.length c2) := hokt.more fun b h1 h2 => ⟨h2, h1⟩
              obtain ⟨A5, c5, w5, hr5, ho5, cg5⟩ := app_obj hown (by omega) (by have := hC.rV.lt; omega) #[.int .i64 o.cls, .int .i64 o.kind, .slice A1 o.W.length c1, .slice A2 o.B.length c2] o A1 A2 c1 c2 28
              obtain ⟨A6, c6, w6, hr6, ho6, cg6⟩ := app_obj hown (by omega) (by have := hC.rV.lt; omega) #[.int .i64 0, .int .i64 0, .slice none 0 0, .slice none 0 0] O.zero none none 0 0 28
              simp only [O.zero, List.length_nil] at hr6
              have z0k : okT w (fun b => S b ∧ b < w.heap.size) (O.zero, .slice none 0 0, .slice none 0 0) := ⟨IntS.nil _ _, ByteS.nil _ _, (show In64 0 by unfold In64; omega), (show In64 0 by unfold In64; omega)⟩
              have HX := Lib.hid (And.intro (And.intro hC.chg.size (hC.keepB cg5)) (And.intro (hC.keepB cg6) (And.intro ho5 (And.intro ho6 (And.intro hTk (And.intro hTo (And.intro hTok (And.intro hokt2 z0k))))))))
              have fin : ∀ (t : T3), t.1 = ob (colL L R) k → (∀ i, i < k + 1 → ((T ++ [t])[i]?).map (·.1) = some (ob (colL L R) i)) := fun t ht i hi => by
                rcases Nat.lt_or_ge i k with h | h
                · rw [List.getElem?_append_left (by omega)]
                  exact hTo i h
                · obtain rfl : i = k := by omega
                  rw [List.getElem?_append_right (by omega), hTk, Nat.sub_self]
                  simp [ht]
              have mem : ∀ (t : T3), okT w (fun b => S b ∧ b < w.heap.size) t → ∀ x ∈ T ++ [t], okT w (fun b => S b ∧ b < w.heap.size) x := fun t ht x hx => by
                rcases List.mem_append.1 hx with h | h
                · exact hTok x h
                · obtain rfl := List.mem_singleton.1 h
                  exact ht
              have HF := Lib.hid (And.intro fin mem)
              have HR5 := Lib.hid hr5
              have HR6 := Lib.hid hr6
              clear hown hC hTk hTo hTok hob hokt hokt2 hcl hr5 hr6 ho5 ho6 cg5 cg6 fin mem hti z0k
              cases hs : sn V (k + 1)
              · rw [hs] at y0 hds hoc
                by_cases hkd : o.kind = 0
                · have e9 : (o.kind != 0 && !false) = false := by rw [hkd]; rfl
                  rw [e9] at hds hoc
                  have HD := Lib.hid (And.intro hds hoc)
                  have t2 : (o.kind != 0) = false := by rw [hkd]; rfl
                  clear hs hds hoc e9 hkd
                  generalize dead L V k = dk at *
                  go_wp2_with (at_builtin; refine wpList_append_run rfl _ _ _ rfl rfl rfl HR5.out ?_)
                  go_roundg (n - (k + 1))
                  case measure => omega
                  case rel => exact ⟨k + 1, _, by rw [HD.out.1]; rfl, by go_num, by omega, by omega, by rw [List.length_append, HX.out.2.2.2.2.1]; rfl, HF.out.1 _ HD.out.2.symm, HX.out.2.2.1, HX.out.1.2, HF.out.2 _ HX.out.2.2.2.2.2.2.2.1⟩
                · have e9 : (o.kind != 0 && !false) = true := by simpa using hkd
                  rw [e9] at hds hoc
                  have HD := Lib.hid (And.intro hds hoc)
                  have t2 : (o.kind != 0) = true := by simpa using hkd
                  clear hs hds hoc e9 hkd
                  generalize dead L V k = dk at *
                  have wd : IntKind.i64.wrap ((dk : Int) + 1) = (dk : Int) + 1 := IntWalk.i64_in _ (by omega)
                  go_wp2_with (at_builtin; refine wpList_append_run rfl _ _ _ rfl rfl rfl HR6.out ?_)
                  go_roundg (n - (k + 1))
                  case measure => omega
                  case rel => exact ⟨k + 1, _, by rw [HD.out.1]; rfl, by go_num, by omega, by omega, by rw [List.length_append, HX.out.2.2.2.2.1]; rfl, HF.out.1 _ HD.out.2.symm, HX.out.2.2.2.1, HX.out.2.1, HF.out.2 _ HX.out.2.2.2.2.2.2.2.2⟩
              · rw [hs] at y0 hds hoc
                have e9 : (o.kind != 0 && !true) = false := by simp
                rw [e9] at hds hoc
                have HD := Lib.hid (And.intro hds hoc)
                clear hs hds hoc e9
                generalize dead L V k = dk at *
                go_wp2_with (at_builtin; refine wpList_append_run rfl _ _ _ rfl rfl rfl HR5.out ?_)
                go_roundg (n - (k + 1))
                case measure => omega
                case rel => exact ⟨k + 1, _, by rw [HD.out.1]; rfl, by go_num, by omega, by omega, by rw [List.length_append, HX.out.2.2.2.2.1]; rfl, HF.out.1 _ HD.out.2.symm, HX.out.2.2.1, HX.out.1.2, HF.out.2 _ HX.out.2.2.2.2.2.2.2.1⟩
            · obtain rfl : k = n := by omega
              have t1 : decide ((k : Int) + 1 ≤ (k : Int)) = false := decide_eq_false (by omega)
              have hda := dead_all HC.out.2.2
              rw [HN.out] at hda
              have HDA := Lib.hid hda
              have z0 : wr.cell? ⟨w.heap.size + 1, 0, none⟩ = some (.slice none 0 0) := hC.r1.cell 0
              have zf := hC.r1.frozen 0
              have z2 := hC.r2.seven
              have HX := Lib.hid (And.intro hC (And.intro hown (And.intro hTk (And.intro hTo hTok))))
              clear hC hown hTk hTo hTok hda
              generalize dead L V k = dk at *
              go_wp2_with fail
              obtain ⟨hC, hown, hTk, hTo, hTok⟩ := HX.out
              have cV : ∀ W, Chg (fun b => b = w.heap.size + 1 ∨ b = w.heap.size + 1 + 1) wr W → RefM W (fun b => S b ∨ w.heap.size ≤ b) (.agg #[.slice A9 k c9]) (colL L R) ∧ Chg No w W := fun W hW => by
                have cF : Chg No w W := hC.chg.then hW (fun i hi h => by omega)
                have hoW := own_keep hown hW (fun b hb h => by have := own_ge hown hb; omega)
                refine ⟨⟨_, rfl, T, ?_, ?_, fun t ht => ((hTok t ht).keep cF (fun _ _ f => f)).more (fun b _ h => .inl h.1)⟩, cF⟩
                · apply List.ext_getElem?
                  intro i
                  rw [List.getElem?_map]
                  rcases Nat.lt_or_ge i k with h | h
                  · rw [hTo i h, ob, List.getElem?_eq_getElem (by rw [colL_len, HN.out]; exact h)]
                    rfl
                  · rw [List.getElem?_eq_none (by omega), List.getElem?_eq_none (by rw [colL_len, HN.out]; exact h)]
                    rfl
                · rw [hTk]
                  exact (Slc.of_own hoW).more (fun b _ hb => .inr (by have := own_ge hoW hb; omega))
              refine bodyPost_ret (v := .tuple #[.agg #[.slice A9 k c9], .agg #[.int .i64 dk, .int .i64 0, .int .i64 0, .slice none 0 0, .slice none 0 0, .bool false, .int .i64 0]]) (by simp [results, Try.results62, go_sem, z0, z2]) rfl (Ret.mk ⟨_, _, rfl, (cV _ ?_).1, by rw [HDA.out]; exact ToldR.flat _ _ _ _ _, (cV _ ?_).2⟩)
              · repeat (with_reducible first | exact Chg.refl _ _ | refine Chg.setCell ?_ (.inl (by simp)) _)
              · repeat (with_reducible first | exact Chg.refl _ _ | refine Chg.setCell ?_ (.inl (by simp)) _)
        · have hj' := hj rfl
          have HC := Lib.hid (And.intro hC (And.intro hS hRo))
          clear hC hS hRo hcl hj
          go_wp2_with fail
          obtain ⟨wa, rfl⟩ : ∃ wa, wa = wr := ⟨wr, rfl⟩
          obtain ⟨V0, rfl⟩ : ∃ V0, V0 = V := ⟨V, rfl⟩
          go_loopg [8, 9] n (fun j v8 v9 wr => ∃ (V : List Bool) (mo : Bool) (k : Nat), v8 = .bool mo ∧ v9 = .int .i64 ((k : Int) + 1) ∧ k ≤ n ∧ n - k ≤ j ∧ CRows w A n c V wr ∧ SInv L R V ∧ (∀ r ∈ R, live L r → sn V r.toNat = true) ∧ (mo = false → V = V0 ∧ ∀ k', k' < k → ClosAt L V0 k') ∧ (mo = true → cntF V < cntF V0))
          case atStart => exact ⟨V0, false, 0, rfl, rfl, by omega, by omega, HC.out.1, HC.out.2.1, HC.out.2.2, (fun _ => ⟨rfl, fun k' h => by omega⟩), (fun h => by cases h)⟩
          case round =>
            clear HC
            obtain ⟨V, mo, k, rfl, rfl, k1, k2, hC, hS, hRo, hcl, hmo⟩ := hrel
            have x0 : wr.cell? ⟨w.heap.size, 0, none⟩ = some (.slice A n c) := hC.r0.cell 0
            have v1 : IntKind.i64.wrap ((k : Int) + 1 - 1) = (k : Int) := (IntWalk.i64_in _ (by omega)).trans (by omega)
            have v2 : IntKind.i64.wrap (k : Int) = (k : Int) := IntWalk.i64_in _ (by omega)
            by_cases hk : k < n
            · have t1 : decide ((k : Int) + 1 ≤ (n : Int)) = true := decide_eq_true (by omega)
              have hlen : k + 1 < V.length := by rw [hS.len, HN.out]; omega
              have hkn : (k : Int) + 1 < (n : Int) + 1 := by omega
              obtain ⟨y0, yf⟩ := hC.cell hlen wr (Chg.refl _ _)
              cases hsk : sn V (k + 1)
              · rw [hsk] at y0
                have HK := Lib.hid hsk
                have HC := Lib.hid (And.intro hC (And.intro hS (And.intro hRo (And.intro hcl hmo))))
                clear hC hS hRo hcl hmo hsk
                go_wp2_with fail
                go_roundg (n - (k + 1))
                case measure => omega
                case rel => exact ⟨V, mo, k + 1, rfl, by go_num, by omega, by omega, HC.out.1, HC.out.2.1, HC.out.2.2.1, (fun h => ⟨(HC.out.2.2.2.1 h).1, fun k' hk' => (by
                  rcases Nat.lt_or_ge k' k with h1 | h1
                  · exact (HC.out.2.2.2.1 h).2 k' h1
                  · obtain rfl : k' = k := by omega
                    intro hs
                    rw [← (HC.out.2.2.2.1 h).1, HK.out] at hs
                    cases hs)⟩), HC.out.2.2.2.2⟩
              · rw [hsk] at y0
                have hkd : (ob L k).kind ≠ 0 := by
                  have := (hS.snd k hsk).there.2
                  rwa [show ((k : Int) + 1 - 1).toNat = k by omega] at this
                have hkok := HOK.out k hkd
                have t2 : ((ob L k).kind == 0) = false := beq_eq_false_iff_ne.2 hkd
                obtain ⟨b, off, c', wv, bv, e, -, hc, ho⟩ := (HL.out.keep hC.chg (fun _ _ f => f)).cells (i := k) (by rw [HN.out]; exact hk)
                rw [HN.out] at e
                obtain ⟨rfl, -, rfl⟩ := Value.slice.inj e
                obtain ⟨y1, y2, y3, y4⟩ := hc wr (Chg.refl _ _)
                obtain ⟨A1, c1, A2, c2, e1⟩ := ho.shape
                obtain ⟨rfl, rfl⟩ : wv = .slice A1 (ob L k).W.length c1 ∧ bv = .slice A2 (ob L k).B.length c2 := by simpa [cells2] using e1
                simp only [cells2] at ho
                have hWk : (ob L k).W.length ≤ 1000000 := Nat.le_trans hkok.2.2.1 (by omega)
                obtain ⟨xs, hxs⟩ : ∃ xs, refsO (ob L k) = xs := ⟨_, rfl⟩
                have hbd : ∀ x ∈ xs, 1 ≤ x ∧ x ≤ 1073741823 := fun x hx => refsO_bounds (by rw [hxs]; exact hx)
                have hnr : xs.length ≤ 1000001 := by
                  have h2 : xs.length ≤ ((ob L k).cls :: (ob L k).W).length := by rw [← hxs]; exact fm_len _
                  rw [List.length_cons] at h2
                  omega
                obtain ⟨nr, hnl⟩ : ∃ nr, xs.length = nr := ⟨_, rfl⟩
                have HXS := Lib.hid (And.intro hxs (And.intro hnl hbd))
                rw [hnl] at hnr
                have HO := Lib.hid ho
                have HWk := Lib.hid hWk
                have HC := Lib.hid (And.intro hC (And.intro hS (And.intro hRo (And.intro hcl (And.intro hmo hsk)))))
                generalize (ob L k).kind = kd at *
                clear hC hS hRo hcl hmo hsk e hc ho e1 hkok hkd hxs hnl hbd hWk
                go_wp2_with (go_at_call 35
                             refine (Refs05_any _ (ob L k) _ _ HO.out HWk.out).mono ?_
                             rw [HXS.out.1]
                             rintro e w6 ⟨r, rfl, hown, cr⟩
                             obtain ⟨A8, c8, rfl⟩ := hown.form
                             rw [HXS.out.2.1]
                             rw [HXS.out.2.1] at hown
                             have hlt := HC.out.1.rV.lt
                             have HOW := Lib.hid (And.intro hown (And.intro (HC.out.1.step cr) hlt))
                             clear hown cr)
                clear y0 yf y1 y2 y3 y4 x0
                generalize wr.heap.size = bs at *
                obtain ⟨Vk, rfl⟩ : ∃ Vk, Vk = V := ⟨V, rfl⟩
                obtain ⟨mok, rfl⟩ : ∃ mok, mok = mo := ⟨mo, rfl⟩
                go_loopg [8, 11] nr (fun j v8 v11 wr => ∃ (V : List Bool) (mo : Bool) (i : Nat), v8 = .bool mo ∧ v11 = .int .i64 i ∧ i ≤ nr ∧ nr - i ≤ j ∧ CRows w (some ⟨b, off, none⟩) n c V wr ∧ SInv L R V ∧ (∀ r ∈ R, live L r → sn V r.toNat = true) ∧ sn V (k + 1) = true ∧ OwnInts wr bs (.slice A8 nr c8) xs ∧
                  (mo = false → V = V0 ∧ (∀ k', k' < k → ClosAt L V0 k') ∧ ∀ x ∈ xs.take i, live L x → sn V0 x.toNat = true) ∧ (mo = true → cntF V < cntF V0))
                case atStart => exact ⟨Vk, mok, 0, rfl, rfl, by omega, by omega, HOW.out.2.1, HC.out.2.1, HC.out.2.2.1, HC.out.2.2.2.2.2, HOW.out.1, (fun h => ⟨(HC.out.2.2.2.1 h).1, (HC.out.2.2.2.1 h).2, by simp⟩), HC.out.2.2.2.2.1⟩
                case round =>
                  have hbs := HOW.out.2.2
                  clear HC HOW
                  obtain ⟨V, mo, i, rfl, rfl, i1, i2, hC, hS, hRo, hsk, hown, hcl, hmo⟩ := hrel
                  by_cases hi : i < nr
                  · obtain ⟨x, hx⟩ : ∃ x, xs[i]? = some x := ⟨_, List.getElem?_eq_getElem (by rw [HXS.out.2.1]; exact hi)⟩
                    have hxm := List.mem_of_getElem? hx
                    obtain ⟨x1, x2⟩ := HXS.out.2.2 x hxm
                    have hts : xs.take (i + 1) = xs.take i ++ [x] := by rw [List.take_add_one, hx]; rfl
                    obtain ⟨br, rfl, -, hbr, -, hzr⟩ := hown.at (i := i) (by rw [HXS.out.2.1]; exact hi)
                    rw [hx, Nat.zero_add, Option.getD_some] at hzr
                    have y1 : ∀ v, Chg No wr v → v.cell? ⟨br, i, none⟩ = some (.int .i64 x) := fun v hv => (hv.cell hbr (fun f => f)).trans hzr
                    have y2 : ∀ v, Chg No wr v → v.cell? ⟨w.heap.size, 0, none⟩ = some (.slice (some ⟨b, off, none⟩) n c) := fun v hv => (hC.r0.keep hv (fun f => f)).cell 0
                    have wx : IntKind.i64.wrap (2 * x) = 2 * x := IntWalk.i64_in _ (by omega)
                    have x64 : In64 (2 * x) := by unfold In64; omega
                    rcases find_live (L := L) x1 x2 with ⟨hlv, hf⟩ | ⟨hlv, hf⟩
                    · obtain ⟨kx, rfl, hkx⟩ := live_lt hlv
                      rw [HN.out] at hkx
                      have hlen : kx + 1 < V.length := by rw [hS.len, HN.out]; omega
                      have hcv := hC.cell hlen
                      have hfzn : (kx : Int) + 1 < (n : Int) + 1 := by omega
                      have t3 : decide (0 < (kx : Int) + 1) = true := decide_eq_true (by omega)
                      cases hsx : sn V (kx + 1)
                      · have hcs := cntF_set V (kx + 1) hlen hsx
                        have hS' := hS.mark (.step (hS.snd k hsk) (by rw [show ((k : Int) + 1 - 1).toNat = k by omega, HXS.out.1]; exact hxm) hlv)
                        rw [hsx] at hcv
                        have HC := Lib.hid (And.intro hC (And.intro hS' (And.intro hRo (And.intro hsk (And.intro hown (And.intro hcl (And.intro hmo (And.intro hcs hf))))))))
                        clear hC hS hS' hRo hsk hown hcl hmo hf hlv hsx hcs hts hzr hx hxm
                        go_wp2_with fail
                        refine q_region (C := (Chg No wr)) (by kernel_rfl) (by kernel_rfl) ?_ ?_
                        · exact (Chg.refl _ _).drew
                        repeat
                          refine q_step (fun K hK => ?_)
                          go_simp
                          first
                            | ((with_reducible refine hK _ ?_); clear hK K)
                            | (refine (if_neg (by simp [undef])).mpr ?_; (with_reducible refine hK _ ?_); clear hK K)
                            | (apply Exists.intro
                               with_reducible refine ⟨fun v hv => ?_, hK _ ?_⟩
                               · first
                                   | with_reducible exact rfl
                                   | with_reducible exact ⟨rfl, rfl⟩
                                   | (go_simp
                                      first
                                        | done
                                        | with_reducible exact rfl
                                        | with_reducible exact ⟨rfl, rfl⟩
                                        | (go_at_call 57; refine (find10_any _ S L _ (HV.out.keep (HC.out.1.chg.trans hv) (fun _ _ f => f)) _ x64).mono ?_; rw [HC.out.2.2.2.2.2.2.2.2]; rintro e w' ⟨rfl, c2⟩; exact ⟨rfl, hv.trans c2⟩))
                               clear hK K)
                        refine q_nil ?_
                        intro V' hV'
                        obtain ⟨z1, z2⟩ := hcv V' hV'
                        go_wp2_with fail
                        go_roundg (nr - (i + 1))
                        case measure => omega
                        case rel =>
                          have h7 := HC.out.2.2.2.2.2.2.1
                          have h6 := HC.out.2.2.2.2.2.1
                          have h8 := HC.out.2.2.2.2.2.2.2.1
                          refine ⟨V.set (kx + 1) true, true, i + 1, rfl, by go_num, by omega, by omega, (HC.out.1.step hV').set (kx + 1), HC.out.2.1, fun r hr hl => sn_mono _ _ _ (HC.out.2.2.1 r hr hl), sn_mono _ _ _ HC.out.2.2.2.1, ?_, (fun h => by cases h), fun _ => ?_⟩
                          · exact (HC.out.2.2.2.2.1.keep hV' (fun _ _ f => f)).keep (Chg.one _ _ _ _) (fun b hb h => by omega)
                          · cases mo
                            · have := (h6 rfl).1; rw [← this]; omega
                            · have := h7 rfl; omega
                      · rw [hsx] at hcv
                        have HC := Lib.hid (And.intro hC (And.intro hS (And.intro hRo (And.intro hsk (And.intro hown (And.intro hcl (And.intro hmo (And.intro hts (And.intro hf hsx)))))))))
                        clear hC hS hRo hsk hown hcl hmo hf hlv hsx hts hzr hx hxm
                        go_wp2_with fail
                        refine q_region (C := (Chg No wr)) (by kernel_rfl) (by kernel_rfl) ?_ ?_
                        · exact (Chg.refl _ _).drew
                        repeat
                          refine q_step (fun K hK => ?_)
                          go_simp
                          first
                            | ((with_reducible refine hK _ ?_); clear hK K)
                            | (refine (if_neg (by simp [undef])).mpr ?_; (with_reducible refine hK _ ?_); clear hK K)
                            | (apply Exists.intro
                               with_reducible refine ⟨fun v hv => ?_, hK _ ?_⟩
                               · first
                                   | with_reducible exact rfl
                                   | with_reducible exact ⟨rfl, rfl⟩
                                   | (go_simp
                                      first
                                        | done
                                        | with_reducible exact rfl
                                        | with_reducible exact ⟨rfl, rfl⟩
                                        | (go_at_call 57; refine (find10_any _ S L _ (HV.out.keep (HC.out.1.chg.trans hv) (fun _ _ f => f)) _ x64).mono ?_; rw [HC.out.2.2.2.2.2.2.2.2.1]; rintro e w' ⟨rfl, c2⟩; exact ⟨rfl, hv.trans c2⟩))
                               clear hK K)
                        refine q_nil ?_
                        intro V' hV'
                        obtain ⟨z1, z2⟩ := hcv V' hV'
                        go_wp2_with fail
                        go_roundg (nr - (i + 1))
                        case measure => omega
                        case rel =>
                          obtain ⟨hC, hS, hRo, hsk, hown, hcl, hmo, hts, hf, hsx⟩ := HC.out
                          refine ⟨V, mo, i + 1, rfl, by go_num, by omega, by omega, hC.step hV', hS, hRo, hsk, hown.keep hV' (fun _ _ f => f), (fun h => ⟨(hcl h).1, (hcl h).2.1, fun x' hx' hl => ?_⟩), hmo⟩
                          rw [hts] at hx'
                          rcases List.mem_append.1 hx' with h1 | h1
                          · exact (hcl h).2.2 x' h1 hl
                          · obtain rfl := List.mem_singleton.1 h1
                            rw [← (hcl h).1, show ((kx : Int) + 1).toNat = kx + 1 by omega]
                            exact hsx
                    · have HC := Lib.hid (And.intro hC (And.intro hS (And.intro hRo (And.intro hsk (And.intro hown (And.intro hcl (And.intro hmo (And.intro hts (And.intro hf hlv)))))))))
                      clear hC hS hRo hsk hown hcl hmo hf hlv hts hzr hx hxm
                      go_wp2_with fail
                      refine q_region (C := (Chg No wr)) (by kernel_rfl) (by kernel_rfl) ?_ ?_
                      · exact (Chg.refl _ _).drew
                      repeat
                        refine q_step (fun K hK => ?_)
                        go_simp
                        first
                          | ((with_reducible refine hK _ ?_); clear hK K)
                          | (refine (if_neg (by simp [undef])).mpr ?_; (with_reducible refine hK _ ?_); clear hK K)
                          | (apply Exists.intro
                             with_reducible refine ⟨fun v hv => ?_, hK _ ?_⟩
                             · first
                                 | with_reducible exact rfl
                                 | with_reducible exact ⟨rfl, rfl⟩
                                 | (go_simp
                                    first
                                      | done
                                      | with_reducible exact rfl
                                      | with_reducible exact ⟨rfl, rfl⟩
                                      | (go_at_call 57; refine (find10_any _ S L _ (HV.out.keep (HC.out.1.chg.trans hv) (fun _ _ f => f)) _ x64).mono ?_; rw [HC.out.2.2.2.2.2.2.2.2.1]; rintro e w' ⟨rfl, c2⟩; exact ⟨rfl, hv.trans c2⟩))
                             clear hK K)
                      refine q_nil ?_
                      intro V' hV'
                      go_wp2_with fail
                      go_roundg (nr - (i + 1))
                      case measure => omega
                      case rel =>
                        obtain ⟨hC, hS, hRo, hsk, hown, hcl, hmo, hts, hf, hlv⟩ := HC.out
                        refine ⟨V, mo, i + 1, rfl, by go_num, by omega, by omega, hC.step hV', hS, hRo, hsk, hown.keep hV' (fun _ _ f => f), (fun h => ⟨(hcl h).1, (hcl h).2.1, fun x' hx' hl => ?_⟩), hmo⟩
                        rw [hts] at hx'
                        rcases List.mem_append.1 hx' with h1 | h1
                        · exact (hcl h).2.2 x' h1 hl
                        · obtain rfl := List.mem_singleton.1 h1
                          exact absurd hl hlv
                  · obtain rfl : i = nr := by omega
                    rw [List.take_of_length_le (by rw [HXS.out.2.1]; exact Nat.le_refl _)] at hcl
                    have HC := Lib.hid (And.intro hC (And.intro hS (And.intro hRo (And.intro hcl hmo))))
                    clear hC hS hRo hcl hmo hown hsk
                    go_wp2_with fail
                    go_roundg (n - (k + 1))
                    case measure => omega
                    case rel =>
                      obtain ⟨hC, hS, hRo, hcl, hmo⟩ := HC.out
                      exact ⟨V, mo, k + 1, rfl, by go_num, by omega, by omega, hC, hS, hRo, (fun h => ⟨(hcl h).1, fun k' hk' => (by
                        rcases Nat.lt_or_ge k' k with h1 | h1
                        · exact (hcl h).2.1 k' h1
                        · obtain rfl : k' = k := by omega
                          intro _ x' hx' hl
                          rw [HXS.out.1] at hx'
                          exact (hcl h).2.2 x' hx' hl)⟩), hmo⟩
            · obtain rfl : k = n := by omega
              have t1 : decide ((k : Int) + 1 ≤ (k : Int)) = false := decide_eq_false (by omega)
              have HC := Lib.hid (And.intro hC (And.intro hS (And.intro hRo (And.intro hcl hmo))))
              clear hC hS hRo hcl hmo
              cases mo
              · go_wp2_with fail
                go_roundg 0
                case measure => omega
                case rel =>
                  obtain ⟨hC, hS, hRo, hcl, hmo⟩ := HC.out
                  exact ⟨V, false, rfl, hC, hS, hRo, (fun _ k' hk' => by have h9 := hcl (by trivial); rw [h9.1]; exact h9.2 k' hk'), (fun h => by cases h)⟩
              · have hlt := HC.out.2.2.2.2 rfl
                go_wp2_with fail
                go_roundg (cntF V + 1)
                case measure => omega
                case rel =>
                  obtain ⟨hC, hS, hRo, hcl, hmo⟩ := HC.out
                  exact ⟨V, true, rfl, hC, hS, hRo, (fun h => by cases h), (fun _ => Nat.le_refl _)⟩

end Go.Proofs.Ytmpfpfemjpmbaaa
