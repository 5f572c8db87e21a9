/- flat.Load: objects loaded into a flat memory. -/
import Derived.Test.YtncoanmgifgcbaaDoorLoadA
import Derived.Handy
namespace Go.Proofs.YtncoanmgifgcbaaDoor
set_option linter.unusedVariables false
set_option linter.unusedSimpArgs false
open Go.RowKit

theorem ahead_New (a : Addr) (w : World) : (nilAhead 317 27 (.pointer (some a)) "New").run Tryd.prog w = .ok (some false) w := by kernel_rfl
theorem ahead_Set (a : Addr) (w : World) : (nilAhead 317 27 (.pointer (some a)) "Set").run Tryd.prog w = .ok (some false) w := by kernel_rfl
theorem ahead_SetByte (a : Addr) (w : World) : (nilAhead 317 27 (.pointer (some a)) "SetByte").run Tryd.prog w = .ok (some false) w := by kernel_rfl

section
variable {w0 w w' : World} {m : Nat} {L : List O} {K : (Nat → Prop) → World → Prop}
/-- one more thing is kept: a new block -/
theorem MemK.newRow (h : MemK w0 w m L K) (t : TypeId) (cs : Array Value) : MemK w0 (w.alloc (.cells cs t)) m L (fun F v => K F v ∧ ¬ F w.heap.size ∧ Row v w.heap.size t cs) :=
  h.now ((Chg.refl _ _).alloc _) fun G hG _ G' w2 h1 h3 c2 hk => ⟨hk, fun hg => by
    rcases h3 _ hg with h | h
    · have := (hG _ h).1; omega
    · simp at h; omega, (Row.new w _ _).keep c2 (fun hg => by have := (hG _ hg).1; omega)⟩

set_option maxRecDepth 100000 in
set_option maxHeartbeats 2000000 in
theorem k_Load_bad (h : MemK w0 w m L K) (lv : Value) (T : List T3) (hT : T.length ≤ maxLen) (hx : ∀ F v, K F v → RefT v (fun b => ¬ F b) lv T) (hbad : 0 < L.length ∨ (T.map (·.1)).all okB = false) (hL : L.length < 1073741823) :
    Calls Tryd.prog 17 #[.iface 27 (.pointer (some ⟨m, 0, none⟩)), lv] w fun e w' => e = .returned (.int .i64 2) ∧ MemK w0 w' m L K := by
  obtain ⟨F, -, -, hk⟩ := h.opened
  have HX := Lib.hid (hx F w hk).toL
  have HM := Lib.hid (show (T.map (·.1)).length ≤ maxLen by simpa using hT)
  have H := Lib.hid h
  clear hk hx hT h
  by_cases h0 : 0 < L.length
  · clear hbad
    generalize hn : L.length = n at *
    have HN := Lib.hid hn
    clear hn
    go_enter Tryd.func17, Tryd.ntmps17
    go_wp2_with (go_at_call 12; refine (k_Made0 H.out).mono ?_; rw [HN.out]; rintro e w' ⟨rfl, rfl⟩)
    go_ret
    exact ⟨rfl, H.out⟩
  · have hall := hbad.resolve_left h0
    have hn : L.length = 0 := by omega
    have HN := Lib.hid hn
    clear hn hbad h0 hL
    go_enter Tryd.func17, Tryd.ntmps17
    go_wp2_with (first
      | (go_at_call 12; refine (k_Made0 H.out).mono ?_; rw [HN.out]; rintro e w' ⟨rfl, rfl⟩)
      | (go_at_call 40; refine (AnyNo_any _ _ _ _ HX.out HM.out).mono ?_; rw [hall]; rintro e w1 ⟨rfl, c1⟩))
    go_ret
    exact ⟨rfl, H.out.world c1⟩

set_option maxRecDepth 100000 in
set_option maxHeartbeats 4000000 in
theorem k_Load_ok (h : MemK w0 w m [] K) (lv : Value) (T : List T3) (hT : T.length < 1073741822) (hx : ∀ F v, K F v → RefT v (fun b => ¬ F b) lv T) (hall : (T.map (·.1)).all okB = true) :
    Calls Tryd.prog 17 #[.iface 27 (.pointer (some ⟨m, 0, none⟩)), lv] w fun e w' => e = .returned (.int .i64 0) ∧ MemK w0 w' m (T.map (·.1)) K := by
  obtain ⟨F, -, -, hk⟩ := h.opened
  have hx0 := hx F w hk
  obtain ⟨A, n, c, rfl⟩ : ∃ A n c, lv = .slice A n c := by
    obtain ⟨⟨A, c, e, -⟩, -⟩ := hx0
    exact ⟨A, _, c, e⟩
  obtain rfl : T.length = n := by
    obtain ⟨⟨A', c', e, -⟩, -⟩ := hx0
    exact (Value.slice.inj e).2.1.symm
  have HX := Lib.hid hx0.toL
  have HM := Lib.hid (show (T.map (·.1)).length ≤ maxLen by unfold maxLen; simp; omega)
  have HA := Lib.hid hall
  have HK := Lib.hid hx
  have H := Lib.hid h
  clear hk hx h hx0
  generalize hn : T.length = n at *
  have HN := Lib.hid hn
  clear hn
  have a1 := ahead_New ⟨m, 0, none⟩
  have a2 := ahead_Set ⟨m, 0, none⟩
  have a3 := ahead_SetByte ⟨m, 0, none⟩
  go_enter Tryd.func17, Tryd.ntmps17
  go_wp2_with (first
    | (go_at_call 12; refine (k_Made0 H.out).mono ?_; rintro e w' ⟨rfl, rfl⟩)
    | (go_at_call 40; refine (AnyNo_any _ _ _ _ HX.out HM.out).mono ?_; rw [hall]; rintro e w1 ⟨rfl, c1⟩))
  go_loopg [20] n (fun j v20 wr => ∃ i : Nat, v20 = .int .i64 i ∧ i ≤ n ∧ n - i ≤ j ∧ MemK w0 wr m ((T.take i).map (·.1)) K)
  case atStart => exact ⟨0, rfl, by omega, by omega, by simpa using H.out.world c1⟩
  case round =>
    obtain ⟨i, rfl, i1, i2, g1⟩ := hrel
    by_cases hi : i < n
    · obtain ⟨⟨x, wv, bv⟩, hti⟩ : ∃ t, T[i]? = some t := ⟨_, List.getElem?_eq_getElem (by have := HN.out; omega)⟩
      obtain ⟨F1, -, -, hk1⟩ := g1.opened
      obtain ⟨b, off, rfl, -, hb, hok, y0, y1, y2, y3⟩ := (HK.out F1 _ hk1).at hti
      obtain ⟨okw, okb, c64, k64⟩ := hok
      have hxok : okB x = true := List.all_eq_true.1 HA.out x (List.mem_map.2 ⟨_, List.mem_of_getElem? hti, rfl⟩)
      have hcs := okB_cases hxok
      obtain ⟨x0, xk, xW, xB⟩ := x
      dsimp only at okw okb y0 y1 y2 y3 c64 k64 hcs
      obtain ⟨AW, cW, rfl, hw1, hw2, -⟩ := okw.form
      obtain ⟨AB, cB, rfl, hb1, hb2, -⟩ := okb.form
      have hwl : ((T.take i).map (·.1)).length = i := by simp; have := HN.out; omega
      have hnext : (T.take (i + 1)).map (·.1) = (T.take i).map (·.1) ++ [⟨x0, xk, xW, xB⟩] := by
        rw [List.take_add_one, hti]
        simp
      have HO := Lib.hid (And.intro okw okb)
      have HE := Lib.hid hti
      have HX2 := Lib.hid (And.intro hxok (And.intro hwl hnext))
      have G1 := Lib.hid g1
      clear okw okb hti hxok hwl hnext hk1 g1 hall hw1 hw2 hb1 hb2
      obtain ⟨h1, h2, h3, h4, h5⟩ := hcs
      rcases h5 with ⟨rfl, rfl⟩ | ⟨rfl, rfl⟩
      · simp only [List.length_nil] at *
        clear h3
        generalize hW' : xW.length = nW at *
        have HW := Lib.hid hW'
        have HF := Lib.hid h4
        clear hW' h4
        go_wp2_with fail
        have hg2 := G1.out.newRow 41 #[.int .i64 x0, .int .i64 1, .slice AW nW cW, .slice AB 0 cB]
        generalize hWd : World.alloc wr _ = W at *
        have hc : Chg No wr W := by rw [← hWd]; exact (Chg.refl _ _).alloc _
        clear hWd y0 y1 y2 y3
        have hrow : Row W wr.heap.size 41 #[.int .i64 x0, .int .i64 1, .slice AW nW cW, .slice AB 0 cB] := by obtain ⟨_, -, -, hk⟩ := hg2.opened; exact hk.2.2
        have hbl : wr.heap.size < W.heap.size := hrow.lt
        generalize hbxe : wr.heap.size = bx at *
        clear hbxe
        have z0 : ∀ v, Chg No W v → v.cell? ⟨bx, 0, none⟩ = some (.int .i64 x0) := fun v hv => (hrow.keep hv (fun f => f)).cell 0
        have z1 : ∀ v, Chg No W v → v.cell? ⟨bx, 1, none⟩ = some (.int .i64 1) := fun v hv => (hrow.keep hv (fun f => f)).cell 1
        have z2 : ∀ v, Chg No W v → v.cell? ⟨bx, 2, none⟩ = some (.slice AW nW cW) := fun v hv => (hrow.keep hv (fun f => f)).cell 2
        have z3 : ∀ v, Chg No W v → v.cell? ⟨bx, 3, none⟩ = some (.slice AB 0 cB) := fun v hv => (hrow.keep hv (fun f => f)).cell 3
        have G2 := Lib.hid hg2
        clear hg2 hrow
        have hq := newL_words (L := (T.take i).map (·.1)) HX2.out.1 rfl
        dsimp only at hq
        rw [HW.out, HX2.out.2.1] at hq
        have HQ := Lib.hid hq
        have i64b : In64 (nW : Int) := by unfold In64; omega
        clear hq
        refine rem_start (by kernel_rfl) (by kernel_rfl) ?_
        refine rem_quiet 10 (C := (Chg No W)) (by kernel_rfl) (by simp only [List.toList_toArray, List.drop_succ_cons, List.drop_zero, List.take_succ_cons, List.take_zero, Nat.reduceSub, Nat.reduceAdd]; rfl) ?_ ?_
        · exact (Chg.refl _ _).drew
        repeat
          refine q_step (fun K hK => ?_)
          go_simp
          first
            | ((with_reducible refine hK _ ?_); clear hK K)
            | (refine (if_neg (by simp [undef])).mpr ?_; (with_reducible refine hK _ ?_); clear hK K)
            | (apply Exists.intro
               with_reducible refine ⟨fun v hv => ?_, hK _ ?_⟩
               · first
                   | with_reducible exact rfl
                   | with_reducible exact ⟨rfl, rfl⟩
                   | (go_simp
                      first
                        | done
                        | with_reducible exact rfl
                        | with_reducible exact ⟨rfl, rfl⟩
                        | (go_at_call 43; refine (Size_any _ _ _ _ _ _ _ _ _ _ rfl rfl _).mono ?_; rintro e w' ⟨rfl, hb⟩; exact ⟨rfl, hv.trans (Chg.of_below hb)⟩))
               clear hK K)
        refine q_nil ?_
        intro V hV
        refine rem_one (by kernel_rfl) (by kernel_rfl) rfl (by kernel_rfl) (fun K hK => ?_)
        go_wp2_with (go_at_call 154; refine (k_New (G2.out.world hV) x0 1 nW c64 k64 i64b (by rw [HX2.out.2.1]; omega)).mono ?_; rw [HQ.out.1, HQ.out.2.1, HQ.out.2.2]; rintro e w2 ⟨rfl, g3⟩)
        refine rem_quiet 16 (C := (fun v => v = w2)) (by kernel_rfl) (by simp only [List.toList_toArray, List.drop_succ_cons, List.drop_zero, List.take_succ_cons, List.take_zero, Nat.reduceSub, Nat.reduceAdd]; rfl) ?_ ?_
        · rfl
        repeat
          refine q_step (fun K hK => ?_)
          go_simp
          first
            | ((with_reducible refine hK _ ?_); clear hK K)
            | (refine (if_neg (by simp [undef])).mpr ?_; (with_reducible refine hK _ ?_); clear hK K)
            | (apply Exists.intro
               with_reducible refine ⟨fun v hv => ?_, hK _ ?_⟩
               · first
                   | with_reducible exact rfl
                   | with_reducible exact ⟨rfl, rfl⟩
                   | (go_simp
                      first
                        | done
                        | with_reducible exact rfl
                        | with_reducible exact ⟨rfl, rfl⟩
                        | fail)
               clear hK K)
        refine q_nil ?_
        intro V2 hV2
        subst hV2
        refine rem_end (by kernel_rfl) ?_
        go_wp2_with fail
        go_loopg [8, 9] nW (fun j v8 v9 wr => ∃ k : Nat, v8 = .int .i64 0 ∧ v9 = .int .i64 k ∧ k ≤ nW ∧ nW - k ≤ j ∧ MemK w0 wr m ((T.take i).map (·.1) ++ [partW ⟨x0, 1, xW, []⟩ k]) (fun F v => K F v ∧ ¬ F bx ∧ Row v bx 41 #[.int .i64 x0, .int .i64 1, .slice AW nW cW, .slice AB 0 cB]))
        case atStart => exact ⟨0, rfl, rfl, by omega, by omega, g3⟩
        case round =>
          obtain ⟨k, rfl, rfl, k1, k2, g4⟩ := hrel
          clear g3 z0 z1 z2 z3
          obtain ⟨F4, -, -, hK4, hF4, hR4⟩ := g4.opened
          have z2 : ∀ v, Chg No wr v → v.cell? ⟨bx, 2, none⟩ = some (.slice AW nW cW) := fun v hv => (hR4.keep hv (fun f => f)).cell 2
          have z3 : ∀ v, Chg No wr v → v.cell? ⟨bx, 3, none⟩ = some (.slice AB 0 cB) := fun v hv => (hR4.keep hv (fun f => f)).cell 3
          have z2' := z2 _ (Chg.refl _ _)
          have z3' := z3 _ (Chg.refl _ _)
          by_cases hk : k < nW
          · obtain ⟨_, _, -, -, -, hok4, -⟩ := (HK.out F4 _ hK4).at HE.out
            obtain ⟨b2, off2, rfl, hb2, hc2, hr64, -⟩ := hok4.1.at (i := k) (by dsimp only; rw [HW.out]; exact hk)
            have hmem : (xW[k]?.getD 0) ∈ xW := by
              rw [List.getElem?_eq_getElem (by rw [HW.out]; exact hk)]
              exact List.getElem_mem _
            have hs := setW_last (L := (T.take i).map (·.1)) (o := ⟨x0, 1, xW, []⟩) (i := k) rfl (by rw [HX2.out.2.1]; omega) (by dsimp only; rw [HW.out]; exact hk) (List.all_eq_true.1 HF.out _ hmem)
            rw [HX2.out.2.1] at hs
            dsimp only at hs hc2 hr64
            generalize xW[k]?.getD 0 = z at *
            have e2 : ∀ v, Chg No wr v → v.cell? ⟨b2, off2 + k, none⟩ = some (.int .i64 z) := fun v hv => (hv.cell hb2 (fun f => f)).trans hc2
            have HS := Lib.hid hs
            have G4 := Lib.hid g4
            have i64o : In64 (2 * ((i : Int) + 1)) := by unfold In64; omega
            clear hs hc2 hok4 hK4 hR4 g4 hmem
            go_wp2_with fail
            refine rem_start (by kernel_rfl) (by kernel_rfl) ?_
            refine rem_quiet 11 (C := (Chg No wr)) (by kernel_rfl) (by simp only [List.toList_toArray, List.drop_succ_cons, List.drop_zero, List.take_succ_cons, List.take_zero, Nat.reduceSub, Nat.reduceAdd]; rfl) ?_ ?_
            · exact (Chg.refl _ _).drew
            repeat
              refine q_step (fun K hK => ?_)
              go_simp
              first
                | ((with_reducible refine hK _ ?_); clear hK K)
                | (refine (if_neg (by simp [undef])).mpr ?_; (with_reducible refine hK _ ?_); clear hK K)
                | (apply Exists.intro
                   with_reducible refine ⟨fun v hv => ?_, hK _ ?_⟩
                   · first
                       | with_reducible exact rfl
                       | with_reducible exact ⟨rfl, rfl⟩
                       | (go_simp
                          first
                            | done
                            | with_reducible exact rfl
                            | with_reducible exact ⟨rfl, rfl⟩
                            | fail)
                   clear hK K)
            refine q_nil ?_
            intro V hV
            refine rem_one (by kernel_rfl) (by kernel_rfl) rfl (by kernel_rfl) (fun K hK => ?_)
            go_wp2_with (go_at_call 157; refine (k_Set (G4.out.world hV) (2 * ((i : Int) + 1)) k z i64o hr64).mono ?_; rw [HS.out.1, HS.out.2]; rintro e w3 ⟨rfl, g5⟩)
            refine rem_quiet 13 (C := (fun v => v = w3)) (by kernel_rfl) (by simp only [List.toList_toArray, List.drop_succ_cons, List.drop_zero, List.take_succ_cons, List.take_zero, Nat.reduceSub, Nat.reduceAdd]; rfl) ?_ ?_
            · rfl
            repeat
              refine q_step (fun K hK => ?_)
              go_simp
              first
                | ((with_reducible refine hK _ ?_); clear hK K)
                | (refine (if_neg (by simp [undef])).mpr ?_; (with_reducible refine hK _ ?_); clear hK K)
                | (apply Exists.intro
                   with_reducible refine ⟨fun v hv => ?_, hK _ ?_⟩
                   · first
                       | with_reducible exact rfl
                       | with_reducible exact ⟨rfl, rfl⟩
                       | (go_simp
                          first
                            | done
                            | with_reducible exact rfl
                            | with_reducible exact ⟨rfl, rfl⟩
                            | fail)
                   clear hK K)
            refine q_nil ?_
            intro V2 hV2
            subst hV2
            refine rem_end (by kernel_rfl) ?_
            go_wp2_with fail
            go_roundg (nW - (k + 1))
            case measure => omega
            case rel => exact ⟨k + 1, rfl, by go_num, by omega, by omega, g5⟩
          · obtain rfl : k = nW := by omega
            have hp := partW_all ⟨x0, 1, xW, []⟩
            dsimp only at hp
            rw [HW.out] at hp
            rw [hp] at g4
            clear hp
            go_wp2_with fail
            go_loopg [8, 10] 0 (fun j v8 v10 wr => v8 = .int .i64 0 ∧ v10 = .int .i64 0 ∧ MemK w0 wr m ((T.take i).map (·.1) ++ [⟨x0, 1, xW, []⟩]) (fun F v => K F v ∧ ¬ F bx ∧ Row v bx 41 #[.int .i64 x0, .int .i64 1, .slice AW k cW, .slice AB 0 cB]))
            case atStart => exact ⟨rfl, rfl, g4⟩
            case round =>
              clear g4 z2 z3 z2' z3' hK4 hR4
              obtain ⟨rfl, rfl, g4⟩ := hrel
              obtain ⟨F5, -, -, -, hF5, hR5⟩ := g4.opened
              have z3' : wr.cell? ⟨bx, 3, none⟩ = some (.slice AB 0 cB) := hR5.cell 3
              go_wp2_with fail
              go_roundg (n - (i + 1))
              case measure => omega
              case rel =>
                refine ⟨i + 1, by go_num, by omega, by omega, ?_⟩
                rw [HX2.out.2.2]
                exact g4.mono (fun F v h => h.1)
      · simp only [List.length_nil] at *
        clear h2 h4
        generalize hW' : xB.length = nW at *
        have HW := Lib.hid hW'
        clear hW'
        go_wp2_with fail
        have hg2 := G1.out.newRow 41 #[.int .i64 x0, .int .i64 2, .slice AW 0 cW, .slice AB nW cB]
        generalize hWd : World.alloc wr _ = W at *
        have hc : Chg No wr W := by rw [← hWd]; exact (Chg.refl _ _).alloc _
        clear hWd y0 y1 y2 y3
        have hrow : Row W wr.heap.size 41 #[.int .i64 x0, .int .i64 2, .slice AW 0 cW, .slice AB nW cB] := by obtain ⟨_, -, -, hk⟩ := hg2.opened; exact hk.2.2
        have hbl : wr.heap.size < W.heap.size := hrow.lt
        generalize hbxe : wr.heap.size = bx at *
        clear hbxe
        have z0 : ∀ v, Chg No W v → v.cell? ⟨bx, 0, none⟩ = some (.int .i64 x0) := fun v hv => (hrow.keep hv (fun f => f)).cell 0
        have z1 : ∀ v, Chg No W v → v.cell? ⟨bx, 1, none⟩ = some (.int .i64 2) := fun v hv => (hrow.keep hv (fun f => f)).cell 1
        have z2 : ∀ v, Chg No W v → v.cell? ⟨bx, 2, none⟩ = some (.slice AW 0 cW) := fun v hv => (hrow.keep hv (fun f => f)).cell 2
        have z3 : ∀ v, Chg No W v → v.cell? ⟨bx, 3, none⟩ = some (.slice AB nW cB) := fun v hv => (hrow.keep hv (fun f => f)).cell 3
        have G2 := Lib.hid hg2
        clear hg2 hrow
        have hq := newL_bytes (L := (T.take i).map (·.1)) HX2.out.1 rfl
        dsimp only at hq
        rw [HW.out, HX2.out.2.1] at hq
        have HQ := Lib.hid hq
        have i64b : In64 (nW : Int) := by unfold In64; omega
        clear hq
        refine rem_start (by kernel_rfl) (by kernel_rfl) ?_
        refine rem_quiet 10 (C := (Chg No W)) (by kernel_rfl) (by simp only [List.toList_toArray, List.drop_succ_cons, List.drop_zero, List.take_succ_cons, List.take_zero, Nat.reduceSub, Nat.reduceAdd]; rfl) ?_ ?_
        · exact (Chg.refl _ _).drew
        repeat
          refine q_step (fun K hK => ?_)
          go_simp
          first
            | ((with_reducible refine hK _ ?_); clear hK K)
            | (refine (if_neg (by simp [undef])).mpr ?_; (with_reducible refine hK _ ?_); clear hK K)
            | (apply Exists.intro
               with_reducible refine ⟨fun v hv => ?_, hK _ ?_⟩
               · first
                   | with_reducible exact rfl
                   | with_reducible exact ⟨rfl, rfl⟩
                   | (go_simp
                      first
                        | done
                        | with_reducible exact rfl
                        | with_reducible exact ⟨rfl, rfl⟩
                        | (go_at_call 43; refine (Size_any _ _ _ _ _ _ _ _ _ _ rfl rfl _).mono ?_; rintro e w' ⟨rfl, hb⟩; exact ⟨rfl, hv.trans (Chg.of_below hb)⟩))
               clear hK K)
        refine q_nil ?_
        intro V hV
        refine rem_one (by kernel_rfl) (by kernel_rfl) rfl (by kernel_rfl) (fun K hK => ?_)
        go_wp2_with (go_at_call 154; refine (k_New (G2.out.world hV) x0 2 nW c64 k64 i64b (by rw [HX2.out.2.1]; omega)).mono ?_; rw [HQ.out.1, HQ.out.2.1, HQ.out.2.2]; rintro e w2 ⟨rfl, g3⟩)
        refine rem_quiet 16 (C := (fun v => v = w2)) (by kernel_rfl) (by simp only [List.toList_toArray, List.drop_succ_cons, List.drop_zero, List.take_succ_cons, List.take_zero, Nat.reduceSub, Nat.reduceAdd]; rfl) ?_ ?_
        · rfl
        repeat
          refine q_step (fun K hK => ?_)
          go_simp
          first
            | ((with_reducible refine hK _ ?_); clear hK K)
            | (refine (if_neg (by simp [undef])).mpr ?_; (with_reducible refine hK _ ?_); clear hK K)
            | (apply Exists.intro
               with_reducible refine ⟨fun v hv => ?_, hK _ ?_⟩
               · first
                   | with_reducible exact rfl
                   | with_reducible exact ⟨rfl, rfl⟩
                   | (go_simp
                      first
                        | done
                        | with_reducible exact rfl
                        | with_reducible exact ⟨rfl, rfl⟩
                        | fail)
               clear hK K)
        refine q_nil ?_
        intro V2 hV2
        subst hV2
        refine rem_end (by kernel_rfl) ?_
        go_wp2_with fail
        go_loopg [8, 9] 0 (fun j v8 v9 wr => v8 = .int .i64 0 ∧ v9 = .int .i64 0 ∧ MemK w0 wr m ((T.take i).map (·.1) ++ [partB ⟨x0, 2, [], xB⟩ 0]) (fun F v => K F v ∧ ¬ F bx ∧ Row v bx 41 #[.int .i64 x0, .int .i64 2, .slice AW 0 cW, .slice AB nW cB]))
        case atStart => exact ⟨rfl, rfl, g3⟩
        case round =>
          clear g3 z0 z1 z2 z3
          obtain ⟨rfl, rfl, g3⟩ := hrel
          obtain ⟨F4, -, -, hK4, hF4, hR4⟩ := g3.opened
          have z2' : wr.cell? ⟨bx, 2, none⟩ = some (.slice AW 0 cW) := hR4.cell 2
          go_wp2_with fail
          clear hK4 hF4 hR4 z2'
          go_loopg [8, 10] nW (fun j v8 v10 wr => ∃ k : Nat, v8 = .int .i64 0 ∧ v10 = .int .i64 k ∧ k ≤ nW ∧ nW - k ≤ j ∧ MemK w0 wr m ((T.take i).map (·.1) ++ [partB ⟨x0, 2, [], xB⟩ k]) (fun F v => K F v ∧ ¬ F bx ∧ Row v bx 41 #[.int .i64 x0, .int .i64 2, .slice AW 0 cW, .slice AB nW cB]))
          case atStart => exact ⟨0, rfl, rfl, by omega, by omega, g3⟩
          case round =>
            obtain ⟨k, rfl, rfl, k1, k2, g4⟩ := hrel
            clear g3
            obtain ⟨F4, -, -, hK4, hF4, hR4⟩ := g4.opened
            have z3 : ∀ v, Chg No wr v → v.cell? ⟨bx, 3, none⟩ = some (.slice AB nW cB) := fun v hv => (hR4.keep hv (fun f => f)).cell 3
            have z3' := z3 _ (Chg.refl _ _)
            by_cases hk : k < nW
            · obtain ⟨_, _, -, -, -, hok4, -⟩ := (HK.out F4 _ hK4).at HE.out
              obtain ⟨b2, off2, rfl, hb2, hc2, hr0, hr1, -⟩ := hok4.2.1.at (i := k) (by dsimp only; rw [HW.out]; exact hk)
              have hs := setB_last (L := (T.take i).map (·.1)) (o := ⟨x0, 2, [], xB⟩) (i := k) rfl (by rw [HX2.out.2.1]; omega) (by dsimp only; rw [HW.out]; exact hk) ⟨hr0, hr1⟩
              rw [HX2.out.2.1] at hs
              dsimp only at hs hc2 hr0 hr1
              generalize xB[k]?.getD 0 = z at *
              have e2 : ∀ v, Chg No wr v → v.cell? ⟨b2, off2 + k, none⟩ = some (.int .u8 z) := fun v hv => (hv.cell hb2 (fun f => f)).trans hc2
              have HS := Lib.hid hs
              have G4 := Lib.hid g4
              have i64o : In64 (2 * ((i : Int) + 1)) := by unfold In64; omega
              have zw : IntKind.i64.wrap z = z := IntWalk.i64_in _ (by omega)
              clear hs hc2 hok4 hK4 hR4 g4
              go_wp2_with fail
              refine rem_start (by kernel_rfl) (by kernel_rfl) ?_
              refine rem_quiet 12 (C := (Chg No wr)) (by kernel_rfl) (by simp only [List.toList_toArray, List.drop_succ_cons, List.drop_zero, List.take_succ_cons, List.take_zero, Nat.reduceSub, Nat.reduceAdd]; rfl) ?_ ?_
              · exact (Chg.refl _ _).drew
              repeat
                refine q_step (fun K hK => ?_)
                go_simp
                first
                  | ((with_reducible refine hK _ ?_); clear hK K)
                  | (refine (if_neg (by simp [undef])).mpr ?_; (with_reducible refine hK _ ?_); clear hK K)
                  | (apply Exists.intro
                     with_reducible refine ⟨fun v hv => ?_, hK _ ?_⟩
                     · first
                         | with_reducible exact rfl
                         | with_reducible exact ⟨rfl, rfl⟩
                         | (go_simp
                            first
                              | done
                              | with_reducible exact rfl
                              | with_reducible exact ⟨rfl, rfl⟩
                              | fail)
                     clear hK K)
              refine q_nil ?_
              intro V hV
              refine rem_one (by kernel_rfl) (by kernel_rfl) rfl (by kernel_rfl) (fun K hK => ?_)
              go_wp2_with (go_at_call 158; refine (k_SetByte (G4.out.world hV) (2 * ((i : Int) + 1)) k z i64o).mono ?_; rw [HS.out.1, HS.out.2]; rintro e w3 ⟨rfl, g5⟩)
              refine rem_quiet 14 (C := (fun v => v = w3)) (by kernel_rfl) (by simp only [List.toList_toArray, List.drop_succ_cons, List.drop_zero, List.take_succ_cons, List.take_zero, Nat.reduceSub, Nat.reduceAdd]; rfl) ?_ ?_
              · rfl
              repeat
                refine q_step (fun K hK => ?_)
                go_simp
                first
                  | ((with_reducible refine hK _ ?_); clear hK K)
                  | (refine (if_neg (by simp [undef])).mpr ?_; (with_reducible refine hK _ ?_); clear hK K)
                  | (apply Exists.intro
                     with_reducible refine ⟨fun v hv => ?_, hK _ ?_⟩
                     · first
                         | with_reducible exact rfl
                         | with_reducible exact ⟨rfl, rfl⟩
                         | (go_simp
                            first
                              | done
                              | with_reducible exact rfl
                              | with_reducible exact ⟨rfl, rfl⟩
                              | fail)
                     clear hK K)
              refine q_nil ?_
              intro V2 hV2
              subst hV2
              refine rem_end (by kernel_rfl) ?_
              go_wp2_with fail
              go_roundg (nW - (k + 1))
              case measure => omega
              case rel => exact ⟨k + 1, rfl, by go_num, by omega, by omega, g5⟩
            · obtain rfl : k = nW := by omega
              have hp := partB_all ⟨x0, 2, [], xB⟩
              dsimp only at hp
              rw [HW.out] at hp
              rw [hp] at g4
              clear hp hK4 hR4
              go_wp2_with fail
              go_roundg (n - (i + 1))
              case measure => omega
              case rel =>
                refine ⟨i + 1, by go_num, by omega, by omega, ?_⟩
                rw [HX2.out.2.2]
                exact g4.mono (fun F v h => h.1)
    · obtain rfl : i = n := by omega
      have hfin : (T.take i).map (·.1) = T.map (·.1) := by rw [List.take_of_length_le (by have := HN.out; omega)]
      rw [hfin] at g1
      clear hfin
      go_wp2_with fail
      go_ret
      exact ⟨rfl, g1⟩
end

end Go.Proofs.YtncoanmgifgcbaaDoor
