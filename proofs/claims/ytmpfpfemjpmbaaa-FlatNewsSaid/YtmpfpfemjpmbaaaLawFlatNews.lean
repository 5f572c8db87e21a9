/- The walk of FlatNews. -/
import Derived.Test.YtmpfpfemjpmbaaaRef10
import Derived.OpenShut
import Derived.Test.YtmpfpfemjpmbaaaRegion
namespace Go.Proofs.Ytmpfpfemjpmbaaa
open Go.RowKit

section
variable {w0 w w' : World} {m : Nat} {L L' : List O} {K K2 : (Nat → Prop) → World → Prop}
/-- a cell outside the memory is written -/
theorem MemK.set (h : MemK w0 w m L K) {p : Addr} (u : Value) (hp0 : w0.heap.size ≤ p.block) (hp : ∀ F, K F w → ¬ F p.block)
    (h2 : ∀ G : Nat → Prop, (∀ b, G b → b < w.heap.size ∧ w0.heap.size ≤ b) → K G w → ∀ G' w2, (∀ b, G b → G' b) → (∀ b, G' b → G b ∨ w.heap.size ≤ b) → Chg G (w.setCell p u) w2 → K2 G' w2) : MemK w0 (w.setCell p u) m L K2 := by
  obtain ⟨F, hf, hc, hF, hK⟩ := h
  have hk := hK F w (fun _ h => h) (fun _ h => .inl h) (Chg.refl _ _)
  refine ⟨F, hf.keep (G := fun b => b = p.block) (Chg.setCell (F := fun b => b = p.block) (Chg.refl _ _) (.inl rfl) _) (fun b hb e => hp F hk (e ▸ hb)), hc.setCell (.inr hp0) _, hF, fun F2 w2 h1 h3 c2 => ?_⟩
  exact h2 F (fun b hb => ⟨hf.lt hb, hF b hb⟩) hk F2 w2 h1 (fun b hb => by simpa using h3 b hb) c2
/-- the document's New, beside a memory and a variable -/
theorem k_RefNew (h : MemK w0 w m L K) (lv : Value) (bx : Nat) (hbx : bx < w.heap.size) (hx : ∀ F, K F w → RefL w (fun b => ¬ F b ∧ b ≠ bx) lv L') (hL : L'.length < 1073741823) (c k s : Int) (hc : In64 c) (hk : In64 k) (hs : In64 s) :
    Calls Try.prog 13 #[.agg #[lv], .int .i64 c, .int .i64 k, .int .i64 s] w fun e w' => ∃ lv', e = .returned (.tuple #[.agg #[lv'], .int .i64 (newN L' c k s), .int .i64 (newE c k s)]) ∧ MemK w0 w' m L (fun F v => K F v ∧ RefL v (fun b => ¬ F b ∧ b ≠ bx) lv' (newL L' c k s)) ∧ Chg No w w' := by
  have h0 := h
  obtain ⟨F, hf, hc0, hF, hK⟩ := h
  refine (Ref10New_any _ (fun b => ¬ F b ∧ b ≠ bx) L' w ⟨lv, rfl, hx F (hK F w (fun _ h => h) (fun _ h => .inl h) (Chg.refl _ _))⟩ hL c k s hc hk hs).mono ?_
  rintro e w' ⟨v, rfl, x, rfl, c1, lv', rfl, hr⟩
  refine ⟨lv', rfl, ⟨F, hf.keep c1 (fun _ _ f => f), hc0.trans c1, hF, fun F2 w2 h1 h3 c2 => ⟨?_, ?_⟩⟩, c1⟩
  · refine hK F2 w2 h1 (fun b hb => ?_) (c1.no.trans c2)
    rcases h3 b hb with h | h
    · exact .inl h
    · exact .inr (Nat.le_trans c1.size h)
  · refine (hr.more (S' := fun b => ¬ F2 b ∧ b ≠ bx) fun b hb hS => ⟨fun hg => ?_, ?_⟩).keep c2 fun b hb hg => hb.1 (h1 b hg)
    · rcases h3 b hg with h | h
      · rcases hS with hS | hS
        · exact hS.1 h
        · have := hf.lt h; omega
      · omega
    · rcases hS with hS | hS
      · exact hS.2
      · omega
end

def rep (i : Nat) : List O := List.replicate i (newO 2 1 0)
theorem rep_new (i : Nat) : newL (rep i) 2 1 0 = rep (i + 1) := by
  simp [newL, show blankOk 2 1 0 = true from rfl, rep, List.replicate_succ']
theorem rep_len (i : Nat) : (rep i).length = i := by simp [rep]
/-- what is kept: the document's memory in a variable at block bx -/
def KR (bx : Nat) (lv : Value) (L : List O) (F : Nat → Prop) (v : World) : Prop := ¬ F bx ∧ Row v bx 30 #[lv] ∧ RefL v (fun b => ¬ F b ∧ b ≠ bx) lv L
theorem objV_new (L : List O) (o : O) (hk : o.kind ≠ 0) (hL : L.length + 1 < 1073741823) : objV (L ++ [o]) (2 * ((L.length : Int) + 1)) = o ∧ objE (L ++ [o]) (2 * ((L.length : Int) + 1)) = 0 := by
  have h : fnd (L ++ [o]) (2 * ((L.length : Int) + 1)) = some L.length := by
    unfold fnd
    have e : (2 * ((L.length : Int) + 1) / 2 - 1).toNat = L.length := by omega
    rw [e, ob_app, if_pos rfl, if_pos ⟨by simp [namedOk]; omega, hk⟩]
  simp [objV, objE, h, ob_app]

set_option maxRecDepth 100000 in
set_option maxHeartbeats 4000000 in
theorem FlatNews_any (c k s : Int) (n : Nat) (hc : In64 c) (hk : In64 k) (hs : In64 s) (hn : n ≤ 255) (w : World) :
    Calls Try.prog 5 #[.int .i64 c, .int .i64 k, .int .i64 s, .int .u8 n] w fun e w' => e = .returned (.bool true) ∧ Below w.heap.size w w' := by
  have i0 : In64 0 := by unfold In64; omega
  have i1 : In64 1 := by unfold In64; omega
  have i2 : In64 2 := by unfold In64; omega
  go_enter Try.func5, Try.ntmps5
  go_wp2_with (go_at_call 18; refine (k_flatNew (Chg.refl _ _)).mono ?_; rintro e w1 ⟨m, rfl, g0⟩)
  have gA : MemK w (w1.alloc (.cells #[.slice none 0 0] 30)) m (rep 0) (KR w1.heap.size (.slice none 0 0) (rep 0)) :=
    g0.now ((Chg.refl _ _).alloc _) fun G hG _ G' w2 h1 h3 c2 _ => ⟨fun hg => by
      rcases h3 _ hg with h | h
      · have := (hG _ h).1; omega
      · simp at h; omega, (Row.new w1 _ _).keep c2 (fun hg => by have := (hG _ hg).1; omega), ⟨[], rfl, Slc.nil _ _ _, by simp⟩⟩
  obtain ⟨N, hN⟩ : ∃ N : Nat, (n : Int) % 20 = N := ⟨n % 20, by omega⟩
  have hN19 : N ≤ 19 := by omega
  have hmod : IntKind.u8.wrap ((n : Int) % 20) = (N : Int) := by
    rw [hN]
    exact IntWalk.u8_in _ (by omega)
  have hbx : w.heap.size ≤ w1.heap.size := g0.chg.size
  clear g0
  go_loopg [11] N (fun j v11 wr => ∃ (i : Nat) (lv : Value), v11 = .int .i64 i ∧ i ≤ N ∧ N - i ≤ j ∧ w1.heap.size < wr.heap.size ∧ MemK w wr m (rep i) (KR w1.heap.size lv (rep i)))
  case atStart => exact ⟨0, _, rfl, by omega, by omega, by simp, gA⟩
  case round =>
    clear gA
    obtain ⟨i, lv, rfl, i3, i4, hsz, g1⟩ := hrel
    by_cases hi : i < N
    · go_wp2_with (first
        | (go_at_call 19
           refine (k_New g1 2 1 0 i2 i1 i0 (by rw [rep_len]; omega)).mono ?_
           rw [rep_new]
           rintro e w2 ⟨rfl, g2⟩
           obtain ⟨F2, -, -, -, r2, -⟩ := g2.opened
           have d0 : w2.cell? ⟨w1.heap.size, 0, none⟩ = some lv := r2.cell 0
           have hlt2 := r2.lt
           clear g1 r2)
        | (go_at_call 13
           refine (k_RefNew g2 lv w1.heap.size hlt2 (fun F hF => hF.2.2) (by rw [rep_len]; omega) 2 1 0 i2 i1 i0).mono ?_
           rw [rep_new]
           rintro e w3 ⟨lv', rfl, g3, -⟩
           obtain ⟨F3, -, -, ⟨-, r3, -⟩, T3', -, ⟨A3, c3, rfl, -⟩, -⟩ := g3.opened
           have d3 : w3.cell? ⟨w1.heap.size, 0, none⟩ = some lv := r3.cell 0
           have f3 : w3.frozen? ⟨w1.heap.size, 0, none⟩ = false := r3.frozen 0
           have l3 := r3.lt
           generalize T3'.length = n3 at *
           clear g2 r3))
      go_roundg (N - (i + 1))
      case measure => omega
      case rel =>
        refine ⟨i + 1, .slice A3 n3 c3, by go_num, by omega, by omega, by simp; omega, ?_⟩
        refine MemK.world (MemK.set g3 (p := ⟨w1.heap.size, 0, none⟩) _ hbx (fun F hF => hF.1.1) (fun G hG hk G' w4 h5 h6 c4 => ⟨?_, ?_, ?_⟩)) ((Chg.refl _ _).alloc _)
        · intro hg
          rcases h6 _ hg with h | h
          · exact hk.1.1 h
          · omega
        · exact Row.keep (by simpa using hk.1.2.1.set 0 _) c4 hk.1.1
        · refine (RefL.keep (F := fun b => G b ∨ b = w1.heap.size) (S := fun b => ¬ G' b ∧ b ≠ w1.heap.size) (hk.2.more (fun b hb hS => ⟨fun hg => ?_, hS.2⟩)) ((Chg.setCell (F := fun b => G b ∨ b = w1.heap.size) (p := ⟨w1.heap.size, 0, none⟩) (Chg.refl _ _) (.inl (.inr rfl)) _).trans (c4.mono fun _ _ h => .inl h)) ?_)
          · rcases h6 _ hg with h | h
            · exact hS.1 h
            · omega
          · rintro b hb (h | h)
            · exact hb.1 (h5 b h)
            · exact hb.2 h
    · obtain rfl : i = N := by omega
      cases hb : blankOk c k s
      · have H1 := Lib.hid (And.intro (show newN (rep i) c k s = 0 by simp [newN, hb]) (And.intro (show newE c k s = 2 by simp [newE, hb]) (show newL (rep i) c k s = rep i by simp [newL, hb])))
        clear hb
        go_wp2_with (first
          | (go_at_call 19
             refine (k_New g1 c k s hc hk hs (by rw [rep_len]; omega)).mono ?_
             rw [H1.out.1, H1.out.2.1, H1.out.2.2]
             rintro e w2 ⟨rfl, g2⟩
             obtain ⟨F2, -, -, -, r2, -⟩ := g2.opened
             have d0 : w2.cell? ⟨w1.heap.size, 0, none⟩ = some lv := r2.cell 0
             have hlt2 := r2.lt
             clear g1 r2)
          | (go_at_call 13
             refine (k_RefNew g2 lv w1.heap.size hlt2 (fun F hF => hF.2.2) (by rw [rep_len]; omega) c k s hc hk hs).mono ?_
             rw [H1.out.1, H1.out.2.1, H1.out.2.2]
             rintro e w3 ⟨lv', rfl, g3, -⟩
             obtain ⟨F3, -, -, -, T3', hT3, ⟨A3, c3, rfl, -⟩, -⟩ := g3.opened
             have hlen : T3'.length = i := by have := congrArg List.length hT3; simpa [rep] using this
             rw [hlen] at g3 ⊢
             clear g2 hT3 hlen T3')
          | (go_at_call 23
             refine (k_ObjC (g3.world ((Chg.refl _ _).alloc _)) 0 i0).mono ?_
             rintro e w4 ⟨r, rfl, g4, hr4, c4⟩
             have q4 := (Row.new w3 30 #[.slice A3 i c3]).keep c4 (fun f => f)
             have d4 : w4.cell? ⟨w3.heap.size, 0, none⟩ = _ := q4.cell 0
             obtain ⟨A5, c5, A6, c6, rfl⟩ := hr4.shape
             have l4 := q4.lt
             clear q4 hr4 c4))
        generalize hW : World.alloc w4 _ = W
        have hg := g4.world (w' := W) (by rw [← hW]; exact (Chg.refl _ _).alloc _)
        have e4 : ∀ v, Chg No W v → v.cell? ⟨w3.heap.size, 0, none⟩ = some (.slice A3 i c3) := by
          rw [← hW]
          intro v hv
          exact ((((Chg.refl No w4).alloc _).trans hv).cell l4 (fun f => f)).trans d4
        have G := Lib.hid hg
        clear hg hW g4 d4 g3
        refine q_region (C := (Chg No W)) (by kernel_rfl) (by kernel_rfl) ?_ ?_
        · exact (Chg.refl _ _).drew
        repeat
          refine q_step (fun K hK => ?_)
          go_simp
          first
            | ((with_reducible refine hK _ ?_); clear hK K)
            | (refine (if_neg (by simp [undef])).mpr ?_; (with_reducible refine hK _ ?_); clear hK K)
            | (apply Exists.intro
               with_reducible refine ⟨fun v hv => ?_, hK _ ?_⟩
               · first
                   | with_reducible exact rfl
                   | with_reducible exact ⟨rfl, rfl⟩
                   | (go_simp
                      first
                        | done
                        | with_reducible exact rfl
                        | with_reducible exact ⟨rfl, rfl⟩
                        | (go_at_call 24; refine (k_Made0 (G.out.world hv)).mono ?_; rw [rep_len]; rintro e w' ⟨rfl, rfl⟩; exact ⟨rfl, hv⟩))
               clear hK K)
        refine q_nil ?_
        intro V hV
        go_wp2_with fail
        refine q_region (C := (Chg No W)) (by kernel_rfl) (by kernel_rfl) ?_ ?_
        · exact hV.drew
        repeat
          refine q_step (fun K hK => ?_)
          go_simp
          first
            | ((with_reducible refine hK _ ?_); clear hK K)
            | (refine (if_neg (by simp [undef])).mpr ?_; (with_reducible refine hK _ ?_); clear hK K)
            | (apply Exists.intro
               with_reducible refine ⟨fun v hv => ?_, hK _ ?_⟩
               · first
                   | with_reducible exact rfl
                   | with_reducible exact ⟨rfl, rfl⟩
                   | (go_simp
                      first
                        | done
                        | with_reducible exact rfl
                        | with_reducible exact ⟨rfl, rfl⟩
                        | (go_at_call 16; refine (known_any _).mono ?_; rintro e w6 ⟨rfl, g6⟩; exact ⟨rfl, hv.trans g6⟩))
               clear hK K)
        refine q_nil ?_
        intro V1 hV1
        go_wp2_with fail
        go_ret
        exact ⟨rfl, (Chg.trans G.out.chg hV1).below⟩
      · obtain ⟨o, ho⟩ : ∃ o, newO c k s = o := ⟨_, rfl⟩
        have hok := newO_ok hb
        rw [ho] at hok
        have hk0 : o.kind ≠ 0 := by rcases hok.2.1 with h | h <;> rw [h.1] <;> decide
        obtain ⟨L1, hL1⟩ : ∃ L1, rep i ++ [o] = L1 := ⟨_, rfl⟩
        have H1 := Lib.hid (And.intro (show newN (rep i) c k s = 2 * ((i : Int) + 1) by simp [newN, hb, rep_len]) (And.intro (show newE c k s = 0 by simp [newE, hb]) (show newL (rep i) c k s = L1 by simp [newL, hb, ho, hL1])))
        have hL := objV_new (rep i) o hk0 (by rw [rep_len]; omega)
        have hlen : L1.length = i + 1 := by rw [← hL1]; simp [rep]
        have hat : ob L1 i = o := by rw [← hL1, ob_app, if_pos (by rw [rep_len])]
        rw [hL1, rep_len] at hL
        have H2 := Lib.hid (And.intro hL (And.intro hlen hat))
        have hi1 : (i : Int) < (i : Int) + 1 := by omega
        have hs64 : IntKind.i64.wrap (i : Int) = (i : Int) := IntWalk.i64_in _ (by omega)
        clear hb ho hL hlen hat hL1 hk0
        go_wp2_with (first
          | (go_at_call 19
             refine (k_New g1 c k s hc hk hs (by rw [rep_len]; omega)).mono ?_
             rw [H1.out.1, H1.out.2.1, H1.out.2.2]
             rintro e w2 ⟨rfl, g2⟩
             obtain ⟨F2, -, -, -, r2, -⟩ := g2.opened
             have d0 : w2.cell? ⟨w1.heap.size, 0, none⟩ = some lv := r2.cell 0
             have hlt2 := r2.lt
             clear g1 r2)
          | (go_at_call 13
             refine (k_RefNew g2 lv w1.heap.size hlt2 (fun F hF => hF.2.2) (by rw [rep_len]; omega) c k s hc hk hs).mono ?_
             rw [H1.out.1, H1.out.2.1, H1.out.2.2]
             rintro e w3 ⟨lv', rfl, g3, -⟩
             obtain ⟨F3, -, -, -, T3', hT3, ⟨A3, c3, rfl, -⟩, -⟩ := g3.opened
             have hlen : T3'.length = i + 1 := by have := congrArg List.length hT3; rw [H2.out.2.1] at this; simpa using this
             rw [hlen] at g3 ⊢
             clear g2 hT3 hlen T3')
          | (go_at_call 23
             refine (k_ObjC (g3.world ((Chg.refl _ _).alloc _)) (2 * ((i : Int) + 1)) (by unfold In64; omega)).mono ?_
             rw [H2.out.1.1, H2.out.1.2]
             rintro e w4 ⟨r, rfl, g4, hr4, c4⟩
             have q4 := (Row.new w3 30 #[.slice A3 (i + 1) c3]).keep c4 (fun f => f)
             have d4 : w4.cell? ⟨w3.heap.size, 0, none⟩ = _ := q4.cell 0
             have hr5 := hr4.more (S' := fun _ => True) (fun _ _ _ => trivial)
             obtain ⟨A5, c5, A6, c6, rfl⟩ := hr4.shape
             have l4 := q4.lt
             have HR := Lib.hid hr5
             clear q4 hr4 c4 hr5))
        generalize hW : World.alloc w4 _ = W
        have hc5 : Chg No w4 W := by rw [← hW]; exact (Chg.refl _ _).alloc _
        have hg := g4.world hc5
        have e4 : ∀ v, Chg No W v → v.cell? ⟨w3.heap.size, 0, none⟩ = some (.slice A3 (i + 1) c3) := fun v hv => ((hc5.trans hv).cell l4 (fun f => f)).trans d4
        have hrow : Row W w4.heap.size 25 #[.int .i64 o.cls, .int .i64 o.kind, .slice A5 o.W.length c5, .slice A6 o.B.length c6] := by rw [← hW]; exact Row.new w4 _ _
        have y0 : ∀ v, Chg No W v → v.cell? ⟨w4.heap.size, 0, none⟩ = some (.int .i64 o.cls) := fun v hv => (hrow.keep hv (fun f => f)).cell 0
        have y1 : ∀ v, Chg No W v → v.cell? ⟨w4.heap.size, 1, none⟩ = some (.int .i64 o.kind) := fun v hv => (hrow.keep hv (fun f => f)).cell 1
        have y2 : ∀ v, Chg No W v → v.cell? ⟨w4.heap.size, 2, none⟩ = some (.slice A5 o.W.length c5) := fun v hv => (hrow.keep hv (fun f => f)).cell 2
        have y3 : ∀ v, Chg No W v → v.cell? ⟨w4.heap.size, 3, none⟩ = some (.slice A6 o.B.length c6) := fun v hv => (hrow.keep hv (fun f => f)).cell 3
        obtain ⟨F5, -, -, -, hX⟩ := hg.opened
        obtain ⟨b, off, cp, wv, bv, hA3, -, hbl, hor, z0, z1, z2, z3⟩ := hX.at (i := i) (by rw [H2.out.2.1]; omega)
        rw [H2.out.2.2] at hor z0 z1
        obtain ⟨rfl, -, rfl⟩ := Value.slice.inj hA3
        have hor' := hor.more (S' := fun _ => True) (fun _ _ _ => trivial)
        obtain ⟨A7, c7, A8, c8, e7⟩ := hor.shape
        have e78 := Value.agg.inj e7
        simp only [cells2] at e78
        simp at e78
        obtain ⟨rfl, rfl⟩ := e78
        have x0 : ∀ v, Chg No W v → v.cell? ⟨b, off + i * 4, none⟩ = some (.int .i64 o.cls) := fun v hv => by rw [Nat.mul_comm]; exact (hv.cell hbl (fun f => f)).trans z0
        have x1 : ∀ v, Chg No W v → v.cell? ⟨b, off + i * 4 + 1, none⟩ = some (.int .i64 o.kind) := fun v hv => by rw [Nat.mul_comm, Nat.add_assoc]; exact (hv.cell hbl (fun f => f)).trans z1
        have x2 : ∀ v, Chg No W v → v.cell? ⟨b, off + i * 4 + 2, none⟩ = some (.slice A7 o.W.length c7) := fun v hv => by rw [Nat.mul_comm, Nat.add_assoc]; exact (hv.cell hbl (fun f => f)).trans z2
        have x3 : ∀ v, Chg No W v → v.cell? ⟨b, off + i * 4 + 3, none⟩ = some (.slice A8 o.B.length c8) := fun v hv => by rw [Nat.mul_comm, Nat.add_assoc]; exact (hv.cell hbl (fun f => f)).trans z3
        have G := Lib.hid (And.intro hg (And.intro (HR.out.keep hc5 (fun _ _ f => f)) hor'))
        clear hg hW g4 d4 g3 hor hor' e7 hA3 hX hrow HR H1 hc5 z0 z1 z2 z3
        simp only [cells2] at G
        refine q_region (C := (Chg No W)) (by kernel_rfl) (by kernel_rfl) ?_ ?_
        · exact (Chg.refl _ _).drew
        repeat
          refine q_step (fun K hK => ?_)
          go_simp
          first
            | ((with_reducible refine hK _ ?_); clear hK K)
            | (refine (if_neg (by simp [undef])).mpr ?_; (with_reducible refine hK _ ?_); clear hK K)
            | (apply Exists.intro
               with_reducible refine ⟨fun v hv => ?_, hK _ ?_⟩
               · first
                   | with_reducible exact rfl
                   | with_reducible exact ⟨rfl, rfl⟩
                   | (go_simp
                      first
                        | done
                        | with_reducible exact rfl
                        | with_reducible exact ⟨rfl, rfl⟩
                        | (go_at_call 24; refine (k_Made0 (G.out.1.world hv)).mono ?_; rw [H2.out.2.1]; rintro e w' ⟨rfl, rfl⟩; exact ⟨rfl, hv⟩))
               clear hK K)
        refine q_nil ?_
        intro V hV
        go_wp2_with fail
        refine q_region (C := (Chg No W)) (by kernel_rfl) (by kernel_rfl) ?_ ?_
        · exact hV.drew
        repeat
          refine q_step (fun K hK => ?_)
          go_simp
          first
            | ((with_reducible refine hK _ ?_); clear hK K)
            | (refine (if_neg (by simp [undef])).mpr ?_; (with_reducible refine hK _ ?_); clear hK K)
            | (apply Exists.intro
               with_reducible refine ⟨fun v hv => ?_, hK _ ?_⟩
               · first
                   | with_reducible exact rfl
                   | with_reducible exact ⟨rfl, rfl⟩
                   | (go_simp
                      first
                        | done
                        | with_reducible exact rfl
                        | with_reducible exact ⟨rfl, rfl⟩
                        | (first | (go_at_call 17; refine (Same05_eq _ _ o (fun _ => True) _ (G.out.2.1.keep hv (fun _ _ f => f)) (G.out.2.2.keep hv (fun _ _ f => f))).mono ?_; rintro e w5 ⟨rfl, g5⟩; exact ⟨rfl, hv.trans g5⟩) | (go_at_call 16; refine (known_any _).mono ?_; rintro e w6 ⟨rfl, g6⟩; exact ⟨rfl, hv.trans g6⟩)))
               clear hK K)
        refine q_nil ?_
        intro V1 hV1
        go_wp2_with fail
        go_ret
        exact ⟨rfl, (Chg.trans G.out.1.chg hV1).below⟩

end Go.Proofs.Ytmpfpfemjpmbaaa
