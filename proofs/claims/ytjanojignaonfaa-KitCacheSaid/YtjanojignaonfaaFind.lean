/- Looking up with a cache: (*kit.Cache).Find. -/
import Derived.Test.YtjanojignaonfaaCache
import Derived.Laws.Bits64
import Derived.Laws.Shifts
namespace Go.Proofs.Ytjanojignaonfaa
set_option linter.unusedVariables false
set_option linter.unusedSimpArgs false
open Go.RowKit

/-- is it told at once? -/
def hitC (c0 s0 c s : Int) : Bool := c0 == c && s0 == s && !(c0 == 0 && s0 == 0)
theorem run_eq_asked (a b c d : Int) (w : World) : (Op.equalIn 10000 113 (.agg #[.int .i64 a, .int .i64 b]) (.agg #[.int .i64 c, .int .i64 d])).run Try.prog w = .ok (a == c && b == d) w := by
  have hS : Try.prog.underlying 113 = some (.struct (Try.prog.fieldsOf 113)) := by kernel_rfl
  rw [show (10000 : Nat) = 9999 + 1 from rfl, run_equalIn_agg w 9999 113 _ _ hS (by kernel_rfl)]
  simp only [Program.fieldsOf, Try.underlying113]
  go_simp
  by_cases h1 : a = c <;> by_cases h2 : b = d <;> simp [h1, h2]

section
variable {w0 W1 w : World} {m q b n : Nat} {L : List O} {K : (Nat → Prop) → World → Prop} {cs : Array Value} {h a : Int}

def put4 (cs : Array Value) (k : Nat) (c s r1 : Int) (r2 : Bool) : Array Value := (((cs.setIfInBounds (k * 4) (.int .i64 c)).setIfInBounds (k * 4 + 1) (.int .i64 s)).setIfInBounds (k * 4 + 2) (.int .i64 r1)).setIfInBounds (k * 4 + 3) (.bool r2)
theorem put4_at {cs : Array Value} {n k : Nat} (hs : cs.size = n * 4) (hk : k < n) (c s r1 : Int) (r2 : Bool) : (put4 cs k c s r1 r2)[k * 4]? = some (.int .i64 c) ∧ (put4 cs k c s r1 r2)[k * 4 + 1]? = some (.int .i64 s) ∧ (put4 cs k c s r1 r2)[k * 4 + 2]? = some (.int .i64 r1) ∧ (put4 cs k c s r1 r2)[k * 4 + 3]? = some (.bool r2) := by
  unfold put4
  have h0 : k * 4 < cs.size := by omega
  have h1 : k * 4 + 1 < cs.size := by omega
  have h2 : k * 4 + 2 < cs.size := by omega
  have h3 : k * 4 + 3 < cs.size := by omega
  simp [Array.getElem?_setIfInBounds, h0, h1, h2, h3]
theorem put4_other {cs : Array Value} {k j : Nat} (h : j < k * 4 ∨ k * 4 + 4 ≤ j) (c s r1 : Int) (r2 : Bool) : (put4 cs k c s r1 r2)[j]? = cs[j]? := by
  unfold put4
  rw [Array.getElem?_setIfInBounds_ne (by omega), Array.getElem?_setIfInBounds_ne (by omega), Array.getElem?_setIfInBounds_ne (by omega), Array.getElem?_setIfInBounds_ne (by omega)]
theorem Good.put (hG : Good L n cs) {k : Nat} (hk : k < n) {c s r1 : Int} {r2 : Bool} (hl : lookV L 60 c s = (r1, r2)) : Good L n (put4 cs k c s r1 r2) := by
  refine ⟨by rw [← hG.1]; simp [put4], fun i hi => ?_⟩
  by_cases e : i = k
  · subst e
    obtain ⟨p0, p1, p2, p3⟩ := put4_at hG.1 hi c s r1 r2
    exact ⟨c, s, r1, r2, p0, p1, p2, p3, .inr hl⟩
  · obtain ⟨c', s', f', o', p0, p1, p2, p3, p4⟩ := hG.2 i hi
    refine ⟨c', s', f', o', ?_, ?_, ?_, ?_, p4⟩
    · rw [put4_other (by omega)]; exact p0
    · rw [put4_other (by omega)]; exact p1
    · rw [put4_other (by omega)]; exact p2
    · rw [put4_other (by omega)]; exact p3
theorem CacheS.put {W1 : World} (C : CacheS w q b n cs h a) (hb : W1.heap.size ≤ b) (hne : b ≠ q) (hc : Chg No W1 w) (k : Nat) (c s r1 : Int) (r2 : Bool) :
    CacheS ((((w.setCell ⟨b, k * 4, none⟩ (.int .i64 c)).setCell ⟨b, k * 4 + 1, none⟩ (.int .i64 s)).setCell ⟨b, k * 4 + 2, none⟩ (.int .i64 r1)).setCell ⟨b, k * 4 + 3, none⟩ (.bool r2)) q b n (put4 cs k c s r1 r2) h a ∧
    Chg No W1 ((((w.setCell ⟨b, k * 4, none⟩ (.int .i64 c)).setCell ⟨b, k * 4 + 1, none⟩ (.int .i64 s)).setCell ⟨b, k * 4 + 2, none⟩ (.int .i64 r1)).setCell ⟨b, k * 4 + 3, none⟩ (.bool r2)) := by
  refine ⟨⟨?_, ?_⟩, ?_⟩
  · exact (((C.1.other (p := ⟨b, k * 4, none⟩) hne.symm _).other (p := ⟨b, k * 4 + 1, none⟩) hne.symm _).other (p := ⟨b, k * 4 + 2, none⟩) hne.symm _).other (p := ⟨b, k * 4 + 3, none⟩) hne.symm _
  · exact (((C.2.set _ _).set _ _).set _ _).set _ _
  · exact (((hc.setCell (p := ⟨b, k * 4, none⟩) (.inr hb) _).setCell (p := ⟨b, k * 4 + 1, none⟩) (.inr hb) _).setCell (p := ⟨b, k * 4 + 2, none⟩) (.inr hb) _).setCell (p := ⟨b, k * 4 + 3, none⟩) (.inr hb) _

set_option maxRecDepth 100000 in
set_option maxHeartbeats 1000000 in
theorem Find_any (g : MemK w0 W1 m L K) (hW : Chg No W1 w) (C : CacheS w q b n cs h a) (hq : W1.heap.size ≤ q) (hb : W1.heap.size ≤ b) (hn : 0 < n) (hn2 : n ≤ 128) (hG : Good L n cs) (c s : Int) (hc : In64 c) (hs : In64 s) (h0 : 0 ≤ h) (h1 : h < 1000) (a0 : 0 ≤ a) (a1 : a < 1000) :
    Calls Try.prog 29 #[.pointer (some ⟨q, 0, none⟩), .iface 30 (.pointer (some ⟨m, 0, none⟩)), .int .i64 c, .int .i64 s] w fun e w' => e = .returned (.tuple #[.int .i64 (lookV L 60 c s).1, .bool (lookV L 60 c s).2]) ∧ Chg No W1 w' ∧ ∃ cs' h', CacheS w' q b n cs' h' (a + 1) ∧ Good L n cs' ∧ Last n cs' c s ∧ (Last n cs c s → ¬ (c = 0 ∧ s = 0) → h' = h + 1) ∧ (¬ (Last n cs c s ∧ ¬ (c = 0 ∧ s = 0)) → h' = h) := by
  obtain ⟨r, hr⟩ : ∃ r, lookV L 60 c s = r := ⟨_, rfl⟩
  rw [hr]
  obtain ⟨r1, r2⟩ := r
  have HR1 := Lib.hid hr
  clear hr
  have hne : b ≠ q := C.2.ne C.1 (by decide)
  obtain ⟨k, hk⟩ : ∃ k, placeC n c s = k := ⟨_, rfl⟩
  have hkn : k < n := hk ▸ place_lt hn c s
  obtain ⟨hsz, hE⟩ := hG
  obtain ⟨c0, s0, f0, ok0, y0, y1, y2, y3, hl0⟩ := hE k hkn
  obtain ⟨u1, hu1⟩ : ∃ u, IntKind.i64.wrap (c * 31) = u := ⟨_, rfl⟩
  obtain ⟨u2, hu2⟩ : ∃ u, IntKind.i64.wrap (u1 + s) = u := ⟨_, rfl⟩
  obtain ⟨u3, hu3⟩ : ∃ u, IntKind.u64.wrap u2 = u := ⟨_, rfl⟩
  have hmod : u3 % (n : Int) = (k : Int) := by
    rw [← hk, placeC, hu1, hu2, hu3]
    exact (Int.toNat_of_nonneg (Int.emod_nonneg _ (by omega))).symm
  have ea : IntKind.i64.wrap (a + 1) = a + 1 := IntWalk.i64_in _ (by omega)
  have eh : IntKind.i64.wrap (h + 1) = h + 1 := IntWalk.i64_in _ (by omega)
  have x2 := C.1.cell 2
  have z2 := C.1.frozen 2
  simp at x2
  go_enter Try.func29, Try.ntmps29
  go_wp2_with fail
  obtain ⟨W2, hW2⟩ : ∃ W, (w.setCell ⟨q, 2, none⟩ (.int .i64 (a + 1))).alloc (.cells #[.int .i64 c, .int .i64 s] 113) = W := ⟨_, rfl⟩
  rw [hW2]
  have cW : Chg (fun k => k = q) w W2 := by
    rw [← hW2]
    exact (Chg.setCell (F := fun k => k = q) (Chg.refl _ _) (p := ⟨q, 2, none⟩) (.inl rfl) _).alloc _
  have cW1 : Chg No W1 W2 := by
    rw [← hW2]
    exact (hW.setCell (.inr hq) _).alloc _
  have rZ : Row W2 w.heap.size 113 #[.int .i64 c, .int .i64 s] := by
    rw [← hW2]
    have := Row.new (w.setCell ⟨q, 2, none⟩ (.int .i64 (a + 1))) 113 #[.int .i64 c, .int .i64 s]
    simpa using this
  have rQ : Row W2 q 111 #[.slice (some ⟨b, 0, none⟩) n n, .int .i64 h, .int .i64 (a + 1)] := by
    rw [← hW2]
    exact (C.1.set 2 _).alloc _
  have rB : Row W2 b 116 cs := C.2.keep cW hne
  clear hW2 x2 z2
  have x0 := rQ.cell 0
  have x1 := rQ.cell 1
  have z1 := rQ.frozen 1
  have v0 := rZ.cell 0
  have v1 := rZ.cell 1
  have b0 := (rB.cell (k * 4)).trans y0
  have b1 := (rB.cell (k * 4 + 1)).trans y1
  have b2 := (rB.cell (k * 4 + 2)).trans y2
  have b3 := (rB.cell (k * 4 + 3)).trans y3
  have f0' := rB.frozen (k * 4)
  have f1' := rB.frozen (k * 4 + 1)
  have f2' := rB.frozen (k * 4 + 2)
  have f3' := rB.frozen (k * 4 + 3)
  simp at x0 x1 v0 v1
  have HR := Lib.hid (And.intro cW1 (And.intro rQ (And.intro rB rZ)))
  have HO := Lib.hid (And.intro g (And.intro hsz (And.intro hE (And.intro hl0 hk))))
  have HY := Lib.hid (And.intro y0 (And.intro y1 (And.intro y2 y3)))
  clear cW cW1 rQ rB rZ C hW g hsz hE hl0 hk y0 y1 y2 y3
  have hkn' : (k : Int) < (n : Int) := by omega
  have hk0 : ¬ (k : Int) < 0 := by omega
  have en : IntKind.u64.wrap (n : Int) = (n : Int) := by rw [IntKind.wrap_u64]; omega
  have hz : ¬ n = 0 := by omega
  have hz' : ¬ (n : Int) = 0 := by omega
  have hm : u3.tmod (n : Int) = (k : Int) := by rw [Int.tmod_eq_emod_of_nonneg (by rw [← hu3]; exact wrap_u64_nonneg _), hmod]
  have EQ1 := fun w => run_eq_asked c0 s0 c s w
  have EQ2 := fun w => run_eq_asked c0 s0 0 0 w
  go_quiet (fail)
  cases hq1 : (c0 == c && s0 == s)
  · rw [hq1] at EQ1
    have HQ := Lib.hid hq1
    clear hq1 EQ2
    go_wp2_with fail
    go_quiet (fail)
    go_wp2_with (first
      | (go_at_call 28
         refine (k_Lookup ((HO.out.1.world HR.out.1).world ((Chg.refl _ _).drewN _)) c s hc).mono ?_
         rw [HR1.out]
         rintro e w5 ⟨rfl, g5, c5⟩
         have c6 : Chg No W2 w5 := c5.of_drewN
         have rz := HR.out.2.2.2.keep c6 (fun f => f)
         have rq := HR.out.2.1.keep c6 (fun f => f)
         have rb := HR.out.2.2.1.keep c6 (fun f => f)
         have v0a := rz.cell 0
         have v1a := rz.cell 1
         have b0a := (rb.cell (k * 4)).trans HY.out.1
         have b1a := (rb.cell (k * 4 + 1)).trans HY.out.2.1
         have b2a := (rb.cell (k * 4 + 2)).trans HY.out.2.2.1
         have b3a := (rb.cell (k * 4 + 3)).trans HY.out.2.2.2
         have f0a := rb.frozen (k * 4)
         have f1a := rb.frozen (k * 4 + 1)
         have f2a := rb.frozen (k * 4 + 2)
         have f3a := rb.frozen (k * 4 + 3)
         simp at v0a v1a
         have H5 := Lib.hid (And.intro (HR.out.1.trans c6) (And.intro rq rb))
         clear g5 c5 c6 rz rq rb)
      | fail)
    go_ret2
    have HP := CacheS.put (C := ⟨H5.out.2.1, H5.out.2.2⟩) hb hne H5.out.1 k c s r1 r2
    refine ⟨rfl, HP.2, _, _, HP.1, Good.put ⟨HO.out.2.1, HO.out.2.2.1⟩ hkn HR1.out, ?_, ?_, fun _ => rfl⟩
    · rw [Last, HO.out.2.2.2.2]
      exact ⟨(put4_at HO.out.2.1 hkn c s r1 r2).1, (put4_at HO.out.2.1 hkn c s r1 r2).2.1⟩
    · intro e
      have h3 := HQ.out
      rw [Last, HO.out.2.2.2.2, HY.out.1, HY.out.2.1] at e
      have e1 := Value.int.inj (Option.some.inj e.1)
      have e2 := Value.int.inj (Option.some.inj e.2)
      simp [e1.2, e2.2] at h3
  · cases hq2 : (c0 == 0 && s0 == 0)
    · rw [hq1] at EQ1
      rw [hq2] at EQ2
      obtain ⟨rfl, rfl⟩ : c0 = c ∧ s0 = s := by simpa using hq1
      have hl := HO.out.2.2.2.1
      obtain ⟨rfl, rfl⟩ : f0 = r1 ∧ ok0 = r2 := by
        rcases hl with hl | hl
        · rw [hl.1, hl.2] at hq2; simp at hq2
        · have h5 := hl.symm.trans HR1.out
          exact ⟨(Prod.mk.inj h5).1, (Prod.mk.inj h5).2⟩
      clear hl
      have HQ := Lib.hid (And.intro hq1 hq2)
      clear hq1 hq2
      go_wp2_with fail
      go_quiet (fail)
      go_wp2_with fail
      generalize hW3 : World.setCell (World.drewN W2 _) ⟨q, 1, none⟩ (.int .i64 (h + 1)) = W3
      have h3 : Chg No W1 W3 ∧ CacheS W3 q b n cs (h + 1) (a + 1) := by
        rw [← hW3]
        exact ⟨(HR.out.1.drewN _).setCell (.inr hq) _, (HR.out.2.1.drewN _).set 1 _, (HR.out.2.2.1.drewN _).other hne _⟩
      have b2a := (h3.2.2.cell (k * 4 + 2)).trans HY.out.2.2.1
      have b3a := (h3.2.2.cell (k * 4 + 3)).trans HY.out.2.2.2
      have H3 := Lib.hid h3
      clear hW3 h3
      go_quiet (fail)
      go_wp2_with fail
      go_ret2
      refine ⟨rfl, H3.out.1.drewN _, cs, h + 1, H3.out.2.keep (F := No) ((Chg.refl _ _).drewN _) (fun f => f) (fun f => f), ⟨HO.out.2.1, HO.out.2.2.1⟩, ?_, fun _ _ => rfl, ?_⟩
      · rw [Last, HO.out.2.2.2.2]
        exact ⟨HY.out.1, HY.out.2.1⟩
      · intro h4
        refine absurd ⟨?_, ?_⟩ h4
        · rw [Last, HO.out.2.2.2.2]
          exact ⟨HY.out.1, HY.out.2.1⟩
        · rintro ⟨rfl, rfl⟩
          have := HQ.out.2
          simp at this
    · rw [hq1] at EQ1
      rw [hq2] at EQ2
      have HQ := Lib.hid (And.intro hq1 hq2)
      clear hq1 hq2
      go_wp2_with fail
      go_quiet (fail)
      go_wp2_with (first
        | (go_at_call 28
           refine (k_Lookup ((HO.out.1.world HR.out.1).world ((Chg.refl _ _).drewN _)) c s hc).mono ?_
           rw [HR1.out]
           rintro e w5 ⟨rfl, g5, c5⟩
           have c6 : Chg No W2 w5 := c5.of_drewN
           have rz := HR.out.2.2.2.keep c6 (fun f => f)
           have rq := HR.out.2.1.keep c6 (fun f => f)
           have rb := HR.out.2.2.1.keep c6 (fun f => f)
           have v0a := rz.cell 0
           have v1a := rz.cell 1
           have b0a := (rb.cell (k * 4)).trans HY.out.1
           have b1a := (rb.cell (k * 4 + 1)).trans HY.out.2.1
           have b2a := (rb.cell (k * 4 + 2)).trans HY.out.2.2.1
           have b3a := (rb.cell (k * 4 + 3)).trans HY.out.2.2.2
           have f0a := rb.frozen (k * 4)
           have f1a := rb.frozen (k * 4 + 1)
           have f2a := rb.frozen (k * 4 + 2)
           have f3a := rb.frozen (k * 4 + 3)
           simp at v0a v1a
           have H5 := Lib.hid (And.intro (HR.out.1.trans c6) (And.intro rq rb))
           clear g5 c5 c6 rz rq rb)
        | fail)
      go_ret2
      have HP := CacheS.put (C := ⟨H5.out.2.1, H5.out.2.2⟩) hb hne H5.out.1 k c s r1 r2
      refine ⟨rfl, HP.2, _, _, HP.1, Good.put ⟨HO.out.2.1, HO.out.2.2.1⟩ hkn HR1.out, ?_, ?_, fun _ => rfl⟩
      · rw [Last, HO.out.2.2.2.2]
        exact ⟨(put4_at HO.out.2.1 hkn c s r1 r2).1, (put4_at HO.out.2.1 hkn c s r1 r2).2.1⟩
      · intro e h3
        have h4 := HQ.out
        simp at h4
        exact absurd ⟨by omega, by omega⟩ h3
end

end Go.Proofs.Ytjanojignaonfaa
