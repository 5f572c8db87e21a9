/- Looking up a selector: kit.pair, kit.Lookup. -/
import Derived.Test.YtjanojignaonfaaKitA
import Derived.WalkMore
namespace Go.Proofs.Ytjanojignaonfaa
set_option linter.unusedVariables false
set_option linter.unusedSimpArgs false
open Go.RowKit

/-- what a selector leads to in a dictionary -/
def pairV : List Int → Int → Int × Bool
  | a :: b :: r, s => if a = s then (b, true) else pairV r s
  | _, _ => (0, false)
theorem pairV_end {W : List Int} {j : Nat} (h : W.length ≤ j + 1) (s : Int) : pairV (W.drop j) s = (0, false) := by
  have hl : (W.drop j).length ≤ 1 := by simp; omega
  match W.drop j, hl with
  | [], _ => rfl
  | [_], _ => rfl
theorem pairV_step {W : List Int} {j : Nat} (h : j + 1 < W.length) (s : Int) : pairV (W.drop j) s = if W[j]?.getD 0 = s then (W[j + 1]?.getD 0, true) else pairV (W.drop (j + 2)) s := by
  rw [List.drop_eq_getElem_cons (show j < W.length by omega), List.drop_eq_getElem_cons h, List.getElem?_eq_getElem (show j < W.length by omega), List.getElem?_eq_getElem h]
  rfl
theorem pairV_no {s : Int} : ∀ {W : List Int}, (pairV W s).2 = false → (pairV W s).1 = 0
  | [], _ => rfl
  | [_], _ => rfl
  | a :: b :: r, h => by
    unfold pairV at h ⊢
    split
    · rename_i e; rw [if_pos e] at h; cases h
    · rename_i e; rw [if_neg e] at h; exact pairV_no h
/-- what a selector leads to from a class, at most n classes above one another -/
def lookV (L : List O) : Nat → Int → Int → Int × Bool
  | 0, _, _ => (0, false)
  | n + 1, c, s =>
    if objE L c ≠ 0 ∨ (objV L c).W.length < 2 then (0, false)
    else if (pairV (objV L ((objV L c).W[1]?.getD 0)).W s).2 = true then pairV (objV L ((objV L c).W[1]?.getD 0)).W s
    else lookV L n ((objV L c).W[0]?.getD 0) s

section
variable {w0 w w' : World} {m : Nat} {L L' : List O} {K : (Nat → Prop) → World → Prop} {F F' : Nat → Prop}
theorem MemK.objLen (h : MemK w0 w m L K) (o : Int) : (objV L o).W.length ≤ 1000 := by
  unfold objV
  cases hf : fnd L o with
  | none => simp [O.zero]
  | some i => exact (h.okAt (fnd_some hf).2.1).2.2.1

set_option maxRecDepth 100000 in
set_option maxHeartbeats 2000000 in
theorem k_pair (h : MemK w0 w m L K) (d s : Int) (hd : In64 d) :
    Calls Try.prog 69 #[.iface 30 (.pointer (some ⟨m, 0, none⟩)), .int .i64 d, .int .i64 s] w fun e w' => e = .returned (.tuple #[.int .i64 (pairV (objV L d).W s).1, .bool (pairV (objV L d).W s).2]) ∧ MemK w0 w' m L K ∧ Chg No w w' := by
  have hlen := h.objLen d
  have H := Lib.hid h
  clear h
  obtain ⟨x, hx⟩ : ∃ x, objV L d = x := ⟨_, rfl⟩
  rw [hx] at hlen ⊢
  have HX := Lib.hid hx
  clear hx
  obtain ⟨r, hr⟩ : ∃ r, pairV x.W s = r := ⟨_, rfl⟩
  rw [hr]
  have HR := Lib.hid hr
  clear hr
  generalize hn : x.W.length = n at *
  have HN := Lib.hid hn
  clear hn
  go_enter Try.func69, Try.ntmps69
  go_wp2_with (first
    | (go_at_call 24
       refine (k_ObjC H.out d hd).mono ?_
       rw [HX.out]
       rintro e w1 ⟨rr, rfl, g1, hr1, c1⟩
       obtain ⟨A1, k1, B1, d1, rfl⟩ := hr1.shape
       rw [HN.out]
       have HG := Lib.hid (And.intro g1 (And.intro c1 hr1))
       clear g1 c1 hr1))
  obtain ⟨W, hW⟩ : ∃ W, w1.alloc (.cells #[.int .i64 x.cls, .int .i64 x.kind, .slice A1 n k1, .slice B1 x.B.length d1] 39) = W := ⟨_, rfl⟩
  rw [hW]
  have cW : Chg No w1 W := by rw [← hW]; exact (Chg.refl _ _).alloc _
  have rW : Row W w1.heap.size 39 #[.int .i64 x.cls, .int .i64 x.kind, .slice A1 n k1, .slice B1 x.B.length d1] := by rw [← hW]; exact Row.new w1 _ _
  have x2 : W.cell? ⟨w1.heap.size, 2, none⟩ = some (.slice A1 n k1) := rW.cell 2
  have hI : IntS W (fun _ => True) (.slice A1 n k1) x.W := by
    obtain ⟨wv, bv, e, h1, -⟩ := HG.out.2.2
    simp [cells2] at e
    rw [← e.1] at h1
    have h2 := (h1.keep cW (fun _ _ f => f)).more (S' := fun _ => True) (fun _ _ _ => trivial)
    rwa [HN.out] at h2
  have HI := Lib.hid hI
  have HW := Lib.hid (And.intro (HG.out.1.world cW) (HG.out.2.1.trans cW))
  clear hW cW rW hI
  go_loopg [10] n (fun j v10 wr => ∃ i i1 : Nat, v10 = .int .i64 (i1 : Int) ∧ i1 = i + 1 ∧ n - i ≤ j ∧ i ≤ n + 1 ∧ wr = W ∧ pairV (x.W.drop i) s = r)
  case atStart => exact ⟨0, 1, rfl, rfl, by omega, by omega, rfl, HR.out⟩
  case round =>
    obtain ⟨i, i1, rfl, e1, hj, hi, rfl, hp⟩ := hrel
    by_cases hlt : i1 < n
    · have t1 : decide ((i1 : Int) < (n : Int)) = true := decide_eq_true (by omega)
      have v1 : IntKind.i64.wrap ((i1 : Int) - 1) = (i : Int) := (IntWalk.i64_in _ (by omega)).trans (by omega)
      have v2 : IntKind.i64.wrap ((i1 : Int) + 2) = ((i1 + 2 : Nat) : Int) := (IntWalk.i64_in _ (by omega)).trans (by omega)
      have l1 : (i : Int) < (n : Int) := by omega
      rw [pairV_step (by rw [HN.out]; omega), ← e1] at hp
      obtain ⟨A', c', eA, hA1, -, -, hat⟩ := HI.out.form
      obtain ⟨b, off, rfl, -, -, y0, -⟩ := hat i (by rw [HN.out]; omega)
      obtain ⟨b', off', e', -, -, y1, -⟩ := hat i1 (by rw [HN.out]; omega)
      rw [HN.out] at eA
      obtain ⟨rfl, -, -⟩ := Value.slice.inj eA
      obtain ⟨rfl, rfl⟩ : b = b' ∧ off = off' := by simpa using e'
      have HE := Lib.hid e1
      clear hat eA e' e1
      generalize x.W[i]?.getD 0 = p at *
      generalize x.W[i1]?.getD 0 = q at *
      by_cases hps : p = s
      · rw [if_pos hps] at hp
        obtain rfl := hp
        have t2 : (p == s) = true := by simpa using hps
        clear hps
        go_wp2_with fail
        go_ret2
        exact ⟨rfl, HW.out.1, HW.out.2⟩
      · rw [if_neg hps] at hp
        have t2 : (p == s) = false := by simpa using hps
        have HP := Lib.hid hp
        clear hps hp
        go_wp2_with fail
        go_roundg (n - (i + 2))
        case measure => have := HE.out; omega
        case rel => exact ⟨i + 2, i1 + 2, rfl, by have := HE.out; omega, by omega, by have := HE.out; omega, rfl, HP.out⟩
    · have t1 : decide ((i1 : Int) < (n : Int)) = false := decide_eq_false (by omega)
      rw [pairV_end (by rw [HN.out]; omega)] at hp
      obtain rfl := hp
      clear e1
      go_wp2_with fail
      go_ret2
      exact ⟨rfl, HW.out.1, HW.out.2⟩

theorem MemK.objRef (h : MemK w0 w m L K) (o : Int) : ∀ x ∈ (objV L o).W, refOk x = true := by
  unfold objV
  cases hf : fnd L o with
  | none => intro x hx; simp [O.zero] at hx
  | some j => exact (h.okAt (fnd_some hf).2.1).2.2.2.2.1
theorem MemK.objWord (h : MemK w0 w m L K) (o : Int) (i : Nat) : In64 ((objV L o).W[i]?.getD 0) := by
  rcases Nat.lt_or_ge i (objV L o).W.length with hi | hi
  · rw [List.getElem?_eq_getElem hi]
    exact ref64 (h.objRef o _ (List.getElem_mem hi))
  · rw [List.getElem?_eq_none hi]
    unfold In64; simp

set_option maxRecDepth 100000 in
set_option maxHeartbeats 4000000 in
theorem k_Lookup (h : MemK w0 w m L K) (c0 s : Int) (hc0 : In64 c0) :
    Calls Try.prog 28 #[.iface 30 (.pointer (some ⟨m, 0, none⟩)), .int .i64 c0, .int .i64 s] w fun e w' => e = .returned (.tuple #[.int .i64 (lookV L 60 c0 s).1, .bool (lookV L 60 c0 s).2]) ∧ MemK w0 w' m L K ∧ Chg No w w' := by
  have H := Lib.hid h
  clear h
  obtain ⟨r, hr⟩ : ∃ r, lookV L 60 c0 s = r := ⟨_, rfl⟩
  rw [hr]
  have HR := Lib.hid hr
  clear hr
  go_enter Try.func28, Try.ntmps28
  go_wp2_with fail
  go_step3
  go_wp2_with fail
  go_step3
  go_wp2_with fail
  go_loopg [1, 8, 9, 10, 11, 12] 60 (fun j v1 v8 v9 v10 v11 v12 wr => ∃ (i : Nat) (c : Int), v12 = .int .i64 (i : Int) ∧ v1 = .int .i64 c ∧ v8 = .int .i64 0 ∧ v9 = .bool false ∧ i + j = 60 ∧ In64 c ∧ lookV L j c s = r ∧ MemK w0 wr m L K ∧ Chg No w wr)
  case atStart => exact ⟨0, c0, rfl, rfl, rfl, rfl, rfl, hc0, HR.out, H.out, Chg.refl _ _⟩
  case round =>
    obtain ⟨i, c, rfl, rfl, rfl, rfl, hij, hc, hlk, g, cg⟩ := hrel
    have HG := Lib.hid (And.intro g (And.intro cg hc))
    clear g cg
    cases gk with
    | zero =>
      obtain rfl : i = 60 := by omega
      obtain rfl := hlk
      go_wp2_with fail
      try rw [Exit.noGoto_ret]
      go_ret2
      exact ⟨rfl, HG.out.1, HG.out.2.1⟩
    | succ j =>
      have t0 : decide ((i : Int) < 60) = true := decide_eq_true (by omega)
      obtain ⟨x, hx⟩ : ∃ x, objV L c = x := ⟨_, rfl⟩
      obtain ⟨xe, hxe⟩ : ∃ xe, objE L c = xe := ⟨_, rfl⟩
      unfold lookV at hlk
      rw [hx, hxe] at hlk
      have HX := Lib.hid hx
      have HE := Lib.hid hxe
      have hw0 := HG.out.1.objWord c 0
      have hw1 := HG.out.1.objWord c 1
      rw [hx] at hw0 hw1
      clear hx hxe
      generalize hn : x.W.length = n at *
      have HN := Lib.hid hn
      clear hn
      by_cases he : xe = 0
      · subst he
        by_cases h2 : n < 2
        · have t1 : decide ((n : Int) < 2) = true := decide_eq_true (by omega)
          rw [if_pos (.inr h2)] at hlk
          obtain rfl := hlk
          clear h2
          go_wp2_with (first
            | (go_at_call 24
               refine (k_ObjC HG.out.1 c HG.out.2.2).mono ?_
               rw [HX.out]
               rintro e w1 ⟨rr, rfl, g1, hr1, c1⟩
               obtain ⟨A1, k1, B1, d1, rfl⟩ := hr1.shape
               rw [HE.out, HN.out]
               have H1 := Lib.hid (And.intro g1 (And.intro (HG.out.2.1.trans c1) hr1))
               clear g1 c1 hr1)
            | fail)
          try rw [Exit.noGoto_ret]
          go_ret2
          exact ⟨rfl, H1.out.1.world ((Chg.refl _ _).alloc _), H1.out.2.1.alloc _⟩
        · have t1 : decide ((n : Int) < 2) = false := decide_eq_false (by omega)
          rw [if_neg (by rintro (h | h); exact h rfl; omega)] at hlk
          obtain ⟨p0, hp0⟩ : ∃ p0, x.W[0]?.getD 0 = p0 := ⟨_, rfl⟩
          obtain ⟨p1, hp1⟩ : ∃ p1, x.W[1]?.getD 0 = p1 := ⟨_, rfl⟩
          rw [hp0] at hlk hw0
          rw [hp1] at hlk hw1
          obtain ⟨y, hy⟩ : ∃ y, pairV (objV L p1).W s = y := ⟨_, rfl⟩
          rw [hy] at hlk
          have HP := Lib.hid (And.intro hp0 hp1)
          have HY := Lib.hid hy
          have l0 : (0 : Int) < (n : Int) := by omega
          have l1 : (1 : Int) < (n : Int) := by omega
          clear hp0 hp1
          have hy0 : y.2 = false → y.1 = 0 := by rw [← hy]; exact pairV_no
          clear hy
          obtain ⟨y1, y2⟩ := y
          cases y2
          · obtain rfl := hy0 rfl
            rw [if_neg (by simp)] at hlk
            have HLK := Lib.hid hlk
            clear h2 hlk hy0
            go_wp2_with (first
              | (go_at_call 24
                 refine (k_ObjC HG.out.1 c HG.out.2.2).mono ?_
                 rw [HX.out]
                 rintro e w1 ⟨rr, rfl, g1, hr1, c1⟩
                 obtain ⟨wv, bv, rfl, hI, hB, -⟩ := hr1
                 obtain ⟨A1, k1, rfl, -, -, -, hat⟩ := hI.form
                 obtain ⟨B1, d1, rfl, -⟩ := hB.form
                 rw [HE.out, HN.out]
                 obtain ⟨b, off, rfl, -, hbl, z0, -⟩ := hat 0 (by rw [HN.out]; omega)
                 obtain ⟨b', off', e', -, -, z1, -⟩ := hat 1 (by rw [HN.out]; omega)
                 obtain ⟨rfl, rfl⟩ : b = b' ∧ off = off' := by simpa using e'
                 rw [HP.out.1] at z0
                 rw [HP.out.2] at z1
                 rw [Nat.add_zero] at z0
                 have ca : Chg No w1 (w1.alloc (.cells #[.int .i64 x.cls, .int .i64 x.kind, .slice (some ⟨b, off, none⟩) n k1, .slice B1 x.B.length d1] 39)) := (Chg.refl _ _).alloc _
                 have z0a := (ca.cell (p := ⟨b, off, none⟩) hbl (fun f => f)).trans z0
                 have z1a := (ca.cell (p := ⟨b, off + 1, none⟩) hbl (fun f => f)).trans z1
                 have zra := Row.new w1 39 #[.int .i64 x.cls, .int .i64 x.kind, .slice (some ⟨b, off, none⟩) n k1, .slice B1 x.B.length d1]
                 have zr2 := zra.cell 2
                 simp only [cells2] at *
                 have H1 := Lib.hid (And.intro (g1.world ca) (And.intro ((HG.out.2.1.trans c1).trans ca) (And.intro z0a (And.intro zra (Nat.lt_of_lt_of_le hbl ca.size)))))
                 clear g1 c1 hI hB hat e' ca zra hbl z0 z1)
                | (go_at_call 69
                   refine (k_pair H1.out.1 p1 s hw1).mono ?_
                   rw [HY.out]
                   rintro e w2 ⟨rfl, g2, c2⟩
                   have zb2 := (c2.cell (p := ⟨b, off, none⟩) H1.out.2.2.2.2 (fun f => f)).trans H1.out.2.2.1
                   have zc2 := (H1.out.2.2.2.1.keep c2 (fun f => f)).cell 2
                   have H2 := Lib.hid (And.intro g2 (H1.out.2.1.trans c2))
                   clear g2 c2)
              | fail)
            go_roundg j
            case measure => omega
            case rel => exact ⟨i + 1, p0, by go_num, rfl, rfl, rfl, by omega, hw0, HLK.out, H2.out.1, H2.out.2⟩
          · rw [if_pos rfl] at hlk
            obtain rfl := hlk
            clear h2 hy0
            go_wp2_with (first
              | (go_at_call 24
                 refine (k_ObjC HG.out.1 c HG.out.2.2).mono ?_
                 rw [HX.out]
                 rintro e w1 ⟨rr, rfl, g1, hr1, c1⟩
                 obtain ⟨wv, bv, rfl, hI, hB, -⟩ := hr1
                 obtain ⟨A1, k1, rfl, -, -, -, hat⟩ := hI.form
                 obtain ⟨B1, d1, rfl, -⟩ := hB.form
                 rw [HE.out, HN.out]
                 obtain ⟨b, off, rfl, -, hbl, z0, -⟩ := hat 0 (by rw [HN.out]; omega)
                 obtain ⟨b', off', e', -, -, z1, -⟩ := hat 1 (by rw [HN.out]; omega)
                 obtain ⟨rfl, rfl⟩ : b = b' ∧ off = off' := by simpa using e'
                 rw [HP.out.1] at z0
                 rw [HP.out.2] at z1
                 rw [Nat.add_zero] at z0
                 have ca : Chg No w1 (w1.alloc (.cells #[.int .i64 x.cls, .int .i64 x.kind, .slice (some ⟨b, off, none⟩) n k1, .slice B1 x.B.length d1] 39)) := (Chg.refl _ _).alloc _
                 have z0a := (ca.cell (p := ⟨b, off, none⟩) hbl (fun f => f)).trans z0
                 have z1a := (ca.cell (p := ⟨b, off + 1, none⟩) hbl (fun f => f)).trans z1
                 have zra := Row.new w1 39 #[.int .i64 x.cls, .int .i64 x.kind, .slice (some ⟨b, off, none⟩) n k1, .slice B1 x.B.length d1]
                 have zr2 := zra.cell 2
                 simp only [cells2] at *
                 have H1 := Lib.hid (And.intro (g1.world ca) (And.intro ((HG.out.2.1.trans c1).trans ca) (And.intro z0a (And.intro zra (Nat.lt_of_lt_of_le hbl ca.size)))))
                 clear g1 c1 hI hB hat e' ca zra hbl z0 z1)
                | (go_at_call 69
                   refine (k_pair H1.out.1 p1 s hw1).mono ?_
                   rw [HY.out]
                   rintro e w2 ⟨rfl, g2, c2⟩
                   have zb2 := (c2.cell (p := ⟨b, off, none⟩) H1.out.2.2.2.2 (fun f => f)).trans H1.out.2.2.1
                   have zc2 := (H1.out.2.2.2.1.keep c2 (fun f => f)).cell 2
                   have H2 := Lib.hid (And.intro g2 (H1.out.2.1.trans c2))
                   clear g2 c2)
              | fail)
            try rw [Exit.noGoto_ret]
            go_ret2
            exact ⟨rfl, H2.out.1, H2.out.2⟩
      · have t1 : (xe != 0) = true := by simpa using he
        rw [if_pos (.inl he)] at hlk
        obtain rfl := hlk
        clear he
        go_wp2_with (first
          | (go_at_call 24
             refine (k_ObjC HG.out.1 c HG.out.2.2).mono ?_
             rw [HX.out]
             rintro e w1 ⟨rr, rfl, g1, hr1, c1⟩
             obtain ⟨A1, k1, B1, d1, rfl⟩ := hr1.shape
             rw [HE.out, HN.out]
             have H1 := Lib.hid (And.intro g1 (And.intro (HG.out.2.1.trans c1) hr1))
             clear g1 c1 hr1)
          | fail)
        try rw [Exit.noGoto_ret]
        go_ret2
        exact ⟨rfl, H1.out.1.world ((Chg.refl _ _).alloc _), H1.out.2.1.alloc _⟩
end

end Go.Proofs.Ytjanojignaonfaa
