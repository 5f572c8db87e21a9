/- Without the document's answer: objects that are made have numbers from 1 on, one behind the other; what is none gets no number; each takes as many sectors as its bytes. -/
import Derived.Test.YtdpmmafkomchaaaSecW
import Derived.Test.YtdpmmafkomchaaaEnc05
namespace Go.Proofs.Ytdpmmafkomchaaa
set_option linter.unusedVariables false
set_option linter.unusedSimpArgs false
open Go.RowKit
open Go.ChangeMaps (setBlock)

set_option maxHeartbeats 400000 in
theorem Sectors04_any (k : Nat) (hk : k ≤ 1000000000) (w : World) : Calls Try.prog 11 #[.int .i64 k] w fun e w' => e = .returned (.int .i64 (secN k)) ∧ w = w' := by
  obtain ⟨R, hR⟩ : ∃ R, R = secN k := ⟨_, rfl⟩
  rw [← hR]
  have hr : 1 ≤ R ∧ k ≤ R * 64 ∧ (R = 1 ∨ (R - 1) * 64 < k) := by rw [hR]; unfold secN; omega
  clear hR
  go_enter Try.func11, Try.ntmps11
  go_wp2_with fail
  go_loopg [3] R (fun j v3 wr => ∃ i : Nat, v3 = .int .i64 (i : Int) ∧ 1 ≤ i ∧ i ≤ R ∧ R - i ≤ j ∧ wr = w)
  case atStart => exact ⟨1, rfl, by omega, by omega, by omega, rfl⟩
  case round =>
    obtain ⟨i, rfl, i0, i1, i2, hwr⟩ := hrel
    have hwr' := hwr.symm
    subst hwr'
    by_cases hi : i < R
    · have t1 : decide ((i : Int) * 64 < (k : Int)) = true := decide_eq_true (by omega)
      go_wp2_with fail
      go_roundg (R - (i + 1))
      case measure => omega
      case rel => exact ⟨i + 1, by go_num, by omega, by omega, by omega, rfl⟩
    · obtain rfl : i = R := by omega
      have t1 : decide ((i : Int) * 64 < (k : Int)) = false := decide_eq_false (by omega)
      go_wp2_with fail
      go_ret
      exact ⟨rfl, rfl⟩

/-! what is only made lies without gaps -/
theorem pack_place {X : List Xt} {u N n : Nat} (h : ∀ i, tX X i = decide (i < u)) (hu : u + n ≤ N) (hn : 1 ≤ n) : placeX X N n = some u := by
  refine firstB_is hu (freeB_iff.2 fun i hi => ?_) fun g hg => ?_
  · rw [h, decide_eq_false (by omega)]
  · rintro ⟨h1, h2⟩
    have := freeB_iff.1 h2 0 (by omega)
    rw [h, decide_eq_true (by omega)] at this
    cases this
theorem tX_snoc (X : List Xt) (x : Xt) (i : Nat) : tX (X ++ [x]) i = (tX X i || (decide (x.f ≤ i) && decide (i < x.f + x.n))) := by
  unfold tX
  rw [List.any_append]
  simp
/-- n were made, nothing else was done, u sectors are taken -/
structure Mk (L : List Rw) (n u : Nat) : Prop where
  len : L.length = n
  ids : ∀ r ∈ L, 1 ≤ r.id ∧ r.id ≤ n
  used : usedL L = u
  pack : ∀ i, tX (L.map Rw.xt) i = decide (i < u)
  few : u ≤ 32 * n
theorem Mk.nil : Mk [] 0 0 := ⟨rfl, by simp, rfl, fun i => by simp [tX], by omega⟩
theorem Mk.more {L : List Rw} {n u : Nat} (h : Mk L n u) (o : O) (hm : secN (encB o).length ≤ 32) : Mk (L ++ [⟨((n + 1 : Nat) : Int), o, u⟩]) (n + 1) (u + secN (encB o).length) := by
  refine ⟨by rw [List.length_append, h.len]; rfl, fun r hr => ?_, ?_, fun i => ?_, by have := h.few; omega⟩
  · rw [List.mem_append, List.mem_singleton] at hr
    rcases hr with hr | rfl
    · have := h.ids r hr; omega
    · dsimp only; omega
  · have := h.used
    unfold usedL at this ⊢
    rw [List.map_append, List.sum_append, this]
    simp [Rw.xt, Xt.n]
  · rw [List.map_append]
    show tX (L.map Rw.xt ++ [⟨u, encB o⟩]) i = _
    rw [tX_snoc, h.pack]
    have : Xt.n ⟨u, encB o⟩ = secN (encB o).length := rfl
    rw [this]
    dsimp only
    rw [Bool.eq_iff_iff]
    simp only [Bool.or_eq_true, Bool.and_eq_true, decide_eq_true_eq]
    omega
theorem Mk.has {L : List Rw} {n u : Nat} (h : Mk L n u) (x : Rw) (hx : x.id = ((n + 1 : Nat) : Int)) : (lk (L ++ [x]) ((n + 1 : Nat) : Int)).isSome = true ∧ (lk (L ++ [x]) (((n + 1 : Nat) : Int) + 1)).isSome = false := by
  have hlt : ∀ r ∈ L, r.id < x.id := fun r hr => by have := h.ids r hr; omega
  rw [lk_last hlt, lk_last hlt, if_pos hx.symm, if_neg (by omega)]
  refine ⟨rfl, ?_⟩
  have : lk L (((n + 1 : Nat) : Int) + 1) = none := lk_none.2 fun r hr => by have := h.ids r hr; omega
  rw [this]
  rfl

set_option maxRecDepth 100000 in
set_option maxHeartbeats 1000000 in
theorem SecondMakes_any (v : Value) (L : List O) (w : World) (h : RefL w (fun _ => True) v L) (hm : L.length ≤ maxLen) : Calls Try.prog 3 #[v] w fun e w' => e = .returned (.bool true) ∧ Chg No w w' := by
  obtain ⟨T, hT, h⟩ := h.toT
  have hlen : T.length = L.length := by rw [← hT, List.length_map]
  obtain ⟨A, c, rfl⟩ : ∃ A c, v = .slice A T.length c := by obtain ⟨A, c, e, -⟩ := h.1; exact ⟨A, c, e⟩
  have hm2 : T.length ≤ 9223372036854775807 := by unfold maxLen at hm; simp at hm; omega
  have HX := Lib.hid (h.more (S' := fun b => b < w.heap.size) (fun b hb _ => hb))
  generalize hn : T.length = n at *
  have HLN := Lib.hid hn
  clear hT h hm hlen hn
  by_cases hbig : 40 < n
  · have t1 : decide ((40 : Int) < (n : Int)) = true := decide_eq_true (by omega)
    have t2 : decide (40 < n) = true := decide_eq_true hbig
    go_enter Try.func3, Try.ntmps3
    go_wp2_with (first
      | (go_at_call 7; refine (known06_any _).mono ?_; rintro e w1 ⟨rfl, c1⟩)
      | fail)
    go_ret
    exact ⟨rfl, c1⟩
  have t1 : decide ((40 : Int) < (n : Int)) = false := decide_eq_false (by omega)
  have t2 : decide (40 < n) = false := decide_eq_false hbig
  have HN := Lib.hid (secNew_ok 2000 (by omega) w)
  go_enter Try.func3, Try.ntmps3
  go_wp2_with (first
    | (go_at_call 8
       refine HN.out.mono ?_
       rintro e w1 ⟨v1, rfl, Q, rfl, hs, hge, c1⟩
       have H1 := Lib.hid (And.intro hs (And.intro hge c1))
       clear hs hge c1)
    | fail)
  go_loopg [5, 6, 7] n (fun j v5 v6 v7 wr => ∃ (i k u : Nat) (M : List Rw), v7 = .int .i64 (i : Int) ∧ v5 = .int .i64 (k : Int) ∧ v6 = .int .i64 (u : Int) ∧ i ≤ n ∧ n - i ≤ j ∧ k ≤ i ∧ Mk M k u ∧ SecS wr Q 2000 M k ∧ Chg No w wr)
  case atStart => exact ⟨0, 0, 0, [], rfl, rfl, rfl, by omega, by omega, by omega, Mk.nil, H1.out.1, H1.out.2.2⟩
  case round =>
    obtain ⟨i, k, u, M, rfl, rfl, rfl, i1, i2, ki, hmk, hsec, cw⟩ := hrel
    have hfew := hmk.few
    by_cases hi : i < n
    · obtain ⟨t, ht⟩ : ∃ t, T[i]? = some t := ⟨_, List.getElem?_eq_getElem (by rw [HLN.out]; exact hi)⟩
      have t3 : decide ((i : Int) < (n : Int)) = true := decide_eq_true (by omega)
      have hat : ∀ W, Chg No w W → ∃ b off, A = some ⟨b, off, none⟩ ∧ ObjR W (fun b => b < w.heap.size) (.agg #[.int .i64 t.1.cls, .int .i64 t.1.kind, t.2.1, t.2.2]) t.1 ∧ W.cell? ⟨b, off + i * 4, none⟩ = some (.int .i64 t.1.cls) ∧ W.cell? ⟨b, off + i * 4 + 1, none⟩ = some (.int .i64 t.1.kind) ∧ W.cell? ⟨b, off + i * 4 + 2, none⟩ = some t.2.1 ∧ W.cell? ⟨b, off + i * 4 + 3, none⟩ = some t.2.2 := fun W hW => by
        obtain ⟨b, off, e, -, -, hok, d0, d1, d2, d3⟩ := (HX.out.keep hW (fun _ _ f => f)).at ht
        exact ⟨b, off, e, ⟨_, _, rfl, hok.1, hok.2.1, hok.2.2.1, hok.2.2.2⟩, d0, d1, d2, d3⟩
      obtain ⟨b, off, rfl, ho, d0, d1, d2, d3⟩ := hat wr cw
      obtain ⟨o, xv, yv⟩ := t
      dsimp only at ho d0 d1 d2 d3 hat
      obtain ⟨xv', yv', exy, hx1, hy1, -⟩ := ho
      have hxy : xv = xv' ∧ yv = yv' := by simpa [cells2] using exy
      obtain ⟨rfl, rfl⟩ := hxy
      obtain ⟨A1, ca1, rfl, -⟩ := hx1.form
      obtain ⟨A2, ca2, rfl, -⟩ := hy1.form
      have hat2 : ∀ W, Chg No w W → ObjR W (fun b => b < w.heap.size) (.agg #[.int .i64 o.cls, .int .i64 o.kind, .slice A1 o.W.length ca1, .slice A2 o.B.length ca2]) o ∧ W.cell? ⟨b, off + i * 4, none⟩ = some (.int .i64 o.cls) ∧ W.cell? ⟨b, off + i * 4 + 1, none⟩ = some (.int .i64 o.kind) ∧ W.cell? ⟨b, off + i * 4 + 2, none⟩ = some (.slice A1 o.W.length ca1) ∧ W.cell? ⟨b, off + i * 4 + 3, none⟩ = some (.slice A2 o.B.length ca2) := fun W hW => by
        obtain ⟨b', off', e, h'⟩ := hat W hW
        obtain ⟨rfl, rfl⟩ : b = b' ∧ off = off' := by simpa using Option.some.inj e
        exact h'
      have HAT := Lib.hid hat2
      have HC := Lib.hid (And.intro cw (And.intro hmk hsec))
      clear hat hat2 hx1 hy1 exy cw hmk hsec ht
      cases hk : okB o
      · have HK := Lib.hid hk
        clear hk
        go_wp2_with (first
          | (go_at_call 9
             refine (Encode05_bad _ o _ _ (HAT.out _ HC.out.1).1 HK.out).mono ?_
             rintro e w2 ⟨rfl, c2⟩
             have e := (HAT.out w2 (HC.out.1.trans c2)).2
             have H2 := Lib.hid c2
             clear c2)
          | (go_at_call 10
             refine (secMake_bad Q.s _ o _ (HAT.out _ (HC.out.1.trans H2.out)).1 HK.out).mono ?_
             rintro e w3 ⟨rfl, c3⟩
             have H3 := Lib.hid (H2.out.trans c3)
             clear c3)
          | fail)
        go_roundg (n - (i + 1))
        case measure => omega
        case rel => exact ⟨i + 1, k, u, M, by go_num, rfl, rfl, by omega, by omega, by omega, HC.out.2.1, HC.out.2.2.keep H3.out (fun _ _ f => f), HC.out.1.trans H3.out⟩
      · have HK := Lib.hid hk
        have hk1 : k ≠ 1048576 := by omega
        have hel : (encB o).length ≤ 1000000 := by have := encB_len o; have := okB_cases hk; omega
        clear hk
        generalize hml : (encB o).length = m at *
        have HML := Lib.hid hml
        clear hml
        by_cases hlong : 2000 < m
        · have t4 : decide ((2000 : Int) < (m : Int)) = true := decide_eq_true (by omega)
          cases hp : placeX (M.map Rw.xt) 2000 (secN (encB o).length) with
          | none =>
            have HP := Lib.hid hp
            clear hp
            go_wp2_with (first
              | (go_at_call 9
                 refine (Encode05_ok _ o _ _ (HAT.out _ HC.out.1).1 HK.out).mono ?_
                 rintro e w2 ⟨v2, rfl, u2, rfl, ho2, c2⟩
                 obtain ⟨A4, d4, rfl⟩ := ho2.form
                 rw [HML.out]
                 have e := (HAT.out w2 (HC.out.1.trans c2)).2
                 have H2 := Lib.hid c2
                 clear ho2 c2)
              | (go_at_call 10
                 refine (secMake_full (HC.out.2.2.keep H2.out (fun _ _ f => f)) _ o _ (HAT.out _ (HC.out.1.trans H2.out)).1 HK.out hk1 HP.out).mono ?_
                 rintro e w3 ⟨rfl, c3⟩
                 have H3 := Lib.hid (HC.out.1.trans (H2.out.trans c3))
                 clear c3)
              | (go_at_call 7; refine (known06_any _).mono ?_; rintro e w4 ⟨rfl, c4⟩)
              | fail)
            go_ret
            exact ⟨rfl, H3.out.trans c4⟩
          | some f =>
            have HP := Lib.hid hp
            clear hp
            go_wp2_with (first
              | (go_at_call 9
                 refine (Encode05_ok _ o _ _ (HAT.out _ HC.out.1).1 HK.out).mono ?_
                 rintro e w2 ⟨v2, rfl, u2, rfl, ho2, c2⟩
                 obtain ⟨A4, d4, rfl⟩ := ho2.form
                 rw [HML.out]
                 have e := (HAT.out w2 (HC.out.1.trans c2)).2
                 have H2 := Lib.hid c2
                 clear ho2 c2)
              | (go_at_call 10
                 refine (secMake_ok (HC.out.2.2.keep H2.out (fun _ _ f => f)) _ o _ (HAT.out _ (HC.out.1.trans H2.out)).1 HK.out hk1 HP.out).mono ?_
                 rintro e w3 ⟨v3, rfl, rfl, hs3, c3⟩
                 have H3 := Lib.hid (Chg.fresh (HC.out.1.trans H2.out) c3 H1.out.2.1)
                 clear hs3 c3)
              | (go_at_call 7; refine (known06_any _).mono ?_; rintro e w4 ⟨rfl, c4⟩)
              | fail)
            go_ret
            exact ⟨rfl, H3.out.trans c4⟩
        · have t4 : decide ((2000 : Int) < (m : Int)) = false := decide_eq_false (by omega)
          have h32 : secN m ≤ 32 := by unfold secN; omega
          have hp : placeX (M.map Rw.xt) 2000 (secN (encB o).length) = some u := pack_place HC.out.2.1.pack (by rw [HML.out]; omega) (secN_pos _)
          have hmk2 := HC.out.2.1.more o (by rw [HML.out]; exact h32)
          have hus := hmk2.used
          rw [HML.out] at hmk2 hus
          have hhas := HC.out.2.1.has ⟨((k + 1 : Nat) : Int), o, u⟩ rfl
          have hh1 := hhas.1
          have hh2 := hhas.2
          have HP := Lib.hid (And.intro hp (And.intro hmk2 hus))
          have e1 : ((k + 1 : Nat) : Int) = (k : Int) + 1 := by omega
          have HH1 := Lib.hid (show (lk (M ++ [⟨((k + 1 : Nat) : Int), o, u⟩]) ((k : Int) + 1)).isSome = true by rw [← e1]; exact hh1)
          have HH2 := Lib.hid (show (lk (M ++ [⟨((k + 1 : Nat) : Int), o, u⟩]) ((k : Int) + 1 + 1)).isSome = false by rw [← e1]; exact hh2)
          clear hh1 hh2
          generalize hsn : secN m = sn at *
          have HSN := Lib.hid hsn
          have HE1 := Lib.hid e1
          have HE2 := Lib.hid (show ((u + sn : Nat) : Int) = (u : Int) + (sn : Int) by omega)
          clear hp hmk2 hus hhas hsn e1
          go_wp2_with (first
            | (go_at_call 9
               refine (Encode05_ok _ o _ _ (HAT.out _ HC.out.1).1 HK.out).mono ?_
               rintro e w2 ⟨v2, rfl, u2, rfl, ho2, c2⟩
               obtain ⟨A4, d4, rfl⟩ := ho2.form
               rw [HML.out]
               have e := (HAT.out w2 (HC.out.1.trans c2)).2
               have H2 := Lib.hid c2
               clear ho2 c2)
            | (go_at_call 10
               refine (secMake_ok (HC.out.2.2.keep H2.out (fun _ _ f => f)) _ o _ (HAT.out _ (HC.out.1.trans H2.out)).1 HK.out hk1 HP.out.1).mono ?_
               rintro e w3 ⟨v3, rfl, rfl, hs3, c3⟩
               have H3 := Lib.hid (And.intro hs3 (Chg.fresh (HC.out.1.trans H2.out) c3 H1.out.2.1))
               clear hs3 c3)
            | (go_at_call 11; refine (Sectors04_any m (by omega) _).mono ?_; rw [HSN.out]; rintro e w' ⟨rfl, rfl⟩)
            | (go_at_call 12; refine (secMade_any H3.out.1).mono ?_; rw [HE1.out]; rintro e w' ⟨rfl, rfl⟩)
            | (go_at_call 13; refine (secUsed_any H3.out.1).mono ?_; rw [HP.out.2.2, HE2.out]; rintro e w' ⟨rfl, rfl⟩)
            | (go_at_call 14
               (with_reducible refine (secHas_any H3.out.1 ((k : Int) + 1)).mono ?_)
               rw [HH1.out]
               rintro e w4 ⟨rfl, c4⟩
               have H4 := Lib.hid (And.intro (H3.out.1.keep c4 (fun _ _ f => f)) (H3.out.2.trans c4))
               clear c4)
            | (go_at_call 14
               (with_reducible refine (secHas_any H4.out.1 ((k : Int) + 1 + 1)).mono ?_)
               rw [HH2.out]
               rintro e w5 ⟨rfl, c5⟩
               have H5 := Lib.hid (And.intro (H4.out.1.keep c5 (fun _ _ f => f)) (H4.out.2.trans c5))
               clear c5)
            | fail)
          go_roundg (n - (i + 1))
          case measure => omega
          case rel => exact ⟨i + 1, k + 1, u + sn, _, by go_num, by go_num, by go_num, by omega, by omega, by omega, HP.out.2.1, H5.out⟩
    · obtain rfl : i = n := by omega
      have t3 : decide ((i : Int) < (i : Int)) = false := decide_eq_false (by omega)
      have hin : M.length = k := hmk.len
      have HC := Lib.hid (And.intro cw (And.intro hin hsec))
      clear cw hin hsec hmk
      go_wp2_with (first
        | (go_at_call 15
           refine (secIds_any HC.out.2.2).mono ?_
           rintro e w2 ⟨v2, rfl, ho2, c2⟩
           obtain ⟨A3, d3, rfl⟩ : ∃ A c, v2 = .slice A k c := by have := ho2.form; rwa [List.length_map, HC.out.2.1] at this
           have H2 := Lib.hid (HC.out.1.trans c2)
           clear ho2 c2)
        | (go_at_call 7; refine (known06_any _).mono ?_; rintro e w4 ⟨rfl, c4⟩)
        | fail)
      go_ret
      exact ⟨rfl, H2.out.trans c4⟩

theorem SecondMakes_row (v : Value) (L : List O) (w : World) (h : RefL w (fun _ => True) v L) (hm : L.length ≤ maxLen) : Calls Try.prog 3 #[v] w fun e w' => e = .returned (.bool true) ∧ Below w.heap.size w w' :=
  (SecondMakes_any v L w h hm).mono fun _ _ h => ⟨h.1, h.2.below⟩

end Go.Proofs.Ytdpmmafkomchaaa
