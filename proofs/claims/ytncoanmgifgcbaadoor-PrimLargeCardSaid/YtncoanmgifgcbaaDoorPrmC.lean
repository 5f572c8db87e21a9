/- Places of objects over a flat memory: prim.at, get, put, small. -/
import Derived.Test.YtncoanmgifgcbaaDoorPrmB
namespace Go.Proofs.YtncoanmgifgcbaaDoor
set_option linter.unusedVariables false
set_option linter.unusedSimpArgs false
open Go.RowKit

section
variable {w0 w w' : World} {m : Nat} {L L' : List O} {K : (Nat → Prop) → World → Prop} {F F' : Nat → Prop}
theorem behF_bd (L : List O) (o : Int) : 0 ≤ behF L o ∧ behF L o ≤ 255 := by
  unfold behF
  split
  · omega
  · have := shape_bd L (objV L o).cls
    exact ⟨this.1, this.2.1⟩
set_option maxRecDepth 100000 in
set_option maxHeartbeats 1000000 in
theorem k_at (h : MemK w0 w m L K) (o i : Int) (ho : In64 o) (hi : In64 i) :
    Calls Tryd.prog 107 #[.iface 27 (.pointer (some ⟨m, 0, none⟩)), .int .i64 o, .int .i64 i] w fun e w' => e = .returned (.tuple #[.int .i64 (plV L o i), .int .i64 (behK L o), .int .i64 (plE L o i)]) ∧ MemK w0 w' m L K ∧ Chg No w w' := by
  have H := Lib.hid h
  clear h
  have hf := behF_bd L o
  have hk := numV_bd i
  unfold plV plE
  obtain ⟨f, hf'⟩ : ∃ x, behF L o = x := ⟨_, rfl⟩
  obtain ⟨n, hn'⟩ : ∃ x, behN L o = x := ⟨_, rfl⟩
  obtain ⟨kd, hk'⟩ : ∃ x, behK L o = x := ⟨_, rfl⟩
  obtain ⟨e, he'⟩ : ∃ x, behE L o = x := ⟨_, rfl⟩
  obtain ⟨kv, hkv⟩ : ∃ x, numV i = x := ⟨_, rfl⟩
  obtain ⟨kb, hkb⟩ : ∃ x, numOk i = x := ⟨_, rfl⟩
  rw [hf', hn', hk', he', hkv, hkb]
  rw [hf'] at hf
  rw [hkv] at hk
  have HB := Lib.hid (And.intro hf' (And.intro hn' (And.intro hk' he')))
  have HN := Lib.hid (And.intro hkv hkb)
  clear hf' hn' hk' he' hkv hkb
  have hw1 : IntKind.i64.wrap (f + kv) = f + kv := IntWalk.i64_in _ (by omega)
  have hw2 : IntKind.i64.wrap (f + kv - 1) = f + kv - 1 := IntWalk.i64_in _ (by omega)
  by_cases h0 : e = 0
  · subst h0
    rw [if_neg (by simp)]
    cases kb with
    | false =>
      rw [if_pos (.inl rfl)]
      go_enter Tryd.func107, Tryd.ntmps107
      go_wp2_with (first
                    | (go_at_call 80
                       refine (k_behind H.out o ho).mono ?_
                       rw [HB.out.1, HB.out.2.1, HB.out.2.2.1, HB.out.2.2.2]
                       rintro e' w1 ⟨rfl, g1, c1⟩
                       have H1 := Lib.hid (And.intro g1 c1)
                       clear g1 c1)
                    | (go_at_call 35
                       refine (Number_any i hi.1 hi.2 _).mono ?_
                       rw [HN.out.1, HN.out.2]
                       rintro e' w2 ⟨rfl, rfl⟩)
                    | fail)
      exact bodyPost_ret (v := .tuple #[.int .i64 (f + kv - 1), .int .i64 kd, .int .i64 21]) (by simp [results, Tryd.results107, go_sem]) rfl ⟨rfl, H1.out⟩
    | true =>
      by_cases h1 : kv < 1
      · rw [if_pos (.inr (.inl h1))]
        have t1 : decide (kv < 1) = true := decide_eq_true h1
        go_enter Tryd.func107, Tryd.ntmps107
        go_wp2_with (first
                      | (go_at_call 80
                         refine (k_behind H.out o ho).mono ?_
                         rw [HB.out.1, HB.out.2.1, HB.out.2.2.1, HB.out.2.2.2]
                         rintro e' w1 ⟨rfl, g1, c1⟩
                         have H1 := Lib.hid (And.intro g1 c1)
                         clear g1 c1)
                      | (go_at_call 35
                         refine (Number_any i hi.1 hi.2 _).mono ?_
                         rw [HN.out.1, HN.out.2]
                         rintro e' w2 ⟨rfl, rfl⟩)
                      | fail)
        exact bodyPost_ret (v := .tuple #[.int .i64 (f + kv - 1), .int .i64 kd, .int .i64 21]) (by simp [results, Tryd.results107, go_sem]) rfl ⟨rfl, H1.out⟩
      · have t1 : decide (kv < 1) = false := decide_eq_false h1
        by_cases h2 : n < kv
        · rw [if_pos (.inr (.inr h2))]
          have t2 : decide (n < kv) = true := decide_eq_true h2
          go_enter Tryd.func107, Tryd.ntmps107
          go_wp2_with (first
                        | (go_at_call 80
                           refine (k_behind H.out o ho).mono ?_
                           rw [HB.out.1, HB.out.2.1, HB.out.2.2.1, HB.out.2.2.2]
                           rintro e' w1 ⟨rfl, g1, c1⟩
                           have H1 := Lib.hid (And.intro g1 c1)
                           clear g1 c1)
                        | (go_at_call 35
                           refine (Number_any i hi.1 hi.2 _).mono ?_
                           rw [HN.out.1, HN.out.2]
                           rintro e' w2 ⟨rfl, rfl⟩)
                        | fail)
          exact bodyPost_ret (v := .tuple #[.int .i64 (f + kv - 1), .int .i64 kd, .int .i64 21]) (by simp [results, Tryd.results107, go_sem]) rfl ⟨rfl, H1.out⟩
        · rw [if_neg (by simp; omega)]
          have t2 : decide (n < kv) = false := decide_eq_false h2
          go_enter Tryd.func107, Tryd.ntmps107
          go_wp2_with (first
                        | (go_at_call 80
                           refine (k_behind H.out o ho).mono ?_
                           rw [HB.out.1, HB.out.2.1, HB.out.2.2.1, HB.out.2.2.2]
                           rintro e' w1 ⟨rfl, g1, c1⟩
                           have H1 := Lib.hid (And.intro g1 c1)
                           clear g1 c1)
                        | (go_at_call 35
                           refine (Number_any i hi.1 hi.2 _).mono ?_
                           rw [HN.out.1, HN.out.2]
                           rintro e' w2 ⟨rfl, rfl⟩)
                        | fail)
          exact bodyPost_ret (v := .tuple #[.int .i64 (f + kv - 1), .int .i64 kd, .int .i64 0]) (by simp [results, Tryd.results107, go_sem]) rfl ⟨rfl, H1.out⟩
  · rw [if_pos h0]
    have t0 : (e == 0) = false := beq_eq_false_iff_ne.2 h0
    go_enter Tryd.func107, Tryd.ntmps107
    go_wp2_with (first
                  | (go_at_call 80
                     refine (k_behind H.out o ho).mono ?_
                     rw [HB.out.1, HB.out.2.1, HB.out.2.2.1, HB.out.2.2.2]
                     rintro e' w1 ⟨rfl, g1, c1⟩
                     have H1 := Lib.hid (And.intro g1 c1)
                     clear g1 c1)
                  | (go_at_call 35
                     refine (Number_any i hi.1 hi.2 _).mono ?_
                     rw [HN.out.1, HN.out.2]
                     rintro e' w2 ⟨rfl, rfl⟩)
                  | fail)
    exact bodyPost_ret (v := .tuple #[.int .i64 (f + kv - 1), .int .i64 kd, .int .i64 e]) (by simp [results, Tryd.results107, go_sem]) rfl ⟨rfl, H1.out⟩

set_option maxRecDepth 100000 in
set_option maxHeartbeats 1000000 in
theorem k_get (h : MemK w0 w m L K) (o i : Int) (ho : In64 o) (hi : In64 i) :
    Calls Tryd.prog 78 #[.iface 27 (.pointer (some ⟨m, 0, none⟩)), .int .i64 o, .int .i64 i] w fun e w' => e = .returned (.tuple #[.int .i64 (getV' L o i), .int .i64 (getE' L o i)]) ∧ MemK w0 w' m L K := by
  have hby := byte64 h o (plV L o i)
  have H := Lib.hid h
  clear h
  unfold getV' getE'
  obtain ⟨v, hv'⟩ : ∃ x, plV L o i = x := ⟨_, rfl⟩
  obtain ⟨kd, hk'⟩ : ∃ x, behK L o = x := ⟨_, rfl⟩
  obtain ⟨e, he'⟩ : ∃ x, plE L o i = x := ⟨_, rfl⟩
  obtain ⟨p2, hp2⟩ : ∃ x, placeE L o 2 v = x := ⟨_, rfl⟩
  obtain ⟨bv, hbv⟩ : ∃ x, byteV L o v = x := ⟨_, rfl⟩
  rw [hv'] at hby ⊢
  rw [hk', he', hp2, hbv]
  rw [hbv] at hby
  have HB := Lib.hid (And.intro hv' (And.intro hk' he'))
  have HP := Lib.hid (And.intro hp2 hbv)
  clear hv' hk' he' hp2 hbv
  by_cases h0 : e = 0
  · subst h0
    simp only [ne_eq, not_true_eq_false, if_false]
    by_cases h1 : kd = 1
    · subst h1
      simp only [eq_self, if_true]
      go_enter Tryd.func78, Tryd.ntmps78
      go_wp2_with (first
        | (go_at_call 107
           refine (k_at H.out o i ho hi).mono ?_
           rw [HB.out.1, HB.out.2.1, HB.out.2.2]
           rintro e' w1 ⟨rfl, g1, c1⟩
           have H1 := Lib.hid (And.intro g1 c1)
           clear g1 c1)
        | (go_at_call 21
           refine (k_FetchC H1.out.1 o v ho).mono ?_
           rintro e' w2 ⟨rfl, g2, c2⟩)
        | fail)
      go_ret2
      exact ⟨rfl, g2⟩
    · simp only [h1, if_false]
      have t1 : (kd == 1) = false := beq_eq_false_iff_ne.2 h1
      by_cases h2 : p2 = 0
      · subst h2
        simp only [ne_eq, not_true_eq_false, if_false]
        go_enter Tryd.func78, Tryd.ntmps78
        go_wp2_with (first
          | (go_at_call 107
             refine (k_at H.out o i ho hi).mono ?_
             rw [HB.out.1, HB.out.2.1, HB.out.2.2]
             rintro e' w1 ⟨rfl, g1, c1⟩
             have H1 := Lib.hid (And.intro g1 c1)
             clear g1 c1)
          | (go_at_call 153
             refine (k_Byte H1.out.1 o v ho).mono ?_
             rw [HP.out.1, HP.out.2]
             rintro e' w2 ⟨rfl, g2⟩)
          | (go_at_call 69
             refine (Small_any bv (by omega) (by omega) _).mono ?_
             rintro e' w3 ⟨rfl, rfl⟩)
          | fail)
        go_ret2
        exact ⟨rfl, g2⟩
      · simp only [ne_eq, h2, not_false_eq_true, if_true]
        have t2 : (p2 != 0) = true := by simpa using h2
        go_enter Tryd.func78, Tryd.ntmps78
        go_wp2_with (first
          | (go_at_call 107
             refine (k_at H.out o i ho hi).mono ?_
             rw [HB.out.1, HB.out.2.1, HB.out.2.2]
             rintro e' w1 ⟨rfl, g1, c1⟩
             have H1 := Lib.hid (And.intro g1 c1)
             clear g1 c1)
          | (go_at_call 153
             refine (k_Byte H1.out.1 o v ho).mono ?_
             rw [HP.out.1, HP.out.2]
             rintro e' w2 ⟨rfl, g2⟩)
          | fail)
        go_ret2
        exact ⟨rfl, g2⟩
  · simp only [ne_eq, h0, not_false_eq_true, if_true]
    have t0 : (e != 0) = true := by simpa using h0
    go_enter Tryd.func78, Tryd.ntmps78
    go_wp2_with (first
      | (go_at_call 107
         refine (k_at H.out o i ho hi).mono ?_
         rw [HB.out.1, HB.out.2.1, HB.out.2.2]
         rintro e' w1 ⟨rfl, g1, c1⟩
         have H1 := Lib.hid (And.intro g1 c1)
         clear g1 c1)
      | fail)
    go_ret2
    exact ⟨rfl, H1.out.1⟩

set_option maxRecDepth 100000 in
set_option maxHeartbeats 1000000 in
theorem k_put (h : MemK w0 w m L K) (o i x : Int) (ho : In64 o) (hi : In64 i) (hx : In64 x) :
    Calls Tryd.prog 79 #[.iface 27 (.pointer (some ⟨m, 0, none⟩)), .int .i64 o, .int .i64 i, .int .i64 x] w fun e w' => e = .returned (.tuple #[.int .i64 (putV' L o i x), .int .i64 (putE' L o i x)]) ∧ MemK w0 w' m (putL' L o i x) K := by
  have H := Lib.hid h
  clear h
  unfold putV' putE' putL'
  obtain ⟨v, hv'⟩ : ∃ x, plV L o i = x := ⟨_, rfl⟩
  obtain ⟨kd, hk'⟩ : ∃ x, behK L o = x := ⟨_, rfl⟩
  obtain ⟨e, he'⟩ : ∃ x, plE L o i = x := ⟨_, rfl⟩
  obtain ⟨nb, hnb⟩ : ∃ y, numOk x = y := ⟨_, rfl⟩
  rw [hv', hk', he', hnb]
  have HB := Lib.hid (And.intro hv' (And.intro hk' he'))
  have HN := Lib.hid hnb
  clear hv' hk' he' hnb
  by_cases h0 : e = 0
  · subst h0
    simp only [ne_eq, not_true_eq_false, if_false]
    by_cases h1 : kd = 1
    · subst h1
      simp only [eq_self, if_true]
      go_enter Tryd.func79, Tryd.ntmps79
      go_wp2_with (first
        | (go_at_call 107
           refine (k_at H.out o i ho hi).mono ?_
           rw [HB.out.1, HB.out.2.1, HB.out.2.2]
           rintro e' w1 ⟨rfl, g1, c1⟩
           have H1 := Lib.hid (And.intro g1 c1)
           clear g1 c1)
        | (go_at_call 157
           refine (k_Set H1.out.1 o v x ho hx).mono ?_
           rintro e' w2 ⟨rfl, g2⟩)
        | fail)
      go_ret2
      exact ⟨rfl, g2⟩
    · simp only [h1, if_false]
      have t1 : (kd == 1) = false := beq_eq_false_iff_ne.2 h1
      cases nb with
      | true =>
        simp only [Bool.true_eq_false, if_false]
        go_enter Tryd.func79, Tryd.ntmps79
        go_wp2_with (first
          | (go_at_call 107
             refine (k_at H.out o i ho hi).mono ?_
             rw [HB.out.1, HB.out.2.1, HB.out.2.2]
             rintro e' w1 ⟨rfl, g1, c1⟩
             have H1 := Lib.hid (And.intro g1 c1)
             clear g1 c1)
          | (go_at_call 35
             refine (Number_any x hx.1 hx.2 _).mono ?_
             rw [HN.out]
             rintro e' w2 ⟨rfl, rfl⟩)
          | (go_at_call 158
             refine (k_SetByte H1.out.1 o v (numV x) ho).mono ?_
             rintro e' w3 ⟨rfl, g3⟩)
          | fail)
        go_ret2
        exact ⟨rfl, g3⟩
      | false =>
        simp only [eq_self, if_true]
        go_enter Tryd.func79, Tryd.ntmps79
        go_wp2_with (first
          | (go_at_call 107
             refine (k_at H.out o i ho hi).mono ?_
             rw [HB.out.1, HB.out.2.1, HB.out.2.2]
             rintro e' w1 ⟨rfl, g1, c1⟩
             have H1 := Lib.hid (And.intro g1 c1)
             clear g1 c1)
          | (go_at_call 35
             refine (Number_any x hx.1 hx.2 _).mono ?_
             rw [HN.out]
             rintro e' w2 ⟨rfl, rfl⟩)
          | fail)
        go_ret2
        exact ⟨rfl, H1.out.1⟩
  · simp only [ne_eq, h0, not_false_eq_true, if_true]
    have t0 : (e != 0) = true := by simpa using h0
    go_enter Tryd.func79, Tryd.ntmps79
    go_wp2_with (first
      | (go_at_call 107
         refine (k_at H.out o i ho hi).mono ?_
         rw [HB.out.1, HB.out.2.1, HB.out.2.2]
         rintro e' w1 ⟨rfl, g1, c1⟩
         have H1 := Lib.hid (And.intro g1 c1)
         clear g1 c1)
      | fail)
    go_ret2
    exact ⟨rfl, H1.out.1⟩
end
theorem small_any (n e : Int) (hn : In64 n) (w : World) : Calls Tryd.prog 81 #[.int .i64 n, .int .i64 e] w fun e' w' => e' = .returned (.tuple #[.int .i64 (if e ≠ 0 then 0 else smallV n), .int .i64 (if e ≠ 0 then e else smallE n)]) ∧ w = w' := by
  by_cases h0 : e = 0
  · subst h0
    rw [if_neg (by simp), if_neg (by simp)]
    go_enter Tryd.func81, Tryd.ntmps81
    go_wp2_with (first
      | (go_at_call 69
         refine (Small_any n hn.1 hn.2 _).mono ?_
         rintro e' w3 ⟨rfl, rfl⟩)
      | fail)
    go_ret2
    exact ⟨rfl, rfl⟩
  · rw [if_pos h0, if_pos h0]
    have t0 : (e != 0) = true := by simpa using h0
    go_enter Tryd.func81, Tryd.ntmps81
    go_wp2_with fail
    go_ret2
    exact ⟨rfl, rfl⟩

end Go.Proofs.YtncoanmgifgcbaaDoor
