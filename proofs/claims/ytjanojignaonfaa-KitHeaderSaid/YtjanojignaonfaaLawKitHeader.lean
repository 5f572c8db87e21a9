/- The walk of KitHeader. -/
import Derived.Test.YtjanojignaonfaaKnown14
import Derived.Test.YtjanojignaonfaaMeth
namespace Go.Proofs.Ytjanojignaonfaa
set_option linter.unusedVariables false
set_option linter.unusedSimpArgs false
open Go.RowKit

def oneH (h : Int) : List O := [⟨2, 1, [h, 2, 7, 9], []⟩]
theorem refL_one {V : World} {h : Int} {g g2 : Nat} {t t2 : TypeId} (h64 : In64 h) (r1 : Row V g t #[.int .i64 h, .int .i64 2, .int .i64 7, .int .i64 9]) (r2 : Row V g2 t2 #[.int .i64 2, .int .i64 1, .slice (some ⟨g, 0, none⟩) 4 4, .slice none 0 0]) :
    RefL V (fun _ => True) (.slice (some ⟨g2, 0, none⟩) 1 1) (oneH h) := by
  refine ⟨[(⟨2, 1, [h, 2, 7, 9], []⟩, .slice (some ⟨g, 0, none⟩) 4 4, .slice none 0 0)], rfl, ⟨_, 1, rfl, rfl, Nat.le_refl _, by decide, (fun h => by cases h), fun _ => ⟨g2, 0, rfl, trivial, r2.lt, fun i u hu => ?_⟩⟩, fun t ht => ?_⟩
  · rw [Nat.zero_add, r2.cell i]
    simpa [cellsT, cells2] using hu
  · obtain rfl := List.mem_singleton.1 ht
    refine ⟨⟨⟨_, 4, rfl, rfl, Nat.le_refl _, by decide, (fun h => by cases h), fun _ => ⟨g, 0, rfl, trivial, r1.lt, fun i u hu => ?_⟩⟩, fun x hx => ?_⟩, ByteS.nil V _, by dsimp only; unfold In64; omega, by dsimp only; unfold In64; omega⟩
    · rw [Nat.zero_add, r1.cell i]
      simpa using hu
    · simp only [List.mem_cons, List.not_mem_nil, or_false] at hx
      rcases hx with rfl | rfl | rfl | rfl
      · exact h64
      all_goals (unfold In64; omega)
theorem right_bd {a t p : Int} (h : rightB a t p = true) : 0 ≤ a ∧ a < 16 ∧ a ≤ t ∧ t ≤ 20 ∧ 0 ≤ p ∧ p < 1024 := by
  unfold rightB at h
  simp only [Bool.and_eq_true, decide_eq_true_eq] at h
  omega
theorem load_one {a t p : Int} (h : rightB a t p = true) : loadB (oneH (headV a t p)) = true := by
  have hb := right_bd h
  have e1 : headV a t p = 2 * (a + 16 * t + 512 * p) + 1 := by simp [headV, h]
  rw [e1]
  have r1 : refOk (2 * (a + 16 * t + 512 * p) + 1) = true := by
    unfold refOk numOk
    rw [decide_eq_true (by omega), Bool.true_or]
  have r2 : refOk 2 = true := by decide
  have r3 : refOk 7 = true := by decide
  have r4 : refOk 9 = true := by decide
  simp [loadB, oneH, okB, hdB, r1, r2, r3, r4, sumN, sum1, namedOk]
theorem read_one {a t p : Int} (h : rightB a t p = true) : readM (oneH (headV a t p)) 2 = ⟨a, t, p, 2, 2, 0⟩ := by
  have hb := right_bd h
  have e1 : headV a t p = 2 * (a + 16 * t + 512 * p) + 1 := by simp [headV, h]
  rw [e1]
  have hf : fnd (oneH (2 * (a + 16 * t + 512 * p) + 1)) 2 = some 0 := by
    have h1 : (ob (oneH (2 * (a + 16 * t + 512 * p) + 1)) 0).kind = 1 := rfl
    unfold fnd
    rw [if_pos ⟨by decide, by rw [show ((2 : Int) / 2 - 1).toNat = 0 from rfl, h1]; decide⟩]
    rfl
  have hE : objE (oneH (2 * (a + 16 * t + 512 * p) + 1)) 2 = 0 := by unfold objE; rw [hf]
  have hV : objV (oneH (2 * (a + 16 * t + 512 * p) + 1)) 2 = ⟨2, 1, [2 * (a + 16 * t + 512 * p) + 1, 2, 7, 9], []⟩ := by unfold objV; rw [hf]; rfl
  have n1 : numOk (2 * (a + 16 * t + 512 * p) + 1) = true := by unfold numOk; exact decide_eq_true (by omega)
  have n2 : numV (2 * (a + 16 * t + 512 * p) + 1) = a + 16 * t + 512 * p := by unfold numV; rw [if_pos (by omega)]; omega
  have m1 : (a + 16 * t + 512 * p) % 16 = a := by omega
  have m2 : (a + 16 * t + 512 * p) / 16 % 32 = t := by omega
  have m3 : (a + 16 * t + 512 * p) / 512 % 1024 = p := by omega
  have n3 : headOk (2 * (a + 16 * t + 512 * p) + 1) = true := by
    unfold headOk
    rw [n1, n2, m1, m2, m3, h, decide_eq_true (by omega)]
    rfl
  unfold readM
  rw [hE, hV]
  simp [n3, n2, m1, m2, m3]
theorem head_inj {a t p a' t' p' : Int} (h : rightB a t p = true) (h' : rightB a' t' p' = true) (e : headV a t p = headV a' t' p') : a = a' ∧ t = t' ∧ p = p' := by
  have hb := right_bd h
  have hb' := right_bd h'
  have e1 : headV a t p = 2 * (a + 16 * t + 512 * p) + 1 := by simp [headV, h]
  have e2 : headV a' t' p' = 2 * (a' + 16 * t' + 512 * p') + 1 := by simp [headV, h']
  omega
theorem Row.new2 (w : World) (o : Obj) (t : TypeId) (cs : Array Value) : Row ((w.alloc o).alloc (.cells cs t)) (w.heap.size + 1) t cs := by
  have h := Row.new (w.alloc o) t cs
  rwa [show (w.alloc o).heap.size = w.heap.size + 1 by simp] at h
theorem head64 (a t p : Int) : In64 (headV a t p) := by
  unfold headV In64
  split
  · rename_i h
    have := right_bd h
    omega
  · omega

set_option maxRecDepth 100000 in
set_option maxHeartbeats 2000000 in
theorem KitHeader_any (a t p c l a' t' p' c' l' : Int) (w : World) :
    Calls Try.prog 3 #[.agg #[.int .i64 a, .int .i64 t, .int .i64 p, .int .i64 c, .int .i64 l], .agg #[.int .i64 a', .int .i64 t', .int .i64 p', .int .i64 c', .int .i64 l']] w fun e w' => e = .returned (.bool true) ∧ Below w.heap.size w w' := by
  have HHa := fun w => Header_any a t p c l w
  have HHb := fun w => Header_any a' t' p' c' l' w
  have HHc := fun w => Header14_any a t p c l w
  have tok : True := trivial
  cases hr : rightB a t p
  · have e1 : headV a t p = 0 := by simp [headV, hr]
    have e2 : headE a t p = 2 := by simp [headE, hr]
    rw [e1, e2] at HHa HHc
    clear e1 e2 hr
    cases hr' : rightB a' t' p'
    · have e1 : headV a' t' p' = 0 := by simp [headV, hr']
      have e2 : headE a' t' p' = 2 := by simp [headE, hr']
      rw [e1, e2] at HHb
      clear e1 e2 hr'
      go_enter Try.func3, Try.ntmps3
      go_wp2_with (first
        | (go_at_call 13
           have _t := tok
           clear tok
           refine (HHa _).mono ?_
           rintro e w1 ⟨rfl, c1⟩
           have HA1 := Lib.hid (And.intro (((Row.new w 23 #[.int .i64 a, .int .i64 t, .int .i64 p, .int .i64 c, .int .i64 l]).alloc (.cells #[.int .i64 a', .int .i64 t', .int .i64 p', .int .i64 c', .int .i64 l'] 23)).keep c1 (fun f => f)) (And.intro ((Row.new2 w (.cells #[.int .i64 a, .int .i64 t, .int .i64 p, .int .i64 c, .int .i64 l] 23) 23 #[.int .i64 a', .int .i64 t', .int .i64 p', .int .i64 c', .int .i64 l']).keep c1 (fun f => f)) ((((Chg.refl No w).alloc _).alloc _).trans c1)))
           clear c1
           have xA1 := HA1.out.1.five
           have xB1 := HA1.out.2.1.five)
          | (go_at_call 13
             refine (HHb _).mono ?_
             rintro e w2 ⟨rfl, c2⟩
             have HA2 := Lib.hid (And.intro (HA1.out.1.keep c2 (fun f => f)) (And.intro (HA1.out.2.1.keep c2 (fun f => f)) (HA1.out.2.2.trans c2)))
             clear c2
             have xA2 := HA2.out.1.five
             have xB2 := HA2.out.2.1.five)
          | (go_at_call 14
             refine (HHc _).mono ?_
             rintro e w3 ⟨rfl, c3⟩
             have HA3 := Lib.hid (And.intro (HA2.out.1.keep c3 (fun f => f)) (And.intro (HA2.out.2.1.keep c3 (fun f => f)) (HA2.out.2.2.trans c3)))
             clear c3
             have xA3 := HA3.out.1.five
             have xB3 := HA3.out.2.1.five)
        | (go_at_call 15; refine (known14_any _).mono ?_; rintro e w9 ⟨rfl, c9⟩))
      go_ret
      exact ⟨rfl, (HA3.out.2.2.trans c9).below⟩
    · have e2 : headE a' t' p' = 0 := by simp [headE, hr']
      rw [e2] at HHb
      generalize headV a' t' p' = i at *
      clear e2 hr'
      go_enter Try.func3, Try.ntmps3
      go_wp2_with (first
        | (go_at_call 13
           have _t := tok
           clear tok
           refine (HHa _).mono ?_
           rintro e w1 ⟨rfl, c1⟩
           have HA1 := Lib.hid (And.intro (((Row.new w 23 #[.int .i64 a, .int .i64 t, .int .i64 p, .int .i64 c, .int .i64 l]).alloc (.cells #[.int .i64 a', .int .i64 t', .int .i64 p', .int .i64 c', .int .i64 l'] 23)).keep c1 (fun f => f)) (And.intro ((Row.new2 w (.cells #[.int .i64 a, .int .i64 t, .int .i64 p, .int .i64 c, .int .i64 l] 23) 23 #[.int .i64 a', .int .i64 t', .int .i64 p', .int .i64 c', .int .i64 l']).keep c1 (fun f => f)) ((((Chg.refl No w).alloc _).alloc _).trans c1)))
           clear c1
           have xA1 := HA1.out.1.five
           have xB1 := HA1.out.2.1.five)
          | (go_at_call 13
             refine (HHb _).mono ?_
             rintro e w2 ⟨rfl, c2⟩
             have HA2 := Lib.hid (And.intro (HA1.out.1.keep c2 (fun f => f)) (And.intro (HA1.out.2.1.keep c2 (fun f => f)) (HA1.out.2.2.trans c2)))
             clear c2
             have xA2 := HA2.out.1.five
             have xB2 := HA2.out.2.1.five)
          | (go_at_call 14
             refine (HHc _).mono ?_
             rintro e w3 ⟨rfl, c3⟩
             have HA3 := Lib.hid (And.intro (HA2.out.1.keep c3 (fun f => f)) (And.intro (HA2.out.2.1.keep c3 (fun f => f)) (HA2.out.2.2.trans c3)))
             clear c3
             have xA3 := HA3.out.1.five
             have xB3 := HA3.out.2.1.five)
        | (go_at_call 15; refine (known14_any _).mono ?_; rintro e w9 ⟨rfl, c9⟩))
      go_ret
      exact ⟨rfl, (HA3.out.2.2.trans c9).below⟩
  · have e2 : headE a t p = 0 := by simp [headE, hr]
    rw [e2] at HHa HHc
    cases hr' : rightB a' t' p'
    · have e1 : headV a' t' p' = 0 := by simp [headV, hr']
      have e2 : headE a' t' p' = 2 := by simp [headE, hr']
      rw [e1, e2] at HHb
      generalize headV a t p = h at *
      clear e1 e2 hr'
      go_enter Try.func3, Try.ntmps3
      go_wp2_with (first
        | (go_at_call 13
           have _t := tok
           clear tok
           refine (HHa _).mono ?_
           rintro e w1 ⟨rfl, c1⟩
           have HA1 := Lib.hid (And.intro (((Row.new w 23 #[.int .i64 a, .int .i64 t, .int .i64 p, .int .i64 c, .int .i64 l]).alloc (.cells #[.int .i64 a', .int .i64 t', .int .i64 p', .int .i64 c', .int .i64 l'] 23)).keep c1 (fun f => f)) (And.intro ((Row.new2 w (.cells #[.int .i64 a, .int .i64 t, .int .i64 p, .int .i64 c, .int .i64 l] 23) 23 #[.int .i64 a', .int .i64 t', .int .i64 p', .int .i64 c', .int .i64 l']).keep c1 (fun f => f)) ((((Chg.refl No w).alloc _).alloc _).trans c1)))
           clear c1
           have xA1 := HA1.out.1.five
           have xB1 := HA1.out.2.1.five)
          | (go_at_call 13
             refine (HHb _).mono ?_
             rintro e w2 ⟨rfl, c2⟩
             have HA2 := Lib.hid (And.intro (HA1.out.1.keep c2 (fun f => f)) (And.intro (HA1.out.2.1.keep c2 (fun f => f)) (HA1.out.2.2.trans c2)))
             clear c2
             have xA2 := HA2.out.1.five
             have xB2 := HA2.out.2.1.five)
          | (go_at_call 14
             refine (HHc _).mono ?_
             rintro e w3 ⟨rfl, c3⟩
             have HA3 := Lib.hid (And.intro (HA2.out.1.keep c3 (fun f => f)) (And.intro (HA2.out.2.1.keep c3 (fun f => f)) (HA2.out.2.2.trans c3)))
             clear c3
             have xA3 := HA3.out.1.five
             have xB3 := HA3.out.2.1.five)
        | (go_at_call 15; refine (known14_any _).mono ?_; rintro e w9 ⟨rfl, c9⟩))
      go_ret
      exact ⟨rfl, (HA3.out.2.2.trans c9).below⟩
    · have e2 : headE a' t' p' = 0 := by simp [headE, hr']
      rw [e2] at HHb
      have HLB := Lib.hid (load_one hr)
      have HRD := Lib.hid (read_one hr)
      have hinj := head_inj hr hr'
      have h64 := head64 a t p
      have hi2 : a = a' → t = t' → p = p' → headV a t p = headV a' t' p' := fun h1 h2 h3 => by rw [h1, h2, h3]
      generalize headV a t p = h at *
      generalize headV a' t' p' = i at *
      clear e2 hr hr'
      by_cases h1 : a = a'
      · have t1 : (a == a') = true := by simpa using h1
        by_cases h2 : t = t'
        · have t2 : (t == t') = true := by simpa using h2
          by_cases h3 : p = p'
          · have t3 : (p == p') = true := by simpa using h3
            have t4 : (h == i) = true := by simpa using hi2 h1 h2 h3
            clear hinj hi2 h1 h2 h3
            go_enter Try.func3, Try.ntmps3
            go_wp2_with (first
              | (go_at_call 13
                 have _t := tok
                 clear tok
                 refine (HHa _).mono ?_
                 rintro e w1 ⟨rfl, c1⟩
                 have HA1 := Lib.hid (And.intro (((Row.new w 23 #[.int .i64 a, .int .i64 t, .int .i64 p, .int .i64 c, .int .i64 l]).alloc (.cells #[.int .i64 a', .int .i64 t', .int .i64 p', .int .i64 c', .int .i64 l'] 23)).keep c1 (fun f => f)) (And.intro ((Row.new2 w (.cells #[.int .i64 a, .int .i64 t, .int .i64 p, .int .i64 c, .int .i64 l] 23) 23 #[.int .i64 a', .int .i64 t', .int .i64 p', .int .i64 c', .int .i64 l']).keep c1 (fun f => f)) ((((Chg.refl No w).alloc _).alloc _).trans c1)))
                 clear c1
                 have xA1 := HA1.out.1.five
                 have xB1 := HA1.out.2.1.five)
                | (go_at_call 13
                   refine (HHb _).mono ?_
                   rintro e w2 ⟨rfl, c2⟩
                   have HA2 := Lib.hid (And.intro (HA1.out.1.keep c2 (fun f => f)) (And.intro (HA1.out.2.1.keep c2 (fun f => f)) (HA1.out.2.2.trans c2)))
                   clear c2
                   have xA2 := HA2.out.1.five
                   have xB2 := HA2.out.2.1.five)
                | (go_at_call 14
                   refine (HHc _).mono ?_
                   rintro e w3 ⟨rfl, c3⟩
                   have HA3 := Lib.hid (And.intro (HA2.out.1.keep c3 (fun f => f)) (And.intro (HA2.out.2.1.keep c3 (fun f => f)) (HA2.out.2.2.trans c3)))
                   clear c3
                   have xA3 := HA3.out.1.five
                   have xB3 := HA3.out.2.1.five)
              | (go_at_call 16
                 obtain ⟨W, hW⟩ : ∃ W, (w3.alloc (.cells #[.int .i64 h, .int .i64 2, .int .i64 7, .int .i64 9] 3)).alloc (.cells #[.int .i64 2, .int .i64 1, .slice (some ⟨w3.heap.size, 0, none⟩) 4 4, .slice none 0 0] 39) = W := ⟨_, rfl⟩
                 rw [hW]
                 have cW : Chg No w3 W := by rw [← hW]; exact ((Chg.refl _ _).alloc _).alloc _
                 have rW : Row W w3.heap.size 3 #[.int .i64 h, .int .i64 2, .int .i64 7, .int .i64 9] := by rw [← hW]; exact (Row.new w3 _ _).alloc _
                 have rO : Row W (w3.heap.size + 1) 39 #[.int .i64 2, .int .i64 1, .slice (some ⟨w3.heap.size, 0, none⟩) 4 4, .slice none 0 0] := by rw [← hW]; exact Row.new2 w3 _ _ _
                 refine (loaded_any _ (oneH h) W (refL_one h64 rW rO) (show 1 ≤ maxLen by decide)).mono ?_
                 have HA4 := Lib.hid (And.intro (HA3.out.1.keep cW (fun f => f)) (And.intro (HA3.out.2.1.keep cW (fun f => f)) (HA3.out.2.2.trans cW)))
                 clear hW cW rW rO
                 rintro e w5 (⟨-, -, hlb⟩ | ⟨m, rfl, g5, -, -⟩)
                 · cases hlb.symm.trans HLB.out
                 have HA5 := Lib.hid (And.intro (HA4.out.1.keep g5.chg (fun f => f)) (And.intro (HA4.out.2.1.keep g5.chg (fun f => f)) (HA4.out.2.2.trans g5.chg)))
                 have HG := Lib.hid (g5.world ((Chg.refl _ _).alloc (.cells #[.slice (some ⟨w3.heap.size + 1, 0, none⟩) 1 1] 33)))
                 have HC := Lib.hid ((Chg.refl No w5).alloc (.cells #[.slice (some ⟨w3.heap.size + 1, 0, none⟩) 1 1] 33))
                 clear g5)
              | (go_at_call 17
                 refine (k_Read HG.out 2 (by unfold In64; omega)).mono ?_
                 rw [HRD.out]
                 rintro e w6 ⟨rfl, -, c6⟩
                 simp only [ME.cells]
                 have HA6 := Lib.hid (And.intro (HA5.out.1.keep (HC.out.trans c6) (fun f => f)) (And.intro (HA5.out.2.1.keep (HC.out.trans c6) (fun f => f)) (HA5.out.2.2.trans (HC.out.trans c6))))
                 clear c6
                 have xA6 := (HA6.out.1.alloc (.cells #[.int .i64 a, .int .i64 t, .int .i64 p, .int .i64 2, .int .i64 2] 23)).five
                 have xB6 := (HA6.out.2.1.alloc (.cells #[.int .i64 a, .int .i64 t, .int .i64 p, .int .i64 2, .int .i64 2] 23)).five
                 have xC6 := (Row.new w6 23 #[.int .i64 a, .int .i64 t, .int .i64 p, .int .i64 2, .int .i64 2]).five)
              | (go_at_call 15; refine (known14_any _).mono ?_; rintro e w9 ⟨rfl, c9⟩))
            go_ret
            exact ⟨rfl, ((HA6.out.2.2.trans ((Chg.refl _ _).alloc _)).trans c9).below⟩
          · have t3 : (p == p') = false := by simpa using h3
            have t4 : (h == i) = false := by simpa using fun e => h3 (hinj e).2.2
            clear hinj hi2 h1 h2 h3
            go_enter Try.func3, Try.ntmps3
            go_wp2_with (first
              | (go_at_call 13
                 have _t := tok
                 clear tok
                 refine (HHa _).mono ?_
                 rintro e w1 ⟨rfl, c1⟩
                 have HA1 := Lib.hid (And.intro (((Row.new w 23 #[.int .i64 a, .int .i64 t, .int .i64 p, .int .i64 c, .int .i64 l]).alloc (.cells #[.int .i64 a', .int .i64 t', .int .i64 p', .int .i64 c', .int .i64 l'] 23)).keep c1 (fun f => f)) (And.intro ((Row.new2 w (.cells #[.int .i64 a, .int .i64 t, .int .i64 p, .int .i64 c, .int .i64 l] 23) 23 #[.int .i64 a', .int .i64 t', .int .i64 p', .int .i64 c', .int .i64 l']).keep c1 (fun f => f)) ((((Chg.refl No w).alloc _).alloc _).trans c1)))
                 clear c1
                 have xA1 := HA1.out.1.five
                 have xB1 := HA1.out.2.1.five)
                | (go_at_call 13
                   refine (HHb _).mono ?_
                   rintro e w2 ⟨rfl, c2⟩
                   have HA2 := Lib.hid (And.intro (HA1.out.1.keep c2 (fun f => f)) (And.intro (HA1.out.2.1.keep c2 (fun f => f)) (HA1.out.2.2.trans c2)))
                   clear c2
                   have xA2 := HA2.out.1.five
                   have xB2 := HA2.out.2.1.five)
                | (go_at_call 14
                   refine (HHc _).mono ?_
                   rintro e w3 ⟨rfl, c3⟩
                   have HA3 := Lib.hid (And.intro (HA2.out.1.keep c3 (fun f => f)) (And.intro (HA2.out.2.1.keep c3 (fun f => f)) (HA2.out.2.2.trans c3)))
                   clear c3
                   have xA3 := HA3.out.1.five
                   have xB3 := HA3.out.2.1.five)
              | (go_at_call 16
                 obtain ⟨W, hW⟩ : ∃ W, (w3.alloc (.cells #[.int .i64 h, .int .i64 2, .int .i64 7, .int .i64 9] 3)).alloc (.cells #[.int .i64 2, .int .i64 1, .slice (some ⟨w3.heap.size, 0, none⟩) 4 4, .slice none 0 0] 39) = W := ⟨_, rfl⟩
                 rw [hW]
                 have cW : Chg No w3 W := by rw [← hW]; exact ((Chg.refl _ _).alloc _).alloc _
                 have rW : Row W w3.heap.size 3 #[.int .i64 h, .int .i64 2, .int .i64 7, .int .i64 9] := by rw [← hW]; exact (Row.new w3 _ _).alloc _
                 have rO : Row W (w3.heap.size + 1) 39 #[.int .i64 2, .int .i64 1, .slice (some ⟨w3.heap.size, 0, none⟩) 4 4, .slice none 0 0] := by rw [← hW]; exact Row.new2 w3 _ _ _
                 refine (loaded_any _ (oneH h) W (refL_one h64 rW rO) (show 1 ≤ maxLen by decide)).mono ?_
                 have HA4 := Lib.hid (And.intro (HA3.out.1.keep cW (fun f => f)) (And.intro (HA3.out.2.1.keep cW (fun f => f)) (HA3.out.2.2.trans cW)))
                 clear hW cW rW rO
                 rintro e w5 (⟨-, -, hlb⟩ | ⟨m, rfl, g5, -, -⟩)
                 · cases hlb.symm.trans HLB.out
                 have HA5 := Lib.hid (And.intro (HA4.out.1.keep g5.chg (fun f => f)) (And.intro (HA4.out.2.1.keep g5.chg (fun f => f)) (HA4.out.2.2.trans g5.chg)))
                 have HG := Lib.hid (g5.world ((Chg.refl _ _).alloc (.cells #[.slice (some ⟨w3.heap.size + 1, 0, none⟩) 1 1] 33)))
                 have HC := Lib.hid ((Chg.refl No w5).alloc (.cells #[.slice (some ⟨w3.heap.size + 1, 0, none⟩) 1 1] 33))
                 clear g5)
              | (go_at_call 17
                 refine (k_Read HG.out 2 (by unfold In64; omega)).mono ?_
                 rw [HRD.out]
                 rintro e w6 ⟨rfl, -, c6⟩
                 simp only [ME.cells]
                 have HA6 := Lib.hid (And.intro (HA5.out.1.keep (HC.out.trans c6) (fun f => f)) (And.intro (HA5.out.2.1.keep (HC.out.trans c6) (fun f => f)) (HA5.out.2.2.trans (HC.out.trans c6))))
                 clear c6
                 have xA6 := (HA6.out.1.alloc (.cells #[.int .i64 a, .int .i64 t, .int .i64 p, .int .i64 2, .int .i64 2] 23)).five
                 have xB6 := (HA6.out.2.1.alloc (.cells #[.int .i64 a, .int .i64 t, .int .i64 p, .int .i64 2, .int .i64 2] 23)).five
                 have xC6 := (Row.new w6 23 #[.int .i64 a, .int .i64 t, .int .i64 p, .int .i64 2, .int .i64 2]).five)
              | (go_at_call 15; refine (known14_any _).mono ?_; rintro e w9 ⟨rfl, c9⟩))
            go_ret
            exact ⟨rfl, ((HA6.out.2.2.trans ((Chg.refl _ _).alloc _)).trans c9).below⟩
        · have t2 : (t == t') = false := by simpa using h2
          have t4 : (h == i) = false := by simpa using fun e => h2 (hinj e).2.1
          clear hinj hi2 h1 h2
          go_enter Try.func3, Try.ntmps3
          go_wp2_with (first
            | (go_at_call 13
               have _t := tok
               clear tok
               refine (HHa _).mono ?_
               rintro e w1 ⟨rfl, c1⟩
               have HA1 := Lib.hid (And.intro (((Row.new w 23 #[.int .i64 a, .int .i64 t, .int .i64 p, .int .i64 c, .int .i64 l]).alloc (.cells #[.int .i64 a', .int .i64 t', .int .i64 p', .int .i64 c', .int .i64 l'] 23)).keep c1 (fun f => f)) (And.intro ((Row.new2 w (.cells #[.int .i64 a, .int .i64 t, .int .i64 p, .int .i64 c, .int .i64 l] 23) 23 #[.int .i64 a', .int .i64 t', .int .i64 p', .int .i64 c', .int .i64 l']).keep c1 (fun f => f)) ((((Chg.refl No w).alloc _).alloc _).trans c1)))
               clear c1
               have xA1 := HA1.out.1.five
               have xB1 := HA1.out.2.1.five)
              | (go_at_call 13
                 refine (HHb _).mono ?_
                 rintro e w2 ⟨rfl, c2⟩
                 have HA2 := Lib.hid (And.intro (HA1.out.1.keep c2 (fun f => f)) (And.intro (HA1.out.2.1.keep c2 (fun f => f)) (HA1.out.2.2.trans c2)))
                 clear c2
                 have xA2 := HA2.out.1.five
                 have xB2 := HA2.out.2.1.five)
              | (go_at_call 14
                 refine (HHc _).mono ?_
                 rintro e w3 ⟨rfl, c3⟩
                 have HA3 := Lib.hid (And.intro (HA2.out.1.keep c3 (fun f => f)) (And.intro (HA2.out.2.1.keep c3 (fun f => f)) (HA2.out.2.2.trans c3)))
                 clear c3
                 have xA3 := HA3.out.1.five
                 have xB3 := HA3.out.2.1.five)
            | (go_at_call 16
               obtain ⟨W, hW⟩ : ∃ W, (w3.alloc (.cells #[.int .i64 h, .int .i64 2, .int .i64 7, .int .i64 9] 3)).alloc (.cells #[.int .i64 2, .int .i64 1, .slice (some ⟨w3.heap.size, 0, none⟩) 4 4, .slice none 0 0] 39) = W := ⟨_, rfl⟩
               rw [hW]
               have cW : Chg No w3 W := by rw [← hW]; exact ((Chg.refl _ _).alloc _).alloc _
               have rW : Row W w3.heap.size 3 #[.int .i64 h, .int .i64 2, .int .i64 7, .int .i64 9] := by rw [← hW]; exact (Row.new w3 _ _).alloc _
               have rO : Row W (w3.heap.size + 1) 39 #[.int .i64 2, .int .i64 1, .slice (some ⟨w3.heap.size, 0, none⟩) 4 4, .slice none 0 0] := by rw [← hW]; exact Row.new2 w3 _ _ _
               refine (loaded_any _ (oneH h) W (refL_one h64 rW rO) (show 1 ≤ maxLen by decide)).mono ?_
               have HA4 := Lib.hid (And.intro (HA3.out.1.keep cW (fun f => f)) (And.intro (HA3.out.2.1.keep cW (fun f => f)) (HA3.out.2.2.trans cW)))
               clear hW cW rW rO
               rintro e w5 (⟨-, -, hlb⟩ | ⟨m, rfl, g5, -, -⟩)
               · cases hlb.symm.trans HLB.out
               have HA5 := Lib.hid (And.intro (HA4.out.1.keep g5.chg (fun f => f)) (And.intro (HA4.out.2.1.keep g5.chg (fun f => f)) (HA4.out.2.2.trans g5.chg)))
               have HG := Lib.hid (g5.world ((Chg.refl _ _).alloc (.cells #[.slice (some ⟨w3.heap.size + 1, 0, none⟩) 1 1] 33)))
               have HC := Lib.hid ((Chg.refl No w5).alloc (.cells #[.slice (some ⟨w3.heap.size + 1, 0, none⟩) 1 1] 33))
               clear g5)
            | (go_at_call 17
               refine (k_Read HG.out 2 (by unfold In64; omega)).mono ?_
               rw [HRD.out]
               rintro e w6 ⟨rfl, -, c6⟩
               simp only [ME.cells]
               have HA6 := Lib.hid (And.intro (HA5.out.1.keep (HC.out.trans c6) (fun f => f)) (And.intro (HA5.out.2.1.keep (HC.out.trans c6) (fun f => f)) (HA5.out.2.2.trans (HC.out.trans c6))))
               clear c6
               have xA6 := (HA6.out.1.alloc (.cells #[.int .i64 a, .int .i64 t, .int .i64 p, .int .i64 2, .int .i64 2] 23)).five
               have xB6 := (HA6.out.2.1.alloc (.cells #[.int .i64 a, .int .i64 t, .int .i64 p, .int .i64 2, .int .i64 2] 23)).five
               have xC6 := (Row.new w6 23 #[.int .i64 a, .int .i64 t, .int .i64 p, .int .i64 2, .int .i64 2]).five)
            | (go_at_call 15; refine (known14_any _).mono ?_; rintro e w9 ⟨rfl, c9⟩))
          go_ret
          exact ⟨rfl, ((HA6.out.2.2.trans ((Chg.refl _ _).alloc _)).trans c9).below⟩
      · have t1 : (a == a') = false := by simpa using h1
        have t4 : (h == i) = false := by simpa using fun e => h1 (hinj e).1
        clear hinj hi2 h1
        go_enter Try.func3, Try.ntmps3
        go_wp2_with (first
          | (go_at_call 13
             have _t := tok
             clear tok
             refine (HHa _).mono ?_
             rintro e w1 ⟨rfl, c1⟩
             have HA1 := Lib.hid (And.intro (((Row.new w 23 #[.int .i64 a, .int .i64 t, .int .i64 p, .int .i64 c, .int .i64 l]).alloc (.cells #[.int .i64 a', .int .i64 t', .int .i64 p', .int .i64 c', .int .i64 l'] 23)).keep c1 (fun f => f)) (And.intro ((Row.new2 w (.cells #[.int .i64 a, .int .i64 t, .int .i64 p, .int .i64 c, .int .i64 l] 23) 23 #[.int .i64 a', .int .i64 t', .int .i64 p', .int .i64 c', .int .i64 l']).keep c1 (fun f => f)) ((((Chg.refl No w).alloc _).alloc _).trans c1)))
             clear c1
             have xA1 := HA1.out.1.five
             have xB1 := HA1.out.2.1.five)
            | (go_at_call 13
               refine (HHb _).mono ?_
               rintro e w2 ⟨rfl, c2⟩
               have HA2 := Lib.hid (And.intro (HA1.out.1.keep c2 (fun f => f)) (And.intro (HA1.out.2.1.keep c2 (fun f => f)) (HA1.out.2.2.trans c2)))
               clear c2
               have xA2 := HA2.out.1.five
               have xB2 := HA2.out.2.1.five)
            | (go_at_call 14
               refine (HHc _).mono ?_
               rintro e w3 ⟨rfl, c3⟩
               have HA3 := Lib.hid (And.intro (HA2.out.1.keep c3 (fun f => f)) (And.intro (HA2.out.2.1.keep c3 (fun f => f)) (HA2.out.2.2.trans c3)))
               clear c3
               have xA3 := HA3.out.1.five
               have xB3 := HA3.out.2.1.five)
          | (go_at_call 16
             obtain ⟨W, hW⟩ : ∃ W, (w3.alloc (.cells #[.int .i64 h, .int .i64 2, .int .i64 7, .int .i64 9] 3)).alloc (.cells #[.int .i64 2, .int .i64 1, .slice (some ⟨w3.heap.size, 0, none⟩) 4 4, .slice none 0 0] 39) = W := ⟨_, rfl⟩
             rw [hW]
             have cW : Chg No w3 W := by rw [← hW]; exact ((Chg.refl _ _).alloc _).alloc _
             have rW : Row W w3.heap.size 3 #[.int .i64 h, .int .i64 2, .int .i64 7, .int .i64 9] := by rw [← hW]; exact (Row.new w3 _ _).alloc _
             have rO : Row W (w3.heap.size + 1) 39 #[.int .i64 2, .int .i64 1, .slice (some ⟨w3.heap.size, 0, none⟩) 4 4, .slice none 0 0] := by rw [← hW]; exact Row.new2 w3 _ _ _
             refine (loaded_any _ (oneH h) W (refL_one h64 rW rO) (show 1 ≤ maxLen by decide)).mono ?_
             have HA4 := Lib.hid (And.intro (HA3.out.1.keep cW (fun f => f)) (And.intro (HA3.out.2.1.keep cW (fun f => f)) (HA3.out.2.2.trans cW)))
             clear hW cW rW rO
             rintro e w5 (⟨-, -, hlb⟩ | ⟨m, rfl, g5, -, -⟩)
             · cases hlb.symm.trans HLB.out
             have HA5 := Lib.hid (And.intro (HA4.out.1.keep g5.chg (fun f => f)) (And.intro (HA4.out.2.1.keep g5.chg (fun f => f)) (HA4.out.2.2.trans g5.chg)))
             have HG := Lib.hid (g5.world ((Chg.refl _ _).alloc (.cells #[.slice (some ⟨w3.heap.size + 1, 0, none⟩) 1 1] 33)))
             have HC := Lib.hid ((Chg.refl No w5).alloc (.cells #[.slice (some ⟨w3.heap.size + 1, 0, none⟩) 1 1] 33))
             clear g5)
          | (go_at_call 17
             refine (k_Read HG.out 2 (by unfold In64; omega)).mono ?_
             rw [HRD.out]
             rintro e w6 ⟨rfl, -, c6⟩
             simp only [ME.cells]
             have HA6 := Lib.hid (And.intro (HA5.out.1.keep (HC.out.trans c6) (fun f => f)) (And.intro (HA5.out.2.1.keep (HC.out.trans c6) (fun f => f)) (HA5.out.2.2.trans (HC.out.trans c6))))
             clear c6
             have xA6 := (HA6.out.1.alloc (.cells #[.int .i64 a, .int .i64 t, .int .i64 p, .int .i64 2, .int .i64 2] 23)).five
             have xB6 := (HA6.out.2.1.alloc (.cells #[.int .i64 a, .int .i64 t, .int .i64 p, .int .i64 2, .int .i64 2] 23)).five
             have xC6 := (Row.new w6 23 #[.int .i64 a, .int .i64 t, .int .i64 p, .int .i64 2, .int .i64 2]).five)
          | (go_at_call 15; refine (known14_any _).mono ?_; rintro e w9 ⟨rfl, c9⟩))
        go_ret
        exact ⟨rfl, ((HA6.out.2.2.trans ((Chg.refl _ _).alloc _)).trans c9).below⟩

end Go.Proofs.Ytjanojignaonfaa
