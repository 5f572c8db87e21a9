/- Large numbers over a flat memory: prim.digits, prim.bytes. -/
import Derived.Test.YtncoanmgifgcbaaDoorLgG
import Derived.Test.YtncoanmgifgcbaaDoorPrmE
import Derived.Test.YtncoanmgifgcbaaDoorLoad
namespace Go.Proofs.YtncoanmgifgcbaaDoor
set_option linter.unusedVariables false
set_option linter.unusedSimpArgs false
open Go.RowKit

set_option maxRecDepth 100000 in
set_option maxHeartbeats 600000 in
theorem Of_neg (n : Int) (h : n < 0) (w : World) : Calls Tryd.prog 96 #[.int .i64 n] w fun e w' => e = .returned (.tuple #[.slice none 0 0, .int .i64 2]) ∧ w = w' := by
  have t0 : decide (n < 0) = true := decide_eq_true h
  clear h
  go_enter Tryd.func96, Tryd.ntmps96
  go_wp2_with fail
  go_ret2
  exact ⟨rfl, rfl⟩

/-- a number, small or large? -/
def digOk (L : List O) (o : Int) : Bool := if numOk o = true then decide (0 ≤ numV o) else objE L o == 0 && (objV L o).kind == 2 && rightD (objV L o).B
/-- its digits -/
def digB (L : List O) (o : Int) : List Int := if numOk o = true then dg (numV o).toNat else (objV L o).B
theorem dg_short {n : Nat} (h : n ≤ 9223372036854775807) : (dg n).length ≤ 8 := by
  have h8 : pw 8 = 18446744073709551616 := by decide
  exact (dg_len n 8).2 (by omega)
theorem dg_rightD {n : Nat} (h : n ≤ 9223372036854775807) : rightD (dg n) = true := by
  have := dg_short h
  unfold rightD
  rw [dg_canon, decide_eq_true (by omega)]
  rfl
theorem dig_right {L : List O} {o : Int} (h : digOk L o = true) : rightD (digB L o) = true := by
  unfold digOk at h
  unfold digB
  have hb := numV_bd o
  split at h
  · rename_i hn
    rw [if_pos hn]
    exact dg_rightD (by omega)
  · rename_i hn
    rw [if_neg hn]
    simp only [Bool.and_eq_true] at h
    exact h.2

section
variable {w0 w w' : World} {m : Nat} {L L' : List O} {K : (Nat → Prop) → World → Prop} {F F' : Nat → Prop}
set_option maxRecDepth 100000 in
set_option maxHeartbeats 800000 in
theorem k_digits (h : MemK w0 w m L K) (o : Int) (ho : In64 o) :
    Calls Tryd.prog 71 #[.iface 27 (.pointer (some ⟨m, 0, none⟩)), .int .i64 o] w fun e w' => ∃ v, e = .returned (.tuple #[v, .bool (digOk L o)]) ∧ ByteS w' (fun b => w.heap.size ≤ b) v (digB L o) ∧ MemK w0 w' m L K ∧ Chg No w w' := by
  have H := Lib.hid h
  clear h
  have hbd := numV_bd o
  cases hn : numOk o with
  | true =>
    obtain ⟨n, hnv⟩ : ∃ n, numV o = n := ⟨_, rfl⟩
    rw [hnv] at hbd
    have HN := Lib.hid hnv
    by_cases h0 : 0 ≤ n
    · have e1 : digOk L o = true := by unfold digOk; rw [if_pos hn, hnv]; exact decide_eq_true h0
      have e2 : digB L o = dg n.toNat := by unfold digB; rw [if_pos hn, hnv]
      rw [e1, e2]
      obtain ⟨k, rfl⟩ : ∃ k : Nat, n = k := ⟨n.toNat, by omega⟩
      rw [Int.toNat_natCast]
      have HNO := Lib.hid hn
      clear e1 e2 hnv h0 hn
      go_enter Tryd.func71, Tryd.ntmps71
      go_wp2_with (first
        | (go_at_call 35
           refine (Number_any o ho.1 ho.2 _).mono ?_
           rw [HN.out, HNO.out]
           rintro e' w1 ⟨rfl, rfl⟩)
        | (go_at_call 96
           refine (Of_any k (by omega) _).mono ?_
           rintro e' w2 ⟨⟨v, rfl, hv⟩, c2⟩
           have HV := Lib.hid (And.intro hv c2)
           clear hv c2)
        | fail)
      go_ret2
      exact ⟨_, rfl, HV.out.1, H.out.world HV.out.2, HV.out.2⟩
    · have e1 : digOk L o = false := by unfold digOk; rw [if_pos hn, hnv]; exact decide_eq_false h0
      have e2 : digB L o = [] := by unfold digB; rw [if_pos hn, hnv]; exact dg_nil.2 (by omega)
      rw [e1, e2]
      have HNO := Lib.hid hn
      have HLT := Lib.hid (show n < 0 by omega)
      clear e1 e2 hnv h0 hn
      go_enter Tryd.func71, Tryd.ntmps71
      go_wp2_with (first
        | (go_at_call 35
           refine (Number_any o ho.1 ho.2 _).mono ?_
           rw [HN.out, HNO.out]
           rintro e' w1 ⟨rfl, rfl⟩)
        | (go_at_call 96
           refine (Of_neg n HLT.out _).mono ?_
           rintro e' w2 ⟨rfl, rfl⟩)
        | fail)
      go_ret2
      exact ⟨_, rfl, ByteS.nil _ _, H.out, Chg.refl _ _⟩
  | false =>
    obtain ⟨x, hx⟩ : ∃ x, objV L o = x := ⟨_, rfl⟩
    obtain ⟨e0, he0⟩ : ∃ x, objE L o = x := ⟨_, rfl⟩
    obtain ⟨r, hr⟩ : ∃ r, rightD x.B = r := ⟨_, rfl⟩
    have e1 : digOk L o = (e0 == 0 && x.kind == 2 && r) := by unfold digOk; rw [if_neg (by simp [hn]), he0, hx, hr]
    have e2 : digB L o = x.B := by unfold digB; rw [if_neg (by simp [hn]), hx]
    rw [e1, e2]
    have HNO := Lib.hid hn
    have HX := Lib.hid (And.intro he0 hx)
    have HR := Lib.hid hr
    clear e1 e2 hx he0 hr hn
    by_cases h0 : e0 = 0
    · subst h0
      by_cases hk : x.kind = 2
      · have tk : (x.kind == 2) = true := by simpa using hk
        rw [tk]
        clear hk
        go_enter Tryd.func71, Tryd.ntmps71
        go_wp2_with (first
          | (go_at_call 35
             refine (Number_any o ho.1 ho.2 _).mono ?_
             rw [HNO.out]
             rintro e' w1 ⟨rfl, rfl⟩)
          | (go_at_call 156
             refine (k_ObjC H.out o ho).mono ?_
             rw [HX.out.1, HX.out.2]
             rintro e w1 ⟨r, rfl, g1, hr, c1⟩
             obtain ⟨wv1, bv1, rfl, hI1, hB1, i64, j64⟩ := hr
             obtain ⟨A1, d1, rfl, -⟩ := hI1.form
             obtain ⟨A2, d2, rfl, -⟩ := hB1.form
             simp only [cells2]
             obtain ⟨W2, hW2⟩ : ∃ W, w1.alloc (.cells #[.int .i64 x.cls, .int .i64 x.kind, .slice A1 x.W.length d1, .slice A2 x.B.length d2] 41) = W := ⟨_, rfl⟩
             have c2 : Chg No w1 W2 := by rw [← hW2]; exact (Chg.refl _ _).alloc _
             have r2 : Row W2 w1.heap.size 41 #[.int .i64 x.cls, .int .i64 x.kind, .slice A1 x.W.length d1, .slice A2 x.B.length d2] := by rw [← hW2]; exact Row.new _ _ _
             have b2 := hB1.keep c2 (fun _ _ f => f)
             have H2 := Lib.hid (And.intro (g1.world c2) (And.intro (c1.trans c2) (And.intro r2 b2)))
             have HW2 := Lib.hid hW2
             obtain ⟨y0, y1, y2, y3, -⟩ := r2.four
             clear hI1 hB1 i64 j64 g1 c1 c2 r2 hW2 b2)
          | (rw [HW2.out])
          | fail)
        have v0 : ∀ v, Chg No W2 v → v.cell? ⟨w1.heap.size, 1, none⟩ = some (.int .i64 x.kind) ∧ v.cell? ⟨w1.heap.size, 3, none⟩ = some (.slice A2 x.B.length d2) := fun v hv => by
          obtain ⟨u0, u1, u2, u3, -⟩ := (H2.out.2.2.1.keep hv (fun f => f)).four
          exact ⟨u1, u3⟩
        have v1 : ∀ v, Chg No W2 v → v.cell? ⟨w1.heap.size, 1, none⟩ = some (.int .i64 x.kind) := fun v hv => (v0 v hv).1
        have v3 : ∀ v, Chg No W2 v → v.cell? ⟨w1.heap.size, 3, none⟩ = some (.slice A2 x.B.length d2) := fun v hv => (v0 v hv).2
        clear v0
        refine q_region (C := (Chg No W2)) (by kernel_rfl) (by kernel_rfl) ?_ ?_
        · exact (Chg.refl _ _).drew
        repeat
          refine q_step (fun K hK => ?_)
          go_simp
          first
            | ((with_reducible refine hK _ ?_); clear hK K)
            | (refine (if_neg (by simp [undef])).mpr ?_; (with_reducible refine hK _ ?_); clear hK K)
            | (apply Exists.intro
               with_reducible refine ⟨fun v hv => ?_, hK _ ?_⟩
               · first
                   | with_reducible exact rfl
                   | with_reducible exact ⟨rfl, rfl⟩
                   | (go_simp
                      first
                        | done
                        | with_reducible exact rfl
                        | with_reducible exact ⟨rfl, rfl⟩
                        | (go_at_call 97; refine (Right_any _ x.B _ _ (H2.out.2.2.2.keep hv (fun _ _ f => f))).mono ?_; rw [HR.out]; rintro e w5 ⟨rfl, rfl⟩; exact ⟨rfl, hv⟩))
               clear hK K)
        refine q_nil ?_
        intro V hV
        go_wp2_with fail
        exact bodyPost_ret (v := .tuple #[.slice A2 x.B.length d2, .bool r]) (by simp [results, Tryd.results71, go_sem]) rfl ⟨_, rfl, H2.out.2.2.2.keep hV (fun _ _ f => f), H2.out.1.world hV, H2.out.2.1.trans hV⟩
      · have tk : (x.kind == 2) = false := by simpa using hk
        rw [tk]
        clear hk
        go_enter Tryd.func71, Tryd.ntmps71
        go_wp2_with (first
          | (go_at_call 35
             refine (Number_any o ho.1 ho.2 _).mono ?_
             rw [HNO.out]
             rintro e' w1 ⟨rfl, rfl⟩)
          | (go_at_call 156
             refine (k_ObjC H.out o ho).mono ?_
             rw [HX.out.1, HX.out.2]
             rintro e w1 ⟨r, rfl, g1, hr, c1⟩
             obtain ⟨wv1, bv1, rfl, hI1, hB1, i64, j64⟩ := hr
             obtain ⟨A1, d1, rfl, -⟩ := hI1.form
             obtain ⟨A2, d2, rfl, -⟩ := hB1.form
             simp only [cells2]
             obtain ⟨W2, hW2⟩ : ∃ W, w1.alloc (.cells #[.int .i64 x.cls, .int .i64 x.kind, .slice A1 x.W.length d1, .slice A2 x.B.length d2] 41) = W := ⟨_, rfl⟩
             have c2 : Chg No w1 W2 := by rw [← hW2]; exact (Chg.refl _ _).alloc _
             have r2 : Row W2 w1.heap.size 41 #[.int .i64 x.cls, .int .i64 x.kind, .slice A1 x.W.length d1, .slice A2 x.B.length d2] := by rw [← hW2]; exact Row.new _ _ _
             have b2 := hB1.keep c2 (fun _ _ f => f)
             have H2 := Lib.hid (And.intro (g1.world c2) (And.intro (c1.trans c2) (And.intro r2 b2)))
             have HW2 := Lib.hid hW2
             obtain ⟨y0, y1, y2, y3, -⟩ := r2.four
             clear hI1 hB1 i64 j64 g1 c1 c2 r2 hW2 b2)
          | (rw [HW2.out])
          | fail)
        have v0 : ∀ v, Chg No W2 v → v.cell? ⟨w1.heap.size, 1, none⟩ = some (.int .i64 x.kind) ∧ v.cell? ⟨w1.heap.size, 3, none⟩ = some (.slice A2 x.B.length d2) := fun v hv => by
          obtain ⟨u0, u1, u2, u3, -⟩ := (H2.out.2.2.1.keep hv (fun f => f)).four
          exact ⟨u1, u3⟩
        have v1 : ∀ v, Chg No W2 v → v.cell? ⟨w1.heap.size, 1, none⟩ = some (.int .i64 x.kind) := fun v hv => (v0 v hv).1
        have v3 : ∀ v, Chg No W2 v → v.cell? ⟨w1.heap.size, 3, none⟩ = some (.slice A2 x.B.length d2) := fun v hv => (v0 v hv).2
        clear v0
        refine q_region (C := (Chg No W2)) (by kernel_rfl) (by kernel_rfl) ?_ ?_
        · exact (Chg.refl _ _).drew
        repeat
          refine q_step (fun K hK => ?_)
          go_simp
          first
            | ((with_reducible refine hK _ ?_); clear hK K)
            | (refine (if_neg (by simp [undef])).mpr ?_; (with_reducible refine hK _ ?_); clear hK K)
            | (apply Exists.intro
               with_reducible refine ⟨fun v hv => ?_, hK _ ?_⟩
               · first
                   | with_reducible exact rfl
                   | with_reducible exact ⟨rfl, rfl⟩
                   | (go_simp
                      first
                        | done
                        | with_reducible exact rfl
                        | with_reducible exact ⟨rfl, rfl⟩
                        | (go_at_call 97; refine (Right_any _ x.B _ _ (H2.out.2.2.2.keep hv (fun _ _ f => f))).mono ?_; rw [HR.out]; rintro e w5 ⟨rfl, rfl⟩; exact ⟨rfl, hv⟩))
               clear hK K)
        refine q_nil ?_
        intro V hV
        go_wp2_with fail
        exact bodyPost_ret (v := .tuple #[.slice A2 x.B.length d2, .bool false]) (by simp [results, Tryd.results71, go_sem]) rfl ⟨_, rfl, H2.out.2.2.2.keep hV (fun _ _ f => f), H2.out.1.world hV, H2.out.2.1.trans hV⟩
    · have t0 : (e0 == 0) = false := by simpa using h0
      rw [t0]
      clear h0
      go_enter Tryd.func71, Tryd.ntmps71
      go_wp2_with (first
        | (go_at_call 35
           refine (Number_any o ho.1 ho.2 _).mono ?_
           rw [HNO.out]
           rintro e' w1 ⟨rfl, rfl⟩)
        | (go_at_call 156
           refine (k_ObjC H.out o ho).mono ?_
           rw [HX.out.1, HX.out.2]
           rintro e w1 ⟨r, rfl, g1, hr, c1⟩
           obtain ⟨wv1, bv1, rfl, hI1, hB1, i64, j64⟩ := hr
           obtain ⟨A1, d1, rfl, -⟩ := hI1.form
           obtain ⟨A2, d2, rfl, -⟩ := hB1.form
           simp only [cells2]
           obtain ⟨W2, hW2⟩ : ∃ W, w1.alloc (.cells #[.int .i64 x.cls, .int .i64 x.kind, .slice A1 x.W.length d1, .slice A2 x.B.length d2] 41) = W := ⟨_, rfl⟩
           have c2 : Chg No w1 W2 := by rw [← hW2]; exact (Chg.refl _ _).alloc _
           have r2 : Row W2 w1.heap.size 41 #[.int .i64 x.cls, .int .i64 x.kind, .slice A1 x.W.length d1, .slice A2 x.B.length d2] := by rw [← hW2]; exact Row.new _ _ _
           have b2 := hB1.keep c2 (fun _ _ f => f)
           have H2 := Lib.hid (And.intro (g1.world c2) (And.intro (c1.trans c2) (And.intro r2 b2)))
           have HW2 := Lib.hid hW2
           obtain ⟨y0, y1, y2, y3, -⟩ := r2.four
           clear hI1 hB1 i64 j64 g1 c1 c2 r2 hW2 b2)
        | (rw [HW2.out])
        | fail)
      have v0 : ∀ v, Chg No W2 v → v.cell? ⟨w1.heap.size, 1, none⟩ = some (.int .i64 x.kind) ∧ v.cell? ⟨w1.heap.size, 3, none⟩ = some (.slice A2 x.B.length d2) := fun v hv => by
        obtain ⟨u0, u1, u2, u3, -⟩ := (H2.out.2.2.1.keep hv (fun f => f)).four
        exact ⟨u1, u3⟩
      have v1 : ∀ v, Chg No W2 v → v.cell? ⟨w1.heap.size, 1, none⟩ = some (.int .i64 x.kind) := fun v hv => (v0 v hv).1
      have v3 : ∀ v, Chg No W2 v → v.cell? ⟨w1.heap.size, 3, none⟩ = some (.slice A2 x.B.length d2) := fun v hv => (v0 v hv).2
      clear v0
      refine q_region (C := (Chg No W2)) (by kernel_rfl) (by kernel_rfl) ?_ ?_
      · exact (Chg.refl _ _).drew
      repeat
        refine q_step (fun K hK => ?_)
        go_simp
        first
          | ((with_reducible refine hK _ ?_); clear hK K)
          | (refine (if_neg (by simp [undef])).mpr ?_; (with_reducible refine hK _ ?_); clear hK K)
          | (apply Exists.intro
             with_reducible refine ⟨fun v hv => ?_, hK _ ?_⟩
             · first
                 | with_reducible exact rfl
                 | with_reducible exact ⟨rfl, rfl⟩
                 | (go_simp
                    first
                      | done
                      | with_reducible exact rfl
                      | with_reducible exact ⟨rfl, rfl⟩
                      | (go_at_call 97; refine (Right_any _ x.B _ _ (H2.out.2.2.2.keep hv (fun _ _ f => f))).mono ?_; rw [HR.out]; rintro e w5 ⟨rfl, rfl⟩; exact ⟨rfl, hv⟩))
             clear hK K)
      refine q_nil ?_
      intro V hV
      go_wp2_with fail
      exact bodyPost_ret (v := .tuple #[.slice A2 x.B.length d2, .bool false]) (by simp [results, Tryd.results71, go_sem]) rfl ⟨_, rfl, H2.out.2.2.2.keep hV (fun _ _ f => f), H2.out.1.world hV, H2.out.2.1.trans hV⟩

theorem blank_len {c : Int} {b : List Int} (hl : b.length ≤ 1000) : blankOk c 2 b.length = namedOk c := by
  unfold blankOk
  rw [decide_eq_true (by omega), decide_eq_true (by omega)]
  simp
theorem newL_bytes' {c : Int} {b : List Int} (hl : b.length ≤ 1000) (hc : namedOk c = true) : newL L c 2 b.length = L ++ [partB ⟨c, 2, [], b⟩ 0] ∧ newN L c 2 b.length = 2 * ((L.length : Int) + 1) ∧ newE c 2 b.length = 0 := by
  have hb := blank_len (c := c) hl
  rw [hc] at hb
  refine ⟨?_, by simp [newN, hb], by simp [newE, hb]⟩
  simp [newL, hb, newO, partB]

set_option maxRecDepth 100000 in
set_option maxHeartbeats 800000 in
theorem k_bytes (h : MemK w0 w m L K) (c : Int) (hc : In64 c) (v : Value) (b : List Int) (hb : ∀ F x, K F x → ByteS x (fun _ => True) v b) (hl : b.length ≤ 1000) (hn : L.length + 2 < 1073741823) :
    Calls Tryd.prog 77 #[.iface 27 (.pointer (some ⟨m, 0, none⟩)), .int .i64 c, v] w fun e w' => e = .returned (.tuple #[.int .i64 (if namedOk c = true then 2 * ((L.length : Int) + 1) else 0), .int .i64 (if namedOk c = true then 0 else 2)]) ∧ MemK w0 w' m (if namedOk c = true then L ++ [⟨c, 2, [], b⟩] else L) K := by
  obtain ⟨F, -, -, hk⟩ := h.opened
  have hby := (hb F w hk).by
  obtain ⟨A, d, rfl, -⟩ := (hb F w hk).form
  clear hk
  have H := Lib.hid h
  have HB := Lib.hid hb
  have hbl := blank_len (c := c) hl
  have a3 := ahead_SetByte ⟨m, 0, none⟩
  cases hcn : namedOk c with
  | true =>
    rw [if_pos rfl, if_pos rfl, if_pos rfl]
    have hq := newL_bytes' (L := L) hl hcn
    generalize hnb : b.length = n at *
    have HN := Lib.hid (And.intro hnb (And.intro hby hn))
    have HQ := Lib.hid hq
    have i64n : In64 (n : Int) := by unfold In64; omega
    clear h hb hq hby hbl hnb
    go_enter Tryd.func77, Tryd.ntmps77
    go_wp2_with (first
      | (go_at_call 154
         refine (k_New H.out c 2 n hc (by unfold In64; omega) i64n (by have := HN.out; omega)).mono ?_
         rw [HQ.out.1, HQ.out.2.1, HQ.out.2.2]
         rintro e w2 ⟨rfl, g2⟩
         have G2 := Lib.hid g2
         clear g2)
      | fail)
    go_loopg [9, 10] n (fun j v9 v10 wr => ∃ k : Nat, v9 = .int .i64 0 ∧ v10 = .int .i64 (k : Int) ∧ k ≤ n ∧ n - k ≤ j ∧ MemK w0 wr m (L ++ [partB ⟨c, 2, [], b⟩ k]) K)
    case atStart => exact ⟨0, rfl, rfl, by omega, by omega, G2.out⟩
    case round =>
      obtain ⟨k, rfl, rfl, k1, k2, g4⟩ := hrel
      by_cases hk : k < n
      · have t1 : decide ((k : Int) < (n : Int)) = true := decide_eq_true (by omega)
        have l1 : (k : Int) < (n : Int) := by omega
        obtain ⟨F4, -, -, hK4⟩ := g4.opened
        obtain ⟨b2, off2, rfl, -, hlt, hc2, z0, z1⟩ := (HB.out F4 _ hK4).getAt (i := k) (by rw [HN.out.1]; exact hk)
        have hs := setB_last (L := L) (o := ⟨c, 2, [], b⟩) (i := k) rfl (by have := HN.out; omega) (by dsimp only; rw [HN.out.1]; exact hk) ⟨z0, z1⟩
        dsimp only at hs hc2
        generalize b[k]?.getD 0 = z at *
        have e2 : ∀ v, Chg No wr v → v.cell? ⟨b2, off2 + k, none⟩ = some (.int .u8 z) := fun v hv => (hv.cell hlt (fun f => f)).trans hc2
        have HS := Lib.hid hs
        have G4 := Lib.hid g4
        have i64o : In64 (2 * ((L.length : Int) + 1)) := by have := HN.out; unfold In64; omega
        have zw : IntKind.i64.wrap z = z := IntWalk.i64_in _ (by omega)
        clear hs hc2 hK4 g4 z0 z1
        go_wp2_with fail
        refine rem_start (by kernel_rfl) (by kernel_rfl) ?_
        refine rem_quiet 11 (C := (Chg No wr)) (by kernel_rfl) (by simp only [List.toList_toArray, List.drop_succ_cons, List.drop_zero, List.take_succ_cons, List.take_zero, Nat.reduceSub, Nat.reduceAdd]; rfl) ?_ ?_
        · exact (Chg.refl _ _).drew
        repeat
          refine q_step (fun K hK => ?_)
          go_simp
          first
            | ((with_reducible refine hK _ ?_); clear hK K)
            | (refine (if_neg (by simp [undef])).mpr ?_; (with_reducible refine hK _ ?_); clear hK K)
            | (apply Exists.intro
               with_reducible refine ⟨fun v hv => ?_, hK _ ?_⟩
               · first
                   | with_reducible exact rfl
                   | with_reducible exact ⟨rfl, rfl⟩
                   | (go_simp
                      first
                        | done
                        | with_reducible exact rfl
                        | with_reducible exact ⟨rfl, rfl⟩
                        | fail)
               clear hK K)
        refine q_nil ?_
        intro V hV
        refine rem_one (by kernel_rfl) (by kernel_rfl) rfl (by kernel_rfl) (fun K hK => ?_)
        go_wp2_with (go_at_call 158; refine (k_SetByte (G4.out.world hV) (2 * ((L.length : Int) + 1)) k z i64o).mono ?_; rw [HS.out.1, HS.out.2]; rintro e w3 ⟨rfl, g5⟩)
        refine rem_quiet 13 (C := (fun v => v = w3)) (by kernel_rfl) (by simp only [List.toList_toArray, List.drop_succ_cons, List.drop_zero, List.take_succ_cons, List.take_zero, Nat.reduceSub, Nat.reduceAdd]; rfl) ?_ ?_
        · rfl
        repeat
          refine q_step (fun K hK => ?_)
          go_simp
          first
            | ((with_reducible refine hK _ ?_); clear hK K)
            | (refine (if_neg (by simp [undef])).mpr ?_; (with_reducible refine hK _ ?_); clear hK K)
            | (apply Exists.intro
               with_reducible refine ⟨fun v hv => ?_, hK _ ?_⟩
               · first
                   | with_reducible exact rfl
                   | with_reducible exact ⟨rfl, rfl⟩
                   | (go_simp
                      first
                        | done
                        | with_reducible exact rfl
                        | with_reducible exact ⟨rfl, rfl⟩
                        | fail)
               clear hK K)
        refine q_nil ?_
        intro V2 hV2
        subst hV2
        refine rem_end (by kernel_rfl) ?_
        go_wp2_with fail
        go_roundg (n - (k + 1))
        case measure => omega
        case rel => exact ⟨k + 1, rfl, by go_num, by omega, by omega, g5⟩
      · obtain rfl : k = n := by omega
        have t1 : decide ((k : Int) < (k : Int)) = false := decide_eq_false (by omega)
        have hp := partB_all ⟨c, 2, [], b⟩
        dsimp only at hp
        rw [HN.out.1] at hp
        rw [hp] at g4
        clear hp
        go_wp2_with fail
        go_ret2
        exact ⟨rfl, g4⟩
  | false =>
    rw [if_neg (by simp), if_neg (by simp), if_neg (by simp)]
    rw [hcn] at hbl
    have hq : newL L c 2 b.length = L ∧ newN L c 2 b.length = 0 ∧ newE c 2 b.length = 2 := ⟨by simp [newL, hbl], by simp [newN, hbl], by simp [newE, hbl]⟩
    generalize hnb : b.length = n at *
    have HN := Lib.hid (And.intro hnb (And.intro hby hn))
    have HQ := Lib.hid hq
    have i64n : In64 (n : Int) := by unfold In64; omega
    clear h hb hq hby hbl hnb
    go_enter Tryd.func77, Tryd.ntmps77
    go_wp2_with (first
      | (go_at_call 154
         refine (k_New H.out c 2 n hc (by unfold In64; omega) i64n (by have := HN.out; omega)).mono ?_
         rw [HQ.out.1, HQ.out.2.1, HQ.out.2.2]
         rintro e w2 ⟨rfl, g2⟩
         have G2 := Lib.hid g2
         clear g2)
      | fail)
    go_loopg [9, 10] 0 (fun j v9 v10 wr => v9 = .int .i64 2 ∧ v10 = .int .i64 0 ∧ MemK w0 wr m L K)
    case atStart => exact ⟨rfl, rfl, G2.out⟩
    case round =>
      obtain ⟨rfl, rfl, g4⟩ := hrel
      by_cases h0 : 0 < n
      · have t1 : decide (0 < (n : Int)) = true := decide_eq_true (by omega)
        go_wp2_with fail
        go_ret2
        exact ⟨rfl, g4⟩
      · have t1 : decide (0 < (n : Int)) = false := decide_eq_false (by omega)
        go_wp2_with fail
        go_ret2
        exact ⟨rfl, g4⟩

end

end Go.Proofs.YtncoanmgifgcbaaDoor
