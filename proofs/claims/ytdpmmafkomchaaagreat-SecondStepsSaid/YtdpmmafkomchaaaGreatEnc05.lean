/- The document on objects' bytes: websterref01.All, websterref05.Encode. -/
import Derived.Test.YtdpmmafkomchaaaGreatImgU
import Derived.Test.YtdpmmafkomchaaaGreatEncPl
namespace Go.Proofs.YtdpmmafkomchaaaGreat
set_option linter.unusedVariables false
set_option linter.unusedSimpArgs false
open Go.RowKit

set_option maxRecDepth 100000 in
set_option maxHeartbeats 1000000 in
theorem All01_any (lv : Value) (l : List Int) (S : Nat → Prop) (w : World) (h : IntS w S lv l) (hm : l.length ≤ 100000000) : Calls Tryz.prog 61 #[lv] w (Ret (Alls w l)) := by
  obtain ⟨A, c, rfl, -⟩ := h.form
  have HX := Lib.hid h
  clear h
  generalize hn : l.length = n at *
  have HN := Lib.hid hn
  clear hn
  go_enter Tryz.func61, Tryz.ntmps61
  go_wp2_with fail
  go_loopg [3, 4] n (fun j v3 v4 wr => ∃ i : Nat, v4 = .int .i64 (i : Int) ∧ i ≤ n ∧ n - i ≤ j ∧ OwnB wr w.heap.size v3 (allB (l.take i)) ∧ Chg No w wr)
  case atStart => exact ⟨0, rfl, by omega, by omega, OwnB.nil _ _, Chg.refl _ _⟩
  case round =>
    obtain ⟨i, rfl, i1, i2, own, cw⟩ := hrel
    obtain ⟨A3, c3, rfl⟩ := own.form
    by_cases hi : i < n
    · have t1 : decide ((i : Int) < (n : Int)) = true := decide_eq_true (by omega)
      have l1 : (i : Int) < (n : Int) := by omega
      obtain ⟨b, off, rfl⟩ : ∃ b off, A = some ⟨b, off, none⟩ := by
        obtain ⟨A', c', eA, -, -, -, hat⟩ := HX.out.form
        obtain ⟨b', off', e, -⟩ := hat i (by rw [HN.out]; exact hi)
        obtain ⟨rfl, -, -⟩ := Value.slice.inj eA
        exact ⟨b', off', e⟩
      have y0 : wr.cell? ⟨b, off + i, none⟩ = some (.int .i64 (l[i]?.getD 0)) := by
        obtain ⟨A', c', eA, -, -, -, hat⟩ := (HX.out.keep cw (fun _ _ f => f)).form
        obtain ⟨b', off', e, -, -, y, -⟩ := hat i (by rw [HN.out]; exact hi)
        obtain ⟨rfl, -, -⟩ := Value.slice.inj eA
        obtain ⟨rfl, rfl⟩ : b = b' ∧ off = off' := by simpa using Option.some.inj e
        exact y
      have x64 : In64 (l[i]?.getD 0) := by
        rw [List.getElem?_eq_getElem (by rw [HN.out]; exact hi)]
        exact HX.out.2 _ (List.getElem_mem _)
      have hsn := allB_snoc (l := l) (i := i) (by rw [HN.out]; exact hi)
      generalize l[i]?.getD 0 = x at *
      have HS := Lib.hid hsn
      have HO := Lib.hid (And.intro own cw)
      have hk : (allB (l.take i)).length ≤ 4 * i := by rw [allB_len]; simp; omega
      generalize hkk : (allB (l.take i)).length = k at *
      have HK := Lib.hid hkk
      clear hsn own cw hkk
      go_wp2_with (first
        | (go_at_call 60
           refine (Put01_any x x64 wr).mono ?_
           rintro e w4 ⟨v4, rfl, rfl, ho4, c4⟩
           obtain ⟨A5, c5, w5, hr5, ho5, cg5⟩ := app_bytes (HO.out.1.keep c4 (fun _ _ f => f)) (ho4.bytes (putB_bd x)) (by rw [HK.out]; simp [putB]; omega) (Nat.le_trans HO.out.2.size c4.size) 33
           rw [← HS.out] at hr5 ho5
           have H5 := Lib.hid (And.intro ho5 (Chg.then (HO.out.2.trans c4) cg5 (fun k hk h => by omega)))
           have HR := Lib.hid hr5
           clear ho4 c4 ho5 cg5 hr5)
        | (at_builtin; refine wpList_append_run rfl _ _ _ rfl rfl rfl HR.out ?_)
        | fail)
      go_roundg (n - (i + 1))
      case measure => omega
      case rel => exact ⟨i + 1, by go_num, by omega, by omega, H5.out.1, H5.out.2⟩
    · have t1 : decide ((i : Int) < (n : Int)) = false := decide_eq_false (by omega)
      rw [List.take_of_length_le (by rw [HN.out]; omega)] at own
      have HO := Lib.hid (And.intro own cw)
      clear own cw
      go_wp2_with fail
      go_ret
      exact Ret.mk ⟨by rw [List.take_of_length_le (by rw [HN.out]; omega)]; exact HO.out.1, HO.out.2⟩

/-- append to bytes of the call's own; all rows below are as they were -/
theorem app_bytes3 {w : World} {base : Nat} {S : Nat → Prop} {v sv : Value} {l m : List Int} {n : Nat} (h : OwnB w base v l) (hs : ByteS w S sv m) (hl : l.length + m.length ≤ 1000000000) (hB : base ≤ w.heap.size) (hn : l.length + m.length = n) (ty : TypeId) :
    ∃ A c w', (Builtin.append_ #[33, 33] ty #[v, sv]).run Tryz.prog w = .ok (.slice A n c) w' ∧ OwnB w' base (.slice A n c) (l ++ m) ∧ Chg (fun k => base ≤ k) w w' := by
  obtain ⟨A, c, w', h1, h2, h3⟩ := app_bytes h hs hl hB ty
  rw [List.length_append, hn] at h1 h2
  exact ⟨A, c, w', h1, h2, h3⟩
set_option maxRecDepth 100000 in
set_option maxHeartbeats 1000000 in
theorem Encode05_ok (v : Value) (o : O) (S : Nat → Prop) (w : World) (h : ObjR w S v o) (hk : okB o = true) : Calls Tryz.prog 28 #[v] w (Ret (Encd w (encB o))) := by
  obtain ⟨wv, bv, rfl, h1, h2, c64, k64⟩ := h
  obtain ⟨A, ca, rfl, -⟩ := h1.form
  obtain ⟨B, cb, rfl, -⟩ := h2.form
  obtain ⟨-, hw, hb, -⟩ := okB_cases hk
  have hsz := szO_ok hk
  have hck : chk o = 0 := by unfold chk; rw [if_pos hk]
  have HCK := Lib.hid hck
  simp only [cells2]
  obtain ⟨W1, hW1⟩ : ∃ W, w.alloc (.cells #[.int .i64 o.cls, .int .i64 o.kind, .slice A o.W.length ca, .slice B o.B.length cb] 35) = W := ⟨_, rfl⟩
  have c01 : Chg No w W1 := by rw [← hW1]; exact (Chg.refl _ _).alloc _
  have row : Row W1 w.heap.size 35 #[.int .i64 o.cls, .int .i64 o.kind, .slice A o.W.length ca, .slice B o.B.length cb] := by rw [← hW1]; exact Row.new w _ _
  have hs1 : W1.heap.size = w.heap.size + 1 := by rw [← hW1]; simp
  have r1 := row.four
  have HI := Lib.hid ((h1.keep c01 (fun _ _ f => f)).more (S' := fun b => b < W1.heap.size) (fun b hb _ => hb))
  have HBb := Lib.hid ((h2.keep c01 (fun _ _ f => f)).more (S' := fun b => b < W1.heap.size) (fun b hb _ => hb))
  have HO := Lib.hid (show ObjR W1 (fun _ => True) (.agg #[.int .i64 o.cls, .int .i64 o.kind, .slice A o.W.length ca, .slice B o.B.length cb]) o from ⟨_, _, rfl, (h1.keep c01 (fun _ _ f => f)).more (fun _ _ _ => trivial), (h2.keep c01 (fun _ _ f => f)).more (fun _ _ _ => trivial), c64, k64⟩)
  have HR1 := Lib.hid row
  have HC := Lib.hid c01
  have HW1 := Lib.hid hW1
  have HSZ := Lib.hid hsz
  have tok1 : True := trivial
  have tok2 : True := trivial
  generalize hwl : o.W.length = wl at *
  generalize hbl : o.B.length = bl at *
  have HLN := Lib.hid (And.intro hwl hbl)
  have n64 : In64 ((wl : Int) + (bl : Int)) := by unfold In64; omega
  have wsum : IntKind.i64.wrap ((wl : Int) + (bl : Int)) = (wl : Int) + (bl : Int) := IntWalk.i64_in _ (by omega)
  clear h1 h2 hk hsz hck row c01 hW1 hwl hbl
  go_enter Tryz.func28, Tryz.ntmps28
  go_wp2_with (first
    | (rw [HW1.out])
    | (go_at_call 59
       refine (Check05_any _ o _ _ HO.out).mono ?_
       rw [HCK.out]
       rintro e w2 ⟨rfl, c2⟩
       have r2 := (HR1.out.keep c2 (fun f => f)).four
       have H2 := Lib.hid c2
       clear c2 r1)
    | (go_at_call 60
       have _t := tok1
       clear tok1
       refine (Put01_any o.cls c64 w2).mono ?_
       rintro e w3 ⟨v3, rfl, rfl, ho3, c3⟩
       have r3 := (HR1.out.keep (H2.out.trans c3) (fun f => f)).four
       have H3 := Lib.hid (And.intro (ho3.base (base' := W1.heap.size) H2.out.size) (H2.out.trans c3))
       clear ho3 c3 r2)
    | (go_at_call 60
       have _t := tok2
       clear tok2
       refine (Put01_any o.kind k64 w3).mono ?_
       rintro e w4 ⟨v4, rfl, rfl, ho4, c4⟩
       obtain ⟨A5, d5, w5, hr5, ho5, cg5⟩ := app_bytes3 (n := 8) (H3.out.1.keep c4 (fun _ _ f => f)) (ho4.bytes (putB_bd _)) (by simp [putB]) (H3.out.2.trans c4).size (by rfl) 33
       have c5 : Chg (fun k => W1.heap.size ≤ k) W1 w5 := (H3.out.2.trans c4).no.trans cg5
       have r5 := (HR1.out.keep c5 (by omega)).four
       have HR5 := Lib.hid hr5
       have H5 := Lib.hid (And.intro ho5 c5)
       clear ho4 c4 hr5 ho5 cg5 c5 r3)
      | (at_builtin; refine wpList_append_run rfl _ _ _ rfl rfl rfl HR5.out ?_; clear HR5)
    | (go_at_call 60
       refine (Put01_any _ n64 w5).mono ?_
       rintro e w6 ⟨v6, rfl, rfl, ho6, c6⟩
       obtain ⟨A7, d7, w7, hr7, ho7, cg7⟩ := app_bytes3 (n := 12) (H5.out.1.keep c6 (fun _ _ f => f)) (ho6.bytes (putB_bd _)) (by simp [putB]) (Nat.le_trans H5.out.2.size c6.size) (by rfl) 33
       have c7 : Chg (fun k => W1.heap.size ≤ k) W1 w7 := (H5.out.2.trans c6.no).trans cg7
       have r7 := (HR1.out.keep c7 (by omega)).four
       have HR7 := Lib.hid hr7
       have H7 := Lib.hid (And.intro ho7 c7)
       clear ho6 c6 hr7 ho7 cg7 c7 r5)
      | (at_builtin; refine wpList_append_run rfl _ _ _ rfl rfl rfl HR7.out ?_; clear HR7)
    | (go_at_call 61
       refine (All01_any _ o.W _ _ (HI.out.keep H7.out.2 (fun b hb e => by omega)) (by rw [HLN.out.1]; omega)).mono ?_
       rintro e w8 ⟨v8, rfl, ho8, c8⟩
       obtain ⟨A8, d8, rfl⟩ := ho8.form
       have hl8 : (allB o.W).length = 4 * wl := by rw [allB_len, HLN.out.1]
       rw [hl8]
       rw [hl8] at ho8
       obtain ⟨A9, d9, w9, hr9, ho9, cg9⟩ := app_bytes3 (n := 12 + 4 * wl) (H7.out.1.keep c8 (fun _ _ f => f)) (ho8.bytes (allB_bd _)) (by rw [hl8]; simp [putB]; omega) (Nat.le_trans H7.out.2.size c8.size) (by rw [hl8]; simp [putB]) 33
       have c9 : Chg (fun k => W1.heap.size ≤ k) W1 w9 := (H7.out.2.trans c8.no).trans cg9
       have r9 := (HR1.out.keep c9 (by omega)).four
       obtain ⟨A10, d10, w10, hr10, ho10, cg10⟩ := app_bytes3 (n := 12 + 4 * wl + bl) ho9 (HBb.out.keep c9 (fun b hb e => by omega)) (by rw [List.length_append, hl8, HLN.out.2]; simp [putB]; omega) c9.size (by rw [List.length_append, hl8, HLN.out.2]; simp [putB]) 33
       have HR9 := Lib.hid hr9
       have HR10 := Lib.hid hr10
       have H10 := Lib.hid (And.intro ho10 (c9.trans cg10))
       clear ho8 c8 hl8 hr9 ho9 cg9 c9 hr10 ho10 cg10 r7)
      | (at_builtin; refine wpList_append_run rfl _ _ _ rfl rfl rfl HR9.out ?_; clear HR9)
      | (at_builtin; refine wpList_append_run rfl _ _ _ rfl rfl rfl HR10.out ?_; clear HR10)
    | fail)
  go_ret2
  refine Ret.mk ⟨_, rfl, ?_, ?_⟩
  · have e : encB o = putB o.cls ++ putB o.kind ++ putB ((wl : Int) + (bl : Int)) ++ allB o.W ++ o.B := by
      rw [encB_eq, HSZ.out]
      simp only [List.append_assoc]
    have hl : (encB o).length = 12 + 4 * wl + bl := by rw [encB_len, HLN.out.1, HLN.out.2]
    have ho := H10.out.1.base (base' := w.heap.size) (by omega)
    rw [← e] at ho
    exact ho
  · exact Chg.then HC.out H10.out.2 (fun k hk e => by omega)

set_option maxRecDepth 100000 in
set_option maxHeartbeats 1000000 in
theorem Encode05_bad (v : Value) (o : O) (S : Nat → Prop) (w : World) (h : ObjR w S v o) (hk : okB o = false) : Calls Tryz.prog 28 #[v] w fun e w' => e = .returned (.tuple #[.slice none 0 0, .int .i64 2]) ∧ Chg No w w' := by
  have HO := Lib.hid h
  obtain ⟨wv, bv, rfl, h1, h2, c64, k64⟩ := h
  obtain ⟨A, ca, rfl, -⟩ := h1.form
  obtain ⟨B, cb, rfl, -⟩ := h2.form
  have hck : chk o = 2 := by unfold chk; rw [if_neg (by rw [hk]; decide)]
  have HCK := Lib.hid hck
  simp only [cells2] at HO ⊢
  have c01 : Chg No w (w.alloc (.cells #[.int .i64 o.cls, .int .i64 o.kind, .slice A o.W.length ca, .slice B o.B.length cb] 35)) := (Chg.refl _ _).alloc _
  have HC := Lib.hid c01
  clear h1 h2 hk hck c01
  go_enter Tryz.func28, Tryz.ntmps28
  go_wp2_with (first
    | (go_at_call 59
       refine (Check05_any _ o _ _ (HO.out.keep HC.out (fun _ _ f => f))).mono ?_
       rw [HCK.out]
       rintro e w2 ⟨rfl, c2⟩)
    | fail)
  go_ret2
  exact ⟨rfl, HC.out.trans c2⟩

end Go.Proofs.YtdpmmafkomchaaaGreat
