/- An image's bytes: image.Encode. -/
import Derived.Test.YtncoanmgifgcbaaDoorImgO
namespace Go.Proofs.YtncoanmgifgcbaaDoor
set_option linter.unusedVariables false
set_option linter.unusedSimpArgs false
open Go.RowKit

/-- an object's bytes, and how many ahead -/
def recB (o : O) : List Int := putB (encB o).length ++ encB o
def encI (L : List O) (f : Int) : List Int := allB [(L.length : Int), f] ++ L.flatMap recB
def encE (L : List O) (f : Int) : Int := if imgOk L f = true then (if (encI L f).length ≤ 262144 then 0 else 3) else 180
def encV (L : List O) (f : Int) : List Int := if encE L f = 0 then encI L f else []
theorem app_bytes2 {w : World} {base : Nat} {S : Nat → Prop} {v sv : Value} {l m : List Int} (h : OwnB w base v l) (hs : ByteS w S sv m) (hl : l.length + m.length ≤ 1000000000) (hB : base ≤ w.heap.size) (ty : TypeId) :
    ∃ A c w', (Builtin.append_ #[39, 39] ty #[v, sv]).run Tryd.prog w = .ok (.slice A (l ++ m).length c) w' ∧ OwnB w' base (.slice A (l ++ m).length c) (l ++ m) ∧ Chg (fun k => v.ownBlock = some k) w w' := by
  obtain ⟨v', w4, hr, ho, hg⟩ := run_app elem_u8 (by decide) h hs.1 (one_ints _ m) (by unfold maxLen; omega) (by omega) hB ty
  have e : OwnB w4 base v' (l ++ m) := by
    unfold OwnB
    rw [List.length_append, List.map_append]
    exact ho
  obtain ⟨A, c, rfl⟩ := e.form
  exact ⟨A, c, w4, hr, e, (Chg.refl _ _).grown hg (fun k hk => .inl hk)⟩
theorem okB_encB {o : O} (h : okB o = true) : (encB o).length ≤ 5012 := by
  obtain ⟨-, h1, h2, -⟩ := okB_cases h
  rw [encB_len]
  omega
theorem recB_len (o : O) : (recB o).length = 4 + (encB o).length := by simp [recB, putB]; omega
theorem recs_len : ∀ (L : List O), L.all okB = true → (L.flatMap recB).length ≤ 5016 * L.length
  | [], _ => by simp
  | o :: r, h => by
    rw [List.all_cons, Bool.and_eq_true] at h
    have h1 := okB_encB h.1
    have h2 := recs_len r h.2
    rw [List.flatMap_cons, List.length_append, recB_len, List.length_cons]
    omega
theorem imgOk_all {L : List O} {f : Int} (h : imgOk L f = true) : L.all okB = true ∧ L.length ≤ 2000 ∧ 4 ≤ L.length ∧ namedOk f = true ∧ namedV f ≤ L.length := by
  unfold imgOk at h
  simp only [Bool.and_eq_true, decide_eq_true_eq] at h
  exact ⟨h.2.2.2.2.2.2.1, h.2.1, h.1, h.2.2.2.2.1, h.2.2.2.2.2.1⟩
theorem Int2.ofRow {w : World} {r : Nat} {t : TypeId} {a b : Int} (h : Row w r t #[.int .i64 a, .int .i64 b]) (ha : In64 a) (hb : In64 b) : IntS w (fun b => b = r) (.slice (some ⟨r, 0, none⟩) 2 2) [a, b] :=
  IntS.ofRow (l := [a, b]) h (by simp) (by intro x hx; simp at hx; rcases hx with rfl | rfl <;> assumption)
/-- what Encode gives -/
def ImgEnc (w : World) (l : List Int) (e : Int) (v : Value) (w' : World) : Prop := ∃ u, v = .tuple #[u, .int .i64 e] ∧ OwnB w' w.heap.size u l ∧ Chg No w w'

set_option maxRecDepth 100000 in
set_option maxHeartbeats 2000000 in
theorem ImgEncode_any (lv : Value) (T : List T3) (f : Int) (f64 : In64 f) (w : World) (h : RefT w (fun _ => True) lv T) (hm : T.length ≤ 1000000000) (ht : Tabs w) : Calls Tryd.prog 26 #[.agg #[lv, .int .i64 f]] w (Ret (ImgEnc w (encV (T.map (·.1)) f) (encE (T.map (·.1)) f))) := by
  obtain ⟨A, n, c, rfl⟩ : ∃ A n c, lv = .slice A n c := by
    obtain ⟨⟨A, c, e, -⟩, -⟩ := h
    exact ⟨A, _, c, e⟩
  obtain rfl : T.length = n := by
    obtain ⟨⟨A', c', e, -⟩, -⟩ := h
    exact (Value.slice.inj e).2.1.symm
  have HT := Lib.hid h
  have HTB := Lib.hid ht
  clear h ht
  generalize hn : T.length = n at *
  have HTN := Lib.hid hn
  have HN := Lib.hid (show (T.map (·.1)).length = n by rw [List.length_map]; exact hn)
  have row := Row.new w 24 #[.slice A n c, .int .i64 f]
  have cA : Chg No w (w.alloc (.cells #[.slice A n c, .int .i64 f] 24)) := (Chg.refl _ _).alloc _
  have HA := Lib.hid (And.intro row cA)
  clear row cA hn
  unfold encV
  by_cases hok : imgOk (T.map (·.1)) f = true
  · have HCK := Lib.hid (show imgE (T.map (·.1)) f = 0 by unfold imgE; rw [if_pos hok])
    obtain ⟨hall, hn2, -⟩ := imgOk_all hok
    rw [HN.out] at hn2
    have HALL := Lib.hid hall
    have hee : encE (T.map (·.1)) f = if (encI (T.map (·.1)) f).length ≤ 262144 then 0 else 3 := by unfold encE; rw [if_pos hok]
    obtain ⟨ee, hee2⟩ : ∃ x, encE (T.map (·.1)) f = x := ⟨_, rfl⟩
    rw [hee2] at hee ⊢
    obtain ⟨ev, hev⟩ : ∃ v, (if ee = 0 then encI (T.map (·.1)) f else []) = v := ⟨_, rfl⟩
    rw [hev]
    have HEV := Lib.hid hev
    clear hev
    have HEE := Lib.hid hee
    have hlen : (encI (T.map (·.1)) f).length ≤ 20000000 := by
      unfold encI
      have := recs_len _ hall
      rw [List.length_append, allB_len]
      rw [HN.out] at this
      rw [show ([((T.map (·.1)).length : Int), f] : List Int).length = 2 from rfl]
      omega
    have HL := Lib.hid hlen
    have n64 : In64 (n : Int) := by unfold In64; omega
    clear hok hall hee hee2 hlen
    go_enter Tryd.func26, Tryd.ntmps26
    go_wp2_with (first
      | (go_at_call 11
         refine (ImgCheck_any _ T f f64 _ (HT.out.keep HA.out.2 (fun _ _ g => g)) (by rw [HTN.out]; unfold maxLen; omega) (HTB.out.keep HA.out.2)).mono ?_
         rw [HCK.out]
         rintro e w1 ⟨rfl, c1⟩
         have r1 := HA.out.1.keep c1 (fun g => g)
         have xI := r1.cell 0
         have xF := r1.cell 1
         simp at xI xF
         have H1 := Lib.hid (HA.out.2.trans c1)
         clear c1 r1)
      | (go_at_call 50
         refine (All_any0 _ [(n : Int), f] _ _ (Int2.ofRow (Row.new _ _ _) n64 f64) (by simp)).mono ?_
         rintro e w2 ⟨v2, rfl, ho2, c2⟩
         obtain ⟨A2, d2, rfl⟩ : ∃ A c, v2 = .slice A 8 c := ho2.form
         have cA2 : Chg No w1 (w1.alloc (.cells #[.int .i64 (n : Int), .int .i64 f] 3)) := (Chg.refl _ _).alloc _
         have xI2 : w2.cell? ⟨w.heap.size, 0, none⟩ = some (.slice A n c) := ((cA2.trans c2).cell (World.block_lt_of_cell? w1 _ xI) (fun g => g)).trans xI
         have H2 := Lib.hid (And.intro (ho2.base (base' := w.heap.size) (by have := H1.out.size; have := cA2.size; omega)) (H1.out.trans (cA2.trans c2)))
         clear ho2 c2 cA2)
      | fail)
    go_loopg [5, 25] n (fun j v5 v25 wr => ∃ (i p : Nat) (A5 : Option Addr) (d5 : Nat), v25 = .int .i64 (i : Int) ∧ v5 = .slice A5 p d5 ∧ i ≤ n ∧ n - i ≤ j ∧ OwnB wr w.heap.size (.slice A5 p d5) (allB [(n : Int), f] ++ ((T.map (·.1)).take i).flatMap recB) ∧ p ≤ 8 + 5016 * i ∧ (allB [(n : Int), f] ++ ((T.map (·.1)).take i).flatMap recB).length = p ∧ Chg No w wr)
    case atStart => exact ⟨0, 8, A2, d2, rfl, rfl, by omega, by omega, by rw [List.take_zero, List.flatMap_nil, List.append_nil]; exact H2.out.1, by omega, rfl, H2.out.2⟩
    case round =>
      obtain ⟨i, p, A5, d5, rfl, rfl, i1, i2, own, hp, hpl, cw⟩ := hrel
      by_cases hi : i < n
      · have t6 : decide ((i : Int) < (n : Int)) = true := decide_eq_true (by omega)
        have l6 : (i : Int) < (n : Int) := by omega
        obtain ⟨⟨x, wv2, bv2⟩, hti⟩ : ∃ t, T[i]? = some t := ⟨_, List.getElem?_eq_getElem (by rw [HTN.out]; exact hi)⟩
        have hokx : okB x = true := List.all_eq_true.1 HALL.out x (List.mem_map.2 ⟨_, List.mem_of_getElem? hti, rfl⟩)
        have hxl := okB_encB hokx
        obtain ⟨b, off, rfl, -, hbl, hok, z0, z1, z2, z3⟩ := (HT.out.keep cw (fun _ _ g => g)).at hti
        dsimp only at hok z0 z1 z2 z3
        have HO := Lib.hid (show ObjR wr _ (.agg (cells2 x wv2 bv2)) x from ⟨wv2, bv2, rfl, hok⟩)
        have HBB := Lib.hid (encB_bd (o := x) hok.2.1.2)
        obtain ⟨A4, c4, hA4, -⟩ := hok.1.form
        obtain ⟨A6, c6, hA6, -⟩ := hok.2.1.form
        dsimp only at hA4 hA6
        subst hA4 hA6
        have hsn : allB [(n : Int), f] ++ ((T.map (·.1)).take (i + 1)).flatMap recB = (allB [(n : Int), f] ++ ((T.map (·.1)).take i).flatMap recB) ++ putB (encB x).length ++ encB x := by
          rw [List.take_add_one, List.getElem?_map, hti]
          simp [recB]
        obtain ⟨acc, hacc⟩ : ∃ acc, allB [(n : Int), f] ++ ((T.map (·.1)).take i).flatMap recB = acc := ⟨_, rfl⟩
        rw [hacc] at own hpl hsn
        have HS := Lib.hid (And.intro hsn hpl)
        have HC := Lib.hid (And.intro own cw)
        have HKX := Lib.hid hokx
        clear hok hti own cw hsn hacc hokx hpl
        simp only [cells2] at HO
        obtain ⟨nb, hnb⟩ : ∃ nb, (encB x).length = nb := ⟨_, rfl⟩
        rw [hnb] at hxl
        have HNB := Lib.hid hnb
        clear hnb
        go_wp2_with (first
          | (go_at_call 51
             refine (Encode_ok _ x _ _ (HO.out.keep ((Chg.refl No _).alloc _) (fun _ _ f => f)) HKX.out).mono ?_
             rintro e w5 ⟨v5, rfl, u5, rfl, ho5, c5⟩
             obtain ⟨A7, d7, rfl⟩ : ∃ A c, u5 = .slice A nb c := by have := ho5.form; rwa [HNB.out] at this
             have H5 := Lib.hid (And.intro ho5 (((Chg.refl No wr).alloc _).trans c5))
             clear ho5 c5)
          | (go_at_call 52
             refine (Put_any (nb : Int) w5).mono ?_
             rintro e w6 ⟨v6, rfl, rfl, ho6, c6⟩
             have c06 := H5.out.2.trans c6
             obtain ⟨A8, d8, w7, hr7, ho7, cg7⟩ := app_bytes2 (HC.out.1.keep c06 (fun _ _ f => f)) (ho6.bytes (putB_bd _)) (by rw [HS.out.2]; simp [putB]; omega) (Nat.le_trans HC.out.2.size c06.size) 39
             have hb7 : ByteS w7 _ (.slice A7 nb d7) (encB x) := ((H5.out.1.bytes HBB.out).keep c6 (fun _ _ f => f)).keep cg7 (fun b hb h => by
               have := (HC.out.1.lt _ h).2
               simp at hb
               omega)
             have c07 : Chg No w w7 := (HC.out.2.trans c06).then cg7 (fun k hk h => absurd (HC.out.1.lt _ h).1 (by omega))
             have hq4 : (acc ++ putB (nb : Int)).length = p + 4 := by rw [List.length_append, HS.out.2]; rfl
             obtain ⟨A9, d9, w8, hr8, ho8, cg8⟩ := app_bytes2 ho7 hb7 (by rw [hq4, HNB.out]; omega) c07.size 39
             have hq8 : (acc ++ putB (nb : Int) ++ encB x).length = p + 4 + nb := by rw [List.length_append, hq4, HNB.out]
             have c08 : Chg No w w8 := c07.then cg8 (fun k hk h => absurd (ho7.lt _ h).1 (by omega))
             rw [hq4] at hr7 hr8 ho7
             rw [hq8] at hr8 ho8
             have HR7 := Lib.hid hr7
             have HR8 := Lib.hid hr8
             have H8 := Lib.hid (And.intro ho8 (And.intro hq8 c08))
             clear ho6 c6 c06 hr7 ho7 cg7 hb7 c07 hq4 hr8 ho8 cg8 hq8 c08)
          | (at_builtin; refine wpList_append_run rfl _ _ _ rfl rfl rfl HR7.out ?_)
          | (at_builtin; refine wpList_append_run rfl _ _ _ rfl rfl rfl HR8.out ?_)
          | fail)
        go_roundg (n - (i + 1))
        case measure => omega
        case rel =>
          refine ⟨i + 1, p + 4 + nb, A9, d9, by go_num, rfl, by omega, by omega, ?_, by omega, ?_, H8.out.2.2⟩
          · rw [HS.out.1, HNB.out]
            exact H8.out.1
          · rw [HS.out.1, HNB.out]
            exact H8.out.2.1
      · have t6 : decide ((i : Int) < (n : Int)) = false := decide_eq_false (by omega)
        obtain rfl : i = n := by omega
        rw [List.take_of_length_le (by rw [HN.out]; exact Nat.le_refl _), show allB [(i : Int), f] ++ (T.map (·.1)).flatMap recB = encI (T.map (·.1)) f by unfold encI; rw [HN.out]] at own hpl
        rw [hpl] at HEE
        have HC := Lib.hid (And.intro own cw)
        by_cases hbig : 262144 < p
        · have t7 : decide (262144 < (p : Int)) = true := decide_eq_true (by omega)
          obtain rfl : ee = 3 := by rw [HEE.out, if_neg (by omega)]
          obtain rfl : ev = [] := by rw [← HEV.out, if_neg (by decide)]
          clear own hpl cw
          go_wp2_with fail
          go_ret2
          exact Ret.mk ⟨_, rfl, OwnB.nil _ _, HC.out.2⟩
        · have t7 : decide (262144 < (p : Int)) = false := decide_eq_false (by omega)
          obtain rfl : ee = 0 := by rw [HEE.out, if_pos (by omega)]
          obtain rfl : ev = encI (T.map (·.1)) f := by rw [← HEV.out, if_pos rfl]
          clear own hpl cw
          go_wp2_with fail
          go_ret2
          exact Ret.mk ⟨_, rfl, HC.out.1, HC.out.2⟩
  · have hok' : imgOk (T.map (·.1)) f = false := by simpa using hok
    have HCK := Lib.hid (show imgE (T.map (·.1)) f = 180 by unfold imgE; rw [if_neg hok])
    have hee : encE (T.map (·.1)) f = 180 := by unfold encE; rw [if_neg hok]
    rw [hee, if_neg (by decide)]
    clear hok hok' hee
    go_enter Tryd.func26, Tryd.ntmps26
    go_wp2_with (first
      | (go_at_call 11
         refine (ImgCheck_any _ T f f64 _ (HT.out.keep HA.out.2 (fun _ _ g => g)) (by rw [HTN.out]; unfold maxLen; omega) (HTB.out.keep HA.out.2)).mono ?_
         rw [HCK.out]
         rintro e w1 ⟨rfl, c1⟩
         have r1 := HA.out.1.keep c1 (fun g => g)
         have xI := r1.cell 0
         have xF := r1.cell 1
         simp at xI xF
         have H1 := Lib.hid (HA.out.2.trans c1)
         clear c1 r1)
      | fail)
    go_ret2
    exact Ret.mk ⟨_, rfl, OwnB.nil _ _, H1.out⟩

end Go.Proofs.YtncoanmgifgcbaaDoor
