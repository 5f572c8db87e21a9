/- image.Snap, over a flat memory: the walk. -/
import Derived.Test.YtncoanmgifgcbaaDoorSnapO
import Derived.Test.YtncoanmgifgcbaaDoorImgO
import Derived.Test.YtncoanmgifgcbaaDoorSameP
import Derived.Deep.RegionHeld3
import Derived.Deep.CutRange
namespace Go.Proofs.YtncoanmgifgcbaaDoor
set_option linter.unusedVariables false
set_option linter.unusedSimpArgs false
open Go.RowKit
open Go.ChangeMaps (setBlock)

theorem oop_ok {k : Int} (h : 1 ≤ k ∧ k ≤ 1073741823) (w : World) : Calls Tryd.prog 32 #[.int .i64 k] w fun e w' => e = .returned (.int .i64 (2 * k)) ∧ w = w' := by
  have h1 := Oop_any k (by unfold In64; omega) w
  rw [if_pos h] at h1
  exact h1
theorem frI_even {all : List Int} {o y : Int} (h : frI all o = some y) : numOk o = false := by
  unfold frI at h
  cases h0 : all.findIdx? (fun x => 2 * x == o) with
  | none => rw [h0] at h; cases h
  | some i =>
    obtain ⟨hi, hp, -⟩ := List.findIdx?_eq_some_iff_getElem.1 h0
    simp at hp
    unfold numOk
    exact decide_eq_false (by omega)
/-- so many are changed -/
def partI (f : Int → Int) (X : List Int) (q : Nat) : List Int := (X.take q).map f ++ X.drop q
theorem partI_len (f : Int → Int) (X : List Int) (q : Nat) : (partI f X q).length = X.length := by simp [partI]; omega
theorem partI_get (f : Int → Int) {X : List Int} {q : Nat} (h : q < X.length) : (partI f X q)[q]? = X[q]? := by
  unfold partI
  rw [List.getElem?_append_right (by simp; omega)]
  simp [Nat.min_eq_left (Nat.le_of_lt h)]
theorem partI_set (f : Int → Int) {X : List Int} {q : Nat} {x : Int} (h : X[q]? = some x) : (partI f X q).set q (f x) = partI f X (q + 1) := by
  obtain ⟨hq, hx⟩ := List.getElem?_eq_some_iff.1 h
  unfold partI
  rw [List.set_append_right _ _ (by simp; omega), List.length_map, List.length_take, Nat.min_eq_left (Nat.le_of_lt hq), Nat.sub_self, List.take_add_one, h, List.drop_eq_getElem_cons hq, List.set_cons_zero]
  simp
theorem own_frz {w : World} {base g n c : Nat} {l : List Int} (h : OwnInts w base (.slice (some ⟨g, 0, none⟩) n c) l) (j : Nat) : w.frozen? ⟨g, j, none⟩ = false := by
  obtain ⟨A, c', e⟩ := h.form
  obtain ⟨rfl, rfl, rfl⟩ := Value.slice.inj e
  exact World.ownsRow.frozenAt h j
/-- one word is changed -/
theorem own_part {w : World} {base g n c : Nat} {f : Int → Int} {X : List Int} {q : Nat} {x : Int} (h : OwnInts w base (.slice (some ⟨g, 0, none⟩) n c) (partI f X q)) (hx : X[q]? = some x) : OwnInts (w.setCell ⟨g, q, none⟩ (.int .i64 (f x))) base (.slice (some ⟨g, 0, none⟩) n c) (partI f X (q + 1)) := by
  obtain ⟨A, c', e⟩ := h.form
  obtain ⟨rfl, rfl, rfl⟩ := Value.slice.inj e
  have h1 := (World.ownsRow.stored h q (.int .i64 (f x))).1
  rw [← List.map_set, partI_set f hx] at h1
  unfold OwnInts
  rw [partI_len f X q] at h1
  rw [partI_len f X (q + 1)]
  simpa only [partI_len] using h1
theorem Outs.keepF {F : Nat → Prop} {base : Nat} {wr wr' : World} {v : Value} {T : List T3} (h : Outs base wr v T) (c : Chg F wr wr') (hF : ∀ b, base ≤ b → ¬ F b) : Outs base wr' v T :=
  ⟨own_keep h.own c (fun b hb => hF b (own_ge h.own hb)), fun t ht => (h.el t ht).keep c (fun b hb => hF b hb.1)⟩
theorem partI_zero (f : Int → Int) (X : List Int) : partI f X 0 = X := by simp [partI]
theorem partI_all (f : Int → Int) {X : List Int} {n : Nat} (h : X.length = n) : partI f X n = X.map f := by
  subst h
  simp [partI]
theorem renI_64 {all : List Int} {o : Int} (ho : In64 o) (hl : all.length < 1073741823) : In64 (renI all o) := by
  unfold renI
  split
  · exact ho
  · cases h : frI all o with
    | none => show In64 2; unfold In64; omega
    | some y =>
      have := frI_bd h
      show In64 y
      unfold In64
      omega
theorem named_two {k : Int} (h : 1 ≤ k ∧ k ≤ 1073741823) : namedV (2 * k) = k := by
  unfold namedV
  rw [if_pos (by omega)]
  omega
theorem IntS.takeK {w : World} {S : Nat → Prop} {A : Option Addr} {n c : Nat} {l : List Int} (h : IntS w S (.slice A n c) l) (k : Nat) (hk : k ≤ l.length) : IntS w S (.slice A k c) (l.take k) := by
  obtain ⟨⟨A', c', e, e1, e2, e3, e4, e5⟩, h2⟩ := h
  obtain ⟨rfl, rfl, rfl⟩ := Value.slice.inj e
  have hl : (l.take k).length = k := by rw [List.length_take]; omega
  refine ⟨⟨A, c, by rw [hl], by rw [List.length_map, hl, Nat.mul_one], by rw [hl]; omega, e3, e4, fun h0 => ?_⟩, fun x hx => h2 x (List.mem_of_mem_take hx)⟩
  rw [hl] at h0
  obtain ⟨b, off, e6, e7, e8, e9⟩ := e5 (by omega)
  refine ⟨b, off, e6, e7, e8, fun i u hu => e9 i u ?_⟩
  rw [List.getElem?_map] at hu ⊢
  by_cases hi : i < k
  · rw [List.getElem?_take, if_pos hi] at hu
    exact hu
  · rw [List.getElem?_eq_none (by rw [hl]; omega)] at hu
    cases hu
/-- the roots -/
def rootsI (f : Int) (rs : List Int) : List Int := [2, 4, 6, 8, f] ++ rs
/-- may what is taken be an image? -/
noncomputable def snapOk (L : List O) (all : List Int) (f : Int) : Bool := decide (all.take 4 = [1, 2, 3, 4]) && imgOk (snapL L all) (snapF all f)
/-- what Snap gives -/
def Snapped (L : List O) (all : List Int) (f : Int) (w : World) (e : Ending) (w' : World) : Prop :=
  ∃ v T g k, e = .returned (.tuple #[.agg #[v, .int .i64 g], .int .i64 k]) ∧ Chg No w w' ∧ RefT w' (fun b => w.heap.size ≤ b) v T ∧
    ((snapOk L all f = true ∧ T.map (·.1) = snapL L all ∧ g = snapF all f ∧ k = 0) ∨ (snapOk L all f = false ∧ T = [] ∧ g = 0 ∧ k = 180))
theorem RefT.nil (w : World) (S : Nat → Prop) : RefT w S (.slice none 0 0) [] := ⟨Slc.nil _ _ _, by simp⟩

section
variable {w0 w : World} {m : Nat} {L : List O} {K : (Nat → Prop) → World → Prop}
set_option maxRecDepth 100000 in
set_option maxHeartbeats 6000000 in
theorem snap_any (h : MemK w0 w m L K) (f : Int) (f64 : In64 f) (v2 : Value) (rs : List Int) (S : Nat → Prop) (hr : IntS w S v2 rs) (hl : rs.length ≤ 100000) (ht : Tabs w) :
    Calls Tryd.prog 13 #[.iface 27 (.pointer (some ⟨m, 0, none⟩)), .int .i64 f, v2] w (Snapped L (nearI L (numsOf (rootsI f rs))) f w) := by
  have hmd := h.made
  have H := Lib.hid h
  obtain ⟨Ar, cr, rfl, -⟩ := hr.form
  obtain ⟨w1, hw1⟩ : ∃ W, w.alloc (.cells #[.slice none 0 0, .int .i64 0] 24) = W := ⟨_, rfl⟩
  have c01 : Chg No w w1 := by rw [← hw1]; exact (Chg.refl _ _).alloc _
  have s01 : w1.heap.size = w.heap.size + 1 := by rw [← hw1]; simp
  have row6 : Row w1 w.heap.size 24 #[.slice none 0 0, .int .i64 0] := by rw [← hw1]; exact Row.new w _ _
  have c1 : Chg No w1 (w1.alloc (.cells #[.int .i64 2, .int .i64 4, .int .i64 6, .int .i64 8, .int .i64 f] 3)) := (Chg.refl _ _).alloc _
  have r5 := Row.new w1 3 #[.int .i64 2, .int .i64 4, .int .i64 6, .int .i64 8, .int .i64 f]
  have o5 : OwnInts (w1.alloc (.cells #[.int .i64 2, .int .i64 4, .int .i64 6, .int .i64 8, .int .i64 f] 3)) w1.heap.size (.slice (some ⟨w1.heap.size, 0, none⟩) 5 5) [2, 4, 6, 8, f] := own_of_row r5 (by simp) (Nat.le_refl _) (by unfold maxLen; simp)
  obtain ⟨A9, c9, w2, hr2, ho2, cg2, -⟩ := app_own o5 (hr.1.keep (c01.trans c1) (fun _ _ f => f)) (by simp; omega) (by simp) 36
  have c2 : Chg No w1 w2 := c1.then cg2 (fun k hk e => by simp [Value.ownBlock] at e; omega)
  have hnear := near_any (L := L) (h.world c01) c2 _ _ ho2 (by
    intro x hx
    rcases List.mem_append.1 hx with hx | hx
    · simp at hx
      rcases hx with rfl | rfl | rfl | rfl | rfl
      · unfold In64; omega
      · unfold In64; omega
      · unfold In64; omega
      · unfold In64; omega
      · exact f64
    · exact hr.2 x hx) (by simp; omega)
  have c2s := c2.size
  rw [s01, ← hw1] at hr2
  have HR2 := Lib.hid hr2
  have HNE := Lib.hid hnear
  have H2 := Lib.hid (And.intro c01 row6)
  clear h hr c1 r5 o5 hr2 ho2 cg2 c2 hnear row6 c01 hw1
  unfold rootsI
  obtain ⟨all, hall⟩ : ∃ l, nearI L (numsOf ([2, 4, 6, 8, f] ++ rs)) = l := ⟨_, rfl⟩
  rw [hall] at HNE ⊢
  have HAL := Lib.hid (And.intro hall (And.intro (show ∀ x ∈ all, 1 ≤ x ∧ x ≤ L.length from fun x hx => nearI_bd (by rw [hall]; exact hx)) (show all.Nodup by rw [← hall]; exact (nearI_rising L _).imp fun {a b} hab => by omega)))
  have hln : all.length ≤ L.length := by
    have h1 := nodup_len_le (l := all) (m := (List.range L.length).map fun i : Nat => (i : Int) + 1) HAL.out.2.2 fun x hx => by
      have := HAL.out.2.1 x hx
      exact List.mem_map.2 ⟨(x - 1).toNat, List.mem_range.2 (by omega), by omega⟩
    simpa using h1
  clear hall
  generalize hn : all.length = n at *
  have HN := Lib.hid hn
  have hmk := fun w => run_makeMap (P := Tryd.prog) 71 w
  go_enter Tryd.func13, Tryd.ntmps13
  go_wp2_with (first
    | (at_builtin; refine wpList_append_run rfl _ _ _ rfl rfl rfl HR2.out ?_)
    | (go_at_call 33
       refine HNE.out.mono ?_
       rintro e w3 ⟨u, rfl, ho3, c3⟩
       obtain ⟨A3, k3, rfl⟩ := ho3.form
       rw [hn] at ho3 ⊢
       have H3 := Lib.hid (And.intro ho3 c3)
       clear ho3 c3)
    | fail)
  clear hmk hn
  have hb1s : w1.heap.size ≤ w3.heap.size := H3.out.2.size
  generalize hbm : w3.heap.size = bm at *
  generalize hW4 : World.alloc (World.alloc w3 _) _ = W4
  have c34 : Chg No w3 W4 := by rw [← hW4]; exact ((Chg.refl _ _).alloc _).alloc _
  have fr0 : FreshI W4 bm [] [] := by
    rw [← hW4, ← hbm]
    exact ⟨(IMap.new w3).keep (F := No) ((Chg.refl _ _).alloc _) (fun f => f), fun o => rfl⟩
  have rbx : Row W4 (bm + 1) 71 #[.map (some bm)] := by rw [← hW4, ← hbm]; simpa using Row.new (w3.alloc (.map #[] 0)) 71 #[.map (some w3.heap.size)]
  have sW4 : W4.heap.size = bm + 2 := by rw [← hW4, ← hbm]; simp
  have own4 := own_keep H3.out.1 c34 (fun _ _ f => f)
  have hlt4 : ∀ b, (Value.slice A3 n k3).ownBlock = some b → b < bm := fun b hb => by have := (own_ltI H3.out.1 hb).1; omega
  have H4 := Lib.hid (And.intro (H3.out.2.trans c34) (And.intro own4 (And.intro rbx (And.intro sW4 (And.intro hlt4 (H2.out.2))))))
  have HF0 := Lib.hid fr0
  clear c34 fr0 rbx own4 hlt4 hW4 hbm sW4
  go_loopg [31] n (fun j v31 wr => ∃ (i : Nat) (sl : List (Int × Value)), v31 = .int .i64 (i : Int) ∧ i ≤ n ∧ n - i ≤ j ∧ FreshI wr bm (all.take i) sl ∧ Chg (fun b => b = bm) W4 wr)
  case atStart => exact ⟨0, [], rfl, by omega, by omega, HF0.out, Chg.refl _ _⟩
  case round =>
    clear HF0
    obtain ⟨i, sl, rfl, i1, i2, hfr, cw⟩ := hrel
    have hown : OwnInts wr (w2.heap.size + 1) (.slice A3 n k3) all := own_keep H4.out.2.1 cw (fun b hb e => by have := H4.out.2.2.2.2.1 b hb; omega)
    have hbx := (H4.out.2.2.1.keep cw (by omega)).cell 0
    simp at hbx
    by_cases hi : i < n
    · have t1 : decide ((i : Int) < (n : Int)) = true := decide_eq_true (by omega)
      have l1 : (i : Int) < (n : Int) := by omega
      have wi : IntKind.i64.wrap ((i : Int) + 1) = (i : Int) + 1 := IntWalk.i64_in _ (by omega)
      obtain ⟨ga, rfl, hga, hgal, -, hca⟩ := hown.at (i := i) (by rw [HN.out]; exact hi)
      obtain ⟨id, hid⟩ : ∃ y, all[i]? = some y := ⟨_, List.getElem?_eq_getElem (by rw [HN.out]; exact hi)⟩
      rw [hid, Option.getD_some, Nat.zero_add] at hca
      have hib := HAL.out.2.1 id (List.mem_of_getElem? hid)
      have hts : all.take (i + 1) = all.take i ++ [id] := by rw [List.take_add_one, hid]; rfl
      have hnid : id ∉ all.take i := fun hm => by
        have hnd : (all.take i ++ [id]).Nodup := by rw [← hts]; exact HAL.out.2.2.sublist (List.take_sublist _ _)
        rw [List.nodup_append] at hnd
        exact hnd.2.2 id hm id (by simp) rfl
      obtain ⟨ob, hset⟩ := hfr.set hnid
      rw [show (all.take i).length = i by rw [List.length_take]; have := HN.out; omega, ← hts] at hset
      have ok1 : 1 ≤ id ∧ id ≤ 1073741823 := by omega
      have ok2 : 1 ≤ (i : Int) + 1 ∧ (i : Int) + 1 ≤ 1073741823 := by omega
      have e1 : ∀ v, Chg No wr v → v.cell? ⟨bm + 1, 0, none⟩ = some (.map (some bm)) := fun v hv => (hv.cell (by have := cw.size; have := H4.out.2.2.2.1; dsimp only; omega) (fun f => f)).trans hbx
      have hml := hfr.map.lt
      have HSE := Lib.hid hset
      have HCW := Lib.hid cw
      clear hset hfr hown hid hnid hts cw
      go_wp2_with fail
      refine rem_start (by kernel_rfl) (by kernel_rfl) ?_
      refine rem_quiet 6 (C := (Chg No wr)) (by kernel_rfl) (by simp only [List.toList_toArray, List.drop_succ_cons, List.drop_zero, List.take_succ_cons, List.take_zero, Nat.reduceSub, Nat.reduceAdd]; rfl) ?_ ?_
      · exact (Chg.refl _ _).drew
      repeat
        refine q_step (fun K hK => ?_)
        go_simp
        first
          | ((with_reducible refine hK _ ?_); clear hK K)
          | (refine (if_neg (by simp [undef])).mpr ?_; (with_reducible refine hK _ ?_); clear hK K)
          | (apply Exists.intro
             with_reducible refine ⟨fun v hv => ?_, hK _ ?_⟩
             · first
                 | with_reducible exact rfl
                 | with_reducible exact ⟨rfl, rfl⟩
                 | (go_simp
                    first
                      | done
                      | with_reducible exact rfl
                      | with_reducible exact ⟨rfl, rfl⟩
                      | (go_at_call 32; refine (oop_ok (by first | exact ok1 | exact ok2) _).mono ?_; rintro e w5 ⟨rfl, rfl⟩; exact ⟨rfl, hv⟩))
             clear hK K)
      refine q_nil ?_
      intro V hV
      have hu := HSE.out V (hV.block bm hml (fun f => f))
      obtain ⟨W6, hW6⟩ : ∃ W, setBlock V bm ob = W := ⟨_, rfl⟩
      rw [hW6] at hu
      have c6 : Chg (fun b => b = bm) V W6 := by rw [← hW6]; exact Chg.setBlock (F := fun b => b = bm) (Chg.refl _ _) (.inl rfl) ob
      obtain ⟨hu1, hu2⟩ := hu
      have H6 := Lib.hid (And.intro hu2 (HCW.out.trans (hV.no.trans c6)))
      clear hu2 c6 hW6 HSE
      refine rem_one (by kernel_rfl) (by kernel_rfl) rfl (by kernel_rfl) (fun K hK => ?_)
      go_wp2_with fail
      refine rem_end (by kernel_rfl) ?_
      go_wp2_with fail
      go_roundg (n - (i + 1))
      case measure => omega
      case rel => exact ⟨i + 1, _, by go_num, by omega, by omega, H6.out.1, H6.out.2⟩
    · obtain rfl : i = n := by omega
      have t1 : decide ((i : Int) < (i : Int)) = false := decide_eq_false (by omega)
      rw [List.take_of_length_le (by rw [HN.out]; exact Nat.le_refl _)] at hfr
      have HFR := Lib.hid hfr
      have HCW := Lib.hid cw
      have sWr := cw.size
      have sW4 := H4.out.2.2.2.1
      clear hfr cw hown hi i1 i2
      go_upto_region 10 with (first
        | (go_at_call 34
           refine (renamed_any HFR.out hbx f f64).mono ?_
           rintro e w5 ⟨rfl, rfl⟩)
        | fail)
      obtain ⟨W5, hW5⟩ : ∃ W, wr.alloc (.cells #[.slice none 0 0, .int .i64 (renI all f)] 24) = W := ⟨_, rfl⟩
      rw [hW5]
      have c5 : Chg No wr W5 := by rw [← hW5]; exact (Chg.refl _ _).alloc _
      have r5 : Row W5 wr.heap.size 24 #[.slice none 0 0, .int .i64 (renI all f)] := by rw [← hW5]; exact Row.new wr _ _
      have hb5 : W5.cell? ⟨bm + 1, 0, none⟩ = some (.map (some bm)) := (c5.cell (by dsimp only; omega) (fun f => f)).trans hbx
      have hlk := (HFR.out.keep c5 (fun f => f)).look f
      have s5 : W5.heap.size = wr.heap.size + 1 := by rw [← hW5]; simp
      have H5 := Lib.hid (And.intro c5 (And.intro r5 s5))
      clear hW5 r5 c5 s5
      obtain ⟨ov, hov⟩ : ∃ y, frI all f = y := ⟨_, rfl⟩
      rw [hov] at hlk
      have HOV := Lib.hid hov
      clear hov
      go_upto_if 55 with (fail)
      go_cut [14] from 54 to 56 (fun s14 wq => Row wq wr.heap.size 24 #[.slice none 0 0, .int .i64 (snapF all f)] ∧ Chg (fun b => b = wr.heap.size) W5 wq)
      case first =>
        cases ov with
        | none =>
          have f1 := H5.out.2.1.frozen 1
          have k1 : W5.cell? ⟨wr.heap.size, 1, none⟩ = some (.int .i64 (renI all f)) := H5.out.2.1.cell 1
          simp only [Option.isSome_none]
          go_wp2_with fail
          go_meet
          case rel =>
            refine ⟨?_, Chg.setCell (F := fun b => b = wr.heap.size) (p := ⟨wr.heap.size, 1, none⟩) (Chg.refl _ _) (.inl rfl) _⟩
            rw [show snapF all f = 2 by unfold snapF; rw [HOV.out]; rfl]
            exact H5.out.2.1.set 1 (.int .i64 2)
        | some y =>
          go_wp2_with fail
          go_meet
          case rel =>
            refine ⟨?_, Chg.refl _ _⟩
            rw [show snapF all f = y by unfold snapF; rw [HOV.out]; rfl]
            have h1 := H5.out.2.1
            unfold renI at h1
            rw [if_neg (by rw [frI_even HOV.out]; simp), HOV.out] at h1
            exact h1
      case rest =>
        obtain ⟨rowc, cc⟩ := hcut
        have sc := cc.size
        have s5 := H5.out.2.2
        have sWr2 : bm + 2 ≤ wr.heap.size := by have := HCW.out.size; have := H4.out.2.2.2.1; omega
        have cw5 : Chg (fun b => b = bm) W4 W5 := HCW.out.trans H5.out.1.no
        have c1c : Chg No w1 wc := Chg.then (Chg.then H4.out.1 cw5 (fun b hb e => by omega)) cc (fun b hb e => by omega)
        have ownc : OwnInts wc (w2.heap.size + 1) (.slice A3 i k3) all := own_keep (own_keep H4.out.2.1 cw5 (fun b hb e => by have := H4.out.2.2.2.2.1 b hb; omega)) cc (fun b hb e => by have := H4.out.2.2.2.2.1 b hb; omega)
        have hb0 : wc.cell? ⟨bm + 1, 0, none⟩ = some (.map (some bm)) := (cc.cell (by dsimp only; omega) (by dsimp only; omega)).trans hb5
        have hfrc : FreshI wc bm all sl := (HFR.out.keep H5.out.1 (fun f => f)).keep cc (by omega)
        have hltc : ∀ b, (Value.slice A3 i k3).ownBlock = some b → b < bm := H4.out.2.2.2.2.1
        generalize hbX : wr.heap.size = bX at *
        have HC := Lib.hid (And.intro c1c (And.intro ownc (And.intro hb0 (And.intro hfrc (And.intro rowc hltc)))))
        clear cc rowc c1c ownc hb0 hfrc hltc hlk cw5 hb5
        obtain ⟨wl, rfl⟩ : ∃ W, W = wc := ⟨_, rfl⟩
        generalize hbase : wl.heap.size = base at *
        have HBS := Lib.hid hbase
        clear hbase
        go_wp2_with fail
        go_loopg [59] i (fun j v59 wr => ∃ (p : Nat) (T : List T3) (v : Value), v59 = .int .i64 (p : Int) ∧ p ≤ i ∧ i - p ≤ j ∧ T.length = p ∧ T.map (·.1) = (all.take p).map (fun id => renO all (objV L (2 * id))) ∧ Outs base wr v T ∧ Row wr bX 24 #[v, .int .i64 (snapF all f)] ∧ Chg (fun b => b = bX) wl wr)
        case atStart => exact ⟨0, [], _, rfl, by omega, by omega, rfl, by simp, Outs.nil _ _, HC.out.2.2.2.2.1, Chg.refl _ _⟩
        case round =>
          obtain ⟨wo, rfl⟩ : ∃ W, W = wr := ⟨_, rfl⟩
          obtain ⟨p, T, v, rfl, p1, p2, hTl, hTm, ho, row7, cw⟩ := hrel
          obtain ⟨Av, cv, rfl⟩ := ho.form
          rw [hTl] at ho row7
          have own1 : OwnInts wo (w2.heap.size + 1) (.slice A3 i k3) all := own_keep HC.out.2.1 cw (fun b hb e => by have := HC.out.2.2.2.2.2 b hb; omega)
          have hbsl := HBS.out
          have hb1 : wo.cell? ⟨bm + 1, 0, none⟩ = some (.map (some bm)) := (cw.cell (by dsimp only; omega) (by dsimp only; omega)).trans HC.out.2.2.1
          have hfr1 : FreshI wo bm all sl := HC.out.2.2.2.1.keep cw (by omega)
          have c1w : Chg No w1 wo := Chg.then HC.out.1 cw (fun b hb e => by omega)
          have s1w : base ≤ wo.heap.size := by have := cw.size; omega
          clear hbsl
          have HO := Lib.hid (And.intro hTl (And.intro hTm (And.intro ho (And.intro row7 cw))))
          clear hTl hTm ho row7 cw
          by_cases hp : p < i
          · have t1 : decide ((p : Int) < (i : Int)) = true := decide_eq_true (by omega)
            have l1 : (p : Int) < (i : Int) := by omega
            have wi : IntKind.i64.wrap ((p : Int) + 1) = (p : Int) + 1 := IntWalk.i64_in _ (by omega)
            obtain ⟨ga, rfl, hga, hgal, -, hca⟩ := own1.at (i := p) (by rw [HN.out]; exact hp)
            obtain ⟨id, hid⟩ : ∃ y, all[p]? = some y := ⟨_, List.getElem?_eq_getElem (by rw [HN.out]; exact hp)⟩
            rw [hid, Option.getD_some, Nat.zero_add] at hca
            have hib := HAL.out.2.1 id (List.mem_of_getElem? hid)
            have hlv : live L (namedV (2 * id)) := by
              rw [named_two (by omega)]
              exact (mem_nearI.1 (by rw [HAL.out.1]; exact List.mem_of_getElem? hid)).there
            have o64 : In64 (2 * id) := by unfold In64; omega
            have ok1 : 1 ≤ id ∧ id ≤ 1073741823 := by omega
            obtain ⟨x, hx⟩ : ∃ x, objV L (2 * id) = x := ⟨_, rfl⟩
            have hxok : x.ok := H.out.okAt' (by rw [← hx]; exact (objE_live hlv).2) hlv
            have HX := Lib.hid hx
            have HXO := Lib.hid hxok
            have HID := Lib.hid (And.intro hid hlv)
            have HW := Lib.hid (And.intro c1w (And.intro hfr1 hb1))
            have a3 := ahead_ObjP ⟨m, 0, none⟩
            have a4 := meth_ObjP ⟨m, 0, none⟩
            clear own1 hid hlv c1w hfr1 hx hxok
            go_upto_region 16 with (fail)
            go_cut [18, 19] from 63 to 72 (fun s18 s19 wq => ∃ bO A c B d, s18 = .pointer (some ⟨bO, 0, none⟩) ∧ Row wq bO 41 #[.int .i64 x.cls, .int .i64 x.kind, .slice A x.W.length c, .slice B x.B.length d] ∧ Mine wq wo.heap.size x A c B d ∧ wo.heap.size ≤ bO ∧ (∀ b, (Value.slice A x.W.length c).ownBlock = some b ∨ (Value.slice B x.B.length d).ownBlock = some b → b ≠ bO) ∧ Chg No wo wq)
            case first =>
              go_region_law (first
                | (go_simp; go_at_call 32
                   refine (oop_ok ok1 _).mono ?_
                   rintro e w5 ⟨rfl, rfl⟩)
                | (go_simp; go_at_call 156
                   refine (k_ObjM (H.out.world (H2.out.1.trans (HW.out.1.trans (by repeat (with_reducible first | assumption | exact Chg.refl _ _ | refine Chg.drew ?_ | refine Chg.alloc ?_ _))))) (2 * id) o64 HID.out.2).mono ?_
                   rw [HX.out]
                   rintro e w6 ⟨A5, d5, A6, d6, rfl, hm6, c6⟩
                   first
                     | (have r0 : Row w6 wo.heap.size 41 #[.int .i64 0, .int .i64 0, .slice none 0 0, .slice none 0 0] := (Row.new wo.drew 41 _).keep c6 (fun f => f)
                        have k0 : w6.cell? ⟨wo.heap.size, 0, none⟩ = some (.int .i64 0) := r0.cell 0
                        have k1 : w6.cell? ⟨wo.heap.size, 1, none⟩ = some (.int .i64 0) := r0.cell 1
                        have k2 : w6.cell? ⟨wo.heap.size, 2, none⟩ = some (.slice none 0 0) := r0.cell 2
                        have k3 : w6.cell? ⟨wo.heap.size, 3, none⟩ = some (.slice none 0 0) := r0.cell 3
                        have f0 := r0.frozen 0
                        have f1 := r0.frozen 1
                        have f2 := r0.frozen 2
                        have f3 := r0.frozen 3)
                     | skip
                   have HM := Lib.hid (And.intro hm6 c6)
                   clear hm6 c6)
                | fail)
              all_goals
                first
                  | (generalize hWW : World.alloc w6 _ = W5
                     have hc5 : Chg No w6 W5 := by rw [← hWW]; exact (Chg.refl _ _).alloc _
                     have hrow : Row W5 w6.heap.size 41 #[.int .i64 x.cls, .int .i64 x.kind, .slice A5 x.W.length d5, .slice A6 x.B.length d6] := by rw [← hWW]; exact Row.new w6 _ _
                     have hmn : Mine W5 wo.heap.size x A5 d5 A6 d6 := HM.out.1.keep hc5 (fun _ _ f => f)
                     have hap : ∀ b, (Value.slice A5 x.W.length d5).ownBlock = some b ∨ (Value.slice A6 x.B.length d6).ownBlock = some b → b ≠ w6.heap.size := fun b hb => by have := (HM.out.1.ge hb).2; omega
                     have hge : wo.heap.size ≤ w6.heap.size := HM.out.2.size
                     have hcc : Chg No wo W5 := ((Chg.refl _ wo).drew).trans (HM.out.2.trans hc5))
                  | (generalize hWW : World.setCell _ _ _ = W5
                     have hc5 : Chg (fun b => b = wo.heap.size) w6 W5 := by
                       rw [← hWW]
                       repeat (with_reducible first | exact Chg.refl _ _ | refine Chg.setCell ?_ (.inl (by simp)) _)
                     have hrow : Row W5 wo.heap.size 41 #[.int .i64 x.cls, .int .i64 x.kind, .slice A5 x.W.length d5, .slice A6 x.B.length d6] := by
                       rw [← hWW]
                       have := (((r0.set 0 (.int .i64 x.cls)).set 1 (.int .i64 x.kind)).set 2 (.slice A5 x.W.length d5)).set 3 (.slice A6 x.B.length d6)
                       simpa using this
                     have hm0 : Mine w6 (wo.heap.size + 1) x A5 d5 A6 d6 := by simpa using HM.out.1
                     have hmn : Mine W5 wo.heap.size x A5 d5 A6 d6 := (hm0.keep hc5 (fun b hb e => by have := (hm0.ge hb).1; omega)).weak (Nat.le_succ _)
                     have hap : ∀ b, (Value.slice A5 x.W.length d5).ownBlock = some b ∨ (Value.slice A6 x.B.length d6).ownBlock = some b → b ≠ wo.heap.size := fun b hb => by have := (hm0.ge hb).1; omega
                     have hge : wo.heap.size ≤ wo.heap.size := Nat.le_refl _
                     have hcc : Chg No wo W5 := Chg.then (((Chg.refl _ wo).drew.alloc _).trans HM.out.2) hc5 (fun k hk e => by omega)
                     clear r0 k0 k1 k2 k3 f0 f1 f2 f3 hm0)
                have HFF := Lib.hid (And.intro hrow (And.intro hmn (And.intro hge (And.intro hap hcc))))
                clear hWW hc5 hrow hmn hap hge hcc
                go_wp2_with fail
                go_meet
                case rel => exact ⟨_, A5, d5, A6, d6, rfl, HFF.out.1, HFF.out.2.1, HFF.out.2.2.1, HFF.out.2.2.2.1, HFF.out.2.2.2.2⟩
            case rest =>
              obtain ⟨bO, A5, d5, A6, d6, rfl, rowO, mine, hbO, hne, cO⟩ := hcut
              obtain ⟨W7, hW7⟩ : ∃ W, wc.setCell ⟨bO, 0, none⟩ (.int .i64 (renI all x.cls)) = W := ⟨_, rfl⟩
              have x0 : wc.cell? ⟨bO, 0, none⟩ = some (.int .i64 x.cls) := rowO.cell 0
              have x0f := rowO.frozen 0
              have hb2 : wc.cell? ⟨bm + 1, 0, none⟩ = some (.map (some bm)) := (cO.cell (by dsimp only; omega) (fun f => f)).trans hb1
              have c7 : Chg (fun b => b = bO) wc W7 := by rw [← hW7]; exact Chg.setCell (F := fun b => b = bO) (p := ⟨bO, 0, none⟩) (Chg.refl _ _) (.inl rfl) _
              have rowO7 : Row W7 bO 41 #[.int .i64 (renI all x.cls), .int .i64 x.kind, .slice A5 x.W.length d5, .slice A6 x.B.length d6] := by rw [← hW7]; exact rowO.set 0 _
              have x2 : W7.cell? ⟨bO, 2, none⟩ = some (.slice A5 x.W.length d5) := rowO7.cell 2
              have mine7 : Mine W7 wo.heap.size x A5 d5 A6 d6 := mine.keep c7 (fun b hb e => hne b hb e)
              have cO7 : Chg No wo W7 := Chg.then cO c7 (fun b hb e => by omega)
              have hfr2 := Lib.hid (HW.out.2.1.keep cO (fun f => f))
              have hltO := rowO7.lt
              have H7 := Lib.hid hW7
              have HM7 := Lib.hid (And.intro mine7 (And.intro rowO7 (And.intro cO7 hne)))
              clear mine7 rowO7 cO7 hne mine rowO cO c7 hW7
              generalize hnW : x.W.length = nW at *
              have HNW := Lib.hid hnW
              clear hnW
              go_wp2_with (first
                | (rw [H7.out])
                | (go_at_call 34
                   refine (renamed_any hfr2.out hb2 x.cls (named64 HXO.out.1)).mono ?_
                   rintro e w5 ⟨rfl, rfl⟩)
                | fail)
              go_loopg [81] nW (fun j v81 wr => ∃ q : Nat, v81 = .int .i64 (q : Int) ∧ q ≤ nW ∧ nW - q ≤ j ∧ OwnInts wr wo.heap.size (.slice A5 nW d5) (partI (renI all) x.W q) ∧ Chg (fun b => (Value.slice A5 nW d5).ownBlock = some b) W7 wr)
              case atStart => exact ⟨0, rfl, by omega, by omega, by rw [partI_zero]; have h1 := HM7.out.1.1; rw [HNW.out] at h1; exact h1, Chg.refl _ _⟩
              case round =>
                obtain ⟨q, rfl, q1, q2, hown, cq⟩ := hrel
                have hsn := cq.size
                have hWO : ∀ b, (Value.slice A5 nW d5).ownBlock = some b → b ≠ bO ∧ wo.heap.size ≤ b := fun b hb => by
                  have hb' : (Value.slice A5 x.W.length d5).ownBlock = some b := by rw [HNW.out]; exact hb
                  exact ⟨HM7.out.2.2.2 b (.inl hb), (HM7.out.1.ge (.inl hb')).1⟩
                have rowO8 : Row wr bO 41 #[.int .i64 (renI all x.cls), .int .i64 x.kind, .slice A5 nW d5, .slice A6 x.B.length d6] := by
                  exact HM7.out.2.1.keep cq (fun e => (hWO _ e).1 rfl)
                have cO8 : Chg No wo wr := Chg.then HM7.out.2.2.1 cq (fun b hb e => by have := (hWO b e).2; omega)
                have hfr8 : FreshI wr bm all sl := HW.out.2.1.keep cO8 (fun f => f)
                have hb8 : wr.cell? ⟨bm + 1, 0, none⟩ = some (.map (some bm)) := (cO8.cell (by dsimp only; omega) (fun f => f)).trans hb1
                by_cases hq : q < nW
                · have t2 : decide ((q : Int) < (nW : Int)) = true := decide_eq_true (by omega)
                  have l2 : (q : Int) < (nW : Int) := by omega
                  have wq : IntKind.i64.wrap ((q : Int) + 1) = (q : Int) + 1 := IntWalk.i64_in _ (by have := HXO.out.2.2.1; have := HNW.out; omega)
                  obtain ⟨y, hy⟩ : ∃ y, x.W[q]? = some y := ⟨_, List.getElem?_eq_getElem (by rw [HNW.out]; exact hq)⟩
                  obtain ⟨g, rfl, hg, hgl, -, hcy⟩ := hown.at (i := q) (by rw [partI_len, HNW.out]; exact hq)
                  rw [partI_get _ (by rw [HNW.out]; exact hq), hy, Option.getD_some, Nat.zero_add] at hcy
                  have y64 : In64 y := HXO.out.wIn y (List.mem_of_getElem? hy)
                  have hgO : g ≠ bO ∧ wo.heap.size ≤ g := hWO g rfl
                  have e2 : ∀ v, Chg No wr v → v.cell? ⟨bO, 2, none⟩ = some (.slice (some ⟨g, 0, none⟩) nW d5) := fun v hv => (rowO8.keep hv (fun f => f)).cell 2
                  have hfz := own_frz hown q
                  have HF8 := Lib.hid (And.intro hfr8 hb8)
                  have HQ := Lib.hid (And.intro hown (And.intro cq hy))
                  have HL8 := Lib.hid (And.intro hb8 (show bm + 1 < wr.heap.size by omega))
                  clear hfr8 hb8 hown cq hy rowO8 cO8 hWO
                  go_wp2_with fail
                  refine rem_start (by kernel_rfl) (by kernel_rfl) ?_
                  refine rem_quiet 7 (C := (Chg No wr)) (by kernel_rfl) (by simp only [List.toList_toArray, List.drop_succ_cons, List.drop_zero, List.take_succ_cons, List.take_zero, Nat.reduceSub, Nat.reduceAdd]; rfl) ?_ ?_
                  · exact (Chg.refl _ _).drew
                  repeat
                    refine q_step (fun K hK => ?_)
                    go_simp
                    first
                      | ((with_reducible refine hK _ ?_); clear hK K)
                      | (refine (if_neg (by simp [undef])).mpr ?_; (with_reducible refine hK _ ?_); clear hK K)
                      | (apply Exists.intro
                         with_reducible refine ⟨fun v hv => ?_, hK _ ?_⟩
                         · first
                             | with_reducible exact rfl
                             | with_reducible exact ⟨rfl, rfl⟩
                             | (go_simp
                                first
                                  | done
                                  | with_reducible exact rfl
                                  | with_reducible exact ⟨rfl, rfl⟩
                                  | (go_at_call 34; refine (renamed_any (HF8.out.1.keep hv (fun f => f)) ((hv.cell HL8.out.2 (fun f => f)).trans HL8.out.1) y y64).mono ?_; rintro e w5 ⟨rfl, rfl⟩; exact ⟨rfl, hv⟩))
                         clear hK K)
                  refine q_nil ?_
                  intro V hV
                  have hcV := (hV.cell (p := ⟨g, q, none⟩) hgl (fun f => f)).trans hcy
                  have hfV := (hV.frozen (p := ⟨g, q, none⟩) hgl (fun f => f)).trans hfz
                  refine rem_one (by kernel_rfl) (by kernel_rfl) rfl (by kernel_rfl) (fun K hK => ?_)
                  go_wp2_with fail
                  refine rem_end (by kernel_rfl) ?_
                  go_wp2_with fail
                  go_roundg (nW - (q + 1))
                  case measure => omega
                  case rel => exact ⟨q + 1, by go_num, by omega, by omega, own_part (own_keep HQ.out.1 hV (fun _ _ f => f)) HQ.out.2.2, Chg.setCell (F := fun b => (Value.slice (some ⟨g, 0, none⟩) nW d5).ownBlock = some b) (p := ⟨g, q, none⟩) (HQ.out.2.1.trans hV.no) (.inl rfl) _⟩
                · obtain rfl : q = nW := by omega
                  have t2 : decide ((q : Int) < (q : Int)) = false := decide_eq_false (by omega)
                  rw [partI_all _ HNW.out] at hown
                  have hbown : wr.ownsRow wo.heap.size 5 1 (.slice A6 x.B.length d6) x.B.length (x.B.map (.int .u8)) := own_keep HM7.out.1.2 cq (fun b hb e => HM7.out.1.apart (by rw [HNW.out]; exact e) hb)
                  have hbsl := HBS.out
                  have bXb : bX < base := by omega
                  have hoW := HO.out.2.2.1.keep cO8
                  have row78 := HO.out.2.2.2.1.keep cO8 (fun f => f)
                  have oW := HO.out.2.2.1
                  obtain ⟨o', ho'⟩ : ∃ y, renO all x = y := ⟨_, rfl⟩
                  have e0 : o'.cls = renI all x.cls := by rw [← ho']; rfl
                  have e1 : o'.kind = x.kind := by rw [← ho']; rfl
                  have e2 : o'.W = x.W.map (renI all) := by rw [← ho']; rfl
                  have e3 : o'.B = x.B := by rw [← ho']; rfl
                  have e4 : o'.W.length = q := by rw [e2, List.length_map]; exact HNW.out
                  have hall64 : all.length < 1073741823 := by rw [HN.out]; omega
                  have hokT : okT wr (fun b => base ≤ b ∧ ¬ (Value.slice Av p cv).ownBlock = some b) (o', .slice A5 o'.W.length d5, .slice A6 o'.B.length d6) := by
                    have hS : ∀ b, wo.heap.size ≤ b → base ≤ b ∧ ¬ (Value.slice Av p cv).ownBlock = some b := fun b hb => ⟨by omega, fun e => by have := oW.lt e; omega⟩
                    refine ⟨⟨?_, ?_⟩, ⟨?_, ?_⟩, ?_, ?_⟩
                    · dsimp only
                      rw [e4, e2]
                      unfold OwnInts at hown
                      rw [List.length_map, HNW.out] at hown
                      exact (Slc.of_own hown).more fun b _ hb => hS b (hown.lt b hb).1
                    · dsimp only
                      rw [e2]
                      intro z hz
                      obtain ⟨y, hy, rfl⟩ := List.mem_map.1 hz
                      exact renI_64 (HXO.out.wIn y hy) hall64
                    · dsimp only
                      rw [e3]
                      exact (Slc.of_own hbown).more fun b _ hb => hS b (hbown.lt b hb).1
                    · dsimp only
                      rw [e3]
                      exact HXO.out.bIn
                    · dsimp only
                      rw [e0]
                      exact renI_64 (named64 HXO.out.1) hall64
                    · dsimp only
                      rw [e1]
                      exact HXO.out.kind64
                  have cA : Chg No wr (wr.alloc (.cells #[.int .i64 o'.cls, .int .i64 o'.kind, .slice A5 o'.W.length d5, .slice A6 o'.B.length d6] 41)) := (Chg.refl _ _).alloc _
                  obtain ⟨A9, c9, w9, hr9, ho9, cg9⟩ := Outs.app (hoW.keep cA) (Nat.le_trans (Nat.le_trans s1w cO8.size) cA.size) (by rw [HO.out.1]; omega) (Row.new wr 41 #[.int .i64 o'.cls, .int .i64 o'.kind, .slice A5 o'.W.length d5, .slice A6 o'.B.length d6]) (hokT.keep cA (fun _ _ f => f)) 22
                  rw [HO.out.1] at hr9 ho9
                  have row9 := (row78.keep cA (fun f => f)).keep cg9 (fun e => by have := own_ge oW.own e; omega)
                  have cw9 : Chg (fun b => b = bX) wl w9 := Chg.then (HO.out.2.2.2.2.trans ((cO8.trans cA).no)) cg9 (fun b hb e => by have := own_ge oW.own e; omega)
                  have hTm' : (T ++ [((o', Value.slice A5 o'.W.length d5, Value.slice A6 o'.B.length d6) : T3)]).map (·.1) = (all.take (p + 1)).map (fun id => renO all (objV L (2 * id))) := by
                    rw [List.map_append, HO.out.2.1, List.take_add_one, HID.out.1, List.map_append]
                    simp only [List.map_cons, List.map_nil, Option.toList_some]
                    rw [HX.out, ho']
                  rw [e0, e1, e4, e3] at hr9
                  have z0 : wr.cell? ⟨bX, 0, none⟩ = some (.slice Av p cv) := row78.cell 0
                  have z9 : w9.cell? ⟨bX, 0, none⟩ = some (.slice Av p cv) := row9.cell 0
                  have z9f := row9.frozen 0
                  have u0 : wr.cell? ⟨bO, 0, none⟩ = some (.int .i64 (renI all x.cls)) := rowO8.cell 0
                  have u1 : wr.cell? ⟨bO, 1, none⟩ = some (.int .i64 x.kind) := rowO8.cell 1
                  have u2 : wr.cell? ⟨bO, 2, none⟩ = some (.slice A5 q d5) := rowO8.cell 2
                  have u3 : wr.cell? ⟨bO, 3, none⟩ = some (.slice A6 x.B.length d6) := rowO8.cell 3
                  have c99 : Chg (fun b => b = bX) w9 (w9.setCell ⟨bX, 0, none⟩ (.slice A9 (p + 1) c9)) := Chg.setCell (F := fun b => b = bX) (p := ⟨bX, 0, none⟩) (Chg.refl _ _) (.inl rfl) _
                  have HR := Lib.hid hr9
                  have HE := Lib.hid (And.intro hTm' (And.intro (ho9.keepF c99 (fun b hb e => by omega)) (And.intro (row9.set 0 (.slice A9 (p + 1) c9)) (cw9.trans c99))))
                  clear hr9 ho9 row9 cw9 hTm' c99 cg9 hokT cA oW hoW row78 hbown hown cq rowO8 cO8 hfr8 hb8 hWO bXb hbsl e0 e1 e2 e3 e4 ho'
                  go_wp2_with (first
                    | (at_builtin; refine wpList_append_run rfl _ _ _ rfl rfl rfl HR.out ?_)
                    | fail)
                  go_roundg (i - (p + 1))
                  case measure => omega
                  case rel => exact ⟨p + 1, _, _, by go_num, by omega, by omega, by rw [List.length_append, HO.out.1]; rfl, HE.out.1, HE.out.2.1, HE.out.2.2.1, HE.out.2.2.2⟩
          · obtain rfl : p = i := by omega
            have t1 : decide ((p : Int) < (p : Int)) = false := decide_eq_false (by omega)
            have hTS : T.map (·.1) = snapL L all := by
              have h1 := HO.out.2.1
              rw [List.take_of_length_le (by rw [HN.out]; exact Nat.le_refl _)] at h1
              exact h1
            have hrow6 : ∀ v, Chg No wo v → Row v w.heap.size 24 #[.slice none 0 0, .int .i64 0] := fun v hv => H2.out.2.keep (c1w.trans hv) (fun f => f)
            have hrow7 : ∀ v, Chg No wo v → Row v bX 24 #[.slice Av p cv, .int .i64 (snapF all f)] := fun v hv => HO.out.2.2.2.1.keep hv (fun f => f)
            have hT64 : ∀ x ∈ all, In64 x := fun x hx => by have := HAL.out.2.1 x hx; unfold In64; omega
            have hints : IntS wo (fun b => True) (.slice A3 p k3) all := (IntS.of_own own1 hT64).more (fun _ _ _ => trivial)
            have htabs : Tabs wo := ht.keep (H2.out.1.trans c1w)
            have hsz1 := H2.out.1.size
            by_cases h4 : 4 ≤ p
            · have t4 : decide ((p : Int) < 4) = false := decide_eq_false (by omega)
              have l4 : (4 : Int) ≤ (p : Int) := by omega
              obtain ⟨ga, rfl, hga, hgal, -, -⟩ := own1.at (i := 0) (by rw [HN.out]; omega)
              have hk3 : p ≤ k3 := by
                obtain ⟨A', c', e, -, e2, -⟩ := hints.1
                obtain ⟨-, -, rfl⟩ := Value.slice.inj e
                rw [HN.out] at e2
                exact e2
              have lk : (4 : Int) ≤ (k3 : Int) := by omega
              have hlit := Row.new wo 3 #[.int .i64 1, .int .i64 2, .int .i64 3, .int .i64 4]
              have cL : Chg No wo (wo.alloc (.cells #[.int .i64 1, .int .i64 2, .int .i64 3, .int .i64 4] 3)) := (Chg.refl _ _).alloc _
              have hI4 : IntS (wo.alloc (.cells #[.int .i64 1, .int .i64 2, .int .i64 3, .int .i64 4] 3)) (fun b => b = wo.heap.size) (.slice (some ⟨wo.heap.size, 0, none⟩) 4 4) [1, 2, 3, 4] := IntS.ofRow (l := [1, 2, 3, 4]) hlit (by simp) (by intro x hx; simp at hx; unfold In64; omega)
              have hA4 := (hints.takeK 4 (by rw [HN.out]; exact h4)).keep cL (fun _ _ f => f)
              have HE := Lib.hid (EqI_any _ _ _ _ _ _ _ hA4 hI4)
              have HCL := Lib.hid cL
              clear hlit hI4 hA4 hints cL own1
              by_cases heq : all.take 4 = [1, 2, 3, 4]
              · have de : decide (all.take 4 = [1, 2, 3, 4]) = true := decide_eq_true heq
                rw [de] at HE
                have hcheck := fun W hW => ImgCheck_any (.slice Av p cv) T (snapF all f) (by
                  unfold snapF
                  cases h : frI all f with
                  | none => show In64 2; unfold In64; omega
                  | some y =>
                    have := frI_bd h
                    have := HN.out
                    show In64 y
                    unfold In64
                    omega) W ((HO.out.2.2.1.keep (wr' := W) hW).ref.more (fun _ _ _ => trivial)) (by rw [HO.out.1]; unfold maxLen; omega) (htabs.keep hW)
                rw [hTS] at hcheck
                have hok : snapOk L all f = imgOk (snapL L all) (snapF all f) := by unfold snapOk; rw [de, Bool.true_and]
                cases hi : imgOk (snapL L all) (snapF all f) with
                | true =>
                  rw [show imgE (snapL L all) (snapF all f) = 0 by unfold imgE; rw [hi]; rfl] at hcheck
                  have HCK := Lib.hid hcheck
                  have HNO := Lib.hid (hok.trans hi)
                  have H67 := Lib.hid (And.intro hrow6 hrow7)
                  clear hcheck hok hi hrow6 hrow7 heq de
                  go_wp2_with (first
                    | (go_at_call 36
                       refine HE.out.mono ?_
                       rintro e w5 ⟨rfl, c5⟩
                       have c05 := HCL.out.trans c5
                       have v0 : w5.cell? ⟨bX, 0, none⟩ = some (.slice Av p cv) := (H67.out.2 _ c05).cell 0
                       have v1 : w5.cell? ⟨bX, 1, none⟩ = some (.int .i64 (snapF all f)) := (H67.out.2 _ c05).cell 1
                       have H5 := Lib.hid c05
                       clear c5 c05)
                    | (go_at_call 11
                       refine (HCK.out _ H5.out).mono ?_
                       rintro e w6 ⟨rfl, c6⟩
                       have c06 := H5.out.trans c6
                       have v60 : w6.cell? ⟨bX, 0, none⟩ = some (.slice Av p cv) := (H67.out.2 _ c06).cell 0
                       have v61 : w6.cell? ⟨bX, 1, none⟩ = some (.int .i64 (snapF all f)) := (H67.out.2 _ c06).cell 1
                       have y0 : w6.cell? ⟨w.heap.size, 0, none⟩ = some (.slice none 0 0) := (H67.out.1 _ c06).cell 0
                       have y1 : w6.cell? ⟨w.heap.size, 1, none⟩ = some (.int .i64 0) := (H67.out.1 _ c06).cell 1
                       have yf := (H67.out.1 _ c06).frozen
                       have H6 := Lib.hid c06
                       clear c6 c06)
                    | fail)
                  have hF : ∀ U, Chg (fun b => b = w.heap.size) w6 U → Chg No w U ∧ RefT U (fun b => w.heap.size ≤ b) (.slice Av p cv) T := fun U hU => by
                    have hb := HBS.out
                    refine ⟨Chg.then (H2.out.1.trans (c1w.trans H6.out)) hU (fun b hb e => by omega), ?_⟩
                    exact ((HO.out.2.2.1.keep H6.out).ref.keep hU (fun b hb e => by omega)).more (fun b _ hb => by omega)
                  refine bodyPost_ret (v := .tuple #[.agg #[.slice Av p cv, .int .i64 (snapF all f)], .int .i64 0]) (by simp [results, Tryd.results13, go_sem, y0, y1]) rfl ⟨_, T, _, _, rfl, (hF _ ?_).1, (hF _ ?_).2, .inl ⟨HNO.out, hTS, rfl, rfl⟩⟩
                  · repeat (with_reducible first | exact Chg.refl _ _ | refine Chg.setCell ?_ (.inl (by simp)) _)
                  · repeat (with_reducible first | exact Chg.refl _ _ | refine Chg.setCell ?_ (.inl (by simp)) _)
                | false =>
                  rw [show imgE (snapL L all) (snapF all f) = 180 by unfold imgE; rw [hi]; rfl] at hcheck
                  have HCK := Lib.hid hcheck
                  have HNO := Lib.hid (hok.trans hi)
                  have H67 := Lib.hid (And.intro hrow6 hrow7)
                  clear hcheck hok hi hrow6 hrow7 heq de
                  go_wp2_with (first
                    | (go_at_call 36
                       refine HE.out.mono ?_
                       rintro e w5 ⟨rfl, c5⟩
                       have c05 := HCL.out.trans c5
                       have v0 : w5.cell? ⟨bX, 0, none⟩ = some (.slice Av p cv) := (H67.out.2 _ c05).cell 0
                       have v1 : w5.cell? ⟨bX, 1, none⟩ = some (.int .i64 (snapF all f)) := (H67.out.2 _ c05).cell 1
                       have H5 := Lib.hid c05
                       clear c5 c05)
                    | (go_at_call 11
                       refine (HCK.out _ H5.out).mono ?_
                       rintro e w6 ⟨rfl, c6⟩
                       have c06 := H5.out.trans c6
                       have y0 : w6.cell? ⟨w.heap.size, 0, none⟩ = some (.slice none 0 0) := (H67.out.1 _ c06).cell 0
                       have y1 : w6.cell? ⟨w.heap.size, 1, none⟩ = some (.int .i64 0) := (H67.out.1 _ c06).cell 1
                       have yf := (H67.out.1 _ c06).frozen
                       have H6 := Lib.hid c06
                       clear c6 c06)
                    | fail)
                  refine bodyPost_ret (v := .tuple #[.agg #[.slice none 0 0, .int .i64 0], .int .i64 180]) (by simp [results, Tryd.results13, go_sem, y0, y1]) rfl ⟨_, [], _, _, rfl, ?_, RefT.nil _ _, .inr ⟨HNO.out, rfl, rfl, rfl⟩⟩
                  have cF := H2.out.1.trans (c1w.trans H6.out)
                  repeat (with_reducible first | exact cF | refine Chg.setCell ?_ (.inr (by simp)) _)
              · have de : decide (all.take 4 = [1, 2, 3, 4]) = false := decide_eq_false heq
                rw [de] at HE
                have hno : snapOk L all f = false := by unfold snapOk; rw [de, Bool.false_and]
                have HNO := Lib.hid hno
                have HY := Lib.hid hrow6
                clear hrow6 hrow7 hno heq de
                go_wp2_with (first
                  | (go_at_call 36
                     refine HE.out.mono ?_
                     rintro e w5 ⟨rfl, c5⟩
                     have c05 := HCL.out.trans c5
                     have y0 : w5.cell? ⟨w.heap.size, 0, none⟩ = some (.slice none 0 0) := (HY.out _ c05).cell 0
                     have y1 : w5.cell? ⟨w.heap.size, 1, none⟩ = some (.int .i64 0) := (HY.out _ c05).cell 1
                     have yf := (HY.out _ c05).frozen
                     have H5 := Lib.hid c05
                     clear c5 c05)
                  | fail)
                refine bodyPost_ret (v := .tuple #[.agg #[.slice none 0 0, .int .i64 0], .int .i64 180]) (by simp [results, Tryd.results13, go_sem, y0, y1]) rfl ⟨_, [], _, _, rfl, ?_, RefT.nil _ _, .inr ⟨HNO.out, rfl, rfl, rfl⟩⟩
                have cF := H2.out.1.trans (c1w.trans H5.out)
                repeat (with_reducible first | exact cF | refine Chg.setCell ?_ (.inr (by simp)) _)
            · have t4 : decide ((p : Int) < 4) = true := decide_eq_true (by omega)
              have hno : snapOk L all f = false := by
                unfold snapOk
                rw [decide_eq_false, Bool.false_and]
                intro e
                have h1 := congrArg List.length e
                rw [List.length_take, HN.out] at h1
                simp at h1
                omega
              have HNO := Lib.hid hno
              have y0 : wo.cell? ⟨w.heap.size, 0, none⟩ = some (.slice none 0 0) := (hrow6 _ (Chg.refl _ _)).cell 0
              have y1 : wo.cell? ⟨w.heap.size, 1, none⟩ = some (.int .i64 0) := (hrow6 _ (Chg.refl _ _)).cell 1
              have yf := (hrow6 _ (Chg.refl _ _)).frozen
              clear hrow6 hrow7 hints own1 hno
              go_wp2_with fail
              refine bodyPost_ret (v := .tuple #[.agg #[.slice none 0 0, .int .i64 0], .int .i64 180]) (by simp [results, Tryd.results13, go_sem, y0, y1]) rfl ⟨_, [], _, _, rfl, ?_, RefT.nil _ _, .inr ⟨HNO.out, rfl, rfl, rfl⟩⟩
              have cF := H2.out.1.trans (c1w.trans (Chg.refl _ _))
              repeat (with_reducible first | exact cF | refine Chg.setCell ?_ (.inr (by simp)) _)
end

end Go.Proofs.YtncoanmgifgcbaaDoor
