/- Objects on a disk: second.Space: Ids, Drop. -/
import Derived.Test.YtdpmmafkomchaaaGreatSecOR
import Derived.Test.YtdpmmafkomchaaaGreatSecT
namespace Go.Proofs.YtdpmmafkomchaaaGreat
set_option linter.unusedVariables false
set_option linter.unusedSimpArgs false
open Go.RowKit
open Go.ChangeMaps (setBlock)

theorem IntS.take {w : World} {S : Nat → Prop} {A : Option Addr} {n c : Nat} {l : List Int} (h : IntS w S (.slice A n c) l) (k : Nat) (hk : k ≤ l.length) : IntS w S (.slice A k c) (l.take k) := by
  obtain ⟨⟨A', c', e, e1, e2, e3, e4, e5⟩, h2⟩ := h
  obtain ⟨rfl, rfl, rfl⟩ := Value.slice.inj e
  have hl : (l.take k).length = k := by rw [List.length_take]; omega
  refine ⟨⟨A, c, by rw [hl], by rw [List.length_map, hl, Nat.mul_one], by rw [hl]; omega, e3, e4, fun h0 => ?_⟩, fun x hx => h2 x (List.mem_of_mem_take hx)⟩
  rw [hl] at h0
  obtain ⟨b, off, e6, e7, e8, e9⟩ := e5 (by omega)
  refine ⟨b, off, e6, e7, e8, fun i u hu => e9 i u ?_⟩
  rw [List.getElem?_map] at hu ⊢
  by_cases hi : i < k
  · rw [List.getElem?_take, if_pos hi] at hu
    exact hu
  · rw [List.getElem?_eq_none (by rw [hl]; omega)] at hu
    cases hu

theorem rise_len : ∀ (l : List Int) (a b : Int), l.Pairwise (· < ·) → (∀ x ∈ l, a < x ∧ x ≤ b) → a ≤ b → (l.length : Int) ≤ b - a
  | [], a, b, _, _, h => by simp; omega
  | x :: l, a, b, hp, hb, h => by
    rw [List.pairwise_cons] at hp
    have hx := hb x List.mem_cons_self
    have ih := rise_len l x b hp.2 (fun y hy => ⟨hp.1 y hy, (hb y (List.mem_cons_of_mem _ hy)).2⟩) hx.2
    rw [List.length_cons]
    omega
section
variable {w : World} {Q : SB} {N made : Nat} {L : List Rw} {es : List (Int × Value)}
theorem SecI.len (H : SecI w Q N L made es) : L.length ≤ 1048576 := by
  have := rise_len (L.map Rw.id) 0 made (rising_iff.1 H.rise) (fun x hx => by
    obtain ⟨r, hr, rfl⟩ := List.mem_map.1 hx
    have := H.ids r hr
    omega) (by omega)
  rw [List.length_map] at this
  have := H.max
  omega
/-- the table's keys are the numbers -/
theorem SecI.keys (H : SecI w Q N L made es) : (L.map Rw.id).Perm (es.map (·.1)) := by
  refine (List.perm_ext_iff_of_nodup ?_ H.tab.nodup).2 fun k => ?_
  · exact (rising_iff.1 H.rise).imp fun {a b} h => by omega
  · have hg := H.get k
    constructor
    · intro hk
      obtain ⟨r, hr, rfl⟩ := List.mem_map.1 hk
      rw [lk_of_mem H.rise hr] at hg
      exact List.mem_map.2 ⟨_, mget_some_mem hg, rfl⟩
    · intro hk
      cases he : lk L k with
      | none =>
        rw [he] at hg
        exact absurd hk (mget_none.1 hg)
      | some r =>
        obtain ⟨h1, h2⟩ := lk_mem he
        exact List.mem_map.2 ⟨r, h1, h2⟩
theorem SecI.ids64 (H : SecI w Q N L made es) : ∀ k ∈ L.map Rw.id, In64 k := by
  intro k hk
  obtain ⟨r, hr, rfl⟩ := List.mem_map.1 hk
  have := H.ids r hr
  have := H.max
  unfold In64
  omega

set_option maxHeartbeats 400000 in
theorem secIds_any (H : SecS w Q N L made) : Calls Tryz.prog 21 #[.pointer (some ⟨Q.s, 0, none⟩)] w (Ret (Sorted w (L.map Rw.id))) := by
  obtain ⟨es, H⟩ := H
  have f1 : w.cell? ⟨Q.s, 1, none⟩ = some (.map (some Q.t)) := H.row.cell 1
  have HQ := Lib.hid (SortedA_any H.tab (rising_iff.1 H.rise) H.keys H.ids64 (by have h1 := H.len; have h2 := H.keys.length_eq; rw [List.length_map, List.length_map] at h2; omega))
  clear H
  go_enter Tryz.func21, Tryz.ntmps21
  go_wp2_with (first
    | (go_at_call 43; refine (KeysA_any _ _).mono ?_; rintro e w' ⟨rfl, rfl⟩)
    | (go_at_call 42; refine HQ.out.mono ?_; rintro e w2 ⟨v2, rfl, h2⟩; have H2 := Lib.hid h2; clear h2)
    | fail)
  go_ret
  exact Ret.mk H2.out
end

/-- may these be dropped together? -/
def dropB (L : List Rw) (ids : List Int) : Bool := decide ids.Nodup && ids.all fun i => (lk L i).isSome
def dropL (L : List Rw) (ids : List Int) : List Rw := ids.foldl delR L
theorem lk_drop : ∀ (ids : List Int) (L : List Rw) (k : Int), lk (dropL L ids) k = if k ∈ ids then none else lk L k
  | [], L, k => by simp [dropL]
  | i :: ids, L, k => by
    have ih := lk_drop ids (delR L i) k
    show lk (dropL (delR L i) ids) k = _
    rw [ih, lk_del]
    by_cases h1 : k ∈ ids
    · rw [if_pos h1, if_pos (List.mem_cons_of_mem _ h1)]
    · rw [if_neg h1]
      by_cases h2 : k = i
      · rw [if_pos h2, if_pos (by rw [h2]; exact List.mem_cons_self)]
      · rw [if_neg h2, if_neg (by simp [h1, h2])]
theorem drop_rising : ∀ (ids : List Int) {L : List Rw}, Rising L → Rising (dropL L ids)
  | [], _, h => h
  | _ :: ids, _, h => drop_rising ids (del_rising h)
theorem drop_mem : ∀ (ids : List Int) {L : List Rw} {r : Rw}, r ∈ dropL L ids → r ∈ L
  | [], _, _, h => h
  | _ :: ids, _, _, h => del_mem (drop_mem ids h)
theorem fm_congr {α β : Type} {f g : α → Option β} : ∀ {l : List α}, (∀ x ∈ l, f x = g x) → l.filterMap f = l.filterMap g
  | [], _ => rfl
  | x :: l, h => by
    rw [List.filterMap_cons, List.filterMap_cons, h x List.mem_cons_self, fm_congr (l := l) (fun y hy => h y (List.mem_cons_of_mem _ hy))]
theorem drop_perm : ∀ (ids : List Int) {L : List Rw}, Rising L → ids.Nodup → (∀ i ∈ ids, (lk L i).isSome = true) → L.Perm (ids.filterMap (lk L) ++ dropL L ids)
  | [], L, _, _, _ => List.Perm.refl _
  | i :: ids, L, h, hn, hs => by
    rw [List.nodup_cons] at hn
    obtain ⟨r, hr⟩ := Option.isSome_iff_exists.1 (hs i List.mem_cons_self)
    have ho : ∀ j ∈ ids, lk (delR L i) j = lk L j := fun j hj => by
      rw [lk_del, if_neg (fun e => hn.1 (by rw [← e]; exact hj))]
    have ih := drop_perm ids (del_rising (k := i) h) hn.2 (fun j hj => by rw [ho j hj]; exact hs j (List.mem_cons_of_mem _ hj))
    have e1 : ids.filterMap (lk (delR L i)) = ids.filterMap (lk L) := fm_congr ho
    rw [e1] at ih
    rw [List.filterMap_cons, hr]
    exact (del_perm h hr).trans (List.Perm.cons r ih)
theorem fm_len2 {L : List Rw} : ∀ (ids : List Int), (∀ i ∈ ids, (lk L i).isSome = true) → (ids.filterMap (lk L)).length = ids.length
  | [], _ => rfl
  | i :: ids, h => by
    obtain ⟨r, hr⟩ := Option.isSome_iff_exists.1 (h i List.mem_cons_self)
    rw [List.filterMap_cons, hr]
    simp [fm_len2 ids (fun j hj => h j (List.mem_cons_of_mem _ hj))]

theorem elem_ex : ElemInfo Tryz.prog 87 47 3 24 := .of Tryz.underlying87 (show (Tryz.prog.info? 47).map (fun i => (i.zero, i.size, i.bytes)) = some (some (.agg #[.int .i64 0, .int .i64 0, .int .i64 0]), 3, 24) by kernel_rfl) rfl
def exC (x : Ex) : List Value := [Value.int .i64 x.1, .int .i64 x.2.1, .int .i64 x.2.2]
/-- append one extent -/
theorem app_ex {w : World} {base : Nat} {v : Value} {l : List Ex} (h : w.ownsRow base 47 3 v l.length (l.flatMap exC)) (hl : l.length < 2000000000) (hB : base ≤ w.heap.size) (x : Ex) (ty : TypeId) :
    ∃ A c w', (Builtin.append_ #[87, 87] ty #[v, .slice (some ⟨w.heap.size, 0, none⟩) 1 1]).run Tryz.prog (w.alloc (.cells #[.int .i64 x.1, .int .i64 x.2.1, .int .i64 x.2.2] 47)) = .ok (.slice A (l.length + 1) c) w' ∧ w'.ownsRow base 47 3 (.slice A (l.length + 1) c) (l.length + 1) ((l ++ [x]).flatMap exC) ∧ Chg (fun k => base ≤ k) w w' := by
  obtain ⟨v', w4, hr, ho, hg⟩ := run_app elem_ex (by decide) (own_keep (F := No) h ((Chg.refl _ _).alloc (.cells #[.int .i64 x.1, .int .i64 x.2.1, .int .i64 x.2.2] 47)) (fun _ _ f => f)) (Slc.row (S := fun _ => True) (Row.new w 47 #[.int .i64 x.1, .int .i64 x.2.1, .int .i64 x.2.2]) 1 3 rfl (by unfold maxLen; omega) trivial) (by simp [Value.oneCell']) (by unfold maxLen; omega) (by omega) (by simp; omega) ty
  obtain ⟨A, c, rfl⟩ := own_form ho
  refine ⟨A, c, w4, hr, ?_, ((Chg.refl _ _).alloc _).grown hg (fun k hk => .inl (own_ge h hk))⟩
  rw [List.flatMap_append]
  simpa [exC] using ho

/-- what Drop leaves -/
def Dropd (w : World) (Q : SB) (N : Nat) (L : List Rw) (made : Nat) (ids : List Int) (e : Ending) (w' : World) : Prop := e = .returned (.int .i64 (if dropB L ids = true then 0 else 4)) ∧ SecS w' Q N (if dropB L ids = true then dropL L ids else L) made ∧ Chg Q.has w w'

set_option maxRecDepth 100000 in
set_option maxHeartbeats 1000000 in
theorem secDrop_any {w : World} {Q : SB} {N made : Nat} {L : List Rw} (H : SecS w Q N L made) (v : Value) (ids : List Int) (S : Nat → Prop) (hv : IntS w S v ids) (hS : ∀ k, S k → ¬ Q.has k) (hl : ids.length ≤ 1000000000) :
    Calls Tryz.prog 14 #[.pointer (some ⟨Q.s, 0, none⟩), v] w (Dropd w Q N L made ids) := by
  obtain ⟨A, c, rfl, hcap, hcm, -⟩ := hv.form
  have HLT := Lib.hid (fun k (hk : Q.has k) => H.lt hk)
  have HS := Lib.hid hS
  have HX := Lib.hid (And.intro H hv)
  generalize hn : ids.length = n at *
  have HN := Lib.hid hn
  have hcm2 : c ≤ 9223372036854775807 := by unfold maxLen at hcm; simp at hcm; omega
  obtain ⟨re, hre⟩ : ∃ re : Int, (if dropB L ids = true then 0 else 4) = re := ⟨_, rfl⟩
  obtain ⟨L', hL'⟩ : ∃ L', (if dropB L ids = true then dropL L ids else L) = L' := ⟨_, rfl⟩
  have HR := Lib.hid (And.intro hre hL')
  show Calls _ _ _ _ (fun e w' => e = .returned (.int .i64 (if dropB L ids = true then 0 else 4)) ∧ SecS w' Q N (if dropB L ids = true then dropL L ids else L) made ∧ Chg Q.has w w')
  rw [hre, hL']
  clear H hv hS hn hcm hre hL'
  go_enter Tryz.func14, Tryz.ntmps14
  go_wp2_with fail
  go_loopg [5, 14] n (fun j v5 v14 wr => ∃ i : Nat, v14 = .int .i64 (i : Int) ∧ i ≤ n ∧ n - i ≤ j ∧ (∀ k ∈ ids.take i, (lk L k).isSome = true) ∧ (ids.take i).Nodup ∧
    wr.ownsRow w.heap.size 47 3 v5 ((ids.take i).filterMap (lk L)).length ((((ids.take i).filterMap (lk L)).map fun r => r.xt.ex).flatMap exC) ∧ Chg No w wr)
  case atStart => exact ⟨0, rfl, by omega, by omega, by simp, by simp, World.ownsRow_nil _ _ _ _, Chg.refl _ _⟩
  case round =>
    obtain ⟨i, rfl, i1, i2, hall, hnd, own, cw⟩ := hrel
    obtain ⟨A5, c5, rfl⟩ := own_form own
    by_cases hi : i < n
    · have hil : i < ids.length := by rw [HN.out]; exact hi
      obtain ⟨b, off, rfl, -, d0, x64, -⟩ := (HX.out.2.keep cw (fun _ _ f => f)).at hil
      have htk : ids.take (i + 1) = ids.take i ++ [ids[i]?.getD 0] := by rw [List.take_succ_eq_append_getElem hil, List.getElem?_eq_getElem hil, Option.getD_some]
      have hmem : ids[i]?.getD 0 ∈ ids := by rw [List.getElem?_eq_getElem hil, Option.getD_some]; exact List.getElem_mem hil
      have hpre : (ids.take i ++ [ids[i]?.getD 0]).Sublist ids := by rw [← htk]; exact List.take_sublist _ _
      generalize ids[i]?.getD 0 = x at *
      have t1 : decide ((i : Int) < (n : Int)) = true := decide_eq_true (by omega)
      have hct : ∀ W, Chg No wr W → IntS W S (.slice (some ⟨b, off, none⟩) i c) (ids.take i) := fun W hW => (HX.out.2.keep (cw.trans hW) (fun _ _ f => f)).take i (by rw [HN.out]; exact i1)
      have HCT := Lib.hid hct
      have t2 : 0 ≤ (i : Int) ∧ (i : Int) ≤ (c : Int) := by omega
      have t3 : (i : Int) ≤ (c : Int) := by omega
      cases hlk : lk L x with
      | none =>
        have hb : dropB L ids = false := by
          unfold dropB
          rw [Bool.and_eq_false_iff]
          right
          rw [List.all_eq_false]
          exact ⟨x, hmem, by rw [hlk]; decide⟩
        obtain rfl : re = 4 := by rw [← HR.out.1, hb]; rfl
        obtain rfl : L' = L := by rw [← HR.out.2, hb]; rfl
        have HQ := Lib.hid (secAt_none (HX.out.1.keep cw (fun _ _ f => f)) hlk)
        have HC := Lib.hid cw
        clear hall hnd own hct hmem hpre htk hb hlk cw
        go_wp2_with (first
          | (go_at_call 32
             refine HQ.out.mono ?_
             rintro e w2 ⟨rfl, c2⟩
             have H2 := Lib.hid (HC.out.trans c2)
             clear c2)
          | fail)
        go_ret
        have cF : ∀ U, Chg No w2 U → SecS U Q N L' made ∧ Chg Q.has w U := fun U hU => ⟨(HX.out.1.keep H2.out (fun _ _ f => f)).keep hU (fun _ _ f => f), (H2.out.trans hU).no⟩
        exact ⟨rfl, cF _ ((Chg.refl _ _).alloc _)⟩
      | some r =>
        have HQ := Lib.hid (secAt_some (HX.out.1.keep cw (fun _ _ f => f)) hlk)
        by_cases hin : x ∈ ids.take i
        · have hb : dropB L ids = false := by
            unfold dropB
            rw [Bool.and_eq_false_iff]
            left
            refine decide_eq_false fun h => ?_
            have := List.nodup_append.1 (hpre.nodup h)
            exact this.2.2 x hin x (by simp) rfl
          obtain rfl : re = 4 := by rw [← HR.out.1, hb]; rfl
          obtain rfl : L' = L := by rw [← HR.out.2, hb]; rfl
          have HIN := Lib.hid (decide_eq_true hin)
          have HC := Lib.hid cw
          clear hall hnd own hct hmem hpre htk hb hlk cw hin
          go_wp2_with (first
            | (go_at_call 32
               refine HQ.out.mono ?_
               rintro e w2 ⟨rfl, c2⟩
               have H2 := Lib.hid c2
               clear c2)
            | (go_at_call 38
               refine (ContainsI_any _ _ S x _ (HCT.out _ (H2.out.alloc _))).mono ?_
               rw [HIN.out]
               rintro e w4 ⟨rfl, c4⟩
               have H4 := Lib.hid (HC.out.trans ((H2.out.alloc _).trans c4))
               clear c4)
            | fail)
          go_ret
          exact ⟨rfl, HX.out.1.keep H4.out (fun _ _ f => f), H4.out.no⟩
        · have HIN := Lib.hid (decide_eq_false hin)
          have hfm : ((ids.take (i + 1)).filterMap (lk L)) = (ids.take i).filterMap (lk L) ++ [r] := by
            rw [htk, List.filterMap_append, List.filterMap_cons, hlk]
            rfl
          have hall2 : ∀ k ∈ ids.take (i + 1), (lk L k).isSome = true := by
            rw [htk]
            intro k hk
            rw [List.mem_append, List.mem_singleton] at hk
            rcases hk with hk | rfl
            · exact hall k hk
            · rw [hlk]; rfl
          have hnd2 : (ids.take (i + 1)).Nodup := by
            rw [htk, List.nodup_append]
            exact ⟨hnd, by simp, fun a ha b hb e => by rw [List.mem_singleton] at hb; rw [e, hb] at ha; exact hin ha⟩
          have hle : ((ids.take i).filterMap (lk L)).length ≤ i := by
            rw [fm_len2 _ hall, List.length_take]; omega
          have HI := Lib.hid (And.intro hfm (And.intro hall2 (And.intro hnd2 (And.intro own cw))))
          generalize hln : ((ids.take i).filterMap (lk L)).length = ln at *
          have HLN := Lib.hid hln
          clear hall hnd own hct hmem hpre htk hlk cw hin hfm hall2 hnd2 hln
          go_wp2_with (first
            | (go_at_call 32
               refine HQ.out.mono ?_
               rintro e w2 ⟨rfl, c2⟩
               have rx := Row.new w2 47 #[.int .i64 r.xt.f, .int .i64 r.xt.n, .int .i64 r.xt.b.length]
               have H2 := Lib.hid (And.intro c2 rx)
               clear c2 rx)
            | (go_at_call 38
               refine (ContainsI_any _ _ S x _ (HCT.out _ (H2.out.1.alloc _))).mono ?_
               rw [HIN.out]
               rintro e w4 ⟨rfl, c4⟩
               have z := IExt.cells (H2.out.2.keep c4 (fun f => f))
               have c04 : Chg No wr w4 := (H2.out.1.alloc _).trans c4
               obtain ⟨A6, c6, w6, hr6, ho6, cg6⟩ := app_ex (l := ((ids.take i).filterMap (lk L)).map fun r => r.xt.ex) (by rw [List.length_map, HLN.out]; exact own_keep HI.out.2.2.2.1 c04 (fun _ _ f => f)) (by rw [List.length_map, HLN.out]; omega) (HI.out.2.2.2.2.trans c04).size r.xt.ex 87
               rw [List.length_map, HLN.out] at hr6 ho6
               have HR6 := Lib.hid hr6
               have H6 := Lib.hid (And.intro ho6 ((HI.out.2.2.2.2.trans c04).then cg6 (fun k hk h => by omega)))
               clear c4 c04 hr6 ho6 cg6)
            | (at_builtin; refine wpList_append_run rfl _ _ _ rfl rfl rfl HR6.out ?_)
            | fail)
          go_roundg (n - (i + 1))
          case measure => omega
          case rel =>
            refine ⟨i + 1, by go_num, by omega, by omega, HI.out.2.1, HI.out.2.2.1, ?_, H6.out.2⟩
            rw [HI.out.1, List.map_append, List.length_append, HLN.out]
            exact H6.out.1
    · obtain rfl : i = n := by omega
      have t1 : decide ((i : Int) < (i : Int)) = false := decide_eq_false (by omega)
      rw [List.take_of_length_le (by rw [HN.out]; omega)] at hall hnd own
      have hb : dropB L ids = true := by
        unfold dropB
        rw [Bool.and_eq_true]
        exact ⟨decide_eq_true hnd, List.all_eq_true.2 hall⟩
      obtain rfl : re = 0 := by rw [← HR.out.1, hb]; rfl
      obtain rfl : L' = dropL L ids := by rw [← HR.out.2, hb]; rfl
      rw [List.take_of_length_le (by rw [HN.out]; omega)]
      obtain ⟨wa, hwa⟩ : ∃ x, x = wr := ⟨_, rfl⟩
      subst hwa
      obtain ⟨⟨es, HE⟩, hvi⟩ := HX.out
      have HNE := Lib.hid HE.ne
      have htab := HE.tab.keep cw (fun f => f)
      have HI := Lib.hid (And.intro hall (And.intro hnd (And.intro own (And.intro cw HE))))
      generalize hln : (ids.filterMap (lk L)).length = ln at *
      have HLN := Lib.hid hln
      clear hall hnd own cw hb HE hvi hln
      go_wp2_with fail
      go_loopg [46] i (fun j v46 wr => ∃ (k : Nat) (es' : List (Int × Value)), v46 = .int .i64 (k : Int) ∧ k ≤ i ∧ i - k ≤ j ∧ IMap wr Q.t es' ∧ (∀ q, mget q es' = if q ∈ ids.take k then none else mget q es) ∧ Chg (fun k => k = Q.t) wa wr)
      case atStart => exact ⟨0, es, rfl, by omega, by omega, htab, fun q => by simp, Chg.refl _ _⟩
      case round =>
        clear htab
        obtain ⟨k, es', rfl, k1, k2, hm, hget, cw⟩ := hrel
        have hst : Q.t < w.heap.size := HLT.out Q.t (.inr (.inl rfl))
        by_cases hk : k < i
        · have hkl : k < ids.length := by rw [HN.out]; exact hk
          obtain ⟨b, off, rfl, -, d0, x64, -⟩ := ((HX.out.2.keep HI.out.2.2.2.1 (fun _ _ f => f)).keep cw (fun q hq e => HS.out q hq (.inr (.inl e)))).at hkl
          have htk : ids.take (k + 1) = ids.take k ++ [ids[k]?.getD 0] := by rw [List.take_succ_eq_append_getElem hkl, List.getElem?_eq_getElem hkl, Option.getD_some]
          generalize ids[k]?.getD 0 = x at *
          have t1 : decide ((k : Int) < (i : Int)) = true := decide_eq_true (by omega)
          have f1 : wr.cell? ⟨Q.s, 1, none⟩ = some (.map (some Q.t)) := ((HI.out.2.2.2.2.row.keep HI.out.2.2.2.1 (fun f => f)).keep cw HNE.out.1).cell 1
          obtain ⟨o, hrun, hm2⟩ := hm.delete (P := Tryz.prog) elem_tab Tryz.underlying3 x 0 3
          have c2 : Chg (fun k => k = Q.t) wr (setBlock wr Q.t o) := Chg.setBlock (F := fun k => k = Q.t) (Chg.refl _ _) (.inl rfl) _
          have hget2 : ∀ q, mget q (mdel x es') = if q ∈ ids.take (k + 1) then none else mget q es := fun q => by
            rw [mget_mdel _ _ hm.nodup, hget, htk]
            by_cases e : q = x
            · rw [if_pos (by simpa using e), if_pos (by rw [e]; simp)]
            · rw [if_neg (by simpa using e)]
              by_cases e2 : q ∈ ids.take k
              · rw [if_pos e2, if_pos (List.mem_append_left _ e2)]
              · rw [if_neg e2, if_neg (by simp [e2, e])]
          generalize setBlock wr Q.t o = W2 at *
          have H2 := Lib.hid (And.intro hm2 (And.intro hget2 (cw.trans c2)))
          clear hm hget cw hm2 c2 hget2 htk
          go_wp2_with fail
          go_roundg (i - (k + 1))
          case measure => omega
          case rel => exact ⟨k + 1, _, by go_num, by omega, by omega, H2.out⟩
        · obtain rfl : k = i := by omega
          have t1 : decide ((k : Int) < (k : Int)) = false := decide_eq_false (by omega)
          rw [List.take_of_length_le (by rw [HN.out]; omega)] at hget
          have hrow := (HI.out.2.2.2.2.row.keep HI.out.2.2.2.1 (fun f => f)).keep cw HNE.out.1
          have f0 : wr.cell? ⟨Q.s, 0, none⟩ = some (.pointer (some ⟨Q.B.r, 0, none⟩)) := hrow.cell 0
          have hext := (HI.out.2.2.2.2.ext.keep HI.out.2.2.2.1 (fun _ _ f => f)).keep cw (fun q hq e => HNE.out.2.2 (by rw [← e]; exact hq))
          have hpm := (drop_perm ids HI.out.2.2.2.2.rise HI.out.2.1 HI.out.1).map Rw.xt
          rw [List.map_append] at hpm
          have own2 := own_keep HI.out.2.2.1 cw (fun q hq e => by have := own_ge HI.out.2.2.1 hq; omega)
          have hex : ExL wr (fun q => w.heap.size ≤ q) (.slice A5 ln c5) (((ids.filterMap (lk L)).map Rw.xt).map Xt.ex) := by
            have h1 := (Slc.of_own own2).more (S' := fun q => w.heap.size ≤ q) (fun q _ hq => own_ge own2 hq)
            rw [List.map_map]
            unfold ExL
            rw [List.length_map, HLN.out]
            exact h1
          have HF := Lib.hid (extFree_ok (hext.perm hpm) _ _ hex (fun q hq hb => by have := HLT.out q (.inr (.inr hb)); omega))
          have HM := Lib.hid (And.intro hm (And.intro hget (And.intro cw hrow)))
          clear hm hget cw hrow hext hpm own2 hex
          go_wp2_with (first
            | (go_at_call 39
               refine HF.out.mono ?_
               rintro e w5 ⟨rfl, he5, c5⟩
               have H5 := Lib.hid (And.intro he5 c5)
               clear he5 c5)
            | fail)
          go_ret
          obtain ⟨hm, hget, cw, hrow⟩ := HM.out
          have hE := HI.out.2.2.2.2
          refine ⟨rfl, ⟨_, hrow.keep H5.out.2 HNE.out.2.1, H5.out.1, hm.keep H5.out.2 HNE.out.2.2, fun q => ?_, drop_rising ids hE.rise, fun r hr => hE.ids r (drop_mem ids hr), fun r hr => hE.ok r (drop_mem ids hr), hE.max, hE.tv⟩, (HI.out.2.2.2.1.no.trans (cw.mono fun q _ h => .inr (.inl h))).trans (H5.out.2.mono fun q _ h => .inr (.inr h))⟩
          rw [hget, lk_drop, hE.get]
          by_cases e : q ∈ ids
          · rw [if_pos e, if_pos e]; rfl
          · rw [if_neg e, if_neg e]

end Go.Proofs.YtdpmmafkomchaaaGreat
