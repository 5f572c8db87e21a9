/- The law's few and objs, and websterref16.Same. -/
import Derived.Test.YtncoanmgifgcbaaDoorLoaded
import Derived.Test.YtncoanmgifgcbaaDoorApp2
import Derived.Test.YtncoanmgifgcbaaDoorPrmG
import Derived.Test.YtncoanmgifgcbaaDoorRef10h
namespace Go.Proofs.YtncoanmgifgcbaaDoor
set_option linter.unusedVariables false
set_option linter.unusedSimpArgs false
open Go.RowKit

theorem sum1_le {o : O} (h : okB o = true) : sum1 o ≤ 201 := by
  obtain ⟨-, h1, h2, -, h5⟩ := okB_cases h
  unfold sum1
  rcases h5 with ⟨-, h⟩ | ⟨-, h⟩ <;> (rw [h]; simp only [List.length_nil]; omega)

set_option maxRecDepth 100000 in
set_option maxHeartbeats 1000000 in
theorem few_any (lv : Value) (L : List O) (S : Nat → Prop) (w : World) (h : RefL w S lv L) (hm : L.length ≤ 17592186044416) :
    Calls Tryd.prog 22 #[lv] w fun e w' => e = .returned (.bool (loadB L)) ∧ Chg No w w' := by
  obtain ⟨T, rfl, hT⟩ := h.toT
  obtain ⟨A, n, c, rfl⟩ : ∃ A n c, lv = .slice A n c := by
    obtain ⟨⟨A, c, e, -⟩, -⟩ := hT
    exact ⟨A, _, c, e⟩
  obtain rfl : T.length = n := by
    obtain ⟨⟨A', c', e, -⟩, -⟩ := hT
    exact (Value.slice.inj e).2.1.symm
  have HT := Lib.hid hT
  have hmax : T.length ≤ 17592186044416 := by simpa using hm
  clear hT h hm
  generalize hn : T.length = n at *
  have HN := Lib.hid hn
  clear hn
  go_enter Tryd.func22, Tryd.ntmps22
  go_wp2_with fail
  go_loopg [3, 4] n (fun j v3 v4 wr => ∃ i s : Nat, v3 = .int .i64 s ∧ v4 = .int .i64 i ∧ i ≤ n ∧ n - i ≤ j ∧ s ≤ 201 * i ∧ s = sumN ((T.take i).map (·.1)) ∧ ((T.take i).map (·.1)).all okB = true ∧ Chg No w wr)
  case atStart => exact ⟨0, 0, rfl, rfl, by omega, by omega, by omega, rfl, by simp, Chg.refl _ _⟩
  case round =>
    obtain ⟨i, s, rfl, rfl, i1, i2, s2, hsm, hall, cw⟩ := hrel
    by_cases hi : i < n
    · obtain ⟨⟨x, wv, bv⟩, hti⟩ : ∃ t, T[i]? = some t := ⟨_, List.getElem?_eq_getElem (by rw [HN.out]; exact hi)⟩
      obtain ⟨b, off, rfl, -, hb, hok, y0, y1, y2, y3⟩ := (HT.out.keep cw (fun _ _ f => f)).at hti
      have t0 : decide ((i : Int) < (n : Int)) = true := decide_eq_true (by omega)
      have l0 : (i : Int) < (n : Int) := by omega
      have wi : IntKind.i64.wrap ((i : Int) + 1) = ((i + 1 : Nat) : Int) := (IntWalk.i64_in _ (by omega)).trans (by omega)
      have hsn := all_snocB hti
      have hsu := sumN_take hti
      have hmem : x ∈ T.map (·.1) := List.mem_map.2 ⟨_, List.mem_of_getElem? hti, rfl⟩
      rw [← hsm] at hsu
      dsimp only at hok y0 y1 y2 y3 hsn hsu
      have HO := Lib.hid (show ObjR wr _ (.agg (cells2 x wv bv)) x from ⟨wv, bv, rfl, hok⟩)
      obtain ⟨A1, c1, hA1, hm1, hm2, -⟩ := hok.1.form
      obtain ⟨A2, c2, hA2, hm3, hm4, -⟩ := hok.2.1.form
      dsimp only at hA1 hA2 hm1 hm3
      subst hA1 hA2
      have zz : ∀ v, Chg No wr v → v.cell? ⟨b, off + i * 4, none⟩ = some (.int .i64 x.cls) ∧ v.cell? ⟨b, off + i * 4 + 1, none⟩ = some (.int .i64 x.kind) ∧ v.cell? ⟨b, off + i * 4 + 2, none⟩ = some (.slice A1 x.W.length c1) ∧ v.cell? ⟨b, off + i * 4 + 3, none⟩ = some (.slice A2 x.B.length c2) := fun v hv => ⟨(hv.cell hb (fun f => f)).trans y0, (hv.cell hb (fun f => f)).trans y1, (hv.cell hb (fun f => f)).trans y2, (hv.cell hb (fun f => f)).trans y3⟩
      have z2 : ∀ v, Chg No wr v → v.cell? ⟨b, off + i * 4 + 2, none⟩ = some (.slice A1 x.W.length c1) := fun v hv => (zz v hv).2.2.1
      have z3 : ∀ v, Chg No wr v → v.cell? ⟨b, off + i * 4 + 3, none⟩ = some (.slice A2 x.B.length c2) := fun v hv => (zz v hv).2.2.2
      have HG := Lib.hid (And.intro cw (And.intro hsn hall))
      cases hx : okB x
      · have hc : chk x = 2 := by simp [chk, hx]
        have hlb0 : loadB (T.map (·.1)) = false := by
          have : (T.map (·.1)).all okB = false := by
            rw [List.all_eq_false]
            exact ⟨x, hmem, by simp [hx]⟩
          unfold loadB
          rw [this]; rfl
        have HLB := Lib.hid hlb0
        clear hok hti hsn hall y0 y1 y2 y3 hx hm1 hm2 hm3 hm4 hsu hmem hlb0 hsm cw
        go_wp2_with fail
        refine q_region (C := (Chg No wr)) (by kernel_rfl) (by kernel_rfl) ?_ ?_
        · exact (Chg.refl _ _).drew
        repeat
          refine q_step (fun K hK => ?_)
          go_simp
          first
            | ((with_reducible refine hK _ ?_); clear hK K)
            | (refine (if_neg (by simp [undef])).mpr ?_; (with_reducible refine hK _ ?_); clear hK K)
            | (apply Exists.intro
               with_reducible refine ⟨fun v hv => ?_, hK _ ?_⟩
               · first
                   | with_reducible exact rfl
                   | with_reducible exact ⟨rfl, rfl⟩
                   | (go_simp
                      first
                        | done
                        | with_reducible exact rfl
                        | with_reducible exact ⟨rfl, rfl⟩
                        | fail)
               clear hK K)
        refine q_nil ?_
        intro V hV
        have zV := zz V hV
        clear zz z2 z3
        go_wp2_with (go_at_call 49; refine (Check05_any _ x _ _ (HO.out.keep hV (fun _ _ f => f))).mono ?_; rw [hc]; rintro e w2 ⟨rfl, c2'⟩; have HC := Lib.hid (hV.trans c2'); clear c2')
        go_ret
        exact ⟨by rw [HLB.out]; rfl, HG.out.1.trans HC.out⟩
      · have hc : chk x = 0 := by simp [chk, hx]
        have h201 := sum1_le hx
        obtain ⟨-, hw1, hb1, -, -⟩ := okB_cases hx
        generalize hlw : x.W.length = lw at *
        generalize hlb : x.B.length = lb at *
        have v1 : IntKind.i64.wrap ((s : Int) + 1) = (s : Int) + 1 := IntWalk.i64_in _ (by omega)
        have v2 : IntKind.i64.wrap ((lw : Int) + lb) = (lw : Int) + lb := IntWalk.i64_in _ (by omega)
        have v3 : ((lw : Int) + lb).tdiv 10 = (((lw + lb) / 10 : Nat) : Int) := by rw [Int.tdiv_eq_ediv_of_nonneg (by omega)]; omega
        have v4 : IntKind.i64.wrap ((((lw + lb) / 10 : Nat) : Int)) = (((lw + lb) / 10 : Nat) : Int) := IntWalk.i64_in _ (by omega)
        have v5 : IntKind.i64.wrap ((s : Int) + 1 + (((lw + lb) / 10 : Nat) : Int)) = ((s + 1 + (lw + lb) / 10 : Nat) : Int) := (IntWalk.i64_in _ (by omega)).trans (by omega)
        obtain ⟨q, hq⟩ : ∃ q, (lw + lb) / 10 = q := ⟨_, rfl⟩
        rw [hq] at v3 v4 v5
        obtain ⟨s', hs'⟩ : ∃ s', s + 1 + q = s' := ⟨_, rfl⟩
        rw [hs'] at v5
        have hsu' : s' = sumN ((T.take (i + 1)).map (·.1)) := by rw [hsu, sum1, hlw, hlb, ← hs', ← hq]; omega
        have hs201 : s' ≤ 201 * (i + 1) := by rw [sum1, hlw, hlb] at h201; omega
        have HSV := Lib.hid (And.intro hsu' hs201)
        rw [hx, Bool.and_true] at hsn
        have HS := Lib.hid (hsn.trans hall)
        clear hsu hmem hsu' hsm hok hti hsn hall hlw hlb hs' hq y0 y1 y2 y3 hx hm1 hm2 hm3 hm4 hs201 h201 cw s2
        go_wp2_with fail
        refine q_region (C := (Chg No wr)) (by kernel_rfl) (by kernel_rfl) ?_ ?_
        · exact (Chg.refl _ _).drew
        repeat
          refine q_step (fun K hK => ?_)
          go_simp
          first
            | ((with_reducible refine hK _ ?_); clear hK K)
            | (refine (if_neg (by simp [undef])).mpr ?_; (with_reducible refine hK _ ?_); clear hK K)
            | (apply Exists.intro
               with_reducible refine ⟨fun v hv => ?_, hK _ ?_⟩
               · first
                   | with_reducible exact rfl
                   | with_reducible exact ⟨rfl, rfl⟩
                   | (go_simp
                      first
                        | done
                        | with_reducible exact rfl
                        | with_reducible exact ⟨rfl, rfl⟩
                        | fail)
               clear hK K)
        refine q_nil ?_
        intro V hV
        have zV := zz V hV
        clear zz z2 z3
        go_wp2_with (go_at_call 49; refine (Check05_any _ x _ _ (HO.out.keep hV (fun _ _ f => f))).mono ?_; rw [hc]; rintro e w2 ⟨rfl, c2'⟩; have HC := Lib.hid (hV.trans c2'); clear c2')
        go_roundg (n - (i + 1))
        case measure => omega
        case rel => exact ⟨i + 1, s', rfl, by go_num, by omega, by omega, HSV.out.2, HSV.out.1, HS.out, HG.out.1.trans HC.out⟩
    · obtain rfl : i = n := by omega
      have t0 : decide ((i : Int) < (i : Int)) = false := decide_eq_false (by omega)
      rw [List.take_of_length_le (by rw [HN.out]; exact Nat.le_refl _)] at hall hsm
      have hlt : loadB (T.map (·.1)) = decide ((s : Int) ≤ 200) := by
        unfold loadB
        rw [hall, ← hsm, Bool.true_and]
        congr 1
        exact propext (by omega)
      have HLB := Lib.hid hlt
      have HC := Lib.hid cw
      clear hlt hsm hall cw
      go_wp2_with fail
      go_ret
      exact ⟨by rw [HLB.out]; rfl, HC.out⟩

/-- objects of the call's own, in a row of the call's own -/
structure Outs (base : Nat) (wr : World) (v : Value) (T : List T3) : Prop where
  own : wr.ownsRow base 41 4 v T.length (cellsT T)
  el : ∀ t ∈ T, okT wr (fun b => base ≤ b ∧ ¬ v.ownBlock = some b) t
theorem Outs.nil (base : Nat) (wr : World) : Outs base wr (.slice none 0 0) [] := ⟨World.ownsRow_nil _ _ _ _, by simp⟩
theorem Outs.keep {base : Nat} {wr wr' : World} {v : Value} {T : List T3} (h : Outs base wr v T) (c : Chg No wr wr') : Outs base wr' v T :=
  ⟨own_keep h.own c (fun _ _ f => f), fun t ht => (h.el t ht).keep c (fun _ _ f => f)⟩
theorem Outs.form {base : Nat} {wr : World} {v : Value} {T : List T3} (h : Outs base wr v T) : ∃ A c, v = .slice A T.length c := own_form h.own
theorem Outs.ref {base : Nat} {wr : World} {v : Value} {T : List T3} (h : Outs base wr v T) : RefT wr (fun b => base ≤ b) v T :=
  ⟨(Slc.of_own h.own).more fun b _ hb => own_ge h.own hb, fun t ht => (h.el t ht).more fun b _ hS => hS.1⟩
theorem Outs.app {base : Nat} {wr : World} {v : Value} {T : List T3} (h : Outs base wr v T) (hw : base ≤ wr.heap.size) (hT : T.length < 1073741823) {b4 : Nat} {o : O} {A1 A2 : Option Addr} {c1 c2 : Nat} (row : Row wr b4 41 #[.int .i64 o.cls, .int .i64 o.kind, .slice A1 o.W.length c1, .slice A2 o.B.length c2]) (ok : okT wr (fun b => base ≤ b ∧ ¬ v.ownBlock = some b) (o, .slice A1 o.W.length c1, .slice A2 o.B.length c2)) (ty : TypeId) :
    ∃ A c w5, (Builtin.append_ #[22, 22] ty #[v, .slice (some ⟨b4, 0, none⟩) 1 1]).run Tryd.prog wr = .ok (.slice A (T.length + 1) c) w5 ∧ Outs base w5 (.slice A (T.length + 1) c) (T ++ [(o, .slice A1 o.W.length c1, .slice A2 o.B.length c2)]) ∧ Chg (fun b => v.ownBlock = some b) wr w5 := by
  obtain ⟨v', w5, hr, ho, hg, hn⟩ := run_app2 elem_obj (by decide) h.own (Slc.row (S := fun _ => True) row 1 4 rfl (by unfold maxLen; omega) trivial) (by simp [Value.oneCell']) (by unfold maxLen; omega) (by omega) hw ty
  obtain ⟨A, c, rfl⟩ := own_form ho
  have cg : Chg (fun b => v.ownBlock = some b) wr w5 := (Chg.refl _ _).grown hg (fun k hk => .inl hk)
  have e : cellsT (T ++ [(o, .slice A1 o.W.length c1, .slice A2 o.B.length c2)]) = cellsT T ++ [.int .i64 o.cls, .int .i64 o.kind, .slice A1 o.W.length c1, .slice A2 o.B.length c2] := by simp [cellsT, cells2]
  refine ⟨A, c, w5, hr, ⟨by rw [List.length_append, e]; exact ho, fun t ht => ?_⟩, cg⟩
  have key : okT wr (fun b => (base ≤ b ∧ ¬ v.ownBlock = some b) ∧ b < wr.heap.size) t := by
    rcases List.mem_append.1 ht with h1 | h1
    · exact (h.el t h1).more (fun b hb hS => ⟨hS, hb⟩)
    · rw [List.mem_singleton.1 h1]
      exact ok.more (fun b hb hS => ⟨hS, hb⟩)
  refine (key.keep cg (fun b hb => hb.1.2)).more fun b _ hb => ⟨hb.1.1, fun hv => ?_⟩
  rcases hn b hv with h1 | h1
  · exact hb.1.2 h1
  · omega
theorem own_mono {w : World} {b b' sz n : Nat} {e : TypeId} {v : Value} {xs : List Value} (h : w.ownsRow b e sz v n xs) (hb : b' ≤ b) : w.ownsRow b' e sz v n xs := by
  obtain ⟨h1, h2⟩ := h
  refine ⟨h1, h2.imp id ?_⟩
  rintro ⟨g, cap, cur, e1, h3, h4⟩
  exact ⟨g, cap, cur, e1, Nat.le_trans hb h3, h4⟩
theorem Outs.lt {base : Nat} {wr : World} {v : Value} {T : List T3} (h : Outs base wr v T) {b : Nat} (hb : v.ownBlock = some b) : b < wr.heap.size := by
  rcases h.own.2 with ⟨rfl, -⟩ | ⟨g, cap, cur, rfl, -, hg, -⟩
  · simp [Value.ownBlock] at hb
  · simp only [Value.ownBlock, Option.some.injEq] at hb
    subst hb
    exact lt_of_block hg
theorem okT_of {w : World} {S : Nat → Prop} {o : O} {A B : Value} (h : ObjR w S (.agg #[.int .i64 o.cls, .int .i64 o.kind, A, B]) o) : okT w S (o, A, B) := by
  obtain ⟨wv, bv, e, h1, h2, h3⟩ := h
  simp only [cells2, Value.agg.injEq] at e
  have e2 := congrArg Array.toList e
  simp at e2
  obtain ⟨rfl, rfl⟩ := e2
  exact ⟨h1, h2, h3⟩
theorem ahead_ObjP (a : Addr) (w : World) : (nilAhead 317 27 (.pointer (some a)) "Obj").run Tryd.prog w = .ok (some false) w := by kernel_rfl
theorem meth_ObjP (a : Addr) (w : World) : (method 317 27 (.pointer (some a)) "Obj").run Tryd.prog w = .ok (156, .pointer (some a)) w := by kernel_rfl
theorem allL_64 {L : List O} (h : L.length < 1073741823) {x : Int} (hx : x ∈ allL L) : In64 x := by
  unfold allL allTo at hx
  obtain ⟨i, hi, rfl⟩ := List.mem_map.1 hx
  have := List.mem_range.1 (List.mem_filter.1 hi).1
  unfold In64
  omega
theorem allL_len (L : List O) : (allL L).length ≤ L.length := by
  unfold allL allTo
  rw [List.length_map]
  exact Nat.le_trans (List.length_filter_le _ _) (by simp)

set_option maxRecDepth 100000 in
set_option maxHeartbeats 1000000 in
theorem objs_any {w0 w : World} {m : Nat} {L : List O} {K : (Nat → Prop) → World → Prop} (h : MemK w0 w m L K) :
    Calls Tryd.prog 25 #[.iface 27 (.pointer (some ⟨m, 0, none⟩))] w fun e w' => ∃ v T, e = .returned v ∧ Outs w.heap.size w' v T ∧ T.map (·.1) = (allL L).map (objV L) ∧ Chg No w w' := by
  have hmd := h.made
  have H := Lib.hid h
  clear h
  have a3 := ahead_ObjP ⟨m, 0, none⟩
  have a4 := meth_ObjP ⟨m, 0, none⟩
  have hal := allL_len L
  go_enter Tryd.func25, Tryd.ntmps25
  go_wp2_with (first
    | (go_at_call 15
       refine (k_All H.out).mono ?_
       rintro e w2 ⟨v, rfl, ho, g2, c2⟩
       obtain ⟨A, c, rfl⟩ := ho.form
       have hv := IntS.of_own ho (fun x hx => allL_64 hmd hx)
       have H2 := Lib.hid (And.intro g2 (And.intro c2 hv))
       clear ho g2 c2 hv)
    | fail)
  generalize hn : (allL L).length = n at *
  have HN := Lib.hid hn
  clear hn
  go_loopg [3, 5] n (fun j v3 v5 wr => ∃ (i : Nat) (T : List T3), v5 = .int .i64 (i : Int) ∧ i ≤ n ∧ n - i ≤ j ∧ T.length = i ∧ T.map (·.1) = ((allL L).take i).map (objV L) ∧ Outs w2.heap.size wr v3 T ∧ Chg No w2 wr)
  case atStart => exact ⟨0, [], rfl, by omega, by omega, rfl, by simp, Outs.nil _ _, Chg.refl _ _⟩
  case round =>
    obtain ⟨i, T, rfl, i1, i2, hTl, hTm, ho, cw⟩ := hrel
    obtain ⟨A3, c3, rfl⟩ := ho.form
    by_cases hi : i < n
    · have t1 : decide ((i : Int) < (n : Int)) = true := decide_eq_true (by omega)
      have l1 : (i : Int) < (n : Int) := by omega
      have wi : IntKind.i64.wrap ((i : Int) + 1) = ((i + 1 : Nat) : Int) := (IntWalk.i64_in _ (by omega)).trans (by omega)
      obtain ⟨b1, off1, rfl, hb1, hc1, x64, -⟩ := (H2.out.2.2.keep cw (fun _ _ f => f)).atS (i := i) (by rw [HN.out]; exact hi)
      obtain ⟨o, hox⟩ : ∃ o, (allL L)[i]? = some o := ⟨_, List.getElem?_eq_getElem (by rw [HN.out]; exact hi)⟩
      have hTm' : ((allL L).take (i + 1)).map (objV L) = T.map (·.1) ++ [objV L o] := by rw [List.take_add_one, hox, List.map_append, hTm]; rfl
      rw [hox, Option.getD_some] at hc1 x64
      have y1 : ∀ v, Chg No wr v → v.cell? ⟨b1, off1 + i, none⟩ = some (.int .i64 o) := fun v hv => (hv.cell hb1 (fun f => f)).trans hc1
      have HO := Lib.hid (And.intro ho (And.intro cw (And.intro hTl hTm')))
      clear ho cw hTl hTm hTm' hox hc1
      rw [show T.length = i from HO.out.2.2.1]
      go_wp2_with fail
      have y0 := y1 _ (Chg.refl _ _)
      go_region_law (first
          | (go_simp; go_at_call 156
             refine (k_ObjC (H2.out.1.world (HO.out.2.1.trans (by repeat (with_reducible first | assumption | exact Chg.refl _ _ | refine Chg.drew ?_ | refine Chg.alloc ?_ _)))) o x64).mono ?_
             rintro e w5 ⟨r, rfl, -, hr5, c5⟩
             obtain ⟨A5, d5, A6, d6, rfl⟩ := hr5.shape
             first
               | (have r0 : Row w5 wr.heap.size 41 #[.int .i64 0, .int .i64 0, .slice none 0 0, .slice none 0 0] := (Row.new wr.drew 41 _).keep c5 (fun f => f)
                  have k0 : w5.cell? ⟨wr.heap.size, 0, none⟩ = some (.int .i64 0) := r0.cell 0
                  have k1 : w5.cell? ⟨wr.heap.size, 1, none⟩ = some (.int .i64 0) := r0.cell 1
                  have k2 : w5.cell? ⟨wr.heap.size, 2, none⟩ = some (.slice none 0 0) := r0.cell 2
                  have k3 : w5.cell? ⟨wr.heap.size, 3, none⟩ = some (.slice none 0 0) := r0.cell 3
                  have f0 := r0.frozen 0
                  have f1 := r0.frozen 1
                  have f2 := r0.frozen 2
                  have f3 := r0.frozen 3)
               | skip
             have HR5 := Lib.hid (And.intro hr5 c5)
             clear hr5 c5)
          | fail)
      all_goals
        first
          | (generalize hWW : World.alloc w5 _ = W5
             have hc5 : Chg No w5 W5 := by rw [← hWW]; exact (Chg.refl _ _).alloc _
             have hrow : Row W5 w5.heap.size 41 #[.int .i64 (objV L o).cls, .int .i64 (objV L o).kind, .slice A5 (objV L o).W.length d5, .slice A6 (objV L o).B.length d6] := by rw [← hWW]; exact Row.new w5 _ _
             have hob : ObjR W5 (fun b => wr.heap.size ≤ b) _ (objV L o) := (HR5.out.1.keep hc5 (fun _ _ f => f)).more (fun b _ hb => hb)
             have hcc : Chg No wr W5 := ((Chg.refl _ wr).drew).trans (HR5.out.2.trans hc5))
          | (generalize hWW : World.setCell _ _ _ = W5
             have hc5 : Chg (fun b => b = wr.heap.size) w5 W5 := by
               rw [← hWW]
               repeat (with_reducible first | exact Chg.refl _ _ | refine Chg.setCell ?_ (.inl (by simp)) _)
             have hrow : Row W5 wr.heap.size 41 #[.int .i64 (objV L o).cls, .int .i64 (objV L o).kind, .slice A5 (objV L o).W.length d5, .slice A6 (objV L o).B.length d6] := by
               rw [← hWW]
               have := (((r0.set 0 (.int .i64 (objV L o).cls)).set 1 (.int .i64 (objV L o).kind)).set 2 (.slice A5 (objV L o).W.length d5)).set 3 (.slice A6 (objV L o).B.length d6)
               simpa using this
             have hob : ObjR W5 (fun b => wr.heap.size ≤ b) _ (objV L o) := ((HR5.out.1.more (S' := fun b => wr.heap.size + 1 ≤ b) (fun b _ hb => by simpa using hb)).keep hc5 (fun b hb e => by omega)).more (fun b _ hb => Nat.le_of_succ_le hb)
             have hcc : Chg No wr W5 := Chg.then (((Chg.refl _ wr).drew.alloc _).trans HR5.out.2) hc5 (fun k hk e => by omega)
             clear r0 k0 k1 k2 k3 f0 f1 f2 f3)
        have u0 := hrow.cell 0
        have u1 := hrow.cell 1
        have u2 := hrow.cell 2
        have u3 := hrow.cell 3
        simp only [List.getElem?_toArray, List.getElem?_cons_zero, List.getElem?_cons_succ] at u0 u1 u2 u3
        have hca : Chg No wr (W5.alloc (.cells #[.int .i64 (objV L o).cls, .int .i64 (objV L o).kind, .slice A5 (objV L o).W.length d5, .slice A6 (objV L o).B.length d6] 41)) := hcc.alloc _
        obtain ⟨A9, c9, w9, hr9, ho9, cg9⟩ := Outs.app (HO.out.1.keep hca) (Nat.le_trans HO.out.2.1.size hca.size) (by rw [HO.out.2.2.1]; omega) (Row.new W5 41 #[.int .i64 (objV L o).cls, .int .i64 (objV L o).kind, .slice A5 (objV L o).W.length d5, .slice A6 (objV L o).B.length d6]) ((okT_of (hob.keep ((Chg.refl _ W5).alloc _) (fun _ _ f => f))).more fun b _ hb => ⟨Nat.le_trans HO.out.2.1.size hb, fun e => by have h1 := HO.out.1.lt e; have h2 : wr.heap.size ≤ b := hb; omega⟩) 22
        rw [HO.out.2.2.1] at hr9 ho9
        have hcw9 : Chg No w2 w9 := Chg.then (HO.out.2.1.trans hca) cg9 (fun k hk e => by have h1 := own_ge HO.out.1.own e; omega)
        have HR := Lib.hid hr9
        have H9 := Lib.hid (And.intro ho9 hcw9)
        clear hWW hc5 hrow hob hcc hca hr9 ho9 cg9 hcw9
        go_wp2_with (first
          | (at_builtin; refine wpList_append_run rfl _ _ _ rfl rfl rfl HR.out ?_)
          | fail)
        go_roundg (n - (i + 1))
        case measure => omega
        case rel => exact ⟨i + 1, _, by go_num, by omega, by omega, by rw [List.length_append, HO.out.2.2.1]; rfl, by rw [HO.out.2.2.2, List.map_append]; rfl, H9.out.1, H9.out.2⟩
    · obtain rfl : i = n := by omega
      have t1 : decide ((i : Int) < (i : Int)) = false := decide_eq_false (by omega)
      rw [List.take_of_length_le (by rw [HN.out]; exact Nat.le_refl _)] at hTm
      have HO := Lib.hid (And.intro ho (And.intro cw hTm))
      clear ho cw hTm
      go_wp2_with fail
      go_ret
      exact ⟨_, T, rfl, ⟨own_mono HO.out.1.own H2.out.2.1.size, fun t ht => (HO.out.1.el t ht).more fun b _ hb => ⟨Nat.le_trans H2.out.2.1.size hb.1, hb.2⟩⟩, HO.out.2.2, H2.out.2.1.trans HO.out.2.1⟩

end Go.Proofs.YtncoanmgifgcbaaDoor
