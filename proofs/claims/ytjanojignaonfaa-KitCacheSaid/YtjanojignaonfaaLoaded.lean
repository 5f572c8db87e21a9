/- websterlaw14.loaded: a memory of objects. -/
import Derived.Test.YtjanojignaonfaaLoad
import Derived.Test.YtjanojignaonfaaKitC
namespace Go.Proofs.Ytjanojignaonfaa
set_option linter.unusedVariables false
set_option linter.unusedSimpArgs false
open Go.RowKit

theorem all_snocB {T : List T3} {i : Nat} {t : T3} (h : T[i]? = some t) : ((T.take (i + 1)).map (·.1)).all okB = (((T.take i).map (·.1)).all okB && okB t.1) := by
  rw [List.take_add_one, h]
  simp
/-- how much one is -/
def sum1 (o : O) : Nat := 1 + (o.W.length + o.B.length) / 10
def sumN : List O → Nat
  | [] => 0
  | o :: L => sum1 o + sumN L
theorem sumN_snoc : ∀ (L : List O) (o : O), sumN (L ++ [o]) = sumN L + sum1 o
  | [], o => by simp [sumN]
  | x :: L, o => by rw [List.cons_append, sumN, sumN, sumN_snoc L o]; omega
theorem sumN_take {T : List T3} {i : Nat} {t : T3} (h : T[i]? = some t) : sumN ((T.take (i + 1)).map (·.1)) = sumN ((T.take i).map (·.1)) + sum1 t.1 := by
  rw [List.take_add_one, h]
  simpa using sumN_snoc _ _
theorem sumN_append : ∀ (L M : List O), sumN (L ++ M) = sumN L + sumN M
  | [], M => by simp [sumN]
  | x :: L, M => by rw [List.cons_append, sumN, sumN, sumN_append L M]; omega
theorem sumN_le (T : List T3) (i : Nat) : sumN ((T.take i).map (·.1)) ≤ sumN (T.map (·.1)) := by
  conv => rhs; rw [← List.take_append_drop i T, List.map_append, sumN_append]
  omega
/-- may they be loaded? -/
def loadB (L : List O) : Bool := L.all okB && decide (sumN L ≤ 200)
/-- what loaded gives -/
def LoadedK (w : World) (lv : Value) (L : List O) (m : Nat) (w' : World) : Prop := MemK w w' m L (fun _ v => RefL v (fun b => b < w.heap.size) lv L)

set_option maxRecDepth 100000 in
set_option maxHeartbeats 4000000 in
theorem loaded_any (lv : Value) (L : List O) (w : World) (h : RefL w (fun _ => True) lv L) (hm : L.length ≤ maxLen) :
    Calls Try.prog 16 #[lv] w fun e w' => (e = .returned (.tuple #[.pointer none, .agg #[.slice none 0 0], .bool false]) ∧ Chg No w w' ∧ loadB L = false) ∨ ∃ m, e = .returned (.tuple #[.pointer (some ⟨m, 0, none⟩), .agg #[lv], .bool true]) ∧ LoadedK w lv L m w' ∧ L.length ≤ 200 ∧ loadB L = true := by
  have HRL := Lib.hid (h.more (S' := fun b => b < w.heap.size) (fun b hb _ => hb))
  obtain ⟨T, rfl, hT⟩ := h.toT
  obtain ⟨A, n, c, rfl⟩ : ∃ A n c, lv = .slice A n c := by
    obtain ⟨⟨A, c, e, -⟩, -⟩ := hT
    exact ⟨A, _, c, e⟩
  obtain rfl : T.length = n := by
    obtain ⟨⟨A', c', e, -⟩, -⟩ := hT
    exact (Value.slice.inj e).2.1.symm
  have HT := Lib.hid hT
  have hmax : T.length ≤ 9223372036854775807 := by unfold maxLen at hm; simp at hm; omega
  clear hT h hm
  generalize hn : T.length = n at *
  have HN := Lib.hid hn
  clear hn
  obtain ⟨W, hW⟩ : ∃ W, w.alloc (.cells #[.slice none 0 0] 33) = W := ⟨_, rfl⟩
  have cW : Chg No w W := by rw [← hW]; exact (Chg.refl _ _).alloc _
  have rW : Row W w.heap.size 33 #[.slice none 0 0] := by rw [← hW]; exact Row.new w _ _
  have sW : W.heap.size = w.heap.size + 1 := by rw [← hW]; simp
  have HA := Lib.hid (And.intro cW (And.intro rW sW))
  have HW := Lib.hid hW
  clear cW rW hW sW
  go_enter Try.func16, Try.ntmps16
  go_wp2_with (go_at_call 46; have HZ := HW.out; clear HW; rw [HZ]; refine (k_flatNew (Chg.refl No W)).mono ?_; rintro e w1 ⟨m, rfl, g0⟩)
  have gA : MemK W w1 m [] (fun F v => RefT v (fun b => ¬ F b) (.slice A n c) T ∧ Row v w.heap.size 33 #[.slice none 0 0]) := by
    have hc := g0.chg
    refine g0.now (Chg.refl _ _) fun G hG _ G' w2 h2 h3 c2 _ => ⟨?_, ?_⟩
    · have h1 : RefT w (fun b => b < w.heap.size) (.slice A n c) T := HT.out.more fun b hb _ => hb
      refine ((h1.keep (HA.out.1.trans hc) (fun _ _ f => f)).keep c2 fun b hb hg => ?_).more fun b _ hb hg => ?_
      · have := (hG b hg).2; have := HA.out.2.2; omega
      · rcases h3 b hg with h | h
        · have := (hG b h).2; have := HA.out.2.2; omega
        · have := hc.size; have := HA.out.2.2; omega
    · exact (HA.out.2.1.keep hc (fun f => f)).keep c2 (fun hg => by have := (hG _ hg).2; have := HA.out.2.2; omega)
  clear g0
  go_loopg [6, 7] n (fun j v6 v7 wr => ∃ i s : Nat, v6 = .int .i64 s ∧ v7 = .int .i64 i ∧ i ≤ n ∧ n - i ≤ j ∧ i ≤ s ∧ s ≤ 200 ∧ s = sumN ((T.take i).map (·.1)) ∧ ((T.take i).map (·.1)).all okB = true ∧ MemK W wr m [] (fun F v => RefT v (fun b => ¬ F b) (.slice A n c) T ∧ Row v w.heap.size 33 #[.slice none 0 0]))
  case atStart => exact ⟨0, 0, rfl, rfl, by omega, by omega, by omega, by omega, rfl, by simp, gA⟩
  case round =>
    clear gA
    obtain ⟨i, s, rfl, rfl, i1, i2, s1, s2, hsm, hall, g1⟩ := hrel
    obtain ⟨F1, -, -, hk1, hR1⟩ := g1.opened
    have xR : wr.cell? ⟨w.heap.size, 0, none⟩ = some (.slice none 0 0) := hR1.cell 0
    have fR := hR1.frozen 0
    by_cases hi : i < n
    · obtain ⟨⟨x, wv, bv⟩, hti⟩ : ∃ t, T[i]? = some t := ⟨_, List.getElem?_eq_getElem (by rw [HN.out]; exact hi)⟩
      obtain ⟨b, off, rfl, -, hb, hok, y0, y1, y2, y3⟩ := hk1.at hti
      have hsn := all_snocB hti
      have hsu := sumN_take hti
      have hle := sumN_le T (i + 1)
      have hmem : x ∈ T.map (·.1) := List.mem_map.2 ⟨_, List.mem_of_getElem? hti, rfl⟩
      rw [← hsm] at hsu
      dsimp only at hok y0 y1 y2 y3 hsn hsu
      have HO := Lib.hid (show ObjR wr _ (.agg (cells2 x wv bv)) x from ⟨wv, bv, rfl, hok⟩)
      obtain ⟨A1, c1, hA1, hm1, hm2, -⟩ := hok.1.form
      obtain ⟨A2, c2, hA2, hm3, hm4, -⟩ := hok.2.1.form
      dsimp only at hA1 hA2 hm1 hm3
      subst hA1 hA2
      have zz : ∀ v, Chg No wr v → v.cell? ⟨b, off + i * 4, none⟩ = some (.int .i64 x.cls) ∧ v.cell? ⟨b, off + i * 4 + 1, none⟩ = some (.int .i64 x.kind) ∧ v.cell? ⟨b, off + i * 4 + 2, none⟩ = some (.slice A1 x.W.length c1) ∧ v.cell? ⟨b, off + i * 4 + 3, none⟩ = some (.slice A2 x.B.length c2) := fun v hv => ⟨(hv.cell hb (fun f => f)).trans y0, (hv.cell hb (fun f => f)).trans y1, (hv.cell hb (fun f => f)).trans y2, (hv.cell hb (fun f => f)).trans y3⟩
      have zr : ∀ v, Chg No wr v → v.cell? ⟨w.heap.size, 0, none⟩ = some (.slice none 0 0) ∧ v.frozen? ⟨w.heap.size, 0, none⟩ = false := fun v hv => ⟨(hR1.keep hv (fun f => f)).cell 0, (hR1.keep hv (fun f => f)).frozen 0⟩
      have HG := Lib.hid (And.intro g1 (And.intro hsn hall))
      cases hx : okB x
      · have hc : chk x = 2 := by simp [chk, hx]
        have hlb0 : loadB (T.map (·.1)) = false := by
          have : (T.map (·.1)).all okB = false := by
            rw [List.all_eq_false]
            exact ⟨x, hmem, by simp [hx]⟩
          unfold loadB
          rw [this]; rfl
        have HLB := Lib.hid hlb0
        clear hk1 g1 hR1 hok hti hsn hall y0 y1 y2 y3 hx hm1 hm2 hm3 hm4 hsu hle hmem hlb0 hsm
        go_wp2_with fail
        refine q_region (C := (Chg No wr)) (by kernel_rfl) (by kernel_rfl) ?_ ?_
        · exact (Chg.refl _ _).drew
        repeat
          refine q_step (fun K hK => ?_)
          go_simp
          first
            | ((with_reducible refine hK _ ?_); clear hK K)
            | (refine (if_neg (by simp [undef])).mpr ?_; (with_reducible refine hK _ ?_); clear hK K)
            | (apply Exists.intro
               with_reducible refine ⟨fun v hv => ?_, hK _ ?_⟩
               · first
                   | with_reducible exact rfl
                   | with_reducible exact ⟨rfl, rfl⟩
                   | (go_simp
                      first
                        | done
                        | with_reducible exact rfl
                        | with_reducible exact ⟨rfl, rfl⟩
                        | fail)
               clear hK K)
        refine q_nil ?_
        intro V hV
        have zV := zz V hV
        go_wp2_with (go_at_call 45; refine (Check05_any _ x _ _ (HO.out.keep hV (fun _ _ f => f))).mono ?_; rw [hc]; rintro e w2 ⟨rfl, c2'⟩; have zR := zr w2 (hV.trans c2'); have HC := Lib.hid (hV.trans c2'); clear c2')
        refine bodyPost_ret (v := .tuple #[.pointer none, .agg #[.slice none 0 0], .bool false]) (by simp [results, Try.results16, go_sem, zR]) rfl (.inl ⟨rfl, ?_, HLB.out⟩)
        exact ((HA.out.1.trans HG.out.1.chg).trans HC.out).setCell (.inr (by dsimp only; omega)) _
      · have hc : chk x = 0 := by simp [chk, hx]
        obtain ⟨-, hw1, hb1, -, -⟩ := okB_cases hx
        generalize hlw : x.W.length = lw at *
        generalize hlb : x.B.length = lb at *
        have v1 : IntKind.i64.wrap ((s : Int) + 1) = (s : Int) + 1 := IntWalk.i64_in _ (by omega)
        have v2 : IntKind.i64.wrap ((lw : Int) + lb) = (lw : Int) + lb := IntWalk.i64_in _ (by omega)
        have v3 : ((lw : Int) + lb).tdiv 10 = (((lw + lb) / 10 : Nat) : Int) := by rw [Int.tdiv_eq_ediv_of_nonneg (by omega)]; omega
        have v4 : IntKind.i64.wrap ((((lw + lb) / 10 : Nat) : Int)) = (((lw + lb) / 10 : Nat) : Int) := IntWalk.i64_in _ (by omega)
        have v5 : IntKind.i64.wrap ((s : Int) + 1 + (((lw + lb) / 10 : Nat) : Int)) = ((s + 1 + (lw + lb) / 10 : Nat) : Int) := (IntWalk.i64_in _ (by omega)).trans (by omega)
        obtain ⟨q, hq⟩ : ∃ q, (lw + lb) / 10 = q := ⟨_, rfl⟩
        rw [hq] at v3 v4 v5
        obtain ⟨s', hs'⟩ : ∃ s', s + 1 + q = s' := ⟨_, rfl⟩
        rw [hs'] at v5
        have hss : s + 1 ≤ s' := by omega
        have hsu' : s' = sumN ((T.take (i + 1)).map (·.1)) := by rw [hsu, sum1, hlw, hlb, ← hs', ← hq]; omega
        have HSU := Lib.hid (show s' ≤ sumN (T.map (·.1)) by rw [hsu']; exact hle)
        have HSV := Lib.hid hsu'
        rw [hx, Bool.and_true] at hsn
        have HS := Lib.hid (hsn.trans hall)
        clear hsu hle hmem hsu' hsm hk1 g1 hR1 hok hti hsn hall hlw hlb hs' hq y0 y1 y2 y3 hx hm1 hm2 hm3 hm4
        go_wp2_with fail
        refine q_region (C := (Chg No wr)) (by kernel_rfl) (by kernel_rfl) ?_ ?_
        · exact (Chg.refl _ _).drew
        repeat
          refine q_step (fun K hK => ?_)
          go_simp
          first
            | ((with_reducible refine hK _ ?_); clear hK K)
            | (refine (if_neg (by simp [undef])).mpr ?_; (with_reducible refine hK _ ?_); clear hK K)
            | (apply Exists.intro
               with_reducible refine ⟨fun v hv => ?_, hK _ ?_⟩
               · first
                   | with_reducible exact rfl
                   | with_reducible exact ⟨rfl, rfl⟩
                   | (go_simp
                      first
                        | done
                        | with_reducible exact rfl
                        | with_reducible exact ⟨rfl, rfl⟩
                        | fail)
               clear hK K)
        refine q_nil ?_
        intro V hV
        have zV := zz V hV
        by_cases h200 : 200 < s'
        · have t1 : decide (200 < (s' : Int)) = true := decide_eq_true (by omega)
          go_wp2_with (go_at_call 45; refine (Check05_any _ x _ _ (HO.out.keep hV (fun _ _ f => f))).mono ?_; rw [hc]; rintro e w2 ⟨rfl, c2'⟩; have zR := zr w2 (hV.trans c2'); have HC := Lib.hid (hV.trans c2'); clear c2')
          refine bodyPost_ret (v := .tuple #[.pointer none, .agg #[.slice none 0 0], .bool false]) (by simp [results, Try.results16, go_sem, zR]) rfl (.inl ⟨rfl, ?_, ?_⟩)
          rotate_left
          · have h9 := HSU.out
            unfold loadB
            rw [show decide (sumN (T.map (·.1)) ≤ 200) = false from decide_eq_false (by omega), Bool.and_false]
          exact ((HA.out.1.trans HG.out.1.chg).trans HC.out).setCell (.inr (by dsimp only; omega)) _
        · have t1 : decide (200 < (s' : Int)) = false := decide_eq_false (by omega)
          go_wp2_with (go_at_call 45; refine (Check05_any _ x _ _ (HO.out.keep hV (fun _ _ f => f))).mono ?_; rw [hc]; rintro e w2 ⟨rfl, c2'⟩; have HC := Lib.hid (hV.trans c2'); clear c2')
          go_roundg (n - (i + 1))
          case measure => omega
          case rel => exact ⟨i + 1, s', rfl, by go_num, by omega, by omega, by omega, by omega, HSV.out, HS.out, HG.out.1.world HC.out⟩
    · obtain rfl : i = n := by omega
      rw [List.take_of_length_le (by rw [HN.out]; exact Nat.le_refl _)] at hall hsm
      have hlt : loadB (T.map (·.1)) = true := by
        unfold loadB
        rw [hall, show decide (sumN (T.map (·.1)) ≤ 200) = true from decide_eq_true (by omega)]
        rfl
      have HLT := Lib.hid hlt
      clear hlt hsm
      have hin : i ≤ 200 := by omega
      clear hk1 hR1
      go_wp2_with (go_at_call 47; refine (k_Load_ok g1 _ T (by rw [HN.out]; omega) (fun F v h => h.1) hall).mono ?_; rintro e w3 ⟨rfl, g3⟩; obtain ⟨_, -, -, -, hR3⟩ := g3.opened; have x3 : w3.cell? ⟨w.heap.size, 0, none⟩ = some (.slice none 0 0) := hR3.cell 0; have f3 := hR3.frozen 0; have HG3 := Lib.hid g3; clear hR3 g3)
      have fin : ∀ V, Chg (fun b => b = w.heap.size) w3 V → LoadedK w (.slice A i c) (T.map (·.1)) m V := fun V hV => by
        obtain ⟨F, hf, hc, hF, -⟩ := HG3.out
        have sW := HA.out.2.2
        have cV : Chg No w V := (HA.out.1.trans hc).then hV (fun k hk e => by omega)
        refine ⟨F, hf.keep hV (fun b hb e => by have := hF b hb; omega), cV, fun b hb => by have := hF b hb; omega, fun F2 w2 h1 h2 c2 => ?_⟩
        exact (HRL.out.keep cV (fun _ _ f => f)).keep c2 (fun b hb hg => by have := hF b hg; omega)
      refine bodyPost_ret (v := .tuple #[.pointer (some ⟨m, 0, none⟩), .agg #[.slice A i c], .bool true]) (by simp [results, Try.results16, go_sem, x3]) rfl (.inr ⟨m, rfl, fin _ ?_, ?_, HLT.out⟩)
      · repeat (with_reducible first | exact Chg.refl _ _ | refine Chg.setCell ?_ (.inl (by simp)) _)
      · rw [List.length_map, HN.out]; exact hin

end Go.Proofs.Ytjanojignaonfaa
