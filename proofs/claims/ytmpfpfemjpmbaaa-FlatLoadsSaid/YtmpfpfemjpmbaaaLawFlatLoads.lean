/- The walk of FlatLoads. -/
import Derived.Test.YtmpfpfemjpmbaaaLoad
namespace Go.Proofs.Ytmpfpfemjpmbaaa
open Go.RowKit

/-- what came in is still there, beside a new memory -/
theorem MemK.came {w w1 : World} {m : Nat} {L : List O} {lv : Value} {T : List T3} (g : MemK w w1 m L (fun _ _ => True)) (h : RefT w (fun _ => True) lv T) : MemK w w1 m L (fun F v => RefT v (fun b => ¬ F b) lv T) := by
  have hc := g.chg
  have h1 : RefT w (fun b => b < w.heap.size) lv T := h.more fun b hb _ => hb
  refine g.now (Chg.refl _ _) fun G hG _ G' w2 h2 h3 c2 _ => ?_
  refine (((h1.keep hc (fun _ _ f => f)).keep c2 fun b hb hg => ?_).more fun b _ hb hg => ?_)
  · have := (hG b hg).2; omega
  · rcases h3 b hg with h | h
    · have := (hG b h).2; omega
    · have := hc.size; omega
theorem objV_at (L : List O) (i : Nat) (hi : i < L.length) (hk : (ob L i).kind ≠ 0) (hL : L.length < 1073741823) : objV L (2 * ((i : Int) + 1)) = ob L i ∧ objE L (2 * ((i : Int) + 1)) = 0 := by
  have h : fnd L (2 * ((i : Int) + 1)) = some i := by
    unfold fnd
    have e : (2 * ((i : Int) + 1) / 2 - 1).toNat = i := by omega
    rw [e, if_pos ⟨by simp [namedOk]; omega, hk⟩]
  simp [objV, objE, h]
theorem all_snoc {T : List T3} {i : Nat} {t : T3} (h : T[i]? = some t) : ((T.take (i + 1)).map (·.1)).all okB = (((T.take i).map (·.1)).all okB && okB t.1) := by
  rw [List.take_add_one, h]
  simp

set_option maxRecDepth 100000 in
set_option maxHeartbeats 4000000 in
theorem FlatLoads_any (lv : Value) (L : List O) (w : World) (h : RefL w (fun _ => True) lv L) (hm : L.length ≤ maxLen) :
    Calls Try.prog 7 #[lv] w fun e w' => e = .returned (.bool true) ∧ Below w.heap.size w w' := by
  obtain ⟨T, rfl, hT⟩ := h.toT
  obtain ⟨A, n, c, rfl⟩ : ∃ A n c, lv = .slice A n c := by
    obtain ⟨⟨A, c, e, -⟩, -⟩ := hT
    exact ⟨A, _, c, e⟩
  obtain rfl : T.length = n := by
    obtain ⟨⟨A', c', e, -⟩, -⟩ := hT
    exact (Value.slice.inj e).2.1.symm
  have HT := Lib.hid hT
  have hmax : T.length ≤ 9223372036854775807 := by unfold maxLen at hm; simp at hm; omega
  clear hT h hm
  generalize hn : T.length = n at *
  have HN := Lib.hid hn
  clear hn
  by_cases h60 : 60 < n
  · have t0 : decide (60 < (n : Int)) = true := decide_eq_true (by omega)
    go_enter Try.func7, Try.ntmps7
    go_wp2_with (go_at_call 16; refine (known_any _).mono ?_; rintro e w6 ⟨rfl, g6⟩)
    go_ret
    exact ⟨rfl, g6.below⟩
  have t0 : decide (60 < (n : Int)) = false := decide_eq_false (by omega)
  go_enter Try.func7, Try.ntmps7
  go_wp2_with (go_at_call 18; refine (k_flatNew (Chg.refl _ _)).mono ?_; rintro e w1 ⟨m, rfl, g0⟩)
  have gA := g0.came HT.out
  clear g0
  go_loopg [4, 5] n (fun j v4 v5 wr => ∃ i : Nat, v4 = .bool (((T.take i).map (·.1)).all okB) ∧ v5 = .int .i64 i ∧ i ≤ n ∧ n - i ≤ j ∧ MemK w wr m [] (fun F v => RefT v (fun b => ¬ F b) (.slice A n c) T))
  case atStart => exact ⟨0, rfl, rfl, by omega, by omega, gA⟩
  case round =>
    clear gA
    obtain ⟨i, rfl, rfl, i1, i2, g1⟩ := hrel
    by_cases hi : i < n
    · obtain ⟨⟨x, wv, bv⟩, hti⟩ : ∃ t, T[i]? = some t := ⟨_, List.getElem?_eq_getElem (by rw [HN.out]; exact hi)⟩
      obtain ⟨F1, -, -, hk1⟩ := g1.opened
      obtain ⟨b, off, rfl, -, hb, hok, y0, y1, y2, y3⟩ := hk1.at hti
      have hsn := all_snoc hti
      dsimp only at hok y0 y1 y2 y3 hsn
      have HO := Lib.hid (show ObjR wr _ (.agg (cells2 x wv bv)) x from ⟨wv, bv, rfl, hok⟩)
      have G1 := Lib.hid g1
      clear hok hti hk1 g1
      generalize hall : ((T.take i).map (·.1)).all okB = a at *
      generalize hall2 : ((T.take (i + 1)).map (·.1)).all okB = a2 at *
      have HA2 := Lib.hid hall2
      clear hall hall2
      cases hr : okB x
      · have hc : chk x = 2 := by simp [chk, hr]
        obtain rfl : a2 = false := by rw [hsn, hr, Bool.and_false]
        clear hr hsn
        go_wp2_with (go_at_call 26; refine (Check05_any _ x _ _ HO.out).mono ?_; rw [hc]; rintro e w2 ⟨rfl, c2⟩)
        go_roundg (n - (i + 1))
        case measure => omega
        case rel => exact ⟨i + 1, by rw [HA2.out], by go_num, by omega, by omega, G1.out.world c2⟩
      · have hc : chk x = 0 := by simp [chk, hr]
        obtain rfl : a2 = a := by rw [hsn, hr, Bool.and_true]
        clear hr hsn
        go_wp2_with (go_at_call 26; refine (Check05_any _ x _ _ HO.out).mono ?_; rw [hc]; rintro e w2 ⟨rfl, c2⟩)
        go_roundg (n - (i + 1))
        case measure => omega
        case rel => exact ⟨i + 1, by rw [HA2.out], by go_num, by omega, by omega, G1.out.world c2⟩
    · obtain rfl : i = n := by omega
      have hfin : (T.take i).map (·.1) = T.map (·.1) := by rw [List.take_of_length_le (by rw [HN.out]; exact Nat.le_refl _)]
      rw [hfin]
      clear hfin
      cases hall : (T.map (·.1)).all okB
      · go_wp2_with (first
          | (go_at_call 27; refine (k_Load_bad g1 _ T (by rw [HN.out]; unfold maxLen; omega) (fun F v h => h) (.inr hall) (by decide)).mono ?_; rintro e w3 ⟨rfl, g3⟩; clear g1)
          | (go_at_call 24; refine (k_Made0 g3).mono ?_; rintro e w' ⟨rfl, rfl⟩)
          | (go_at_call 16; refine (known_any _).mono ?_; rintro e w6 ⟨rfl, g6⟩))
        go_ret
        exact ⟨rfl, (g3.chg.trans g6).below⟩
      · have hok : ∀ t ∈ T, okB t.1 = true := fun t ht => List.all_eq_true.1 hall t.1 (List.mem_map.2 ⟨t, ht, rfl⟩)
        have HK := Lib.hid hok
        clear hok
        go_wp2_with (first
          | (go_at_call 27; refine (k_Load_ok g1 _ T (by rw [HN.out]; omega) (fun F v h => h) hall).mono ?_; rintro e w3 ⟨rfl, g3⟩; clear g1)
          | (go_at_call 24; refine (k_Made0 g3).mono ?_; rw [List.length_map, HN.out]; rintro e w' ⟨rfl, rfl⟩))
        go_loopg [7] i (fun j v7 wr => ∃ k : Nat, v7 = .int .i64 k ∧ k ≤ i ∧ i - k ≤ j ∧ MemK w wr m (T.map (·.1)) (fun F v => RefT v (fun b => ¬ F b) (.slice A i c) T))
        case atStart => exact ⟨0, rfl, by omega, by omega, g3⟩
        case round =>
          clear g3
          obtain ⟨k, rfl, k1, k2, g4⟩ := hrel
          by_cases hk : k < i
          · obtain ⟨⟨x, wv, bv⟩, hti⟩ : ∃ t, T[k]? = some t := ⟨_, List.getElem?_eq_getElem (by rw [HN.out]; exact hk)⟩
            have hob : ob (T.map (·.1)) k = x := by rw [ob, List.getElem?_map, hti]; rfl
            have hxk : x.kind ≠ 0 := by
              have := HK.out _ (List.mem_of_getElem? hti)
              rcases (okB_cases this).2.2.2.2 with h | h <;> rw [h.1] <;> decide
            have hv := objV_at (T.map (·.1)) k (by rw [List.length_map, HN.out]; exact hk) (by rw [hob]; exact hxk) (by rw [List.length_map, HN.out]; omega)
            rw [hob] at hv
            have HV := Lib.hid hv
            have HE := Lib.hid hti
            have i64o : In64 (2 * ((k : Int) + 1)) := by unfold In64; omega
            clear hob hxk hv hti
            go_wp2_with (go_at_call 23; refine (k_ObjC g4 (2 * ((k : Int) + 1)) i64o).mono ?_; rw [HV.out.1, HV.out.2]; rintro e w5 ⟨r, rfl, g5, hr5, -⟩; clear g4; have hr6 := hr5.more (S' := fun _ => True) (fun _ _ _ => trivial); obtain ⟨A5, c5, A6, c6, rfl⟩ := hr5.shape; clear hr5)
            generalize hW : World.alloc w5 _ = W at *
            have hc5 : Chg No w5 W := by rw [← hW]; exact (Chg.refl _ _).alloc _
            have hrow : Row W w5.heap.size 25 #[.int .i64 x.cls, .int .i64 x.kind, .slice A5 x.W.length c5, .slice A6 x.B.length c6] := by rw [← hW]; exact Row.new w5 _ _
            have g6 := g5.world hc5
            obtain ⟨F6, -, -, hk6⟩ := g6.opened
            obtain ⟨b, off, rfl, -, hbl, hok, z0, z1, z2, z3⟩ := hk6.at HE.out
            dsimp only at hok z0 z1 z2 z3
            have ho7 : ObjR W (fun b => ¬ F6 b) (.agg (cells2 x wv bv)) x := ⟨wv, bv, rfl, hok⟩
            have y0 : ∀ v, Chg No W v → v.cell? ⟨w5.heap.size, 0, none⟩ = some (.int .i64 x.cls) := fun v hv => (hrow.keep hv (fun f => f)).cell 0
            have y1 : ∀ v, Chg No W v → v.cell? ⟨w5.heap.size, 1, none⟩ = some (.int .i64 x.kind) := fun v hv => (hrow.keep hv (fun f => f)).cell 1
            have y2 : ∀ v, Chg No W v → v.cell? ⟨w5.heap.size, 2, none⟩ = some (.slice A5 x.W.length c5) := fun v hv => (hrow.keep hv (fun f => f)).cell 2
            have y3 : ∀ v, Chg No W v → v.cell? ⟨w5.heap.size, 3, none⟩ = some (.slice A6 x.B.length c6) := fun v hv => (hrow.keep hv (fun f => f)).cell 3
            have x0 : ∀ v, Chg No W v → v.cell? ⟨b, off + k * 4, none⟩ = some (.int .i64 x.cls) := fun v hv => (hv.cell hbl (fun f => f)).trans z0
            have x1 : ∀ v, Chg No W v → v.cell? ⟨b, off + k * 4 + 1, none⟩ = some (.int .i64 x.kind) := fun v hv => (hv.cell hbl (fun f => f)).trans z1
            have x2 : ∀ v, Chg No W v → v.cell? ⟨b, off + k * 4 + 2, none⟩ = some wv := fun v hv => (hv.cell hbl (fun f => f)).trans z2
            have x3 : ∀ v, Chg No W v → v.cell? ⟨b, off + k * 4 + 3, none⟩ = some bv := fun v hv => (hv.cell hbl (fun f => f)).trans z3
            have G := Lib.hid (And.intro g6 (And.intro (hr6.keep hc5 (fun _ _ f => f)) (ho7.more (S' := fun _ => True) (fun _ _ _ => trivial))))
            have hki : (k : Int) < i := by omega
            clear hc5 hW hrow g5 g6 hk6 hok ho7 hr6 z0 z1 z2 z3
            simp only [cells2] at G
            refine q_region (C := (Chg No W)) (by kernel_rfl) (by kernel_rfl) ?_ ?_
            · exact (Chg.refl _ _).drew
            repeat
              refine q_step (fun K hK => ?_)
              go_simp
              first
                | ((with_reducible refine hK _ ?_); clear hK K)
                | (refine (if_neg (by simp [undef])).mpr ?_; (with_reducible refine hK _ ?_); clear hK K)
                | (apply Exists.intro
                   with_reducible refine ⟨fun v hv => ?_, hK _ ?_⟩
                   · first
                       | with_reducible exact rfl
                       | with_reducible exact ⟨rfl, rfl⟩
                       | (go_simp
                          first
                            | done
                            | with_reducible exact rfl
                            | with_reducible exact ⟨rfl, rfl⟩
                            | (go_at_call 17; refine (Same05_eq _ _ x (fun _ => True) _ (G.out.2.1.keep hv (fun _ _ f => f)) (G.out.2.2.keep hv (fun _ _ f => f))).mono ?_; rintro e w5 ⟨rfl, g5⟩; exact ⟨rfl, hv.trans g5⟩))
                   clear hK K)
            refine q_nil ?_
            intro V hV
            go_wp2_with fail
            go_roundg (i - (k + 1))
            case measure => omega
            case rel => exact ⟨k + 1, by go_num, by omega, by omega, G.out.1.world hV⟩
          · obtain rfl : k = i := by omega
            by_cases h0 : k = 0
            · subst h0
              go_wp2_with (go_at_call 16; refine (known_any _).mono ?_; rintro e w6 ⟨rfl, g6⟩)
              go_ret
              exact ⟨rfl, (g4.chg.trans g6).below⟩
            · have t1 : (k == 0) = false := beq_eq_false_iff_ne.2 h0
              have t2 : ((k : Int) == 0) = false := beq_eq_false_iff_ne.2 (by omega)
              have hpos : 0 < (T.map (·.1)).length := by rw [List.length_map, HN.out]; omega
              have HP := Lib.hid hpos
              clear hpos h0
              go_wp2_with (first
                | (go_at_call 27; refine (k_Load_bad g4 _ T (by rw [HN.out]; unfold maxLen; omega) (fun F v h => h) (.inl HP.out) (by rw [List.length_map, HN.out]; omega)).mono ?_; rintro e w5 ⟨rfl, g5⟩; clear g4)
                | (go_at_call 24; refine (k_Made0 g5).mono ?_; rw [List.length_map, HN.out]; rintro e w' ⟨rfl, rfl⟩)
                | (go_at_call 16; refine (known_any _).mono ?_; rintro e w6 ⟨rfl, g6⟩))
              go_ret
              exact ⟨rfl, (g5.chg.trans g6).below⟩

end Go.Proofs.Ytmpfpfemjpmbaaa
