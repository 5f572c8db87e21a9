/- A flat memory's collection: the walk. -/
import Derived.Test.YtmpfpfemjpmbaaaFlatL
import Derived.Test.YtmpfpfemjpmbaaaLoadA
import Derived.WalkMore
namespace Go.Proofs.Ytmpfpfemjpmbaaa
set_option linter.unusedVariables false
set_option linter.unusedSimpArgs false
open Go.RowKit
open Go.ChangeMaps (setBlock)

theorem own_bounds {w : World} {base : Nat} {A : Option Addr} {n c : Nat} {l : List Int} (h : OwnInts w base (.slice A n c) l) : n = l.length ∧ n ≤ c ∧ c ≤ maxLen := by
  obtain ⟨h1, h2 | ⟨g, cap, cur, e, hb, hg, hn, hm, hs, ht⟩⟩ := h
  · obtain ⟨e, e2⟩ := h2
    simp only [Value.slice.injEq] at e
    obtain ⟨rfl, rfl, rfl⟩ := e
    exact ⟨e2.symm, Nat.le_refl _, by unfold maxLen; omega⟩
  · simp only [Value.slice.injEq] at e
    obtain ⟨rfl, rfl, rfl⟩ := e
    exact ⟨rfl, hn, hm⟩
theorem leftN_le (l : List (Int × Value)) (V : Int → Prop) : leftN l V ≤ l.length := by
  unfold leftN
  exact List.length_filter_le _ _
theorem leftN_iff {l : List (Int × Value)} {V V' : Int → Prop} (h : ∀ k, V k ↔ V' k) : leftN l V = leftN l V' := by
  rw [show V = V' from funext fun k => propext (h k)]
theorem nums_snoc {R0 : List Int} {i : Nat} (hi : i < R0.length) : numsOf (R0.take (i + 1)) = numsOf (R0.take i) ++ [namedV (R0[i]?.getD 0)] := by
  unfold numsOf
  rw [List.take_succ_eq_append_getElem hi, List.map_append, List.getElem?_eq_getElem hi]
  rfl

/-- what Collect leaves -/
def Collected (w : World) (m : Nat) (F : Nat → Prop) (L' : List O) (n : Int) (e : Ending) (w' : World) : Prop := e = .returned (.tuple #[.int .i64 n, .int .i64 0]) ∧ Flat w' m F L' ∧ Chg F w w'

set_option maxRecDepth 100000 in
set_option maxHeartbeats 4000000 in
theorem Collect_any {w : World} {m : Nat} {F : Nat → Prop} {L : List O} {q : Nat} {es : List (Int × Value)} {ad : Nat → Nat} {wv bv : Nat → Value} (h : FlatI w m F L q es ad wv bv) (v : Value) (R0 : List Int) (S : Nat → Prop) (hR : IntS w S v R0) (hRl : R0.length ≤ 1073741823) :
    Calls Try.prog 32 #[.pointer (some ⟨m, 0, none⟩), v] w (Collected w m F (colL L (numsOf R0)) ((liveN L : Int) - liveN (colL L (numsOf R0)))) := by
  have c0 : w.cell? ⟨m, 0, none⟩ = some (.map (some q)) := h.row.cell 0
  have hmk := fun w => run_makeMap (P := Try.prog) 89 w
  obtain ⟨A, cA, rfl, -⟩ := hR.form
  have H := Lib.hid h
  have HR := Lib.hid hR
  have hml := h.row.lt
  generalize hn : R0.length = n at *
  have HN := Lib.hid hn
  clear h hR hn
  go_enter Try.func32, Try.ntmps32
  go_wp2_with fail
  go_step3
  go_wp2_with fail
  generalize hW : World.alloc (World.alloc w _) _ = W2
  have hs2 : W2.heap.size = w.heap.size + 2 := by rw [← hW]; simp
  have hc2 : Chg No w W2 := by rw [← hW]; exact ((Chg.refl _ _).alloc _).alloc _
  have hset : SetV W2 (w.heap.size + 1) w.heap.size [] (fun _ => false) := by
    rw [← hW]
    exact ⟨by simpa using Row.new (w.alloc (.map #[] 0)) 89 #[.map (some w.heap.size)], (IMap.new w).keep (F := No) ((Chg.refl _ _).alloc _) (fun f => f), fun k => rfl⟩
  clear hW hmk
  go_loopg [7, 20] n (fun j v7 v20 wr => ∃ i : Nat, v20 = .int .i64 i ∧ i ≤ n ∧ n - i ≤ j ∧ OwnInts wr W2.heap.size v7 (numsOf (R0.take i)) ∧ Chg (fun k => W2.heap.size ≤ k) W2 wr)
  case atStart => exact ⟨0, rfl, by omega, by omega, World.ownsRow_nil _ _ _ _, Chg.refl _ _⟩
  case round =>
    obtain ⟨i, rfl, i1, i2, own, cw⟩ := hrel
    have hlen : (numsOf (R0.take i)).length = i := by
      simp [numsOf]; have := HN.out; omega
    obtain ⟨A7, c7, rfl⟩ := own.form
    have cwN : Chg No w wr := hc2.then cw (fun k hk hle => by omega)
    by_cases hi : i < n
    · obtain ⟨b, off, rfl, hbl, hcx, x64, -⟩ := (HR.out.keep cwN (fun _ _ f => f)).at (i := i) (by rw [HN.out]; exact hi)
      have hsn := nums_snoc (R0 := R0) (i := i) (by rw [HN.out]; exact hi)
      generalize R0[i]?.getD 0 = x at *
      obtain ⟨A5, c5, w5, hr5, ho5, cg5⟩ := app_one own (by omega) cw.size (namedV x) 22
      rw [hlen] at hr5 ho5 ⊢
      have HX := Lib.hid (And.intro hr5 (And.intro hsn (And.intro ho5 (cw.trans cg5))))
      have HM := fun w => Named_any x x64.1 x64.2 w
      clear hsn own cw hr5 ho5 cg5 cwN hset
      go_wp2_with (first
        | (go_at_call 41; refine (HM _).mono ?_; rintro e w' ⟨rfl, rfl⟩)
        | (at_builtin; refine wpList_append_run rfl _ _ _ rfl rfl rfl HX.out.1 ?_))
      go_roundg (n - (i + 1))
      case measure => omega
      case rel => exact ⟨i + 1, by go_num, by omega, by omega, by rw [HX.out.2.1]; exact HX.out.2.2.1, HX.out.2.2.2⟩
    · obtain rfl : i = n := by omega
      rw [List.take_of_length_le (by rw [HN.out]; exact Nat.le_refl _)] at own hlen
      rw [List.take_of_length_le (by rw [HN.out]; exact Nat.le_refl _)]
      rw [hlen]
      rw [hlen] at own
      have hset1 := hset.keep cw (by omega) (by omega)
      generalize numsOf R0 = R at *
      go_wp2_with fail
      go_step3
      go_wp2_with fail
      have hlb : leftN es (fun _ => False) ≤ 1073741823 := by
        have h1 := leftN_le es (fun _ => False)
        have h2 := H.out.len
        have h3 := H.out.made
        have h4 : liveN L ≤ L.length := by
          unfold liveN
          exact Nat.le_trans (List.length_filter_le _ _) (by simp)
        omega
      go_loopg [7] (i + 1001 * leftN es (fun _ => False)) (fun j v7 wr => ∃ (td : List Int) (sl : List (Int × Value)) (sb : Int → Bool), OwnInts wr W2.heap.size v7 td ∧ SetV wr (w.heap.size + 1) w.heap.size sl sb ∧ DInv L R td (fun k => sb k = true) ∧
        td.length + 1001 * leftN es (fun k => sb k = true) ≤ j ∧ td.length + 1001 * leftN es (fun k => sb k = true) ≤ i + 1001 * leftN es (fun _ => False) ∧ Chg No w wr ∧ W2.heap.size ≤ wr.heap.size)
      case atStart =>
        refine ⟨R, [], fun _ => false, own, hset1, by simpa using DInv.start L R, ?_, ?_, cwN, cw.size⟩
        · rw [hlen, leftN_iff (V' := fun _ => False) (by simp)]; exact Nat.le_refl _
        · rw [hlen, leftN_iff (V' := fun _ => False) (by simp)]; exact Nat.le_refl _
      case round =>
        clear own hset1 hset cw cwN
        obtain ⟨td, sl, sb, own, hset, hd, m1, m2, cw, hsz⟩ := hrel
        rcases List.eq_nil_or_concat td with rfl | ⟨td, id, rfl⟩
        · obtain ⟨A8, c8, rfl⟩ := own.form
          have hf := H.out.keep cw (fun _ _ f => f)
          have c0' : wr.cell? ⟨m, 0, none⟩ = some (.map (some q)) := hf.row.cell 0
          have hl1 := hf.map.len (P := Try.prog) elem_map 3
          rw [hf.len] at hl1
          have hdone := hd.done
          have hsb : ∀ k, Reach L R k ↔ live L k ∧ sb k = true := fun k => ⟨fun h => ⟨h.there, (hdone k).1 h⟩, fun h => (hdone k).2 h.2⟩
          have hql := H.out.map.lt
          have hptr : ∀ k u, (k, u) ∈ es → ∃ a, u = .pointer a := fun k u hk => by
            have h1 := mget_mem H.out.map.nodup hk
            rw [H.out.get k] at h1
            split at h1
            · cases h1; exact ⟨_, rfl⟩
            · cases h1
          have hlv := liveN_col L R
          have hlv2 : liveN L ≤ 1073741823 := by
            have h4 : liveN L ≤ L.length := by
              unfold liveN
              exact Nat.le_trans (List.length_filter_le _ _) (by simp)
            have := H.out.made
            omega
          have hwr : IntKind.i64.wrap ((liveN L : Int) - (liveN (colL L R) : Int)) = (liveN L : Int) - (liveN (colL L R) : Int) := IntWalk.i64_in _ (by omega)
          have HX := Lib.hid (And.intro hf (And.intro hset (And.intro hsb (And.intro cw hptr))))
          clear hf hset hsb hdone hd own cw hptr m1 m2 hlv hlb
          go_wp2_with (go_at_call 55; refine (DeleteFunc_any HX.out.1.map HX.out.2.1 (by omega) HX.out.2.2.2.2).mono ?_; rintro e w5 ⟨rfl, es', hq', hget, c5⟩; have hcol := HX.out.1.collected HX.out.2.2.1 hq' hget c5; have c0'' : w5.cell? ⟨m, 0, none⟩ = some (.map (some q)) := hcol.row.cell 0; have hl2 := hq'.len (P := Try.prog) elem_map 3; rw [hcol.len] at hl2; have HC := Lib.hid (And.intro hcol c5); clear hq' hget c5 hcol)
          rw [Exit.noGoto_ret]
          go_ret2
          exact ⟨rfl, ⟨q, es', ad, wv, bv, HC.out.1⟩, (HX.out.2.2.2.1.no).then HC.out.2 (fun i hi e => e ▸ H.out.qF)⟩
        · rw [List.concat_eq_append] at own hd m1 m2
          obtain ⟨A8, c8, rfl⟩ := own.form
          have hlk : (td ++ [id]).length = td.length + 1 := by simp
          obtain ⟨g, rfl, hg, hgl, -, hcx⟩ := own.at (i := td.length) (by omega)
          rw [Nat.zero_add, show (td ++ [id])[td.length]?.getD 0 = id by simp] at hcx
          obtain ⟨-, hb1, hb2⟩ := own_bounds own
          rw [hlk] at own hb1 m1 m2 ⊢
          have hsh := own_short own rfl
          generalize hk : td.length = k at *
          have HK := Lib.hid hk
          have hf := H.out.keep cw (fun _ _ f => f)
          have c0' : wr.cell? ⟨m, 0, none⟩ = some (.map (some q)) := hf.row.cell 0
          have hl1 := hf.map.lookup (P := Try.prog) elem_map Try.underlying3 zero_ptr id
          rw [hf.get id] at hl1
          have hw1 : IntKind.i64.wrap (k : Int) = (k : Int) := IntWalk.i64_in _ (by omega)
          have hk1 : (k : Int) < (k : Int) + 1 := by omega
          have hk2 : (k : Int) ≤ c8 := by omega
          have hk3 : k ≤ c8 := by omega
          have hk4 : (0 : Int) ≤ k := by omega
          clear hk hlk own hb1 hb2
          by_cases hl : live L id
          · rw [if_pos (show 1 ≤ id ∧ (ob L (id - 1).toNat).kind ≠ 0 from hl)] at hl1
            simp only [Option.getD_some] at hl1
            have c1' : wr.cell? ⟨w.heap.size + 1, 0, none⟩ = some (.map (some w.heap.size)) := hset.row.cell 0
            have hl2 := hset.map.lookup (P := Try.prog) elem_bmap Try.underlying3 zero_bool id
            rw [hset.get id] at hl2
            cases hsb : sb id
            · rw [hsb] at hl2
              have hi0 := hl.2
              obtain ⟨ob0, hupd, hmap2⟩ := hset.map.update (P := Try.prog) elem_bmap Try.underlying3 id (.bool true)
              have cm : Chg (fun b => b = w.heap.size) wr (setBlock wr w.heap.size ob0) := Chg.setBlock (F := fun b => b = w.heap.size) (Chg.refl _ _) (.inl rfl) ob0
              have hget2 : ∀ x, (mget x (mset id (.bool true) sl)).getD (.bool false) = .bool (if x = id then true else sb x) := fun x => by
                rw [mget_mset]
                by_cases hx : x = id
                · simp [hx]
                · simp [hx, hset.get x]
              have setm : SetV (setBlock wr w.heap.size ob0) (w.heap.size + 1) w.heap.size (mset id (.bool true) sl) (fun x => if x = id then true else sb x) := ⟨hset.row.keep cm (by omega), hmap2, hget2⟩
              have hshm := hsh.keep cm (fun b hb e => by omega)
              have cwm : Chg No w (setBlock wr w.heap.size ob0) := cw.then cm (fun j hj e => by omega)
              have hszm : W2.heap.size ≤ (setBlock wr w.heap.size ob0).heap.size := Nat.le_trans hsz cm.size
              have hfm := H.out.keep cwm (fun _ _ f => f)
              have hmem : (id, .pointer (some ⟨ad (id - 1).toNat, 0, none⟩)) ∈ es := mget_some_mem (by rw [H.out.get, if_pos (show 1 ≤ id ∧ (ob L (id - 1).toNat).kind ≠ 0 from hl)])
              have hlt := leftN_lt hmem (V := fun x => sb x = true) (by rw [hsb]; decide)
              have hVV : ∀ x, (if x = id then true else sb x) = true ↔ sb x = true ∨ x = id := fun x => by
                by_cases hx : x = id <;> simp [hx]
              rw [← leftN_iff hVV] at hlt
              have hdm := hd.mark (V' := fun x => (if x = id then true else sb x) = true) hl hVV
              clear hset hsh cm hget2 hmap2 hmem hd cw hf hsb hl hsz
              generalize setBlock wr w.heap.size ob0 = Wm at *
              generalize hi' : (id - 1).toNat = ix at *
              have ho := hfm.own ix hi0
              have hok := hfm.ok ix hi0
              obtain ⟨A1, k1, e1⟩ := own_form ho.ws
              obtain ⟨A2, k2, e2⟩ := own_form ho.bs
              have hrow := ho.row
              have hread := ho.read hok
              rw [e1, e2] at hrow hread
              obtain ⟨x0, x1, x2, x3, -⟩ := hrow.four
              have hrl : (refsO (ob L ix)).length ≤ 1001 := Nat.le_trans (fm_len _) (by have := hok.2.2.1; simp; omega)
              have hWl : (ob L ix).W.length ≤ 1000000 := by have := hok.2.2.1; omega
              have HY := Lib.hid (And.intro hread (And.intro hshm (And.intro setm (And.intro hdm (And.intro cwm (And.intro hszm (And.intro hrl (And.intro hWl hlt))))))))
              clear hread hshm setm hdm cwm hszm hrl hWl hlt hVV ho hok e1 e2 hrow hfm hi0 hi'
              simp only [cells2] at HY
              go_wp2_with (first
                | (go_at_call 54; refine (Refs_any _ (ob L ix) _ _ HY.out.1 HY.out.2.2.2.2.2.2.2.1).mono ?_; rintro e w5 ⟨u, rfl, ho5, c5⟩; obtain ⟨A5, c5', rfl⟩ := ho5.form; obtain ⟨A6, c6, w6, hr6, ho6, cg6⟩ := app_many (HY.out.2.1.keep c5 (fun _ _ f => f)) ho5 (by have h1 := HY.out.2.2.2.2.2.2.1; have h2 := HK.out; omega) (Nat.le_trans HY.out.2.2.2.2.2.1 c5.size) 22; rw [HK.out] at hr6 ho6; have HZ := Lib.hid (And.intro hr6 (And.intro ho6 (And.intro cg6 c5))); clear hr6 ho6 cg6 c5 ho5)
                | (at_builtin; refine wpList_append_run rfl _ _ _ rfl rfl rfl HZ.out.1 ?_))
              go_roundg (k + (refsO (ob L ix)).length + 1001 * leftN es (fun x => (if x = id then true else sb x) = true))
              case measure =>
                have h1 := HY.out.2.2.2.2.2.2.1
                have h2 := HY.out.2.2.2.2.2.2.2.2
                omega
              case rel =>
                obtain ⟨hread, hshm, setm, hdm, cwm, hszm, hrl, hWl, hlt⟩ := HY.out
                obtain ⟨hr6, ho6, cg6, c5⟩ := HZ.out
                have hs5 := c5.size
                refine ⟨td ++ refsO (ob L ix), _, _, ho6, (setm.keep c5 (fun f => f) (fun f => f)).keep cg6 (by omega) (by omega), hdm, ?_, ?_, (cwm.trans c5).then cg6 (fun j hj hle => by omega), Nat.le_trans hszm (Nat.le_trans hs5 cg6.size)⟩
                · rw [List.length_append, HK.out]; exact Nat.le_refl _
                · rw [List.length_append, HK.out]; omega
            · rw [hsb] at hl2
              have HX := Lib.hid (And.intro hsh (And.intro hset (And.intro (hd.skip (.inr hsb)) (And.intro cw hsz))))
              clear hsh hset hd cw hsz hl hf hsb
              go_wp2_with fail
              go_roundg (k + 1001 * leftN es (fun k => sb k = true))
              case measure => omega
              case rel =>
                obtain ⟨hsh, hset, hd, cw, hsz⟩ := HX.out
                exact ⟨td, sl, sb, hsh, hset, hd, by rw [HK.out]; exact Nat.le_refl _, by rw [HK.out]; omega, cw, hsz⟩
          · rw [if_neg (show ¬ (1 ≤ id ∧ (ob L (id - 1).toNat).kind ≠ 0) from hl)] at hl1
            simp only [Option.getD_none] at hl1
            have HX := Lib.hid (And.intro hsh (And.intro hset (And.intro (hd.skip (.inl hl)) (And.intro cw hsz))))
            clear hsh hset hd cw hsz hl hf
            go_wp2_with fail
            go_roundg (k + 1001 * leftN es (fun k => sb k = true))
            case measure => omega
            case rel =>
              obtain ⟨hsh, hset, hd, cw, hsz⟩ := HX.out
              exact ⟨td, sl, sb, hsh, hset, hd, by rw [HK.out]; exact Nat.le_refl _, by rw [HK.out]; omega, cw, hsz⟩

end Go.Proofs.Ytmpfpfemjpmbaaa
