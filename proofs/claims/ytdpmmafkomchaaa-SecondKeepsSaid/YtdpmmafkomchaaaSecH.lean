/- Rows of bytes in runs of sectors: extent.Space, its walks. -/
import Derived.Test.YtdpmmafkomchaaaSecG
import Derived.Test.YtdpmmafkomchaaaImgR
import Derived.BigRegion
namespace Go.Proofs.Ytdpmmafkomchaaa
set_option linter.unusedVariables false
set_option linter.unusedSimpArgs false
open Go.RowKit
open Go.ChangeMaps (setBlock)


/-- a space's blocks -/
structure Blk where
  r : Nat
  d : Nat
  g : Nat
  b : Nat
  h : Nat
  v : Nat
def Blk.has (B : Blk) (k : Nat) : Prop := k = B.r ∨ k = B.d ∨ k = B.g ∨ k = B.b ∨ k = B.h ∨ k = B.v
/-- block B.r is a space of N sectors: the disk's bytes D, the words ws of what is taken, the map E of what lives -/
structure ExtI (w : World) (B : Blk) (N : Nat) (D : List Int) (ws : List Nat) (E : List (Ex × Value)) : Prop where
  row : Row w B.r 97 #[.pointer (some ⟨B.d, 0, none⟩), .pointer (some ⟨B.b, 0, none⟩), .map (some B.v)]
  disk : DiskI w B.d B.g N D
  bits : BitI w B.b B.h N ws
  live : GMap kv3 w B.v E
section
variable {w w' : World} {B : Blk} {N : Nat} {D : List Int} {ws : List Nat} {E : List (Ex × Value)} {F : Nat → Prop}
theorem ExtI.keep (H : ExtI w B N D ws E) (c : Chg F w w') (hF : ∀ k, B.has k → ¬ F k) : ExtI w' B N D ws E :=
  ⟨H.row.keep c (hF _ (.inl rfl)), H.disk.keep c (hF _ (.inr (.inl rfl))) (hF _ (.inr (.inr (.inl rfl)))), H.bits.keep c (hF _ (.inr (.inr (.inr (.inl rfl))))) (hF _ (.inr (.inr (.inr (.inr (.inl rfl)))))), H.live.keep c (hF _ (.inr (.inr (.inr (.inr (.inr rfl))))))⟩
theorem ExtI.lt (H : ExtI w B N D ws E) {k : Nat} (hk : B.has k) : k < w.heap.size := by
  obtain ⟨r, u, hd⟩ := H.disk.row
  rcases hk with rfl | rfl | rfl | rfl | rfl | rfl
  · exact H.row.lt
  · exact hd.lt
  · exact H.disk.brow.lt
  · exact H.bits.row.lt
  · exact H.bits.wrow.lt
  · exact H.live.lt
/-- the blocks are not the same -/
theorem ExtI.ne (H : ExtI w B N D ws E) : (B.r ≠ B.d ∧ B.r ≠ B.g ∧ B.r ≠ B.b ∧ B.r ≠ B.h ∧ B.r ≠ B.v) ∧ (B.d ≠ B.g ∧ B.d ≠ B.b ∧ B.d ≠ B.h ∧ B.d ≠ B.v) ∧ (B.g ≠ B.b ∧ B.g ≠ B.h ∧ B.g ≠ B.v) ∧ (B.b ≠ B.h ∧ B.b ≠ B.v) ∧ B.h ≠ B.v := by
  obtain ⟨r, u, hd⟩ := H.disk.row
  have hr := H.row
  have hg := H.disk.brow
  have hb := H.bits.row
  have hh := H.bits.wrow
  have hv := H.live
  exact ⟨⟨hr.ne hd (by decide), hr.ne hg (by decide), hr.ne hb (by decide), hr.ne hh (by decide), (hv.ne_row hr).symm⟩, ⟨hd.ne hg (by decide), hd.ne hb (by decide), hd.ne hh (by decide), (hv.ne_row hd).symm⟩, ⟨hg.ne hb (by decide), hg.ne hh (by decide), (hv.ne_row hg).symm⟩, ⟨hb.ne hh (by decide), (hv.ne_row hb).symm⟩, (hv.ne_row hh).symm⟩
end

set_option maxHeartbeats 400000 in
theorem Sectors_any (k : Nat) (hk : k ≤ 1000000000) (w : World) : Calls Try.prog 52 #[.int .i64 k] w fun e w' => e = .returned (.int .i64 (secN k)) ∧ w = w' := by
  have e1 : ((k : Int) + 64 - 1) / 64 = ((k + 63) / 64 : Nat) := by omega
  by_cases hc : 1 ≤ (k + 63) / 64
  · have e2 : secN k = (k + 63) / 64 := by unfold secN; omega
    rw [e2]
    generalize (k + 63) / 64 = m at *
    clear e2
    go_enter Try.func52, Try.ntmps52
    go_wp2_with fail
    go_ret
    exact ⟨rfl, rfl⟩
  · obtain rfl : k = 0 := by omega
    show Calls Try.prog 52 #[.int .i64 0] w fun e w' => e = .returned (.int .i64 1) ∧ w = w'
    clear e1 hc hk
    go_enter Try.func52, Try.ntmps52
    go_wp2_with fail
    go_ret
    exact ⟨rfl, rfl⟩

theorem elem_live : Try.prog.underlying 95 = some (.map 67 4) := Try.underlying95
theorem zero_bool (w : World) : (zeroValue 4).run Try.prog w = .ok (.bool false) w := by kernel_rfl

set_option maxRecDepth 100000 in
set_option maxHeartbeats 1000000 in
theorem lives_ok {w : World} {B : Blk} {N : Nat} {D : List Int} {ws : List Nat} {E : List (Ex × Value)} (H : ExtI w B N D ws E) (x : Ex) (hx : gget x E = some (.bool true)) :
    Calls Try.prog 60 #[.pointer (some ⟨B.r, 0, none⟩), .agg #[.int .i64 x.1, .int .i64 x.2.1, .int .i64 x.2.2]] w fun e w' => e = .returned (.int .i64 0) ∧ Chg No w w' := by
  obtain ⟨x1, x2, x3⟩ := x
  have hlk := H.live.lookup (P := Try.prog) elem_live key3 zero_bool (x1, x2, x3)
  rw [hx] at hlk
  simp only [Option.getD_some] at hlk
  show Calls Try.prog 60 #[.pointer (some ⟨B.r, 0, none⟩), kv3 (x1, x2, x3)] w _
  unfold kv3 at hlk ⊢
  dsimp only at hlk ⊢
  obtain ⟨W1, hW1⟩ : ∃ W, w.alloc (.cells #[.int .i64 x1, .int .i64 x2, .int .i64 x3] 67) = W := ⟨_, rfl⟩
  have c1 : Chg No w W1 := by rw [← hW1]; exact (Chg.refl _ _).alloc _
  have rx : Row W1 w.heap.size 67 #[.int .i64 x1, .int .i64 x2, .int .i64 x3] := by rw [← hW1]; exact Row.new w _ _
  have HW := Lib.hid hW1
  have HC := Lib.hid c1
  have hl : ∀ v, Chg No W1 v → (Instr.lookup 95 (.map (some B.v)) (.agg #[.int .i64 x1, .int .i64 x2, .int .i64 x3]) false).run Try.prog v = .ok (.bool true) v := fun v hv => by
    have := (H.keep (c1.trans hv) (fun _ _ f => f)).live.lookup (P := Try.prog) elem_live key3 zero_bool (x1, x2, x3)
    rw [hx] at this
    exact this
  have f2 : ∀ v, Chg No W1 v → v.cell? ⟨B.r, 2, none⟩ = some (.map (some B.v)) := fun v hv => (H.keep (c1.trans hv) (fun _ _ f => f)).row.cell 2
  have g0 : ∀ v, Chg No W1 v → v.cell? ⟨w.heap.size, 0, none⟩ = some (.int .i64 x1) := fun v hv => (rx.keep hv (fun f => f)).cell 0
  have g1 : ∀ v, Chg No W1 v → v.cell? ⟨w.heap.size, 1, none⟩ = some (.int .i64 x2) := fun v hv => (rx.keep hv (fun f => f)).cell 1
  have g2 : ∀ v, Chg No W1 v → v.cell? ⟨w.heap.size, 2, none⟩ = some (.int .i64 x3) := fun v hv => (rx.keep hv (fun f => f)).cell 2
  clear hlk H hx hW1 c1 rx
  go_enter Try.func60, Try.ntmps60
  go_wp2_with (first | (rw [HW.out]) | fail)
  refine q_region (C := (Chg No W1)) (by kernel_rfl) (by kernel_rfl) ?_ ?_
  · exact (Chg.refl _ _).drew
  repeat
    refine q_step (fun K hK => ?_)
    go_simp
    first
      | ((with_reducible refine hK _ ?_); clear hK K)
      | (refine (if_neg (by simp [undef])).mpr ?_; (with_reducible refine hK _ ?_); clear hK K)
      | (apply Exists.intro
         with_reducible refine ⟨fun v hv => ?_, hK _ ?_⟩
         · first
             | with_reducible exact rfl
             | with_reducible exact ⟨rfl, rfl⟩
             | (go_simp
                first
                  | done
                  | with_reducible exact rfl
                  | with_reducible exact ⟨rfl, rfl⟩
                  | fail)
         clear hK K)
  refine q_nil ?_
  intro V hV
  go_wp2_with fail
  go_ret
  exact ⟨rfl, HC.out.trans hV⟩

theorem IExt.cells {w : World} {k : Nat} {x y z : Value} {t : TypeId} (h : Row w k t #[x, y, z]) : w.cell? ⟨k, 0, none⟩ = some x ∧ w.cell? ⟨k, 1, none⟩ = some y ∧ w.cell? ⟨k, 2, none⟩ = some z ∧ ∀ i, w.frozen? ⟨k, i, none⟩ = false :=
  ⟨h.cell 0, h.cell 1, h.cell 2, h.frozen⟩

set_option maxRecDepth 100000 in
set_option maxHeartbeats 1000000 in
theorem lay_ok {w : World} {B : Blk} {N : Nat} {D : List Int} {ws : List Nat} {E : List (Ex × Value)} (H : ExtI w B N D ws E) (f n : Nat) (z : Int) (bv : Value) (l : List Int) (S : Nat → Prop) (hb : ByteS w S bv l) (hS : ∀ k, S k → ¬ B.has k) (hn : n = secN l.length) (hl1 : 1 ≤ l.length) (hl2 : l.length ≤ 1000000) (hf : f + n ≤ N) :
    Calls Try.prog 55 #[.pointer (some ⟨B.r, 0, none⟩), .agg #[.int .i64 f, .int .i64 n, .int .i64 z], bv] w fun e w' => e = .returned (.agg #[.int .i64 f, .int .i64 n, .int .i64 l.length]) ∧
      ExtI w' B N (layD D f l n) ws (gset ((f : Int), (n : Int), (l.length : Int)) (.bool true) E) ∧ Chg (fun k => k = B.d ∨ k = B.g ∨ k = B.v) w w' := by
  obtain ⟨A, c, rfl, hcap, hcapm, -⟩ := hb.form
  obtain ⟨sb, so, rfl⟩ := hb.some hl1
  have hmax := H.disk.max
  obtain ⟨W1, hW1⟩ : ∃ W, (w.alloc (.cells #[.int .i64 f, .int .i64 n, .int .i64 z] 67)).alloc (.cells #[.int .i64 0, .int .i64 0, .int .i64 0] 67) = W := ⟨_, rfl⟩
  have c1 : Chg No w W1 := by rw [← hW1]; exact ((Chg.refl _ _).alloc _).alloc _
  have hs1 : W1.heap.size = w.heap.size + 2 := by rw [← hW1]; simp
  have rx : Row W1 w.heap.size 67 #[.int .i64 f, .int .i64 n, .int .i64 z] := by rw [← hW1]; exact (Row.new w _ _).alloc _
  have ry : Row W1 (w.heap.size + 1) 67 #[.int .i64 0, .int .i64 0, .int .i64 0] := by
    rw [← hW1]
    have := Row.new (w.alloc (.cells #[.int .i64 f, .int .i64 n, .int .i64 z] 67)) 67 #[.int .i64 0, .int .i64 0, .int .i64 0]
    simpa using this
  have HW := Lib.hid hW1
  have H1 := Lib.hid (And.intro (H.keep c1 (fun _ _ f => f)) (And.intro c1 (And.intro rx (And.intro ry (hb.keep c1 (fun _ _ f => f))))))
  have hlt := fun k (hk : B.has k) => H.lt hk
  have HLT := Lib.hid hlt
  have HS := Lib.hid hS
  have HNE := Lib.hid H.ne
  obtain ⟨y0, y1, y2, yf⟩ := IExt.cells rx
  generalize hm : l.length = m at *
  have HM := Lib.hid hm
  have hcap2 : c ≤ 9223372036854775807 := by unfold maxLen at hcapm; simp at hcapm; omega
  have hnm : n * 64 ≤ m + 64 ∧ m ≤ n * 64 ∧ 1 ≤ n ∧ (n - 1) * 64 < m := by rw [hn]; unfold secN; omega
  clear hW1 c1 H hb hS rx ry hlt hm hcapm hn yf
  go_enter Try.func55, Try.ntmps55
  go_wp2_with (first | (rw [HW.out]) | fail)
  go_loopg [11] n (fun j v11 wr => ∃ i : Nat, v11 = .int .i64 (i : Int) ∧ i ≤ n ∧ n - i ≤ j ∧ DiskI wr B.d B.g N (layD D f l i) ∧ Chg (fun k => k = B.d ∨ k = B.g) W1 wr)
  case atStart => exact ⟨0, rfl, by omega, by omega, H1.out.1.disk, Chg.refl _ _⟩
  case round =>
    clear y0 y1 y2
    obtain ⟨i, rfl, i1, i2, hd, cw⟩ := hrel
    by_cases hi : i < n
    · have e1 : min ((i : Int) * 64) (m : Int) = (i : Int) * 64 := by omega
      obtain ⟨e, he, he1, he2, he3⟩ : ∃ e : Nat, e = min (i * 64 + 64) m ∧ i * 64 < e ∧ e ≤ i * 64 + 64 ∧ e ≤ m := ⟨_, rfl, by omega, by omega, by omega⟩
      have e2 : (if (m : Int) < (i : Int) * 64 + 64 then (m : Int) else (i : Int) * 64 + 64) = (e : Int) := by split <;> omega
      have e3 : IntKind.i64.wrap ((i : Int) * 64 + 64) = (i : Int) * 64 + 64 := IntWalk.i64_in _ (by omega)
      have e4 : IntKind.i64.wrap ((f : Int) + (i : Int)) = (f : Int) + (i : Int) := IntWalk.i64_in _ (by omega)
      have t2 : 0 ≤ (i : Int) * 64 ∧ (i : Int) * 64 ≤ (e : Int) := by omega
      have t3 : 0 ≤ (e : Int) ∧ (e : Int) ≤ (c : Int) := by omega
      have t4 : (e : Int) ≤ (c : Int) := by omega
      have t5 : (i : Int) * 64 ≤ (e : Int) := by omega
      have t1 : decide ((i : Int) < (n : Int)) = true := decide_eq_true (by omega)
      have fr : ∀ v, Chg No wr v → v.cell? ⟨B.r, 0, none⟩ = some (.pointer (some ⟨B.d, 0, none⟩)) := fun v hv => ((H1.out.1.row.keep cw (fun h => h.elim HNE.out.1.1 HNE.out.1.2.1)).keep hv (fun f => f)).cell 0
      have hxd : ∀ v, Chg No wr v → Row v w.heap.size 67 #[.int .i64 f, .int .i64 n, .int .i64 z] := fun v hv => (H1.out.2.2.1.keep cw (fun h => by
        have h1 := HLT.out B.d (.inr (.inl rfl))
        have h2 := HLT.out B.g (.inr (.inr (.inl rfl)))
        omega)).keep hv (fun f => f)
      have fx : ∀ v, Chg No wr v → v.cell? ⟨w.heap.size, 0, none⟩ = some (.int .i64 f) := fun v hv => (hxd v hv).cell 0
      have HD := Lib.hid (And.intro hd cw)
      have hcc : ¬ c = i * 64 := by omega
      clear hxd hd cw he
      go_wp2_with fail
      refine rem_start (by kernel_rfl) (by kernel_rfl) ?_
      refine rem_quiet 16 (C := (Chg No wr)) (by kernel_rfl) (by simp only [List.toList_toArray, List.drop_succ_cons, List.drop_zero, List.take_succ_cons, List.take_zero, Nat.reduceSub, Nat.reduceAdd]; rfl) ?_ ?_
      · exact (Chg.refl _ _).drew
      repeat
        refine q_step (fun K hK => ?_)
        go_simp
        first
          | ((with_reducible refine hK _ ?_); clear hK K)
          | (refine (if_neg (by simp [undef])).mpr ?_; (with_reducible refine hK _ ?_); clear hK K)
          | (apply Exists.intro
             with_reducible refine ⟨fun v hv => ?_, hK _ ?_⟩
             · first
                 | with_reducible exact rfl
                 | with_reducible exact ⟨rfl, rfl⟩
                 | (go_simp
                    first
                      | done
                      | with_reducible exact rfl
                      | with_reducible exact ⟨rfl, rfl⟩
                      | fail)
             clear hK K)
      refine q_nil ?_
      intro V hV
      have hb0 : ByteS V S (.slice (some ⟨sb, so, none⟩) m c) l := H1.out.2.2.2.2.keep (HD.out.2.trans hV.no) (fun k hk h => HS.out k hk (h.elim (fun h => .inr (.inl h)) (fun h => .inr (.inr (.inl h)))))
      have hb1 := hb0.drop (i * 64) (by rw [HM.out]; omega)
      have hb2 := hb1.take (e - i * 64) (by rw [List.length_drop, HM.out]; omega)
      have hl3 : ((l.drop (i * 64)).take (e - i * 64)).length = e - i * 64 := by rw [List.length_take, List.length_drop, HM.out]; omega
      have hq := diskWrite_ok (HD.out.1.keep hV (fun f => f) (fun f => f)) (f + i) (by omega) _ _ S hb2 (by rw [hl3]; omega) (by rw [hl3]; omega)
      rw [show ((f + i : Nat) : Int) = (f : Int) + (i : Int) by omega] at hq
      have HQ := Lib.hid hq
      clear hq
      clear hb0 hb1 hb2 hl3
      refine rem_one (by kernel_rfl) (by kernel_rfl) rfl (by kernel_rfl) (fun K hK => ?_)
      go_wp2_with (first
        | (go_at_call 78
           (with_reducible refine HQ.out.mono ?_)
           rintro e1 w3 ⟨rfl, hd3, c3⟩
           have H3 := Lib.hid (And.intro hd3 ((HD.out.2.trans hV.no).trans c3))
           clear hd3 c3)
        | fail)
      refine rem_end (by kernel_rfl) ?_
      go_wp2_with fail
      go_roundg (n - (i + 1))
      case measure => omega
      case rel =>
        refine ⟨i + 1, by go_num, by omega, by omega, ?_, H3.out.2⟩
        have e9 : (l.drop (i * 64)).take (e - i * 64) = (l.drop (i * 64)).take 64 := by
          rcases Nat.lt_or_ge m (i * 64 + 64) with h | h
          · rw [List.take_of_length_le (by rw [List.length_drop, HM.out]; omega), List.take_of_length_le (by rw [List.length_drop, HM.out]; omega)]
          · rw [show e - i * 64 = 64 by omega]
        have := H3.out.1
        rw [e9] at this
        exact this
    · obtain rfl : i = n := by omega
      have t1 : decide ((i : Int) < (i : Int)) = false := decide_eq_false (by omega)
      have hbx : ∀ k, w.heap.size ≤ k → ¬ (k = B.d ∨ k = B.g) := fun k hk h => by
        have h1 := HLT.out B.d (.inr (.inl rfl))
        have h2 := HLT.out B.g (.inr (.inr (.inl rfl)))
        omega
      have rxw := H1.out.2.2.1.keep cw (hbx _ (Nat.le_refl _))
      have ryw := H1.out.2.2.2.1.keep cw (hbx _ (Nat.le_succ _))
      have hv := H1.out.1.live.keep cw (fun h => h.elim (fun h => HNE.out.2.1.2.2.2 h.symm) (fun h => HNE.out.2.2.1.2.2 h.symm))
      have hr := H1.out.1.row.keep cw (fun h => h.elim HNE.out.1.1 HNE.out.1.2.1)
      have hB := H1.out.1.bits.keep cw (fun h => h.elim (fun h => HNE.out.2.1.2.1 h.symm) (fun h => HNE.out.2.2.1.1 h.symm)) (fun h => h.elim (fun h => HNE.out.2.1.2.2.1 h.symm) (fun h => HNE.out.2.2.1.2.1 h.symm))
      obtain ⟨V1, hV1⟩ : ∃ V, wr.setCell ⟨w.heap.size, 2, none⟩ (.int .i64 (m : Int)) = V := ⟨_, rfl⟩
      have cV : Chg (fun k => k = w.heap.size) wr V1 := by rw [← hV1]; exact Chg.setCell (F := fun k => k = w.heap.size) (Chg.refl _ _) (.inl rfl) _
      have hnb : ∀ k, B.has k → ¬ k = w.heap.size := fun k hk => by have := HLT.out k hk; omega
      have rxV : Row V1 w.heap.size 67 #[.int .i64 f, .int .i64 i, .int .i64 m] := by rw [← hV1]; exact rxw.set 2 _
      have ryV := ryw.keep cV (by omega)
      have hvV := hv.keep cV (hnb _ (.inr (.inr (.inr (.inr (.inr rfl))))))
      have hrV := hr.keep cV (hnb _ (.inl rfl))
      have hBV := hB.keep cV (hnb _ (.inr (.inr (.inr (.inl rfl))))) (hnb _ (.inr (.inr (.inr (.inr (.inl rfl))))))
      have hdV := hd.keep cV (hnb _ (.inr (.inl rfl))) (hnb _ (.inr (.inr (.inl rfl))))
      obtain ⟨o, ho⟩ := hvV.updates (P := Try.prog) elem_live key3 ((f : Int), (i : Int), (m : Int)) (.bool true)
      obtain ⟨hrun, hmap⟩ := ho V1.drew rfl
      simp only [kv3] at hrun
      have c3 : Chg (fun k => k = B.v) V1 (setBlock V1.drew B.v o) := Chg.setBlock (F := fun k => k = B.v) (Chg.refl _ _).drew (.inl rfl) _
      generalize setBlock V1.drew B.v o = W3 at *
      have hne := HNE.out
      have hvs := HLT.out B.v (.inr (.inr (.inr (.inr (.inr rfl)))))
      have rx3 := rxV.keep c3 (by omega)
      have ry3 := ryV.keep c3 (by omega)
      have f2 : V1.cell? ⟨B.r, 2, none⟩ = some (.map (some B.v)) := hrV.cell 2
      obtain ⟨x0, x1, x2, -⟩ := IExt.cells rxV
      obtain ⟨x3, x4, x5, -⟩ := IExt.cells rx3
      obtain ⟨y3, y4, y5, yf⟩ := IExt.cells ry3
      have g2 := (IExt.cells rxw).2.2.1
      have g3 := (IExt.cells rxw).2.2.2
      have HF := Lib.hid (show ExtI W3 B N (layD D f l i) ws (gset ((f : Int), (i : Int), (m : Int)) (.bool true) E) ∧ Chg (fun k => k = B.d ∨ k = B.g ∨ k = B.v) w W3 from
        ⟨⟨hrV.keep c3 hne.1.2.2.2.2, hdV.keep c3 hne.2.1.2.2.2 hne.2.2.1.2.2, hBV.keep c3 hne.2.2.2.1.2 hne.2.2.2.2, hmap⟩,
         (((H1.out.2.1.no.trans (cw.mono fun k _ h => h.elim .inl (fun h => .inr (.inl h)))).then cV (fun k hk h => by omega)).trans (c3.mono fun k _ h => .inr (.inr h)))⟩)
      have HV1 := Lib.hid hV1
      clear cV hnb rxV ryV hvV hrV hBV hdV hmap c3 hv hr hB rxw ryw hd cw hbx rx3 ry3 hV1 hne ho
      go_wp2_with (first | (rw [HV1.out]) | fail)
      go_region
      go_wp2_with fail
      have cF : ∀ U, Chg (fun k => k = w.heap.size + 1) W3 U → ExtI U B N (layD D f l i) ws (gset ((f : Int), (i : Int), (m : Int)) (.bool true) E) ∧ Chg (fun k => k = B.d ∨ k = B.g ∨ k = B.v) w U := fun U hU =>
        ⟨HF.out.1.keep hU (fun k hk => by have := HLT.out k hk; omega), HF.out.2.then hU (fun k hk h => by omega)⟩
      refine bodyPost_ret (v := .agg #[.int .i64 f, .int .i64 i, .int .i64 m]) (by simp [results, Try.results55, go_sem, y3, y4, y5]) rfl ⟨rfl, cF _ ?_⟩
      repeat (with_reducible first | exact Chg.refl _ _ | refine Chg.setCell ?_ (.inl (by simp)) _)

end Go.Proofs.Ytdpmmafkomchaaa
