/- The document's memory (websterref10): find, with, place, next, set. · The document's memory (websterref10): next, set; websterref05.Copy. · The document's memory (websterref10): set; websterref05.Copy. -/
import Derived.Test.YtifcigjminbllaaGreatDoorRef10
import Derived.Test.YtifcigjminbllaaGreatDoorFlatI
import Derived.Test.YtifcigjminbllaaGreatDoorLoadA
import Derived.Test.YtifcigjminbllaaGreatDoorFlatRep
namespace Go.Proofs.YtifcigjminbllaaGreatDoor
set_option linter.unusedVariables false
set_option linter.unusedSimpArgs false
open Go.RowKit

section
variable {w w' : World} {S S' F : Nat → Prop}
theorem RefL.form {lv : Value} {L : List O} (h : RefL w S lv L) : ∃ A c, lv = .slice A L.length c ∧ L.length ≤ maxLen := by
  obtain ⟨T, hT, ⟨A, c, rfl, hl, h1, h2, h0, h3⟩, hok⟩ := h
  have hTL : T.length = L.length := by rw [← hT]; simp
  exact ⟨A, c, by rw [hTL], by omega⟩
/-- an object of the row, in all worlds to come -/
theorem RefL.cells {lv : Value} {L : List O} (h : RefL w S lv L) {i : Nat} (hi : i < L.length) : ∃ b off c wv bv, lv = .slice (some ⟨b, off, none⟩) L.length c ∧ S b ∧
    (∀ v, Chg No w v → v.cell? ⟨b, off + i * 4, none⟩ = some (.int .i64 (ob L i).cls) ∧ v.cell? ⟨b, off + i * 4 + 1, none⟩ = some (.int .i64 (ob L i).kind) ∧ v.cell? ⟨b, off + i * 4 + 2, none⟩ = some wv ∧ v.cell? ⟨b, off + i * 4 + 3, none⟩ = some bv) ∧
    ObjR w S (.agg (cells2 (ob L i) wv bv)) (ob L i) := by
  obtain ⟨b, off, c, wv, bv, hv, hS, hb, ho, c0, c1, c2, c3⟩ := h.at hi
  refine ⟨b, off, c, wv, bv, hv, hS, fun v g => ⟨?_, ?_, ?_, ?_⟩, ho⟩
  · rw [Nat.mul_comm]; exact (g.cell hb (fun f => f)).trans c0
  · rw [Nat.mul_comm, Nat.add_assoc]; exact (g.cell hb (fun f => f)).trans c1
  · rw [Nat.mul_comm, Nat.add_assoc]; exact (g.cell hb (fun f => f)).trans c2
  · rw [Nat.mul_comm, Nat.add_assoc]; exact (g.cell hb (fun f => f)).trans c3
end

/-- the number of what a reference names; 0: there is none -/
def findN (L : List O) (o : Int) : Int := match fnd L o with | some i => (i : Int) + 1 | none => 0
theorem findN_no {L : List O} {o : Int} (h : namedOk o = false) : findN L o = 0 := by simp [findN, fnd, h]
theorem findN_yes {L : List O} {o : Int} {i : Nat} (h : namedOk o = true) (hi : (o / 2 - 1).toNat = i) : findN L o = if (ob L i).kind = 0 then 0 else (i : Int) + 1 := by
  unfold findN fnd
  rw [hi]
  by_cases hk : (ob L i).kind = 0 <;> simp [h, hk]
theorem namedV_nat {o : Int} (h : namedOk o = true) : ∃ i : Nat, (o / 2 - 1).toNat = i ∧ namedV o = (i : Int) + 1 ∧ i < 1073741823 := by
  have := namedV_of h
  exact ⟨_, rfl, by omega, by omega⟩
theorem ob_out {L : List O} {i : Nat} (h : L.length ≤ i) : ob L i = O.zero := by rw [ob, List.getElem?_eq_none h]; rfl

set_option maxRecDepth 100000 in
set_option maxHeartbeats 1000000 in
theorem find10_any (v : Value) (S : Nat → Prop) (L : List O) (w : World) (hv : RefM w S v L) (o : Int) (o64 : In64 o) :
    Calls Tryz.prog 73 #[v, .int .i64 o] w fun e w' => e = .returned (.int .i64 (findN L o)) ∧ Chg No w w' := by
  obtain ⟨lv, rfl, hl⟩ := hv
  obtain ⟨A, c, rfl, hm⟩ := hl.form
  cases hn : namedOk o
  · rw [findN_no hn]
    clear hl
    generalize L.length = n at *
    go_enter Tryz.func73, Tryz.ntmps73
    go_wp2_with (go_at_call 56; refine (Named01_any o o64 _).mono ?_; rw [hn]; rintro e w' ⟨rfl, rfl⟩)
    go_ret
    exact ⟨rfl, (by repeat (with_reducible first | exact Chg.refl _ _ | refine Chg.drew ?_ | refine Chg.alloc ?_ _))⟩
  · obtain ⟨i, hi, hV, hi2⟩ := namedV_nat hn
    rw [findN_yes hn hi]
    have w1 : IntKind.i64.wrap ((i : Int) + 1 - 1) = (i : Int) := (IntWalk.i64_in _ (by omega)).trans (by omega)
    have w2 : IntKind.i64.wrap (i : Int) = (i : Int) := IntWalk.i64_in _ (by omega)
    by_cases hL : i < L.length
    · obtain ⟨b, off, c', wv, bv, e, -, hc, -⟩ := hl.cells hL
      obtain ⟨rfl, -, rfl⟩ := Value.slice.inj e
      obtain ⟨-, y1, -, -⟩ := hc (w.alloc (.cells #[.slice (some ⟨b, off, none⟩) L.length c] 71)) ((Chg.refl _ _).alloc _)
      clear hl hc e
      generalize L.length = n at *
      have t1 : decide ((n : Int) < (i : Int) + 1) = false := decide_eq_false (by omega)
      by_cases hk : (ob L i).kind = 0
      · rw [if_pos hk]
        rw [hk] at y1
        clear hk
        go_enter Tryz.func73, Tryz.ntmps73
        go_wp2_with (go_at_call 56; refine (Named01_any o o64 _).mono ?_; rw [hn, hV]; rintro e w' ⟨rfl, rfl⟩)
        go_ret
        exact ⟨rfl, (by repeat (with_reducible first | exact Chg.refl _ _ | refine Chg.drew ?_ | refine Chg.alloc ?_ _))⟩
      · rw [if_neg hk]
        have hk' : ((ob L i).kind == 0) = false := beq_eq_false_iff_ne.2 hk
        generalize (ob L i).kind = kd at *
        clear hk
        go_enter Tryz.func73, Tryz.ntmps73
        go_wp2_with (go_at_call 56; refine (Named01_any o o64 _).mono ?_; rw [hn, hV]; rintro e w' ⟨rfl, rfl⟩)
        go_ret
        exact ⟨rfl, (by repeat (with_reducible first | exact Chg.refl _ _ | refine Chg.drew ?_ | refine Chg.alloc ?_ _))⟩
    · rw [if_pos (by rw [ob_out (by omega)]; rfl)]
      generalize L.length = n at *
      have t1 : decide ((n : Int) < (i : Int) + 1) = true := decide_eq_true (by omega)
      clear hl
      go_enter Tryz.func73, Tryz.ntmps73
      go_wp2_with (go_at_call 56; refine (Named01_any o o64 _).mono ?_; rw [hn, hV]; rintro e w' ⟨rfl, rfl⟩)
      go_ret
      exact ⟨rfl, (by repeat (with_reducible first | exact Chg.refl _ _ | refine Chg.drew ?_ | refine Chg.alloc ?_ _))⟩

/-! with -/
theorem cellsT_set : ∀ (T : List T3) (i : Nat) (t : T3), i < T.length → cellsT (T.set i t) = ((((cellsT T).set (i * 4) (.int .i64 t.1.cls)).set (i * 4 + 1) (.int .i64 t.1.kind)).set (i * 4 + 2) t.2.1).set (i * 4 + 3) t.2.2
  | [], _, _, h => by simp at h
  | x :: T, 0, t, _ => by simp [cellsT, cells2]
  | x :: T, i + 1, t, h => by
    have ih := cellsT_set T i t (by simpa using h)
    rw [List.set_cons_succ, show cellsT (x :: T.set i t) = (cells2 x.1 x.2.1 x.2.2).toList ++ cellsT (T.set i t) from by simp [cellsT], show cellsT (x :: T) = (cells2 x.1 x.2.1 x.2.2).toList ++ cellsT T from by simp [cellsT], ih]
    have e0 : (i + 1) * 4 = (i * 4) + 4 := by omega
    have e1 : (i + 1) * 4 + 1 = (i * 4 + 1) + 4 := by omega
    have e2 : (i + 1) * 4 + 2 = (i * 4 + 2) + 4 := by omega
    have e3 : (i + 1) * 4 + 3 = (i * 4 + 3) + 4 := by omega
    rw [e1, e2, e3, e0]
    simp [cells2]

set_option maxRecDepth 100000 in
set_option maxHeartbeats 2000000 in
theorem with10_any (v xv : Value) (S : Nat → Prop) (L : List O) (x : O) (w : World) (hv : RefM w S v L) (hx : ObjR w S xv x) (i : Nat) (hi : i < L.length) (hL : L.length < 1073741823) :
    Calls Tryz.prog 76 #[v, .int .i64 ((i : Int) + 1), xv] w (Ret fun r w' => RefM w' (fun b => S b ∨ w.heap.size ≤ b) r (L.set i x) ∧ Chg No w w') := by
  obtain ⟨lv, rfl, T, hT, hs, hok⟩ := hv
  have hTL : T.length = L.length := by rw [← hT]; simp
  obtain ⟨wv, bv, rfl, hI, hB, c64, k64⟩ := hx
  obtain ⟨A, cap, rfl, hrest⟩ := hs
  have hslc : Slc w S 4 (.slice A T.length cap) T.length (cellsT T) := ⟨A, cap, rfl, hrest⟩
  rw [hTL] at hslc ⊢
  obtain ⟨Aw, cw, rfl, -⟩ := hI.form
  obtain ⟨Ab, cb, rfl, -⟩ := hB.form
  simp only [cells2]
  obtain ⟨W, hW⟩ : ∃ W, ((w.alloc (.cells #[.slice A L.length cap] 71)).alloc (.cells #[.int .i64 x.cls, .int .i64 x.kind, .slice Aw x.W.length cw, .slice Ab x.B.length cb] 50)).alloc (.cells #[.slice none 0 0] 71) = W := ⟨_, rfl⟩
  have cW : Chg No w W := by rw [← hW]; exact (((Chg.refl _ _).alloc _).alloc _).alloc _
  have sW : W.heap.size = w.heap.size + 1 + 1 + 1 := by rw [← hW]; simp
  have r0 : Row W w.heap.size 71 #[.slice A L.length cap] := by rw [← hW]; exact ((Row.new w _ _).alloc _).alloc _
  have r1 : Row W (w.heap.size + 1) 50 #[.int .i64 x.cls, .int .i64 x.kind, .slice Aw x.W.length cw, .slice Ab x.B.length cb] := by rw [← hW]; exact Row.alloc (by simpa using Row.new (w.alloc _) _ _) _
  have r2 : Row W (w.heap.size + 1 + 1) 71 #[.slice none 0 0] := by rw [← hW]; simpa using Row.new ((w.alloc _).alloc _) 71 #[.slice none 0 0]
  obtain ⟨u1, w1, hr1, ho1, hg1⟩ := run_app elem_obj (by decide) (World.ownsRow_nil W (w.heap.size + 1 + 1 + 1) 50 4) (hslc.keep cW (fun _ _ f => f)) (one_cellsT hok) (by unfold maxLen; omega) (by omega) (by omega) 24
  rw [Nat.zero_add, List.nil_append] at ho1
  have c1 : Chg No W w1 := (Chg.refl _ _).grown hg1 (by simp [Value.ownBlock])
  have q0 := r0.keep c1 (fun f => f)
  have q1 := r1.keep c1 (fun f => f)
  have q2 := r2.keep c1 (fun f => f)
  obtain ⟨g, cp, rfl⟩ : ∃ g cp, u1 = .slice (some ⟨g, 0, none⟩) L.length cp := by
    rcases ho1.2 with ⟨h1, h2⟩ | ⟨g, cp, cur, h1, -⟩
    · omega
    · exact ⟨g, cp, h1⟩
  have hg0 : w.heap.size + 1 + 1 + 1 ≤ g := own_ge ho1 rfl
  obtain ⟨a0, a1, a2, a3, af⟩ := q1.four
  have b0 := q0.cell 0
  have z0 := q2.cell 0
  have zf := q2.frozen 0
  have fz := fun j => ho1.frozenAt j
  have hat : ∀ j, j < 4 → ∃ u, w1.cell? ⟨g, i * 4 + j, none⟩ = some u := fun j hj => by
    have hl4 : i * 4 + j < L.length * 4 := by omega
    rw [ho1.cellAt _ hl4]
    exact ⟨_, List.getElem?_eq_getElem (by rw [length_cellsT, hTL]; exact hl4)⟩
  obtain ⟨v0, e0⟩ := hat 0 (by omega)
  obtain ⟨v1, e1⟩ := hat 1 (by omega)
  obtain ⟨v2, e2⟩ := hat 2 (by omega)
  obtain ⟨v3, e3⟩ := hat 3 (by omega)
  rw [Nat.add_zero] at e0
  obtain ⟨V, hV⟩ : ∃ V, (((w1.setCell ⟨g, i * 4, none⟩ (.int .i64 x.cls)).setCell ⟨g, i * 4 + 1, none⟩ (.int .i64 x.kind)).setCell ⟨g, i * 4 + 2, none⟩ (.slice Aw x.W.length cw)).setCell ⟨g, i * 4 + 3, none⟩ (.slice Ab x.B.length cb) = V := ⟨_, rfl⟩
  have ho2 := ((((ho1.stored (i * 4) (.int .i64 x.cls)).1.stored (i * 4 + 1) (.int .i64 x.kind)).1.stored (i * 4 + 2) (.slice Aw x.W.length cw)).1.stored (i * 4 + 3) (.slice Ab x.B.length cb)).1
  rw [hV, ← cellsT_set T i (x, .slice Aw x.W.length cw, .slice Ab x.B.length cb) (by omega)] at ho2
  have cV : Chg (fun b => b = g) w1 V := by
    rw [← hV]
    repeat (with_reducible first | exact Chg.refl _ _ | refine Chg.setCell ?_ (.inl (by simp)) _)
  have p2 := q2.keep cV (by omega)
  have y0 := p2.cell 0
  have yf := p2.frozen 0
  have cF : Chg No w V := (cW.trans c1).then cV (fun k hk e => by omega)
  have HF := Lib.hid (And.intro cF (And.intro ho2 (And.intro hok (And.intro hI (And.intro hB (And.intro c64 k64))))))
  have HR := Lib.hid hr1
  have HW := Lib.hid hW
  have HV := Lib.hid hV
  have HT := Lib.hid (And.intro hT hTL)
  have s1 : w1.heap.size = w1.heap.size := rfl
  have hw1 : IntKind.i64.wrap ((i : Int) + 1 - 1) = (i : Int) := (IntWalk.i64_in _ (by omega)).trans (by omega)
  have hw2 : IntKind.i64.wrap (i : Int) = (i : Int) := IntWalk.i64_in _ (by omega)
  have hlt := ho1.lt
  clear hT hok hI hB c64 k64 hrest hat hslc cW r0 r1 r2 hr1 ho1 hg1 c1 q0 q1 q2 hW hV ho2 cV p2 cF
  generalize L.length = n at *
  go_enter Tryz.func76, Tryz.ntmps76
  go_wp2_with (at_builtin; rw [HW.out]; refine wpList_append_run rfl _ _ _ rfl rfl rfl HR.out ?_)
  rw [HV.out]
  obtain ⟨cF, ho2, hok, hI, hB, c64, k64⟩ := HF.out
  obtain ⟨hT, hTL⟩ := HT.out
  refine bodyPost_ret (v := .agg #[.slice (some ⟨g, 0, none⟩) n cp]) (by simp [results, Tryz.results76, go_sem, y0]) rfl (Ret.mk ⟨?_, ?_⟩)
  · have cS : Chg (fun k => k = w.heap.size + 1 + 1) V (V.setCell ⟨w.heap.size + 1 + 1, 0, none⟩ (.slice (some ⟨g, 0, none⟩) n cp)) := Chg.setCell (F := fun k => k = w.heap.size + 1 + 1) (p := ⟨w.heap.size + 1 + 1, 0, none⟩) (Chg.refl _ _) (.inl rfl) _
    have cE : Chg No w (V.setCell ⟨w.heap.size + 1 + 1, 0, none⟩ (.slice (some ⟨g, 0, none⟩) n cp)) := Chg.setCell cF (.inr (by simp; omega)) _
    have ho3 := own_keep ho2 cS (fun b hb hk => by have := own_ge ho2 hb; omega)
    have hs3 := (Slc.of_own ho3).more (S' := fun b => S b ∨ w.heap.size ≤ b) (fun b _ hb => .inr (by have := own_ge ho3 hb; omega))
    refine ⟨_, rfl, T.set i (x, .slice Aw x.W.length cw, .slice Ab x.B.length cb), by rw [List.map_set, hT], by rw [List.length_set, hTL]; exact hs3, fun t ht => ?_⟩
    rcases List.mem_or_eq_of_mem_set ht with ht | rfl
    · exact ((hok t ht).keep cE (fun _ _ f => f)).more (fun b _ h => .inl h)
    · exact ⟨(hI.keep cE (fun _ _ f => f)).more (fun b _ h => .inl h), (hB.keep cE (fun _ _ f => f)).more (fun b _ h => .inl h), c64, k64⟩
  · exact Chg.setCell cF (.inr (by simp; omega)) _

/-! place -/
set_option maxHeartbeats 1000000 in
theorem size10_any (c k : Int) (A B : Option Addr) (nw nb cw cb : Nat) (hb : nw + nb < 1000000000) (w : World) :
    Calls Tryz.prog 81 #[.agg #[.int .i64 c, .int .i64 k, .slice A nw cw, .slice B nb cb]] w fun e w' => e = .returned (.int .i64 ((nw : Int) + nb)) ∧ Chg No w w' := by
  have w1 : IntKind.i64.wrap ((nw : Int) + nb) = (nw : Int) + nb := IntWalk.i64_in _ (by omega)
  go_enter Tryz.func81, Tryz.ntmps81
  go_wp2
  go_ret
  exact ⟨rfl, (by repeat (with_reducible first | exact Chg.refl _ _ | refine Chg.drew ?_ | refine Chg.alloc ?_ _))⟩

theorem placeE_ok {L : List O} {o k i : Int} {j : Nat} (hf : fnd L o = some j) (hok : (ob L j).ok) (hk : (ob L j).kind = k) : placeE L o k i = if 0 ≤ i ∧ i < (ob L j).W.length + (ob L j).B.length then 0 else 21 := by
  have hs : szO (ob L j) = ((ob L j).W.length : Int) + (ob L j).B.length := by
    unfold szO
    rcases hok.2.1 with ⟨h1, h2⟩ | ⟨h1, h2⟩
    · rw [if_pos h1, h2]; simp
    · rw [if_neg (by omega), if_pos h1, h2]; simp
  simp only [placeE, hf, hk, if_true, hs]

set_option maxRecDepth 100000 in
set_option maxHeartbeats 2000000 in
theorem place10_any (v : Value) (S : Nat → Prop) (L : List O) (w : World) (hv : RefM w S v L) (hok : ∀ i, (ob L i).kind ≠ 0 → (ob L i).ok) (o k i : Int) (o64 : In64 o) :
    Calls Tryz.prog 74 #[v, .int .i64 o, .int .i64 k, .int .i64 i] w fun e w' => e = .returned (.tuple #[.int .i64 (if placeE L o k i = 0 then findN L o else 0), .int .i64 (placeE L o k i)]) ∧ Chg No w w' := by
  have HV := Lib.hid hv
  obtain ⟨lv, rfl, hl⟩ := hv
  obtain ⟨A, c, rfl, hm⟩ := hl.form
  cases hf : fnd L o with
  | none =>
    have e1 : placeE L o k i = 4 := by simp [placeE, hf]
    have e2 : findN L o = 0 := by simp [findN, hf]
    rw [e1, if_neg (by decide)]
    have H2 := Lib.hid e2
    clear hl e1 e2 hf
    generalize L.length = n at *
    go_enter Tryz.func74, Tryz.ntmps74
    go_wp2_with (go_at_call 73; refine (find10_any _ S L _ (HV.out.keep (F := No) (by repeat (with_reducible first | exact Chg.refl _ _ | refine Chg.drew ?_ | refine Chg.alloc ?_ _)) (fun _ _ f => f)) o o64).mono ?_; rw [H2.out]; rintro e w1 ⟨rfl, c1⟩)
    go_ret2
    exact ⟨rfl, ((Chg.refl _ _).alloc _).trans c1⟩
  | some j =>
    have e2 : findN L o = (j : Int) + 1 := by simp [findN, hf]
    obtain ⟨-, hkd, hj, -⟩ := fnd_some hf
    have hjok := hok j hkd
    obtain ⟨b, off, c', wv, bv, e, -, hc, ho⟩ := hl.cells hj
    obtain ⟨rfl, -, rfl⟩ := Value.slice.inj e
    obtain ⟨wv', bv', ea, hI, hB, -⟩ := ho
    obtain ⟨rfl, rfl⟩ : wv = wv' ∧ bv = bv' := by simpa [cells2] using ea
    obtain ⟨Aw, cw, rfl, -⟩ := hI.form
    obtain ⟨Ab, cb, rfl, -⟩ := hB.form
    have w1 : IntKind.i64.wrap ((j : Int) + 1 - 1) = (j : Int) := (IntWalk.i64_in _ (by unfold maxLen at hm; omega)).trans (by omega)
    have w2 : IntKind.i64.wrap (j : Int) = (j : Int) := IntWalk.i64_in _ (by unfold maxLen at hm; omega)
    have t0 : ((j : Int) + 1 == 0) = false := beq_eq_false_iff_ne.2 (by omega)
    have HC := Lib.hid hc
    have H2 := Lib.hid e2
    have hnz : (j : Int) < (L.length : Int) := by omega
    clear hl hI hB hc e ea e2
    by_cases hk : (ob L j).kind = k
    · have hp := placeE_ok (i := i) hf hjok hk
      have hlen : (ob L j).W.length + (ob L j).B.length < 1000000000 := by have := hjok.2.2.1; have := hjok.2.2.2.1; omega
      have HP := Lib.hid hp
      have HK := Lib.hid hk
      rw [H2.out]
      by_cases h0 : i < 0
      · have t1 : decide (i < 0) = true := decide_eq_true h0
        rw [if_neg (by omega)] at hp
        rw [hp, if_neg (by decide)]
        clear hf hp hjok hok HP
        generalize L.length = n at *
        rw [← hk]
        clear hk
        go_enter Tryz.func74, Tryz.ntmps74
        go_wp2_with (go_at_call 73; refine (find10_any _ S L _ (HV.out.keep (F := No) (by repeat (with_reducible first | exact Chg.refl _ _ | refine Chg.drew ?_ | refine Chg.alloc ?_ _)) (fun _ _ f => f)) o o64).mono ?_; rw [H2.out]; rintro e w1 ⟨rfl, c1⟩; have r0 := (Row.new w 71 #[.slice (some ⟨b, off, none⟩) n c]).keep c1 (fun f => f); have x0 : w1.cell? ⟨w.heap.size, 0, none⟩ = some (.slice (some ⟨b, off, none⟩) n c) := r0.cell 0; obtain ⟨-, y1, -, -⟩ := HC.out w1 (((Chg.refl _ _).alloc _).trans c1); clear r0)
        go_ret2
        exact ⟨rfl, ((Chg.refl _ _).alloc _).trans c1⟩
      · have t1 : decide (i < 0) = false := decide_eq_false h0
        by_cases h1 : i < (ob L j).W.length + (ob L j).B.length
        · rw [if_pos ⟨by omega, h1⟩] at hp
          rw [hp, if_pos rfl]
          have t2 : decide (((ob L j).W.length : Int) + (ob L j).B.length ≤ i) = false := decide_eq_false (by omega)
          clear hf hp hjok hok HP
          generalize L.length = n at *
          rw [← hk]
          clear hk
          go_enter Tryz.func74, Tryz.ntmps74
          go_wp2_with (first
            | (go_at_call 73; refine (find10_any _ S L _ (HV.out.keep (F := No) (by repeat (with_reducible first | exact Chg.refl _ _ | refine Chg.drew ?_ | refine Chg.alloc ?_ _)) (fun _ _ f => f)) o o64).mono ?_; rw [H2.out]; rintro e w1 ⟨rfl, c1⟩; have r0 := (Row.new w 71 #[.slice (some ⟨b, off, none⟩) n c]).keep c1 (fun f => f); have x0 : w1.cell? ⟨w.heap.size, 0, none⟩ = some (.slice (some ⟨b, off, none⟩) n c) := r0.cell 0; obtain ⟨y0, y1, y2, y3⟩ := HC.out w1 (((Chg.refl _ _).alloc _).trans c1); clear r0)
            | (go_at_call 81; refine (size10_any _ _ _ _ _ _ _ _ hlen _).mono ?_; rintro e w2 ⟨rfl, c2⟩))
          go_ret2
          exact ⟨rfl, (((Chg.refl _ _).alloc _).trans c1).trans c2⟩
        · rw [if_neg (by omega)] at hp
          rw [hp, if_neg (by decide)]
          have t2 : decide (((ob L j).W.length : Int) + (ob L j).B.length ≤ i) = true := decide_eq_true (by omega)
          clear hf hp hjok hok HP
          generalize L.length = n at *
          rw [← hk]
          clear hk
          go_enter Tryz.func74, Tryz.ntmps74
          go_wp2_with (first
            | (go_at_call 73; refine (find10_any _ S L _ (HV.out.keep (F := No) (by repeat (with_reducible first | exact Chg.refl _ _ | refine Chg.drew ?_ | refine Chg.alloc ?_ _)) (fun _ _ f => f)) o o64).mono ?_; rw [H2.out]; rintro e w1 ⟨rfl, c1⟩; have r0 := (Row.new w 71 #[.slice (some ⟨b, off, none⟩) n c]).keep c1 (fun f => f); have x0 : w1.cell? ⟨w.heap.size, 0, none⟩ = some (.slice (some ⟨b, off, none⟩) n c) := r0.cell 0; obtain ⟨y0, y1, y2, y3⟩ := HC.out w1 (((Chg.refl _ _).alloc _).trans c1); clear r0)
            | (go_at_call 81; refine (size10_any _ _ _ _ _ _ _ _ hlen _).mono ?_; rintro e w2 ⟨rfl, c2⟩))
          go_ret2
          exact ⟨rfl, (((Chg.refl _ _).alloc _).trans c1).trans c2⟩
    · have e1 : placeE L o k i = 20 := by simp [placeE, hf, hk]
      rw [e1, if_neg (by decide)]
      have t1 : ((ob L j).kind != k) = true := by simpa using hk
      clear hf e1 hjok hok hk
      generalize (ob L j).kind = kd at *
      generalize L.length = n at *
      go_enter Tryz.func74, Tryz.ntmps74
      go_wp2_with (go_at_call 73; refine (find10_any _ S L _ (HV.out.keep (F := No) (by repeat (with_reducible first | exact Chg.refl _ _ | refine Chg.drew ?_ | refine Chg.alloc ?_ _)) (fun _ _ f => f)) o o64).mono ?_; rw [H2.out]; rintro e w1 ⟨rfl, c1⟩; have r0 := (Row.new w 71 #[.slice (some ⟨b, off, none⟩) n c]).keep c1 (fun f => f); have x0 : w1.cell? ⟨w.heap.size, 0, none⟩ = some (.slice (some ⟨b, off, none⟩) n c) := r0.cell 0; obtain ⟨-, y1, -, -⟩ := HC.out w1 (((Chg.refl _ _).alloc _).trans c1); clear r0)
      go_ret2
      exact ⟨rfl, ((Chg.refl _ _).alloc _).trans c1⟩

/-- v is what is told -/
def ToldR (w : World) (S : Nat → Prop) (v : Value) (t : TD) : Prop := ∃ wv bv, v = .agg (t.cells wv bv) ∧ IntS w S wv t.o.W ∧ ByteS w S bv t.o.B ∧ In64 t.o.cls ∧ In64 t.o.kind
theorem ToldR.keep {w w' : World} {S F : Nat → Prop} {v : Value} {t : TD} (h : ToldR w S v t) (c : Chg F w w') (hS : ∀ b, S b → ¬ F b) : ToldR w' S v t := by
  obtain ⟨wv, bv, hv, h1, h2, h3⟩ := h
  exact ⟨wv, bv, hv, h1.keep c hS, h2.keep c hS, h3⟩
theorem ToldR.more {w : World} {S S' : Nat → Prop} {v : Value} {t : TD} (h : ToldR w S v t) (hS : ∀ b, b < w.heap.size → S b → S' b) : ToldR w S' v t := by
  obtain ⟨wv, bv, hv, h1, h2, h3⟩ := h
  exact ⟨wv, bv, hv, h1.more hS, h2.more hS, h3⟩
theorem ToldR.flat (w : World) (S : Nat → Prop) (n : Int) (ok : Bool) (e : Int) : ToldR w S (.agg #[.int .i64 n, .int .i64 0, .int .i64 0, .slice none 0 0, .slice none 0 0, .bool ok, .int .i64 e]) ⟨n, O.zero, ok, e⟩ :=
  ⟨_, _, rfl, IntS.nil _ _, ByteS.nil _ _, (show In64 0 by unfold In64; omega), (show In64 0 by unfold In64; omega)⟩
theorem nxtI_none' {L : List O} {id : Nat} (h : ∀ k, id ≤ k → (ob L k).kind = 0) : nxtI L id = none := by
  unfold nxtI
  rw [List.find?_eq_none]
  intro k hk
  by_cases h1 : id ≤ k
  · simp [h k h1]
  · simp [h1]

set_option maxRecDepth 100000 in
set_option maxHeartbeats 2000000 in
theorem next10_any (v : Value) (S : Nat → Prop) (L : List O) (w : World) (hv : RefM w S v L) (hL : L.length < 1073741823) (o : Int) (o64 : In64 o) :
    Calls Tryz.prog 77 #[v, .int .i64 o] w (Ret fun r w' => ToldR w' (fun b => w.heap.size ≤ b) r ⟨nextN L o, O.zero, nextOK L o, 0⟩ ∧ Chg No w w') := by
  obtain ⟨lv, rfl, hl⟩ := hv
  obtain ⟨A, c, rfl, hm⟩ := hl.form
  obtain ⟨id, hid, hid2⟩ : ∃ id : Nat, namedV o = (id : Int) ∧ id ≤ 1073741823 := by
    cases hn : namedOk o
    · exact ⟨0, namedV_no hn, by omega⟩
    · obtain ⟨i, -, h1, h2⟩ := namedV_nat hn
      exact ⟨i + 1, by omega, by omega⟩
  have hS : ∀ q, nxtI L id = some q → nextN L o = 2 * ((q : Int) + 1) ∧ nextOK L o = true := fun q h => by
    unfold nextN nextOK
    rw [hid, Int.toNat_natCast, h]
    exact ⟨rfl, rfl⟩
  have hO : nxtI L id = none → nextN L o = 0 ∧ nextOK L o = false := fun h => by
    unfold nextN nextOK
    rw [hid, Int.toNat_natCast, h]
    exact ⟨rfl, rfl⟩
  obtain ⟨N, hN⟩ : ∃ N, nextN L o = N := ⟨_, rfl⟩
  obtain ⟨B, hB⟩ : ∃ B, nextOK L o = B := ⟨_, rfl⟩
  rw [hN, hB] at hO ⊢
  rw [hN, hB] at hS
  have HS := Lib.hid hS
  have HO := Lib.hid hO
  have w1 : IntKind.i64.wrap ((id : Int) + 1) = (id : Int) + 1 := IntWalk.i64_in _ (by omega)
  have HL := Lib.hid hl
  have HM := fun w => Named01_any o o64 w
  rw [hid] at HM
  clear hl hN hO hid hS hB
  generalize hn : L.length = n at *
  have HN := Lib.hid hn
  clear hn
  unfold maxLen at hm
  go_enter Tryz.func77, Tryz.ntmps77
  go_wp2_with (go_at_call 56; refine (HM _).mono ?_; rintro e w' ⟨rfl, rfl⟩)
  clear HM w1
  go_loopg [7] (n + 1) (fun j v7 wr => ∃ q : Nat, v7 = .int .i64 ((q : Int) + 1) ∧ id ≤ q ∧ (q ≤ n ∨ q = id) ∧ (∀ j, id ≤ j → j < q → (ob L j).kind = 0) ∧ n - q ≤ j ∧ Row wr w.heap.size 71 #[.slice A n c] ∧ Row wr (w.heap.size + 1) 104 #[.int .i64 0, .int .i64 0, .int .i64 0, .slice none 0 0, .slice none 0 0, .bool false, .int .i64 0] ∧ Chg No w wr)
  case atStart => exact ⟨id, rfl, by omega, .inr rfl, fun j h1 h2 => by omega, by omega, (Row.new w _ _).alloc _, by simpa using Row.new (w.alloc _) 104 #[.int .i64 0, .int .i64 0, .int .i64 0, .slice none 0 0, .slice none 0 0, .bool false, .int .i64 0], ((Chg.refl _ _).alloc _).alloc _⟩
  case round =>
    obtain ⟨q, rfl, q1, q2, hz, q3, r0, r1, cw⟩ := hrel
    have x0 : wr.cell? ⟨w.heap.size, 0, none⟩ = some (.slice A n c) := r0.cell 0
    have f1 := r1.seven
    have ww : IntKind.i64.wrap ((q : Int) + 1 - 1) = (q : Int) := (IntWalk.i64_in _ (by omega)).trans (by omega)
    have ww2 : IntKind.i64.wrap (q : Int) = (q : Int) := IntWalk.i64_in _ (by omega)
    have ww3 : IntKind.i64.wrap (2 * ((q : Int) + 1)) = 2 * ((q : Int) + 1) := IntWalk.i64_in _ (by omega)
    by_cases hq : q < n
    · obtain ⟨b, off, c', wv, bv, e, -, hc, -⟩ := (HL.out.keep cw (fun _ _ f => f)).cells (i := q) (by rw [HN.out]; exact hq)
      rw [HN.out] at e
      obtain ⟨rfl, -, rfl⟩ := Value.slice.inj e
      obtain ⟨-, y1, -, -⟩ := hc wr (Chg.refl _ _)
      have t1 : decide ((q : Int) + 1 ≤ (n : Int)) = true := decide_eq_true (by omega)
      have HR := Lib.hid (And.intro r0 (And.intro r1 cw))
      have HZ := Lib.hid hz
      by_cases hk : (ob L q).kind = 0
      · rw [hk] at y1
        have HK := Lib.hid hk
        clear hc e hk r0 r1 cw hz
        go_wp2_with fail
        go_roundg (n - (q + 1))
        case measure => omega
        case rel => exact ⟨q + 1, by go_num, by omega, by omega, fun j h1 h2 => (by
          rcases Nat.lt_or_ge j q with h3 | h3
          · exact HZ.out j h1 h3
          · obtain rfl : j = q := by omega
            exact HK.out), by omega, HR.out⟩
      · have hx : nxtI L id = some q := nxtI_some q1 hk fun j h1 h2 => Decidable.byContradiction fun h3 => h2 (hz j h1 (by omega))
        have t2 : ((ob L q).kind != 0) = true := by simpa using hk
        obtain ⟨rfl, rfl⟩ := HS.out q hx
        clear hc e hk r0 r1 cw hz hx
        generalize (ob L q).kind = kd at *
        go_wp2_with fail
        refine bodyPost_ret (v := .agg #[.int .i64 (2 * ((q : Int) + 1)), .int .i64 0, .int .i64 0, .slice none 0 0, .slice none 0 0, .bool true, .int .i64 0]) (by simp [results, Tryz.results77, go_sem, f1]) rfl (Ret.mk ⟨ToldR.flat _ _ _ _ _, ?_⟩)
        repeat (with_reducible first | exact HR.out.2.2 | refine Chg.setCell ?_ (.inr (by simp)) _)
    · have t1 : decide ((q : Int) + 1 ≤ (n : Int)) = false := decide_eq_false (by omega)
      have hx : nxtI L id = none := nxtI_none' fun k h1 => (by
        rcases Nat.lt_or_ge k q with h3 | h3
        · exact hz k h1 h3
        · rw [ob_out (by rw [HN.out]; omega)]; rfl)
      have HR := Lib.hid (And.intro r0 (And.intro r1 cw))
      obtain ⟨rfl, rfl⟩ := HO.out hx
      clear r0 r1 cw hz hx
      go_wp2_with fail
      refine bodyPost_ret (v := .agg #[.int .i64 0, .int .i64 0, .int .i64 0, .slice none 0 0, .slice none 0 0, .bool false, .int .i64 0]) (by simp [results, Tryz.results77, go_sem, f1]) rfl (Ret.mk ⟨ToldR.flat _ _ _ _ _, ?_⟩)
      repeat (with_reducible first | exact HR.out.2.2 | refine Chg.setCell ?_ (.inr (by simp)) _)

theorem Chg.one (w : World) (b off : Nat) (u : Value) : Chg (fun k => k = b) w (w.setCell ⟨b, off, none⟩ u) := Chg.setCell (F := fun k => k = b) (p := ⟨b, off, none⟩) (Chg.refl _ _) (.inl rfl) u

theorem Copy00_any (bv : Value) (l : List Int) (S : Nat → Prop) (w : World) (h : ByteS w S bv l) (hl : l.length ≤ 1000000000) :
    Calls Tryz.prog 44 #[bv] w (Ret fun v w' => w'.ownsRow w.heap.size 5 1 v l.length (l.map (.int .u8)) ∧ Chg No w w') := by
  obtain ⟨u, w1, hr, ho, hg⟩ := run_app elem_u8 (by decide) (World.ownsRow_nil w w.heap.size 5 1) h.1 (by simp [Value.oneCell']) (by unfold maxLen; omega) (by omega) (Nat.le_refl _) 22
  obtain ⟨A, c, rfl, -⟩ := h.form
  rw [Nat.zero_add, List.nil_append] at ho
  obtain ⟨A', c', rfl⟩ := own_form ho
  have HR := Lib.hid hr
  have HO := Lib.hid (And.intro ho ((Chg.refl No w).grown hg (by simp [Value.ownBlock])))
  clear hr ho hg h
  go_enter Tryz.func44, Tryz.ntmps44
  go_wp2_with (at_builtin; refine wpList_append_run rfl _ _ _ rfl rfl rfl HR.out ?_)
  go_ret
  exact Ret.mk HO.out

set_option maxRecDepth 100000 in
set_option maxHeartbeats 1000000 in
theorem Copy05_any (v : Value) (o : O) (S : Nat → Prop) (w : World) (h : ObjR w S v o) (hw : o.W.length ≤ 1000000000) (hb : o.B.length ≤ 1000000000) :
    Calls Tryz.prog 82 #[v] w (Ret (Copied w o)) := by
  obtain ⟨wv, bv, rfl, hI, hB, -⟩ := h
  obtain ⟨W, hW⟩ : ∃ W, (w.alloc (.cells (cells2 o wv bv) 50)).alloc (.cells #[.int .i64 0, .int .i64 0, .slice none 0 0, .slice none 0 0] 50) = W := ⟨_, rfl⟩
  have cW : Chg No w W := by rw [← hW]; exact ((Chg.refl _ _).alloc _).alloc _
  have sW : W.heap.size = w.heap.size + 1 + 1 := by rw [← hW]; simp
  have r0 : Row W w.heap.size 50 (cells2 o wv bv) := by rw [← hW]; exact (Row.new w _ _).alloc _
  have r1 : Row W (w.heap.size + 1) 50 #[.int .i64 0, .int .i64 0, .slice none 0 0, .slice none 0 0] := by rw [← hW]; simpa using Row.new (w.alloc _) 50 #[.int .i64 0, .int .i64 0, .slice none 0 0, .slice none 0 0]
  obtain ⟨u, w1, hr, ho, hg⟩ := run_app elem_int (by decide) (World.ownsRow_nil W (w.heap.size + 1 + 1) 3 1) (hI.keep cW (fun _ _ f => f)).1 (by simp [Value.oneCell']) (by unfold maxLen; omega) (by omega) (by omega) 48
  rw [Nat.zero_add, List.nil_append] at ho
  have c1 : Chg No W w1 := (Chg.refl _ _).grown hg (by simp [Value.ownBlock])
  have q0 := r0.keep c1 (fun f => f)
  have q1 := r1.keep c1 (fun f => f)
  obtain ⟨A1, k1, rfl⟩ := own_form ho
  obtain ⟨Aw, cw, rfl, -⟩ := hI.form
  obtain ⟨Ab, cb, rfl, -⟩ := hB.form
  have s1 := c1.size
  unfold cells2 at *
  obtain ⟨a0, a1, a2, a3, af⟩ := q0.four
  have c01 := cW.trans c1
  have q0' := q0.set 2 (.slice A1 o.W.length k1)
  have hB1 : ByteS (w1.setCell ⟨w.heap.size, 2, none⟩ (.slice A1 o.W.length k1)) (fun b => S b ∧ b < w.heap.size) (.slice Ab o.B.length cb) o.B := ((hB.more (S' := fun b => S b ∧ b < w.heap.size) (fun b h1 h2 => ⟨h2, h1⟩)).keep c01 (fun _ _ f => f)).keep (F := fun b => b = w.heap.size) (Chg.one _ _ _ _) (fun b hb h => by omega)
  have HR := Lib.hid hr
  have HW := Lib.hid hW
  have HQ := Lib.hid (And.intro q0' (And.intro q1 (And.intro hB1 (And.intro ho (And.intro c01 (And.intro sW s1))))))
  clear hr hW hI hB q0' q1 hB1 ho c01 sW s1 c1 cW r0 r1 hg q0
  go_enter Tryz.func82, Tryz.ntmps82
  go_wp2_with (first
    | (at_builtin; rw [HW.out]; refine wpList_append_run rfl _ _ _ rfl rfl rfl HR.out ?_)
    | (go_at_call 44; refine (Copy00_any _ o.B _ _ HQ.out.2.2.1 hb).mono ?_; rintro e w2 ⟨v2, rfl, ho2, c2⟩; obtain ⟨A2, k2, rfl⟩ := own_form ho2; have p0 : Row w2 _ _ _ := Row.keep (by exact HQ.out.1) c2 (fun f => f); have p1 : Row w2 _ _ _ := Row.keep (HQ.out.2.1.other (p := ⟨w.heap.size, 2, none⟩) (by simp) _) c2 (fun f => f); obtain ⟨b0, b1, b2, b3, bf⟩ := p0.four; obtain ⟨d0, d1, d2, d3, df⟩ := p1.four; have H2 := Lib.hid (And.intro ho2 c2); clear p0 p1 ho2 c2))
  obtain ⟨-, -, -, ho, c01, sW, s1⟩ := HQ.out
  obtain ⟨ho2, c2⟩ := H2.out
  have c2' : Chg (fun b => b = w.heap.size) w1 w2 := (Chg.setCell (F := fun b => b = w.heap.size) (p := ⟨w.heap.size, 2, none⟩) (Chg.refl _ _) (.inl rfl) _).trans c2.no
  have c02 : Chg No w w2 := c01.then c2' (fun i hi h => by omega)
  have hoW := own_keep ho c2' (fun b hb h => by have := own_ge ho hb; omega)
  refine bodyPost_ret (v := .agg (cells2 o (.slice A1 o.W.length k1) (.slice A2 o.B.length k2))) (by simp [results, Tryz.results82, go_sem, cells2, d0, d1, d2, d3]) rfl (Ret.mk ⟨_, _, rfl, ?_, ?_, ?_⟩)
  · repeat (with_reducible first | exact c02 | refine Chg.setCell ?_ (.inr (by simp)) _)
  · refine own_base (base := w.heap.size + 1 + 1) ?_ (by omega)
    repeat (with_reducible first | exact hoW | refine ownsRow_setCell_below ?_ (by dsimp only; omega) _)
  · have hsz : w.heap.size + 1 + 1 ≤ (w1.setCell ⟨w.heap.size, 2, none⟩ (.slice A1 o.W.length k1)).heap.size := by simp; omega
    have ho3 := own_base ho2 hsz
    refine own_base (base := w.heap.size + 1 + 1) ?_ (by omega)
    repeat (with_reducible first | exact ho3 | refine ownsRow_setCell_below ?_ (by dsimp only; omega) _)

end Go.Proofs.YtifcigjminbllaaGreatDoor
