/- The walk of FlatSteps. -/
import Derived.Test.YtmpfpfemjpmbaaaRef10k
import Derived.Test.YtmpfpfemjpmbaaaDone2
import Derived.Test.YtmpfpfemjpmbaaaReach
import Derived.Deep.CutRange
import Derived.Deep.RegionHeld3
namespace Go.Proofs.Ytmpfpfemjpmbaaa
set_option linter.unusedVariables false
set_option linter.unusedSimpArgs false
open Go.RowKit

/-- what goes along: what is to be done, and the document's memory at block X -/
def Both (n0 X : Nat) (lv : Value) (D : List D4) (A : Option Addr) (c : Nat) (L : List O) (F : Nat → Prop) (v : World) : Prop :=
  DoS v (fun b => b < n0) lv D ∧ ¬ F X ∧ Row v X 30 #[.slice A L.length c] ∧ RefL v (fun b => ¬ F b ∧ b ≠ X) (.slice A L.length c) L
theorem RefL.tail {w0 w5 V W4 : World} {S : Nat → Prop} {lv : Value} {L : List O} (h : RefL w5 (fun b => (S b ∧ b < W4.heap.size) ∨ w0.heap.size ≤ b) lv L) (hW : W4.heap.size ≤ w0.heap.size) (cV : Chg (fun b => W4.heap.size ≤ b ∧ b < w0.heap.size) w5 V) : RefL V (fun b => (S b ∧ b < W4.heap.size) ∨ W4.heap.size ≤ b) lv L :=
  (h.keep cV (fun b hb hg => by rcases hb with hb | hb <;> omega)).more (fun b _ hb => hb.elim .inl (fun hb => .inr (by omega)))
theorem IntS.tail {w0 w5 V W4 : World} {S : Nat → Prop} {lv : Value} {L : List Int} (h : IntS w5 (fun b => (S b ∧ b < W4.heap.size) ∨ w0.heap.size ≤ b) lv L) (hW : W4.heap.size ≤ w0.heap.size) (cV : Chg (fun b => W4.heap.size ≤ b ∧ b < w0.heap.size) w5 V) : IntS V (fun b => (S b ∧ b < W4.heap.size) ∨ W4.heap.size ≤ b) lv L :=
  (h.keep cV (fun b hb hg => by rcases hb with hb | hb <;> omega)).more (fun b _ hb => hb.elim .inl (fun hb => .inr (by omega)))
theorem ByteS.tail {w0 w5 V W4 : World} {S : Nat → Prop} {lv : Value} {L : List Int} (h : ByteS w5 (fun b => (S b ∧ b < W4.heap.size) ∨ w0.heap.size ≤ b) lv L) (hW : W4.heap.size ≤ w0.heap.size) (cV : Chg (fun b => W4.heap.size ≤ b ∧ b < w0.heap.size) w5 V) : ByteS V (fun b => (S b ∧ b < W4.heap.size) ∨ W4.heap.size ≤ b) lv L :=
  (h.keep cV (fun b hb hg => by rcases hb with hb | hb <;> omega)).more (fun b _ hb => hb.elim .inl (fun hb => .inr (by omega)))
theorem MemK.goneAt {w0 w : World} {m : Nat} {L : List O} {K : (Nat → Prop) → World → Prop} (h : MemK w0 w m L K) {i : Nat} (hk : (ob L i).kind = 0) : ob L i = O.zero := by
  obtain ⟨F, ⟨q, es, ad, wv, bv, hi⟩, _⟩ := h
  exact hi.gone i hk
def Seven (w : World) (U : Nat) (t : TD) (v3 v4 : Value) : Prop :=
  w.cell? ⟨U, 0, none⟩ = some (.int .i64 t.n) ∧ w.cell? ⟨U, 1, none⟩ = some (.int .i64 t.o.cls) ∧ w.cell? ⟨U, 2, none⟩ = some (.int .i64 t.o.kind) ∧ w.cell? ⟨U, 3, none⟩ = some v3 ∧ w.cell? ⟨U, 4, none⟩ = some v4 ∧ w.cell? ⟨U, 5, none⟩ = some (.bool t.ok) ∧ w.cell? ⟨U, 6, none⟩ = some (.int .i64 t.e)
/-- behind the document's step: its memory at block Y, what it tells at block U -/
def Mid (W4 : World) (S : Nat → Prop) (L' : List O) (t : TD) (v7 v8 : Value) (V : World) : Prop :=
  ∃ Y U A5 c5 A6 c6 A7 c7, v7 = .pointer (some ⟨Y, 0, none⟩) ∧ v8 = .pointer (some ⟨U, 0, none⟩) ∧ W4.heap.size ≤ U ∧ U < V.heap.size ∧ Chg No W4 V ∧ V.cell? ⟨Y, 0, none⟩ = some (.slice A5 L'.length c5) ∧ Seven V U t (.slice A6 t.o.W.length c6) (.slice A7 t.o.B.length c7) ∧
    RefL V (fun b => S b ∨ W4.heap.size ≤ b) (.slice A5 L'.length c5) L' ∧ IntS V (fun b => S b ∨ W4.heap.size ≤ b) (.slice A6 t.o.W.length c6) t.o.W ∧ ByteS V (fun b => S b ∨ W4.heap.size ≤ b) (.slice A7 t.o.B.length c7) t.o.B

set_option maxRecDepth 100000 in
set_option maxHeartbeats 4000000 in
theorem FlatSteps_any (lv : Value) (D : List D4) (w : World) (h : DoS w (fun _ => True) lv D) (hm : D.length ≤ 4398046511104) :
    Calls Try.prog 11 #[lv] w fun e w' => e = .returned (.bool true) ∧ Below w.heap.size w w' := by
  obtain ⟨A, n, c, rfl⟩ : ∃ A n c, lv = .slice A n c := by
    obtain ⟨⟨A, c, e, -⟩, -⟩ := h
    exact ⟨A, _, c, e⟩
  obtain rfl : D.length = n := by
    obtain ⟨⟨A', c', e, -⟩, -⟩ := h
    exact (Value.slice.inj e).2.1.symm
  have hle := (longN_le D).1
  have H := Lib.hid h
  clear h
  generalize hn : D.length = n at *
  have HN := Lib.hid hn
  clear hn
  generalize hln : longN D = ln at *
  have HL := Lib.hid hln
  clear hln
  by_cases hq : 150 < ln
  · have t0 : decide (150 < ln) = true := decide_eq_true hq
    go_enter Try.func11, Try.ntmps11
    go_wp2_with (first
      | (go_at_call 28; refine (long_any _ D _ _ H.out (by rw [HN.out]; exact hm)).mono ?_; rw [HL.out, t0]; rintro e w1 ⟨rfl, c1⟩)
      | (go_at_call 16; refine (known_any _).mono ?_; rintro e w6 ⟨rfl, g6⟩))
    go_ret
    exact ⟨rfl, (c1.trans g6).below⟩
  have t0 : decide (150 < ln) = false := decide_eq_false hq
  have hn150 : n ≤ 150 := by omega
  clear hle hm hq
  go_enter Try.func11, Try.ntmps11
  go_wp2_with (first
    | (go_at_call 28; refine (long_any _ D _ _ H.out (by rw [HN.out]; omega)).mono ?_; rw [HL.out, t0]; rintro e w1 ⟨rfl, c1⟩)
    | (go_at_call 18; refine (k_flatNew c1).mono ?_; rintro e w2 ⟨m, rfl, g0⟩))
  have gA : MemK w (w2.alloc (.cells #[.slice none 0 0] 30)) m [] (Both w.heap.size w2.heap.size (.slice A n c) D none 0 []) := by
    refine g0.now ((Chg.refl _ _).alloc _) fun G hG _ G' v2 h2 h3 c2 _ => ⟨?_, ?_, ?_, ?_⟩
    · exact ((H.out.more (S' := fun b => b < w.heap.size) (fun b hb _ => hb)).keep (F := No) (g0.chg.alloc _) (fun _ _ f => f)).keep c2 (fun b hb hg => by have := (hG b hg).2; omega)
    · intro hx
      rcases h3 _ hx with h | h
      · have := (hG _ h).1; omega
      · simp at h; omega
    · refine (Row.new w2 _ _).keep c2 (fun hx => ?_)
      have := (hG _ hx).1; omega
    · exact ⟨[], rfl, Slc.nil _ _ 4, by simp⟩
  have hX0 : w.heap.size ≤ w2.heap.size := g0.chg.size
  obtain ⟨X, hX⟩ : ∃ X, w2.heap.size = X := ⟨_, rfl⟩
  rw [hX] at gA hX0 ⊢
  clear g0 c1 hX
  generalize w2.alloc (.cells #[.slice none 0 0] 30) = w3 at *
  go_loopg [5] n (fun j v5 wr => ∃ (i : Nat) (A' : Option Addr) (c' : Nat), v5 = .int .i64 i ∧ i ≤ n ∧ n - i ≤ j ∧ MemK w wr m (runL (D.take i)) (Both w.heap.size X (.slice A n c) D A' c' (runL (D.take i))))
  case atStart => exact ⟨0, none, 0, rfl, by omega, by omega, gA⟩
  case round =>
    clear gA
    obtain ⟨i, A', c', rfl, i1, i2, g1⟩ := hrel
    by_cases hi : i < n
    · obtain ⟨⟨dk, da, db, dc⟩, hti⟩ : ∃ d, D[i]? = some d := ⟨_, List.getElem?_eq_getElem (by rw [HN.out]; exact hi)⟩
      obtain ⟨F1, -, -, hk1⟩ := g1.opened
      obtain ⟨b, off, rfl, -, hb, hd, y0, y1, y2, y3⟩ := hk1.1.at hti
      have hXr : X < wr.heap.size := hk1.2.2.1.lt
      have hlen := runL_len (D.take i) []
      rw [List.length_nil, List.length_take, HN.out, Nat.min_eq_left i1] at hlen
      have hrt := runL_take hti
      change (runL (D.take i)).length ≤ _ at hlen
      generalize runL (D.take i) = L at *
      have hk := k_done g1 ⟨dk, da, db, dc⟩ hd (Nat.lt_of_le_of_lt (Nat.succ_le_succ hlen) (by omega))
      have HD := Lib.hid (And.intro hti hrt)
      dsimp only [D4.cells] at hk y0 y1 y2 y3
      generalize hL' : doneL L ⟨dk, da, db, dc⟩ = L' at *
      generalize hT' : doneT L ⟨dk, da, db, dc⟩ = t at *
      have HK := Lib.hid (And.intro hk (And.intro hL' hT'))
      have HL1 := Lib.hid (And.intro hlen hd)
      have HOK := Lib.hid (And.intro (fun i (hk : (ob L i).kind = 0) => g1.goneAt hk) (fun i (hk : (ob L i).kind ≠ 0) => g1.okAt hk))
      clear hk hlen hti hd hk1 g1 hrt hL' hT'
      go_upto_region 11 with
                  (go_at_call 29
                   refine HK.out.1.mono ?_
                   rintro e w3 ⟨v, rfl, wv, bv, rfl, hI, hB, k1, k2, g3⟩
                   obtain ⟨A1, c1, rfl, -⟩ := hI.form
                   obtain ⟨A2, c2, rfl, -⟩ := hB.form
                   simp only [TD.cells]
                   have HT := Lib.hid (And.intro hI (And.intro hB (And.intro k1 k2)))
                   have HG := Lib.hid g3
                   clear hI hB k1 k2 g3)
      obtain ⟨W4, hW4⟩ : ∃ W4, w3.alloc (.cells #[.int .i64 t.n, .int .i64 t.o.cls, .int .i64 t.o.kind, .slice A1 t.o.W.length c1, .slice A2 t.o.B.length c2, .bool t.ok, .int .i64 t.e] 55) = W4 := ⟨_, rfl⟩
      rw [hW4]
      have g4 : MemK w W4 m L' (Both w.heap.size X (.slice (some ⟨b, off, none⟩) n c) D A' c' L) := HG.out.world (by rw [← hW4]; exact (Chg.refl _ _).alloc _)
      obtain ⟨F3, hf3, hc3, hF3, hK3⟩ := g4
      obtain ⟨kD, kX, kR, kL⟩ := hK3 F3 W4 (fun _ h => h) (fun _ h => .inl h) (Chg.refl _ _)
      have hXl := kR.lt
      have z0 : ∀ v, Chg No W4 v → v.cell? ⟨X, 0, none⟩ = some (.slice A' L.length c') := fun v hv => (kR.keep hv (fun f => f)).cell 0
      obtain ⟨b', off', eb, -, hb', -, q0, q1, q2, q3⟩ := kD.at HD.out.1
      obtain ⟨rfl, rfl⟩ : b' = b ∧ off' = off := by cases eb; exact ⟨rfl, rfl⟩
      have zd : ∀ v, Chg No W4 v → v.cell? ⟨b', off' + i * 4, none⟩ = some (.int .i64 dk) ∧ v.cell? ⟨b', off' + i * 4 + 1, none⟩ = some (.int .i64 da) ∧ v.cell? ⟨b', off' + i * 4 + 2, none⟩ = some (.int .i64 db) ∧ v.cell? ⟨b', off' + i * 4 + 3, none⟩ = some (.int .i64 dc) := fun v hv => ⟨(hv.cell hb' (fun f => f)).trans q0, (hv.cell hb' (fun f => f)).trans q1, (hv.cell hb' (fun f => f)).trans q2, (hv.cell hb' (fun f => f)).trans q3⟩
      have HM := Lib.hid (And.intro hf3 (And.intro hc3 (And.intro hF3 hK3)))
      have HKL := Lib.hid (show RefM W4 (fun b => (¬ F3 b ∧ b ≠ X) ∧ b < W4.heap.size) (.agg #[.slice A' L.length c']) L from ⟨_, rfl, kL.more (fun b h1 h2 => ⟨h2, h1⟩)⟩)
      have HW4 := Lib.hid hW4
      have HR3 := Lib.hid (by rw [← hW4]; exact Row.new w3 _ _ : Row W4 w3.heap.size 55 #[.int .i64 t.n, .int .i64 t.o.cls, .int .i64 t.o.kind, .slice A1 t.o.W.length c1, .slice A2 t.o.B.length c2, .bool t.ok, .int .i64 t.e])
      clear hf3 hc3 hF3 hK3 kD kR kL q0 q1 q2 q3 eb hW4 y0 y1 y2 y3 hb
      generalize hlL : L.length = nL at *
      have HLL := Lib.hid hlL
      clear hlL
      go_cut [7, 8] from 24 to 58 (fun s7 s8 wq => Mid W4 (fun b => (¬ F3 b ∧ b ≠ X) ∧ b < W4.heap.size) L' t s7 s8 wq)
      case first =>
        go_region_held3 (fun w' => Chg No W4 w') (repeat (with_reducible first | assumption | exact Chg.refl _ _ | refine Chg.drew ?_ | refine Chg.alloc ?_ _ | refine Chg.setCell ?_ (.inr (by first | exact Nat.le_refl _ | (simp; done) | (simp; omega))) _))
          (first
           | (go_at_call 36
              refine (Calls.held (F := No) (W := W4) (by assumption) (step10_any _ (fun b => (¬ F3 b ∧ b ≠ X) ∧ b < W4.heap.size) L _ (HKL.out.keep (F := No) (by assumption) (fun _ _ f => f)) (by rw [HLL.out]; have := HL1.out.1; omega) HOK.out.1 HOK.out.2 ⟨dk, da, db, dc⟩ HL1.out.2)).mono ?_
              rw [HK.out.2.1, HK.out.2.2]
              rintro e w5 ⟨⟨r5, rfl, m', t', rfl, ⟨l5, rfl, hl5⟩, ⟨w5v, b5v, rfl, hI5, hB5, -, -⟩, c5⟩, hh⟩
              obtain ⟨A5, k5, rfl, -⟩ := hl5.form
              obtain ⟨A6, k6, rfl, -⟩ := hI5.form
              obtain ⟨A7, k7, rfl, -⟩ := hB5.form
              simp only [TD.cells]
              have hC5 : Chg No W4 w5 := hh.trans c5
              have s5 := hC5.size
              first
                | (with_reducible have c5' : Chg No W4.drew w5 := c5)
                | (with_reducible have c5' : Chg No (W4.alloc (.cells #[.slice none 0 0] 30)).drew w5 := c5
                   have r0 : Row w5 W4.heap.size 30 #[.slice none 0 0] := Row.keep (Row.new W4 _ _).drew c5' (fun f => f)
                   have hr0 : W4.heap.size < w5.heap.size := r0.lt
                   have u0 : w5.cell? ⟨W4.heap.size, 0, none⟩ = some (.slice none 0 0) := r0.cell 0
                   have u1 := r0.frozen 0
                   have u2 : (w5.alloc (.cells #[.int .i64 0, .int .i64 0, .int .i64 0, .slice none 0 0, .slice none 0 0, .bool false, .int .i64 0] 55)).cell? ⟨W4.heap.size, 0, none⟩ = some (.slice none 0 0) := (r0.alloc _).cell 0
                   have u3 := (r0.alloc (.cells #[.int .i64 0, .int .i64 0, .int .i64 0, .slice none 0 0, .slice none 0 0, .bool false, .int .i64 0] 55)).frozen 0)
                | (with_reducible have c5' : Chg No (W4.alloc (.cells #[.int .i64 0, .int .i64 0, .int .i64 0, .slice none 0 0, .slice none 0 0, .bool false, .int .i64 0] 55)).drew w5 := c5
                   have r0 : Row w5 W4.heap.size 55 #[.int .i64 0, .int .i64 0, .int .i64 0, .slice none 0 0, .slice none 0 0, .bool false, .int .i64 0] := Row.keep (Row.new W4 _ _).drew c5' (fun f => f)
                   have hr0 : W4.heap.size < w5.heap.size := r0.lt
                   have u0 := r0.seven
                   have f0 : (World.alloc w5 (.cells #[.slice A5 L'.length k5] 30)).cell? ⟨W4.heap.size, 0, none⟩ = some (.int .i64 0) := (r0.alloc _).cell 0
                   have g0 := (r0.alloc (.cells #[.slice A5 L'.length k5] 30)).frozen 0
                   have rs1 := r0.set 0 (.int .i64 t.n)
                   have f1 : (World.alloc (World.setCell w5 ⟨W4.heap.size, 0, none⟩ (.int .i64 t.n)) (.cells #[.slice A5 L'.length k5] 30)).cell? ⟨W4.heap.size, 1, none⟩ = some (.int .i64 0) := (rs1.alloc _).cell 1
                   have g1 := (rs1.alloc (.cells #[.slice A5 L'.length k5] 30)).frozen 1
                   have rs2 := rs1.set 1 (.int .i64 t.o.cls)
                   have f2 : (World.alloc (World.setCell (World.setCell w5 ⟨W4.heap.size, 0, none⟩ (.int .i64 t.n)) ⟨W4.heap.size, 1, none⟩ (.int .i64 t.o.cls)) (.cells #[.slice A5 L'.length k5] 30)).cell? ⟨W4.heap.size, 2, none⟩ = some (.int .i64 0) := (rs2.alloc _).cell 2
                   have g2 := (rs2.alloc (.cells #[.slice A5 L'.length k5] 30)).frozen 2
                   have rs3 := rs2.set 2 (.int .i64 t.o.kind)
                   have f3 : (World.alloc (World.setCell (World.setCell (World.setCell w5 ⟨W4.heap.size, 0, none⟩ (.int .i64 t.n)) ⟨W4.heap.size, 1, none⟩ (.int .i64 t.o.cls)) ⟨W4.heap.size, 2, none⟩ (.int .i64 t.o.kind)) (.cells #[.slice A5 L'.length k5] 30)).cell? ⟨W4.heap.size, 3, none⟩ = some (.slice none 0 0) := (rs3.alloc _).cell 3
                   have g3 := (rs3.alloc (.cells #[.slice A5 L'.length k5] 30)).frozen 3
                   have rs4 := rs3.set 3 (.slice A6 t.o.W.length k6)
                   have f4 : (World.alloc (World.setCell (World.setCell (World.setCell (World.setCell w5 ⟨W4.heap.size, 0, none⟩ (.int .i64 t.n)) ⟨W4.heap.size, 1, none⟩ (.int .i64 t.o.cls)) ⟨W4.heap.size, 2, none⟩ (.int .i64 t.o.kind)) ⟨W4.heap.size, 3, none⟩ (.slice A6 t.o.W.length k6)) (.cells #[.slice A5 L'.length k5] 30)).cell? ⟨W4.heap.size, 4, none⟩ = some (.slice none 0 0) := (rs4.alloc _).cell 4
                   have g4 := (rs4.alloc (.cells #[.slice A5 L'.length k5] 30)).frozen 4
                   have rs5 := rs4.set 4 (.slice A7 t.o.B.length k7)
                   have f5 : (World.alloc (World.setCell (World.setCell (World.setCell (World.setCell (World.setCell w5 ⟨W4.heap.size, 0, none⟩ (.int .i64 t.n)) ⟨W4.heap.size, 1, none⟩ (.int .i64 t.o.cls)) ⟨W4.heap.size, 2, none⟩ (.int .i64 t.o.kind)) ⟨W4.heap.size, 3, none⟩ (.slice A6 t.o.W.length k6)) ⟨W4.heap.size, 4, none⟩ (.slice A7 t.o.B.length k7)) (.cells #[.slice A5 L'.length k5] 30)).cell? ⟨W4.heap.size, 5, none⟩ = some (.bool false) := (rs5.alloc _).cell 5
                   have g5 := (rs5.alloc (.cells #[.slice A5 L'.length k5] 30)).frozen 5
                   have rs6 := rs5.set 5 (.bool t.ok)
                   have f6 : (World.alloc (World.setCell (World.setCell (World.setCell (World.setCell (World.setCell (World.setCell w5 ⟨W4.heap.size, 0, none⟩ (.int .i64 t.n)) ⟨W4.heap.size, 1, none⟩ (.int .i64 t.o.cls)) ⟨W4.heap.size, 2, none⟩ (.int .i64 t.o.kind)) ⟨W4.heap.size, 3, none⟩ (.slice A6 t.o.W.length k6)) ⟨W4.heap.size, 4, none⟩ (.slice A7 t.o.B.length k7)) ⟨W4.heap.size, 5, none⟩ (.bool t.ok)) (.cells #[.slice A5 L'.length k5] 30)).cell? ⟨W4.heap.size, 6, none⟩ = some (.int .i64 0) := (rs6.alloc _).cell 6
                   have g6 := (rs6.alloc (.cells #[.slice A5 L'.length k5] 30)).frozen 6
                   clear rs1 rs2 rs3 rs4 rs5 rs6)
                | (with_reducible have c5' : Chg No ((W4.alloc (.cells #[.slice none 0 0] 30)).alloc (.cells #[.int .i64 0, .int .i64 0, .int .i64 0, .slice none 0 0, .slice none 0 0, .bool false, .int .i64 0] 55)).drew w5 := c5
                   have r0 : Row w5 W4.heap.size 30 #[.slice none 0 0] := Row.keep ((Row.new W4 _ _).alloc _).drew c5' (fun f => f)
                   have r1 : Row w5 (W4.heap.size + 1) 55 #[.int .i64 0, .int .i64 0, .int .i64 0, .slice none 0 0, .slice none 0 0, .bool false, .int .i64 0] := Row.keep (Row.drew (by simpa using Row.new (W4.alloc (.cells #[.slice none 0 0] 30)) 55 #[.int .i64 0, .int .i64 0, .int .i64 0, .slice none 0 0, .slice none 0 0, .bool false, .int .i64 0])) c5' (fun f => f)
                   have hr0 : W4.heap.size < w5.heap.size := r0.lt
                   have u0 : w5.cell? ⟨W4.heap.size, 0, none⟩ = some (.slice none 0 0) := r0.cell 0
                   have u1 := r0.frozen 0
                   have hr0 : W4.heap.size < w5.heap.size := r0.lt
                   have hr1 : W4.heap.size + 1 < w5.heap.size := r1.lt
                   have u2 := r1.seven)
                | (with_reducible have c5' : Chg No ((W4.alloc (.cells #[.int .i64 0, .int .i64 0, .int .i64 0, .slice none 0 0, .slice none 0 0, .bool false, .int .i64 0] 55)).alloc (.cells #[.slice none 0 0] 30)).drew w5 := c5
                   have r0 : Row w5 W4.heap.size 55 #[.int .i64 0, .int .i64 0, .int .i64 0, .slice none 0 0, .slice none 0 0, .bool false, .int .i64 0] := Row.keep ((Row.new W4 _ _).alloc _).drew c5' (fun f => f)
                   have r1 : Row w5 (W4.heap.size + 1) 30 #[.slice none 0 0] := Row.keep (Row.drew (by simpa using Row.new (W4.alloc (.cells #[.int .i64 0, .int .i64 0, .int .i64 0, .slice none 0 0, .slice none 0 0, .bool false, .int .i64 0] 55)) 30 #[.slice none 0 0])) c5' (fun f => f)
                   have u0 : w5.cell? ⟨W4.heap.size + 1, 0, none⟩ = some (.slice none 0 0) := r1.cell 0
                   have u1 := r1.frozen 0
                   have hr0 : W4.heap.size < w5.heap.size := r0.lt
                   have hr1 : W4.heap.size + 1 < w5.heap.size := r1.lt
                   have u2 := r0.seven)
              have H5 := Lib.hid (And.intro hl5 (And.intro hI5 (And.intro hB5 (And.intro c5 hh))))
              clear hl5 hI5 hB5 c5 hh))
        all_goals
          go_wp2_with fail
          go_meet
          case rel =>
            refine ⟨_, _, A5, k5, A6, k6, A7, k7, rfl, rfl, ?_, ?_, ?_, ?_, ?_, RefL.tail H5.out.1 ?_ ?_, IntS.tail H5.out.2.1 ?_ ?_, ByteS.tail H5.out.2.2.1 ?_ ?_⟩
            · first | exact Nat.le_refl _ | omega
            · simp <;> omega
            · repeat (with_reducible first | assumption | exact Chg.refl _ _ | refine Chg.drew ?_ | refine Chg.alloc ?_ _ | refine Chg.setCell ?_ (.inr (by first | exact Nat.le_refl _ | (simp; done) | (simp; omega))) _)
            · go_simp
            · refine ⟨?_, ?_, ?_, ?_, ?_, ?_, ?_⟩ <;> go_simp
            · exact H5.out.2.2.2.2.size
            · repeat (with_reducible first | exact Chg.refl _ _ | refine Chg.alloc ?_ _ | refine Chg.setCell ?_ (.inl ⟨by dsimp only; omega, by simp <;> omega⟩) _)
            · exact H5.out.2.2.2.2.size
            · repeat (with_reducible first | exact Chg.refl _ _ | refine Chg.alloc ?_ _ | refine Chg.setCell ?_ (.inl ⟨by dsimp only; omega, by simp <;> omega⟩) _)
            · exact H5.out.2.2.2.2.size
            · repeat (with_reducible first | exact Chg.refl _ _ | refine Chg.alloc ?_ _ | refine Chg.setCell ?_ (.inl ⟨by dsimp only; omega, by simp <;> omega⟩) _)
      case rest =>
        obtain ⟨Y, U, A5, c5, A6, c6, A7, c7, rfl, rfl, hU, hUl, cM, yY, yU, hLn, hIU, hBU⟩ := hcut
        have sM := cM.size
        have hX3 : X < w3.heap.size := by
          obtain ⟨_, -, -, hk⟩ := HG.out.opened
          exact hk.2.2.1.lt
        have s34 : W4.heap.size = w3.heap.size + 1 := by rw [← HW4.out]; simp
        obtain ⟨hf3, hc3, hF3, hK3⟩ := HM.out
        obtain ⟨kD, kX, kR, kL⟩ := hK3 F3 W4 (fun _ h => h) (fun _ h => .inl h) (Chg.refl _ _)
        have rX := kR.keep cM (fun f => f)
        have xX : wc.cell? ⟨X, 0, none⟩ = some (.slice A' nL c') := by rw [← HLL.out]; exact rX.cell 0
        have fX := rX.frozen 0
        have rX2 := rX.set 0 (.slice A5 L'.length c5)
        have cX := Chg.one wc X 0 (.slice A5 L'.length c5)
        have c46 : Chg (fun b => b = X) W4 (wc.setCell ⟨X, 0, none⟩ (.slice A5 L'.length c5)) := cM.no.trans cX
        have rT := HR3.out.keep c46 (by omega)
        have hTl := rT.lt
        have hL6 : RefL (wc.setCell ⟨X, 0, none⟩ (.slice A5 L'.length c5)) (fun b => (¬ F3 b ∧ b ≠ X) ∧ b < W4.heap.size ∨ W4.heap.size ≤ b) (.slice A5 L'.length c5) L' := hLn.keep cX (fun b hb e => by rcases hb with hb | hb <;> omega)
        have hTa : ToldR (wc.setCell ⟨X, 0, none⟩ (.slice A5 L'.length c5)) (fun _ => True) (.agg (t.cells (.slice A1 t.o.W.length c1) (.slice A2 t.o.B.length c2))) t := by
          obtain ⟨t1, t2, t3, t4⟩ := HT.out
          have cT : Chg No w3 W4 := by rw [← HW4.out]; exact (Chg.refl _ _).alloc _
          exact ⟨_, _, rfl, ((t1.keep cT (fun _ _ f => f)).keep c46 (fun b hb e => by omega)).more (fun _ _ _ => trivial), ((t2.keep cT (fun _ _ f => f)).keep c46 (fun b hb e => by omega)).more (fun _ _ _ => trivial), t3, t4⟩
        have hTb : ToldR (wc.setCell ⟨X, 0, none⟩ (.slice A5 L'.length c5)) (fun _ => True) (.agg (t.cells (.slice A6 t.o.W.length c6) (.slice A7 t.o.B.length c7))) t := by
          obtain ⟨t1, t2, t3, t4⟩ := HT.out
          exact ⟨_, _, rfl, (hIU.keep cX (fun b hb e => by rcases hb with hb | hb <;> omega)).more (fun _ _ _ => trivial), (hBU.keep cX (fun b hb e => by rcases hb with hb | hb <;> omega)).more (fun _ _ _ => trivial), t3, t4⟩
        have g6 : MemK w (wc.setCell ⟨X, 0, none⟩ (.slice A5 L'.length c5)) m L' (Both w.heap.size X (.slice (some ⟨b', off', none⟩) n c) D A5 c5 L') := by
          refine ⟨F3, hf3.keep c46 (fun b hb e => kX (e ▸ hb)), hc3.then c46 (fun i hi e => by omega), hF3, fun F2 w2 h1 h2 c2 => ⟨?_, ?_, ?_, ?_⟩⟩
          · exact (kD.keep c46 (fun b hb e => by omega)).keep c2 (fun b hb hg => by have := hF3 b hg; omega)
          · intro hx
            rcases h2 _ hx with h | h
            · exact kX h
            · simp at h; omega
          · exact rX2.keep c2 kX
          · refine (((hL6.more (S' := fun b => (¬ F3 b ∧ b ≠ X) ∧ b < (wc.setCell ⟨X, 0, none⟩ (.slice A5 L'.length c5)).heap.size) (fun b hbl hb => ?_))).keep c2 (fun b hb hg => hb.1.1 hg)).more (fun b _ hb => ?_)
            · rcases hb with hb | hb
              · exact ⟨hb.1, hbl⟩
              · exact ⟨⟨fun hg => by have := hf3.lt hg; omega, by omega⟩, hbl⟩
            · refine ⟨fun hg => ?_, hb.1.2⟩
              rcases h2 _ hg with h | h
              · exact hb.1.1 h
              · have := hb.2; omega
        have zT : ∀ v, Chg No (wc.setCell ⟨X, 0, none⟩ (.slice A5 L'.length c5)) v → Seven v w3.heap.size t (.slice A1 t.o.W.length c1) (.slice A2 t.o.B.length c2) := fun v hv => by
          have h := (rT.keep hv (fun f => f)).seven
          exact ⟨h.1, h.2.1, h.2.2.1, h.2.2.2.1, h.2.2.2.2.1, h.2.2.2.2.2.1, h.2.2.2.2.2.2.1⟩
        have zU : ∀ v, Chg No (wc.setCell ⟨X, 0, none⟩ (.slice A5 L'.length c5)) v → Seven v U t (.slice A6 t.o.W.length c6) (.slice A7 t.o.B.length c7) := fun v hv => by
          have hUX : ∀ j, (wc.setCell ⟨X, 0, none⟩ (.slice A5 L'.length c5)).cell? ⟨U, j, none⟩ = wc.cell? ⟨U, j, none⟩ := fun j => cX.cell (p := ⟨U, j, none⟩) hUl (by dsimp only; omega)
          have hvc : ∀ j, v.cell? ⟨U, j, none⟩ = wc.cell? ⟨U, j, none⟩ := fun j => (hv.cell (p := ⟨U, j, none⟩) (by simpa using hUl) (fun f => f)).trans (hUX j)
          obtain ⟨h0, h1, h2, h3, h4, h5, h6⟩ := yU
          exact ⟨(hvc 0).trans h0, (hvc 1).trans h1, (hvc 2).trans h2, (hvc 3).trans h3, (hvc 4).trans h4, (hvc 5).trans h5, (hvc 6).trans h6⟩
        have zX : ∀ v, Chg No (wc.setCell ⟨X, 0, none⟩ (.slice A5 L'.length c5)) v → v.cell? ⟨X, 0, none⟩ = some (.slice A5 L'.length c5) := fun v hv => (rX2.keep hv (fun f => f)).cell 0
        unfold Seven at zT zU
        have HG6 := Lib.hid (And.intro g6 (And.intro hTa hTb))
        clear hf3 hc3 hF3 hK3 kD kX kR kL rX rX2 cX c46 rT hTl hL6 hTa hTb g6 hLn hIU hBU cM yU z0 zd HM HKL HOK HG HT
        simp only [TD.cells] at HG6
        go_wp2_with fail
        refine q_region (C := (Chg No (wc.setCell ⟨X, 0, none⟩ (.slice A5 L'.length c5)))) (by kernel_rfl) (by kernel_rfl) ?_ ?_
        · exact (Chg.refl _ _).drew
        repeat
          refine q_step (fun K hK => ?_)
          go_simp
          first
            | ((with_reducible refine hK _ ?_); clear hK K)
            | (refine (if_neg (by simp [undef])).mpr ?_; (with_reducible refine hK _ ?_); clear hK K)
            | (apply Exists.intro
               with_reducible refine ⟨fun v hv => ?_, hK _ ?_⟩
               · first
                   | with_reducible exact rfl
                   | with_reducible exact ⟨rfl, rfl⟩
                   | (go_simp
                      first
                        | done
                        | with_reducible exact rfl
                        | with_reducible exact ⟨rfl, rfl⟩
                        | (first | (go_at_call 37; refine (Same10_eq _ _ t _ _ (HG6.out.2.1.keep hv (fun _ _ f => f)) (HG6.out.2.2.keep hv (fun _ _ f => f))).mono ?_; rintro e w' ⟨rfl, cs⟩; exact ⟨rfl, hv.trans cs⟩) | (go_at_call 24; refine (k_Made0 (HG6.out.1.world hv)).mono ?_; rintro e w' ⟨rfl, rfl⟩; exact ⟨rfl, hv⟩)))
               clear hK K)
        refine q_nil ?_
        intro V hV
        go_wp2_with fail
        go_roundg (n - (i + 1))
        case measure => omega
        case rel => exact ⟨i + 1, A5, c5, by go_num, by omega, by omega, by rw [HD.out.2]; exact HG6.out.1.world hV⟩
    · obtain rfl : i = n := by omega
      have hlen := runL_len (D.take i) []
      rw [List.length_nil, List.length_take, HN.out, Nat.min_self] at hlen
      change (runL (D.take i)).length ≤ _ at hlen
      generalize runL (D.take i) = L at *
      have hmade := g1.made
      have HOK := Lib.hid (fun k (hk : (ob L k).kind ≠ 0) => g1.okAt hk)
      have HIN := Lib.hid (allL_in64 hmade)
      obtain ⟨q, hq⟩ : ∃ q, (allL L).length = q := ⟨_, rfl⟩
      have HQ := Lib.hid hq
      have hql : q ≤ L.length := by rw [← hq]; exact allTo_len _ _
      obtain ⟨nL, hlL⟩ : ∃ nL, L.length = nL := ⟨_, rfl⟩
      have HLL := Lib.hid hlL
      rw [hlL] at hql hlen
      have hn30 : nL ≤ 150 := by omega
      clear hq hlL i1 i2 hi
      go_wp2_with (first
        | (go_at_call 31
           refine (k_AllK g1).mono ?_
           rw [HQ.out]
           rintro e w4 ⟨v, rfl, ⟨A7, c7, rfl⟩, g4⟩
           obtain ⟨F4, -, -, ⟨-, kX, kR, kL⟩, kI⟩ := g4.opened
           have x0 : w4.cell? ⟨X, 0, none⟩ = some (.slice A' nL c') := by rw [← HLL.out]; exact kR.cell 0
           have HK4 := Lib.hid (And.intro kR (And.intro kL kI))
           have HG4 := Lib.hid g4
           clear g1 g4 kX kR kL kI)
        | (go_at_call 38
           refine (all10_any _ _ L _ (show RefM w4 _ (.agg #[.slice A' nL c']) L from ⟨_, rfl, by rw [← HLL.out]; exact HK4.out.2.1⟩) hmade).mono ?_
           rintro e w5 ⟨v5, rfl, ho5, c5⟩
           have HO5 := Lib.hid (And.intro (ho5.ints HIN.out) c5)
           clear ho5 c5)
        | (go_at_call 33
           refine (SameInts_eq _ _ (allL L) _ _ (HK4.out.2.2.keep HO5.out.2 (fun _ _ f => f)) HO5.out.1).mono ?_
           rintro e w6 ⟨rfl, c6⟩
           have HC6 := Lib.hid (HO5.out.2.trans c6)
           clear c6))
      go_loopg [10] q (fun j v10 wr => ∃ s : Nat, v10 = .int .i64 s ∧ s ≤ q ∧ q - s ≤ j ∧ Chg No w4 wr)
      case atStart => exact ⟨0, rfl, by omega, by omega, HC6.out⟩
      case round =>
        obtain ⟨s, rfl, s1, s2, hV⟩ := hrel
        clear x0
        by_cases hs : s < q
        · obtain ⟨o, hto⟩ : ∃ o, (allL L)[s]? = some o := ⟨_, List.getElem?_eq_getElem (by rw [HQ.out]; exact hs)⟩
          obtain ⟨k, k1, k2, rfl⟩ := allL_at hto
          rw [HLL.out] at k1
          obtain ⟨b7, off7, rfl, hb7, hz, -, -⟩ := HK4.out.2.2.at (i := s) (by rw [HQ.out]; exact hs)
          rw [hto, Option.getD_some] at hz
          have y1 : ∀ v, Chg No w4 v → v.cell? ⟨b7, off7 + s, none⟩ = some (.int .i64 (2 * ((k : Int) + 1))) := fun v hv => (hv.cell hb7 (fun f => f)).trans hz
          have i64o : In64 (2 * ((k : Int) + 1)) := by unfold In64; omega
          have HE := Lib.hid (objV_even k2 hmade)
          have hok := HOK.out k k2
          have hsz : szO (ob L k) = ((ob L k).W.length : Int) + (ob L k).B.length := by
            unfold szO
            rcases hok.2.1 with ⟨h1, h2⟩ | ⟨h1, h2⟩
            · rw [if_pos h1, h2]; simp
            · rw [if_neg (by omega), if_pos h1, h2]; simp
          have hWl := hok.2.2.1
          have hBl := hok.2.2.2.1
          obtain ⟨b, off, c9, wv, bv, e, -, hc, hob⟩ := HK4.out.2.1.cells (i := k) (by rw [HLL.out]; exact k1)
          rw [HLL.out] at e
          obtain ⟨rfl, -, rfl⟩ := Value.slice.inj e
          obtain ⟨A1, d1, A2, d2, e1⟩ := hob.shape
          obtain ⟨rfl, rfl⟩ : wv = .slice A1 (ob L k).W.length d1 ∧ bv = .slice A2 (ob L k).B.length d2 := by simpa [cells2] using e1
          simp only [cells2] at hob
          have v1 : IntKind.i64.wrap ((k : Int) + 1 - 1) = (k : Int) := (IntWalk.i64_in _ (by omega)).trans (by omega)
          have v2 : IntKind.i64.wrap (k : Int) = (k : Int) := IntWalk.i64_in _ (by omega)
          have v3 : (2 * ((k : Int) + 1)).tdiv 2 = (k : Int) + 1 := by rw [Int.tdiv_eq_ediv_of_nonneg (by omega)]; omega
          have v4 : IntKind.i64.wrap ((k : Int) + 1) = (k : Int) + 1 := IntWalk.i64_in _ (by omega)
          have hkn : (k : Int) < (nL : Int) := by omega
          have y0s := y1 wr hV
          have HV := Lib.hid hV
          generalize hox : ob L k = x at *
          have wlb : IntKind.i64.wrap ((x.W.length : Int) + x.B.length) = (x.W.length : Int) + x.B.length := IntWalk.i64_in _ (by omega)
          have HC := Lib.hid (And.intro hc (And.intro hob hsz))
          clear hto hz hV k2 hok hc hob hsz e e1 hox
          go_upto_region 24 with (first
            | (go_at_call 23; refine (k_ObjC (HG4.out.world HV.out) (2 * ((k : Int) + 1)) i64o).mono ?_; rw [HE.out.1, HE.out.2]; rintro e w7 ⟨r, rfl, -, hr, cg⟩; obtain ⟨A3, d3, A4, d4, rfl⟩ := hr.shape; have c47 := (HV.out.trans cg).alloc (.cells #[.int .i64 x.cls, .int .i64 x.kind, .slice A3 x.W.length d3, .slice A4 x.B.length d4] 25); have rO := Row.new w7 25 #[.int .i64 x.cls, .int .i64 x.kind, .slice A3 x.W.length d3, .slice A4 x.B.length d4]; have y2s := y1 _ c47; have H7 := Lib.hid (And.intro c47 (And.intro rO (hr.keep (F := No) ((Chg.refl _ _).alloc (.cells #[.int .i64 x.cls, .int .i64 x.kind, .slice A3 x.W.length d3, .slice A4 x.B.length d4] 25)) (fun _ _ f => f)))); clear hr cg c47 rO)
            | (go_at_call 39; refine (k_Class (HG4.out.world H7.out.1) (2 * ((k : Int) + 1)) i64o).mono ?_; rw [HE.out.1, HE.out.2]; rintro e w8 ⟨rfl, -, c8⟩; have c48 := H7.out.1.trans c8; have y3s := y1 _ c48; have H8 := Lib.hid (And.intro c48 c8); clear c48 c8)
            | (go_at_call 40; refine (k_SizeF (HG4.out.world H8.out.1) (2 * ((k : Int) + 1)) i64o).mono ?_; rw [HE.out.1, HE.out.2, HC.out.2.2]; rintro e w9 ⟨rfl, -, c9⟩; have H9 := Lib.hid (And.intro (H8.out.1.trans c9) (H8.out.2.trans c9)); clear c9))
          have zX : ∀ v, Chg No w9 v → v.cell? ⟨X, 0, none⟩ = some (.slice (some ⟨b, off, none⟩) nL c') := fun v hv => by
            rw [← HLL.out]
            exact (HK4.out.1.keep (H9.out.1.trans hv) (fun f => f)).cell 0
          have zL : ∀ v, Chg No w9 v → v.cell? ⟨b, off + k * 4, none⟩ = some (.int .i64 x.cls) ∧ v.cell? ⟨b, off + k * 4 + 1, none⟩ = some (.int .i64 x.kind) ∧ v.cell? ⟨b, off + k * 4 + 2, none⟩ = some (.slice A1 x.W.length d1) ∧ v.cell? ⟨b, off + k * 4 + 3, none⟩ = some (.slice A2 x.B.length d2) := fun v hv => HC.out.1 v (H9.out.1.trans hv)
          have zA : ∀ v, Chg No w9 v → v.cell? ⟨b7, off7 + s, none⟩ = some (.int .i64 (2 * ((k : Int) + 1))) := fun v hv => y1 v (H9.out.1.trans hv)
          have zO := (H7.out.2.1.keep H9.out.2 (fun f => f)).four
          have hl9 := (H7.out.2.1.keep H9.out.2 (fun f => f)).lt
          have cW9 : Chg No w9 (w9.alloc (.cells #[.int .i64 x.cls, .int .i64 x.kind, .slice A1 x.W.length d1, .slice A2 x.B.length d2] 25)) := (Chg.refl _ _).alloc _
          have zO2 := ((H7.out.2.1.keep H9.out.2 (fun f => f)).keep cW9 (fun f => f)).four
          have HW9 := Lib.hid cW9
          clear y0s y2s y3s y1 cW9
          go_region_held3 (fun w' => Chg No w9 w') (repeat (with_reducible first | assumption | exact Chg.refl _ _ | refine Chg.drew ?_ | refine Chg.alloc ?_ _ | refine Chg.setCell ?_ (.inr (by first | exact Nat.le_refl _ | (simp; done) | (simp; omega))) _)) (fail)
          all_goals
            go_wp2_with (go_at_call 17
                         refine (Same05_eq _ _ x (fun _ => True) _ ((H7.out.2.2.keep (H9.out.2.trans (by repeat (with_reducible first | exact Chg.refl _ _ | refine Chg.drew ?_ | refine Chg.alloc ?_ _))) (fun _ _ f => f)).more (fun _ _ _ => trivial)) ((HC.out.2.1.keep (H9.out.1.trans (by repeat (with_reducible first | exact Chg.refl _ _ | refine Chg.drew ?_ | refine Chg.alloc ?_ _))) (fun _ _ f => f)).more (fun _ _ _ => trivial))).mono ?_
                         rintro e w10 ⟨rfl, c10⟩
                         have rW := (Row.new w9 25 #[.int .i64 x.cls, .int .i64 x.kind, .slice A1 x.W.length d1, .slice A2 x.B.length d2]).drew.keep c10 (fun f => f)
                         have zW := rW.four
                         have H10 := Lib.hid (HW9.out.drew.trans c10)
                         clear c10 rW)
            go_roundg (q - (s + 1))
            case measure => omega
            case rel => exact ⟨s + 1, by go_num, by omega, by omega, H9.out.1.trans H10.out⟩
        · obtain rfl : s = q := by omega
          go_wp2_with (go_at_call 16; refine (known_any _).mono ?_; rintro e w7 ⟨rfl, g7⟩)
          go_ret
          exact ⟨rfl, (HG4.out.chg.trans (hV.trans g7)).below⟩

end Go.Proofs.Ytmpfpfemjpmbaaa
