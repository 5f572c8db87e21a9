/- The document's memory (websterref10): what it is in memory; New. -/
import Derived.Test.YtifcigjminbllaaGreatDoorFlatG
import Derived.Test.YtifcigjminbllaaGreatDoorRef05
namespace Go.Proofs.YtifcigjminbllaaGreatDoor
set_option linter.unusedVariables false
set_option linter.unusedSimpArgs false
open Go.RowKit

/-- objects in a row: each with its two lists' values -/
abbrev T3 := O × Value × Value
def cellsT (T : List T3) : List Value := T.flatMap fun t => (cells2 t.1 t.2.1 t.2.2).toList
def okT (w : World) (S : Nat → Prop) (t : T3) : Prop := IntS w S t.2.1 t.1.W ∧ ByteS w S t.2.2 t.1.B ∧ In64 t.1.cls ∧ In64 t.1.kind
/-- a slice of objects that reads as L -/
def RefL (w : World) (S : Nat → Prop) (lv : Value) (L : List O) : Prop := ∃ T : List T3, T.map (·.1) = L ∧ Slc w S 4 lv T.length (cellsT T) ∧ ∀ t ∈ T, okT w S t
/-- the document's memory -/
def RefM (w : World) (S : Nat → Prop) (v : Value) (L : List O) : Prop := ∃ lv, v = .agg #[lv] ∧ RefL w S lv L

theorem elem_obj : ElemInfo Tryz.prog 24 50 4 64 := .of Tryz.underlying24 (show (Tryz.prog.info? 50).map (fun i => (i.zero, i.size, i.bytes)) = some (some (.agg #[.int .i64 0, .int .i64 0, .slice none 0 0, .slice none 0 0]), 4, 64) by kernel_rfl) rfl
section
variable {w w' : World} {S S' F : Nat → Prop}
theorem okT.keep {t : T3} (h : okT w S t) (c : Chg F w w') (hS : ∀ b, S b → ¬ F b) : okT w' S t := ⟨h.1.keep c hS, h.2.1.keep c hS, h.2.2⟩
theorem okT.more {t : T3} (h : okT w S t) (hS : ∀ b, b < w.heap.size → S b → S' b) : okT w S' t := ⟨h.1.more hS, h.2.1.more hS, h.2.2⟩
theorem RefL.keep {lv : Value} {L : List O} (h : RefL w S lv L) (c : Chg F w w') (hS : ∀ b, S b → ¬ F b) : RefL w' S lv L := by
  obtain ⟨T, h1, h2, h3⟩ := h
  exact ⟨T, h1, h2.keep c hS, fun t ht => (h3 t ht).keep c hS⟩
theorem RefL.more {lv : Value} {L : List O} (h : RefL w S lv L) (hS : ∀ b, b < w.heap.size → S b → S' b) : RefL w S' lv L := by
  obtain ⟨T, h1, h2, h3⟩ := h
  exact ⟨T, h1, h2.more hS, fun t ht => (h3 t ht).more hS⟩
theorem RefM.keep {v : Value} {L : List O} (h : RefM w S v L) (c : Chg F w w') (hS : ∀ b, S b → ¬ F b) : RefM w' S v L := by
  obtain ⟨lv, h1, h2⟩ := h
  exact ⟨lv, h1, h2.keep c hS⟩
theorem RefM.more {v : Value} {L : List O} (h : RefM w S v L) (hS : ∀ b, b < w.heap.size → S b → S' b) : RefM w S' v L := by
  obtain ⟨lv, h1, h2⟩ := h
  exact ⟨lv, h1, h2.more hS⟩
theorem RefM.nil (w : World) (S : Nat → Prop) : RefM w S (.agg #[.slice none 0 0]) [] := ⟨_, rfl, [], rfl, Slc.nil w S 4, by simp⟩
theorem length_cellsT (T : List T3) : (cellsT T).length = T.length * 4 := by
  induction T with
  | nil => rfl
  | cons t T ih => simp [cellsT, cells2] at ih ⊢; omega
theorem one_cellsT {T : List T3} (h : ∀ t ∈ T, okT w S t) : ∀ u ∈ cellsT T, u.oneCell' = true := by
  intro u hu
  simp only [cellsT, List.mem_flatMap] at hu
  obtain ⟨t, ht, hu⟩ := hu
  obtain ⟨h1, h2, _⟩ := h t ht
  obtain ⟨A, c, e1, -⟩ := h1.form
  obtain ⟨B, c', e2, -⟩ := h2.form
  rw [e1, e2] at hu
  simp [cells2] at hu
  rcases hu with rfl | rfl | rfl | rfl <;> rfl
/-- a slice of all of a block's elements -/
theorem Slc.row {b : Nat} {t : TypeId} {cs : Array Value} (h : Row w b t cs) (n sz : Nat) (hs : cs.size = n * sz) (hn : n ≤ maxLen) (hS : S b) : Slc w S sz (.slice (some ⟨b, 0, none⟩) n n) n cs.toList :=
  ⟨_, n, rfl, by simpa using hs, Nat.le_refl _, hn, (fun e => by cases e), fun _ => ⟨b, 0, rfl, hS, h.lt, fun i u hu => by rw [Nat.zero_add, h.cell]; simpa using hu⟩⟩
end

theorem cellsT_at : ∀ (T : List T3) (i : Nat) (t : T3), T[i]? = some t → ∀ j, j < 4 → (cellsT T)[4 * i + j]? = (cells2 t.1 t.2.1 t.2.2)[j]?
  | [], i, t, h, _, _ => by simp at h
  | x :: T, 0, t, h, j, hj => by
    simp at h
    subst h
    have hx : (cells2 x.1 x.2.1 x.2.2).toList.length = 4 := by simp [cells2]
    rw [cellsT, List.flatMap_cons, List.getElem?_append_left (by omega)]
    simp
  | x :: T, i + 1, t, h, j, hj => by
    have hx : (cells2 x.1 x.2.1 x.2.2).toList.length = 4 := by simp [cells2]
    have ih := cellsT_at T i t (by simpa using h) j hj
    rw [cellsT, List.flatMap_cons, List.getElem?_append_right (by omega), hx, show 4 * (i + 1) + j - 4 = 4 * i + j by omega]
    exact ih
/-- an object of the row -/
theorem RefL.at {w : World} {S : Nat → Prop} {lv : Value} {L : List O} (h : RefL w S lv L) {i : Nat} (hi : i < L.length) : ∃ b off c wv bv, lv = .slice (some ⟨b, off, none⟩) L.length c ∧ S b ∧ b < w.heap.size ∧ ObjR w S (.agg (cells2 (ob L i) wv bv)) (ob L i) ∧
    w.cell? ⟨b, off + 4 * i, none⟩ = some (.int .i64 (ob L i).cls) ∧ w.cell? ⟨b, off + (4 * i + 1), none⟩ = some (.int .i64 (ob L i).kind) ∧ w.cell? ⟨b, off + (4 * i + 2), none⟩ = some wv ∧ w.cell? ⟨b, off + (4 * i + 3), none⟩ = some bv := by
  obtain ⟨T, hT, ⟨A, c, rfl, hl, h1, h2, h0, h3⟩, hok⟩ := h
  have hTL : T.length = L.length := by rw [← hT]; simp
  obtain ⟨b, off, rfl, hS, hb, hc⟩ := h3 (by omega)
  obtain ⟨t, hti⟩ : ∃ t, T[i]? = some t := ⟨_, List.getElem?_eq_getElem (by omega)⟩
  have ho : ob L i = t.1 := by
    have e : L[i]? = some t.1 := by rw [← hT, List.getElem?_map, hti]; rfl
    rw [ob, e]; rfl
  have ht := hok t (List.mem_of_getElem? hti)
  have hcell := fun j hj u hu => hc (4 * i + j) u ((cellsT_at T i _ hti j hj).trans hu)
  refine ⟨b, off, c, t.2.1, t.2.2, by rw [hTL], hS, hb, ⟨_, _, rfl, by rw [ho]; exact ht.1, by rw [ho]; exact ht.2.1, by rw [ho]; exact ht.2.2.1, by rw [ho]; exact ht.2.2.2⟩, ?_, ?_, ?_, ?_⟩
  · rw [ho]; exact hcell 0 (by omega) _ rfl
  · rw [ho]; exact hcell 1 (by omega) _ rfl
  · exact hcell 2 (by omega) _ rfl
  · exact hcell 3 (by omega) _ rfl

/-- what the document's New answers -/
def Ref10New (w : World) (S : Nat → Prop) (L : List O) (c k s : Int) (v : Value) (w' : World) : Prop :=
  ∃ x, v = .tuple #[x, .int .i64 (newN L c k s), .int .i64 (newE c k s)] ∧ Chg No w w' ∧ RefM w' (fun b => S b ∨ w.heap.size ≤ b) x (newL L c k s)

set_option maxRecDepth 100000 in
set_option maxHeartbeats 2000000 in
theorem Ref10New_words (v : Value) (S : Nat → Prop) (L : List O) (w : World) (hv : RefM w S v L) (hL : L.length < 1073741823) (c : Int) (N : Nat) (hc : namedOk c = true) (hN : N ≤ 1000) :
    Calls Tryz.prog 72 #[v, .int .i64 c, .int .i64 1, .int .i64 N] w (Ret (Ref10New w S L c 1 N)) := by
  have hb : blankOk c 1 (N : Int) = true := by simp [blankOk, hc]; omega
  have c64 := named64 hc
  obtain ⟨lv, rfl, T, hT, hs, hok⟩ := hv
  have hTL : T.length = L.length := by rw [← hT]; simp
  obtain ⟨A, cap, rfl, hrest⟩ := hs
  have hslc : Slc w S 4 (.slice A T.length cap) T.length (cellsT T) := ⟨A, cap, rfl, hrest⟩
  rw [hTL] at hslc ⊢
  have HS := Lib.hid hslc
  have HO := Lib.hid hok
  have hNb := Lib.hid hb
  have HT := Lib.hid (And.intro hT hTL)
  generalize hn : L.length = n at *
  clear hrest hok hb hslc hT hTL
  go_enter Tryz.func72, Tryz.ntmps72
  go_wp2_with (go_at_call 56; refine (Named01_any c c64 _).mono ?_; rw [hc]; rintro e w' ⟨rfl, rfl⟩)
  go_loopg [14] N (fun j v14 wr => ∃ (i : Nat) (vW : Value), v14 = .int .i64 i ∧ i ≤ N ∧ N - i ≤ j ∧ Chg No w wr ∧ Row wr w.heap.size 71 #[.slice A n cap] ∧ Row wr (w.heap.size + 1) 71 #[.slice none 0 0] ∧
    Row wr (w.heap.size + 2) 50 #[.int .i64 c, .int .i64 1, vW, .slice none 0 0] ∧ wr.ownsRow (w.heap.size + 3) 3 1 vW i (List.replicate i (.int .i64 2)))
  case atStart =>
    exact ⟨0, .slice none 0 0, rfl, by omega, by omega, (((Chg.refl _ _).alloc _).alloc _).alloc _, ((Row.new w _ _).alloc _).alloc _, Row.alloc (by simpa using Row.new (w.alloc _) _ _) _, by simpa using Row.new ((w.alloc _).alloc _) _ _, World.ownsRow_nil _ _ _ _⟩
  case round =>
    obtain ⟨i, vW, rfl, i1, i2, cw, r0, r1, r2, own⟩ := hrel
    obtain ⟨AW, capW, rfl⟩ := own_form own
    have sz3 : w.heap.size + 3 ≤ wr.heap.size := r2.lt
    have d2 : wr.cell? ⟨w.heap.size + 2, 2, none⟩ = some (.slice AW i capW) := r2.cell 2
    by_cases hi : i < N
    · obtain ⟨v', w4, hr, ho, hg⟩ := run_app elem_int (by decide) (own_keep (F := No) own ((Chg.refl _ _).alloc (.cells #[.int .i64 2] 3)) (fun _ _ f => f)) (Slc.row (S := fun _ => True) (Row.new wr 3 #[.int .i64 2]) 1 1 rfl (by unfold maxLen; omega) trivial) (by simp [Value.oneCell']) (by unfold maxLen; omega) (by omega) (by simp; omega) 48
      obtain ⟨AW', cW', rfl⟩ := own_form ho
      have c4 : Chg (fun k => w.heap.size + 3 ≤ k) (wr.alloc (.cells #[.int .i64 2] 3)) w4 := (Chg.refl _ _).grown hg (fun k hk => .inl (own_ge own hk))
      have c5 : Chg (fun k => w.heap.size + 3 ≤ k) wr w4 := ((Chg.refl _ _).alloc _).trans c4
      have q0 := r0.keep c5 (by omega)
      have q1 := r1.keep c5 (by omega)
      have q2 := r2.keep c5 (by omega)
      have e2 : w4.cell? ⟨w.heap.size + 2, 2, none⟩ = some (.slice AW i capW) := q2.cell 2
      have f2 : w4.frozen? ⟨w.heap.size + 2, 2, none⟩ = false := q2.frozen 2
      have cw4 : Chg No w w4 := cw.then c5 (fun k hk h => by omega)
      have HR := Lib.hid hr
      have HW := Lib.hid (And.intro ho (And.intro q0 (And.intro q1 (And.intro q2 cw4))))
      have hwr : IntKind.i64.wrap ((i : Int) + 1) = (i : Int) + 1 := IntWalk.i64_in _ (by omega)
      clear hr hg c4 c5 q0 q1 q2 cw4 r0 r1 r2 own cw ho
      go_wp2_with (at_builtin; refine wpList_append_run rfl _ _ _ rfl rfl rfl HR.out ?_)
      obtain ⟨ho, q0, q1, q2, cw4⟩ := HW.out
      go_roundg (N - (i + 1))
      case measure => omega
      case rel =>
        refine ⟨i + 1, _, by go_num, by omega, by omega, Chg.setCell cw4 (.inr (by simp; omega)) _, q0.other (by simp; omega) _, q1.other (by simp) _, by simpa using q2.set 2 _, ?_⟩
        refine own_keep (F := fun k => k = w.heap.size + 1 + 1) ?_ (Chg.setCell (F := fun k => k = w.heap.size + 1 + 1) (p := ⟨w.heap.size + 1 + 1, 2, none⟩) (Chg.refl _ _) (.inl rfl) _) (fun b hb => by have := own_ge ho hb; omega)
        simpa [List.replicate_succ'] using ho
    · obtain rfl : i = N := by omega
      obtain ⟨u1, w1, hr1, ho1, hg1⟩ := run_app elem_obj (by decide) (World.ownsRow_nil wr (w.heap.size + 3) 50 4) (HS.out.keep cw (fun _ _ f => f)) (one_cellsT HO.out) (by unfold maxLen; omega) (by omega) sz3 24
      rw [Nat.zero_add] at ho1
      have c1 : Chg No wr w1 := (Chg.refl _ _).grown hg1 (by simp [Value.ownBlock])
      obtain ⟨u2, w2, hr2, ho2, hg2⟩ := run_app elem_obj (by decide) (own_keep (F := No) ho1 ((Chg.refl _ _).alloc (.cells #[.int .i64 c, .int .i64 1, .slice AW i capW, .slice none 0 0] 50)) (fun _ _ f => f))
        (Slc.row (S := fun _ => True) (Row.new w1 50 #[.int .i64 c, .int .i64 1, .slice AW i capW, .slice none 0 0]) 1 4 rfl (by unfold maxLen; omega) trivial) (by simp [Value.oneCell']) (by unfold maxLen; omega) (by omega) (by have := c1.size; simp; omega) 24
      have c2 : Chg (fun k => u1.ownBlock = some k) w1 w2 := ((Chg.refl _ _).alloc _).grown hg2 (fun k hk => .inl hk)
      have hu1 : ∀ k, u1.ownBlock = some k → w.heap.size + 3 ≤ k := fun k hk => own_ge ho1 hk
      have own1 := own_keep own c1 (fun _ _ f => f)
      have own2 := own_keep own1 c2 (fun b hb hk => by
        obtain ⟨cs, h1⟩ := own_block own1 hb
        obtain ⟨cs', h2⟩ := own_block ho1 hk
        exact absurd (h1.inj h2).1 (by decide))
      have q0 := r0.keep c1 (fun f => f)
      have q1 := (r1.keep c1 (fun f => f)).keep c2 (fun hk => by have := hu1 _ hk; omega)
      have q2 := r2.keep c1 (fun f => f)
      have d0 : wr.cell? ⟨w.heap.size, 0, none⟩ = some (.slice A n cap) := r0.cell 0
      obtain ⟨e0, e1, e2, e3, ef⟩ := q2.four
      have g0 : w2.cell? ⟨w.heap.size + 1, 0, none⟩ = some (.slice none 0 0) := q1.cell 0
      have g1 : w2.frozen? ⟨w.heap.size + 1, 0, none⟩ = false := q1.frozen 0
      obtain ⟨A1, cap1, rfl⟩ := own_form ho1
      obtain ⟨A2, cap2, rfl⟩ := own_form ho2
      have HR1 := Lib.hid hr1
      have HR2 := Lib.hid hr2
      have hwr : IntKind.i64.wrap (2 * ((n : Int) + 1)) = 2 * ((n : Int) + 1) := IntWalk.i64_in _ (by omega)
      have cW : Chg No w w2 := (cw.trans c1).then c2 (fun k hk h => by have := hu1 k h; omega)
      have HF := Lib.hid (And.intro own2 (And.intro ho2 cW))
      clear hr1 hr2 hg1 hg2 c1 c2 hu1 own1 own2 q0 q1 q2 r0 r1 r2 d2 own ho1 ho2 cw cW
      go_wp2_with (first
        | (at_builtin; refine wpList_append_run rfl _ _ _ rfl rfl rfl HR1.out ?_; clear HR1)
        | (at_builtin; refine wpList_append_run rfl _ _ _ rfl rfl rfl HR2.out ?_))
      obtain ⟨own2, ho2, cW⟩ := HF.out
      obtain ⟨hT, hTL⟩ := HT.out
      refine bodyPost_ret (v := .tuple #[.agg #[.slice A2 (n + 1) cap2], .int .i64 (2 * ((n : Int) + 1)), .int .i64 0]) (by simp [results, Tryz.results72, go_sem, g0]) rfl (Ret.mk ⟨.agg #[.slice A2 (n + 1) cap2], ?_, ?_, ?_⟩)
      · simp [newN, newE, hNb.out, hn]
      · exact Chg.setCell cW (.inr (by simp)) _
      · have cS : Chg (fun k => k = w.heap.size + 1) w2 (w2.setCell ⟨w.heap.size + 1, 0, none⟩ (.slice A2 (n + 1) cap2)) := Chg.setCell (F := fun k => k = w.heap.size + 1) (p := ⟨w.heap.size + 1, 0, none⟩) (Chg.refl _ _) (.inl rfl) _
        have cF : Chg No w (w2.setCell ⟨w.heap.size + 1, 0, none⟩ (.slice A2 (n + 1) cap2)) := Chg.setCell cW (.inr (by simp)) _
        have ho3 := own_keep ho2 cS (fun b hb hk => by have := own_ge ho2 hb; omega)
        have own3 := own_keep own2 cS (fun b hb hk => by have := own_ge own2 hb; omega)
        have hs3 := (Slc.of_own ho3).more (S' := fun b => S b ∨ w.heap.size ≤ b) (fun b _ hb => .inr (by have := own_ge ho3 hb; omega))
        refine ⟨_, rfl, T ++ [(⟨c, 1, List.replicate i 2, []⟩, .slice AW i capW, .slice none 0 0)], ?_, ?_, ?_⟩
        · simp [hT, newL, hNb.out, newO]
        · rw [show (T ++ [((⟨c, 1, List.replicate i 2, []⟩ : O), Value.slice AW i capW, Value.slice none 0 0)]).length = n + 1 by simp [hTL]]
          simpa [cellsT, cells2] using hs3
        · intro t ht
          rcases List.mem_append.1 ht with ht | ht
          · exact ((HO.out t ht).keep cF (fun _ _ f => f)).more (fun b _ h => .inl h)
          · simp only [List.mem_singleton] at ht
            subst ht
            refine ⟨?_, ByteS.nil _ _, c64, (by show In64 1; unfold In64; omega)⟩
            have h := IntS.of_own (l := List.replicate i 2) (by simpa using own3) (fun x hx => by simp at hx; rw [hx.2]; unfold In64; omega)
            exact h.more (S' := fun b => S b ∨ w.heap.size ≤ b) (fun b _ hb => .inr (by omega))

set_option maxRecDepth 100000 in
set_option maxHeartbeats 2000000 in
theorem Ref10New_bytes (v : Value) (S : Nat → Prop) (L : List O) (w : World) (hv : RefM w S v L) (hL : L.length < 1073741823) (c : Int) (N : Nat) (hc : namedOk c = true) (hN : N ≤ 1000) :
    Calls Tryz.prog 72 #[v, .int .i64 c, .int .i64 2, .int .i64 N] w (Ret (Ref10New w S L c 2 N)) := by
  have hb : blankOk c 2 (N : Int) = true := by simp [blankOk, hc]; omega
  have c64 := named64 hc
  obtain ⟨lv, rfl, T, hT, hs, hok⟩ := hv
  have hTL : T.length = L.length := by rw [← hT]; simp
  obtain ⟨A, cap, rfl, hrest⟩ := hs
  have hslc : Slc w S 4 (.slice A T.length cap) T.length (cellsT T) := ⟨A, cap, rfl, hrest⟩
  rw [hTL] at hslc ⊢
  have HS := Lib.hid hslc
  have HO := Lib.hid hok
  have hNb := Lib.hid hb
  have HT := Lib.hid (And.intro hT hTL)
  generalize hn : L.length = n at *
  clear hrest hok hb hslc hT hTL
  go_enter Tryz.func72, Tryz.ntmps72
  go_wp2_with (go_at_call 56; refine (Named01_any c c64 _).mono ?_; rw [hc]; rintro e w' ⟨rfl, rfl⟩)
  go_loopg [14] N (fun j v14 wr => ∃ (i : Nat) (vW : Value), v14 = .int .i64 i ∧ i ≤ N ∧ N - i ≤ j ∧ Chg No w wr ∧ Row wr w.heap.size 71 #[.slice A n cap] ∧ Row wr (w.heap.size + 1) 71 #[.slice none 0 0] ∧
    Row wr (w.heap.size + 2) 50 #[.int .i64 c, .int .i64 2, .slice none 0 0, vW] ∧ wr.ownsRow (w.heap.size + 3) 5 1 vW i (List.replicate i (.int .u8 0)))
  case atStart =>
    exact ⟨0, .slice none 0 0, rfl, by omega, by omega, (((Chg.refl _ _).alloc _).alloc _).alloc _, ((Row.new w _ _).alloc _).alloc _, Row.alloc (by simpa using Row.new (w.alloc _) _ _) _, by simpa using Row.new ((w.alloc _).alloc _) _ _, World.ownsRow_nil _ _ _ _⟩
  case round =>
    obtain ⟨i, vW, rfl, i1, i2, cw, r0, r1, r2, own⟩ := hrel
    obtain ⟨AW, capW, rfl⟩ := own_form own
    have sz3 : w.heap.size + 3 ≤ wr.heap.size := r2.lt
    have d2 : wr.cell? ⟨w.heap.size + 2, 3, none⟩ = some (.slice AW i capW) := r2.cell 3
    by_cases hi : i < N
    · obtain ⟨v', w4, hr, ho, hg⟩ := run_app elem_u8 (by decide) (own_keep (F := No) own ((Chg.refl _ _).alloc (.cells #[.int .u8 0] 5)) (fun _ _ f => f)) (Slc.row (S := fun _ => True) (Row.new wr 5 #[.int .u8 0]) 1 1 rfl (by unfold maxLen; omega) trivial) (by simp [Value.oneCell']) (by unfold maxLen; omega) (by omega) (by simp; omega) 22
      obtain ⟨AW', cW', rfl⟩ := own_form ho
      have c4 : Chg (fun k => w.heap.size + 3 ≤ k) (wr.alloc (.cells #[.int .u8 0] 5)) w4 := (Chg.refl _ _).grown hg (fun k hk => .inl (own_ge own hk))
      have c5 : Chg (fun k => w.heap.size + 3 ≤ k) wr w4 := ((Chg.refl _ _).alloc _).trans c4
      have q0 := r0.keep c5 (by omega)
      have q1 := r1.keep c5 (by omega)
      have q2 := r2.keep c5 (by omega)
      have e2 : w4.cell? ⟨w.heap.size + 2, 3, none⟩ = some (.slice AW i capW) := q2.cell 3
      have f2 : w4.frozen? ⟨w.heap.size + 2, 3, none⟩ = false := q2.frozen 3
      have cw4 : Chg No w w4 := cw.then c5 (fun k hk h => by omega)
      have HR := Lib.hid hr
      have HW := Lib.hid (And.intro ho (And.intro q0 (And.intro q1 (And.intro q2 cw4))))
      have hwr : IntKind.i64.wrap ((i : Int) + 1) = (i : Int) + 1 := IntWalk.i64_in _ (by omega)
      clear hr hg c4 c5 q0 q1 q2 cw4 r0 r1 r2 own cw ho
      go_wp2_with (at_builtin; refine wpList_append_run rfl _ _ _ rfl rfl rfl HR.out ?_)
      obtain ⟨ho, q0, q1, q2, cw4⟩ := HW.out
      go_roundg (N - (i + 1))
      case measure => omega
      case rel =>
        refine ⟨i + 1, _, by go_num, by omega, by omega, Chg.setCell cw4 (.inr (by simp; omega)) _, q0.other (by simp; omega) _, q1.other (by simp) _, by simpa using q2.set 3 _, ?_⟩
        refine own_keep (F := fun k => k = w.heap.size + 1 + 1) ?_ (Chg.setCell (F := fun k => k = w.heap.size + 1 + 1) (p := ⟨w.heap.size + 1 + 1, 3, none⟩) (Chg.refl _ _) (.inl rfl) _) (fun b hb => by have := own_ge ho hb; omega)
        simpa [List.replicate_succ'] using ho
    · obtain rfl : i = N := by omega
      obtain ⟨u1, w1, hr1, ho1, hg1⟩ := run_app elem_obj (by decide) (World.ownsRow_nil wr (w.heap.size + 3) 50 4) (HS.out.keep cw (fun _ _ f => f)) (one_cellsT HO.out) (by unfold maxLen; omega) (by omega) sz3 24
      rw [Nat.zero_add] at ho1
      have c1 : Chg No wr w1 := (Chg.refl _ _).grown hg1 (by simp [Value.ownBlock])
      obtain ⟨u2, w2, hr2, ho2, hg2⟩ := run_app elem_obj (by decide) (own_keep (F := No) ho1 ((Chg.refl _ _).alloc (.cells #[.int .i64 c, .int .i64 2, .slice none 0 0, .slice AW i capW] 50)) (fun _ _ f => f))
        (Slc.row (S := fun _ => True) (Row.new w1 50 #[.int .i64 c, .int .i64 2, .slice none 0 0, .slice AW i capW]) 1 4 rfl (by unfold maxLen; omega) trivial) (by simp [Value.oneCell']) (by unfold maxLen; omega) (by omega) (by have := c1.size; simp; omega) 24
      have c2 : Chg (fun k => u1.ownBlock = some k) w1 w2 := ((Chg.refl _ _).alloc _).grown hg2 (fun k hk => .inl hk)
      have hu1 : ∀ k, u1.ownBlock = some k → w.heap.size + 3 ≤ k := fun k hk => own_ge ho1 hk
      have own1 := own_keep own c1 (fun _ _ f => f)
      have own2 := own_keep own1 c2 (fun b hb hk => by
        obtain ⟨cs, h1⟩ := own_block own1 hb
        obtain ⟨cs', h2⟩ := own_block ho1 hk
        exact absurd (h1.inj h2).1 (by decide))
      have q0 := r0.keep c1 (fun f => f)
      have q1 := (r1.keep c1 (fun f => f)).keep c2 (fun hk => by have := hu1 _ hk; omega)
      have q2 := r2.keep c1 (fun f => f)
      have d0 : wr.cell? ⟨w.heap.size, 0, none⟩ = some (.slice A n cap) := r0.cell 0
      obtain ⟨e0, e1, e2, e3, ef⟩ := q2.four
      have g0 : w2.cell? ⟨w.heap.size + 1, 0, none⟩ = some (.slice none 0 0) := q1.cell 0
      have g1 : w2.frozen? ⟨w.heap.size + 1, 0, none⟩ = false := q1.frozen 0
      obtain ⟨A1, cap1, rfl⟩ := own_form ho1
      obtain ⟨A2, cap2, rfl⟩ := own_form ho2
      have HR1 := Lib.hid hr1
      have HR2 := Lib.hid hr2
      have hwr : IntKind.i64.wrap (2 * ((n : Int) + 1)) = 2 * ((n : Int) + 1) := IntWalk.i64_in _ (by omega)
      have cW : Chg No w w2 := (cw.trans c1).then c2 (fun k hk h => by have := hu1 k h; omega)
      have HF := Lib.hid (And.intro own2 (And.intro ho2 cW))
      clear hr1 hr2 hg1 hg2 c1 c2 hu1 own1 own2 q0 q1 q2 r0 r1 r2 d2 own ho1 ho2 cw cW
      go_wp2_with (first
        | (at_builtin; refine wpList_append_run rfl _ _ _ rfl rfl rfl HR1.out ?_; clear HR1)
        | (at_builtin; refine wpList_append_run rfl _ _ _ rfl rfl rfl HR2.out ?_))
      obtain ⟨own2, ho2, cW⟩ := HF.out
      obtain ⟨hT, hTL⟩ := HT.out
      refine bodyPost_ret (v := .tuple #[.agg #[.slice A2 (n + 1) cap2], .int .i64 (2 * ((n : Int) + 1)), .int .i64 0]) (by simp [results, Tryz.results72, go_sem, g0]) rfl (Ret.mk ⟨.agg #[.slice A2 (n + 1) cap2], ?_, ?_, ?_⟩)
      · simp [newN, newE, hNb.out, hn]
      · exact Chg.setCell cW (.inr (by simp)) _
      · have cS : Chg (fun k => k = w.heap.size + 1) w2 (w2.setCell ⟨w.heap.size + 1, 0, none⟩ (.slice A2 (n + 1) cap2)) := Chg.setCell (F := fun k => k = w.heap.size + 1) (p := ⟨w.heap.size + 1, 0, none⟩) (Chg.refl _ _) (.inl rfl) _
        have cF : Chg No w (w2.setCell ⟨w.heap.size + 1, 0, none⟩ (.slice A2 (n + 1) cap2)) := Chg.setCell cW (.inr (by simp)) _
        have ho3 := own_keep ho2 cS (fun b hb hk => by have := own_ge ho2 hb; omega)
        have own3 := own_keep own2 cS (fun b hb hk => by have := own_ge own2 hb; omega)
        have hs3 := (Slc.of_own ho3).more (S' := fun b => S b ∨ w.heap.size ≤ b) (fun b _ hb => .inr (by have := own_ge ho3 hb; omega))
        refine ⟨_, rfl, T ++ [(⟨c, 2, [], List.replicate i 0⟩, .slice none 0 0, .slice AW i capW)], ?_, ?_, ?_⟩
        · simp [hT, newL, hNb.out, newO]
        · rw [show (T ++ [((⟨c, 2, [], List.replicate i 0⟩ : O), Value.slice none 0 0, Value.slice AW i capW)]).length = n + 1 by simp [hTL]]
          simpa [cellsT, cells2] using hs3
        · intro t ht
          rcases List.mem_append.1 ht with ht | ht
          · exact ((HO.out t ht).keep cF (fun _ _ f => f)).more (fun b _ h => .inl h)
          · simp only [List.mem_singleton] at ht
            subst ht
            refine ⟨IntS.nil _ _, ?_, c64, (by show In64 2; unfold In64; omega)⟩
            have h := ByteS.of_own (l := List.replicate i 0) (by simpa using own3) (fun x hx => by simp at hx; rw [hx.2]; omega)
            exact h.more (S' := fun b => S b ∨ w.heap.size ≤ b) (fun b _ hb => .inr (by omega))

set_option maxRecDepth 100000 in
set_option maxHeartbeats 2000000 in
theorem Ref10New_bad (v : Value) (S : Nat → Prop) (L : List O) (w : World) (hv : RefM w S v L) (c k s : Int) (c64 : In64 c) (hk : In64 k) (hs : In64 s) (hb : blankOk c k s = false) :
    Calls Tryz.prog 72 #[v, .int .i64 c, .int .i64 k, .int .i64 s] w (Ret (Ref10New w S L c k s)) := by
  obtain ⟨b3, b4⟩ := hk
  obtain ⟨b5, b6⟩ := hs
  have HB := Lib.hid hb
  have HV := Lib.hid hv
  obtain ⟨lv, rfl, T, -, ⟨A, cap, rfl, -⟩, -⟩ := hv
  generalize T.length = n at *
  cases hnn : namedOk c
  · clear hb
    go_enter Tryz.func72, Tryz.ntmps72
    go_wp2_with (go_at_call 56; refine (Named01_any c c64 _).mono ?_; rw [hnn]; rintro e w' ⟨rfl, rfl⟩)
    refine bodyPost_ret (v := .tuple #[.agg #[.slice A n cap], .int .i64 0, .int .i64 2]) (by simp [results, Tryz.results72, go_sem]) rfl (Ret.mk ⟨.agg #[.slice A n cap], ?_, ?_, ?_⟩)
    · simp [newN, newE, HB.out]
    · repeat (with_reducible first | exact Chg.refl _ _ | refine Chg.drew ?_ | refine Chg.setCell ?_ (.inr (by simp)) _ | refine Chg.alloc ?_ _)
    · simp only [newL, HB.out]
      refine (HV.out.keep (F := No) ?_ (fun _ _ f => f)).more (fun b _ h => .inl h)
      repeat (with_reducible first | exact Chg.refl _ _ | refine Chg.drew ?_ | refine Chg.setCell ?_ (.inr (by simp)) _ | refine Chg.alloc ?_ _)
  · simp only [blankOk, hnn, Bool.true_and] at hb
    rcases (show k < 1 ∨ 2 < k ∨ (1 ≤ k ∧ k ≤ 2) by omega) with h1 | h1 | ⟨h1, h2⟩
    · clear hb
      go_enter Tryz.func72, Tryz.ntmps72
      go_wp2_with (go_at_call 56; refine (Named01_any c c64 _).mono ?_; rw [hnn]; rintro e w' ⟨rfl, rfl⟩)
      refine bodyPost_ret (v := .tuple #[.agg #[.slice A n cap], .int .i64 0, .int .i64 2]) (by simp [results, Tryz.results72, go_sem]) rfl (Ret.mk ⟨.agg #[.slice A n cap], ?_, ?_, ?_⟩)
      · simp [newN, newE, HB.out]
      · repeat (with_reducible first | exact Chg.refl _ _ | refine Chg.drew ?_ | refine Chg.setCell ?_ (.inr (by simp)) _ | refine Chg.alloc ?_ _)
      · simp only [newL, HB.out]
        refine (HV.out.keep (F := No) ?_ (fun _ _ f => f)).more (fun b _ h => .inl h)
        repeat (with_reducible first | exact Chg.refl _ _ | refine Chg.drew ?_ | refine Chg.setCell ?_ (.inr (by simp)) _ | refine Chg.alloc ?_ _)
    · have h0 : decide (k < 1) = false := by simp; omega
      clear hb
      go_enter Tryz.func72, Tryz.ntmps72
      go_wp2_with (go_at_call 56; refine (Named01_any c c64 _).mono ?_; rw [hnn]; rintro e w' ⟨rfl, rfl⟩)
      refine bodyPost_ret (v := .tuple #[.agg #[.slice A n cap], .int .i64 0, .int .i64 2]) (by simp [results, Tryz.results72, go_sem]) rfl (Ret.mk ⟨.agg #[.slice A n cap], ?_, ?_, ?_⟩)
      · simp [newN, newE, HB.out]
      · repeat (with_reducible first | exact Chg.refl _ _ | refine Chg.drew ?_ | refine Chg.setCell ?_ (.inr (by simp)) _ | refine Chg.alloc ?_ _)
      · simp only [newL, HB.out]
        refine (HV.out.keep (F := No) ?_ (fun _ _ f => f)).more (fun b _ h => .inl h)
        repeat (with_reducible first | exact Chg.refl _ _ | refine Chg.drew ?_ | refine Chg.setCell ?_ (.inr (by simp)) _ | refine Chg.alloc ?_ _)
    · have e1 : decide (k < 1) = false := by simp; omega
      have e2 : decide (2 < k) = false := by simp; omega
      have hs' : s < 0 ∨ 1000 < s := by
        rcases (show k = 1 ∨ k = 2 by omega) with rfl | rfl <;> simp at hb <;> omega
      clear hb
      rcases hs' with h3 | h3
      · go_enter Tryz.func72, Tryz.ntmps72
        go_wp2_with (go_at_call 56; refine (Named01_any c c64 _).mono ?_; rw [hnn]; rintro e w' ⟨rfl, rfl⟩)
        refine bodyPost_ret (v := .tuple #[.agg #[.slice A n cap], .int .i64 0, .int .i64 2]) (by simp [results, Tryz.results72, go_sem]) rfl (Ret.mk ⟨.agg #[.slice A n cap], ?_, ?_, ?_⟩)
        · simp [newN, newE, HB.out]
        · repeat (with_reducible first | exact Chg.refl _ _ | refine Chg.drew ?_ | refine Chg.setCell ?_ (.inr (by simp)) _ | refine Chg.alloc ?_ _)
        · simp only [newL, HB.out]
          refine (HV.out.keep (F := No) ?_ (fun _ _ f => f)).more (fun b _ h => .inl h)
          repeat (with_reducible first | exact Chg.refl _ _ | refine Chg.drew ?_ | refine Chg.setCell ?_ (.inr (by simp)) _ | refine Chg.alloc ?_ _)
      · have e3 : decide (s < 0) = false := by simp; omega
        go_enter Tryz.func72, Tryz.ntmps72
        go_wp2_with (go_at_call 56; refine (Named01_any c c64 _).mono ?_; rw [hnn]; rintro e w' ⟨rfl, rfl⟩)
        refine bodyPost_ret (v := .tuple #[.agg #[.slice A n cap], .int .i64 0, .int .i64 2]) (by simp [results, Tryz.results72, go_sem]) rfl (Ret.mk ⟨.agg #[.slice A n cap], ?_, ?_, ?_⟩)
        · simp [newN, newE, HB.out]
        · repeat (with_reducible first | exact Chg.refl _ _ | refine Chg.drew ?_ | refine Chg.setCell ?_ (.inr (by simp)) _ | refine Chg.alloc ?_ _)
        · simp only [newL, HB.out]
          refine (HV.out.keep (F := No) ?_ (fun _ _ f => f)).more (fun b _ h => .inl h)
          repeat (with_reducible first | exact Chg.refl _ _ | refine Chg.drew ?_ | refine Chg.setCell ?_ (.inr (by simp)) _ | refine Chg.alloc ?_ _)

theorem Ref10New_any (v : Value) (S : Nat → Prop) (L : List O) (w : World) (hv : RefM w S v L) (hL : L.length < 1073741823) (c k s : Int) (c64 : In64 c) (hk : In64 k) (hs : In64 s) :
    Calls Tryz.prog 72 #[v, .int .i64 c, .int .i64 k, .int .i64 s] w (Ret (Ref10New w S L c k s)) := by
  cases hb : blankOk c k s
  · exact Ref10New_bad v S L w hv c k s c64 hk hs hb
  · simp [blankOk] at hb
    obtain ⟨⟨⟨hc, hk⟩, h0⟩, h1⟩ := hb
    obtain ⟨N, rfl⟩ := Int.eq_ofNat_of_zero_le h0
    rcases hk with rfl | rfl
    · exact Ref10New_words v S L w hv hL c N hc (by omega)
    · exact Ref10New_bytes v S L w hv hL c N hc (by omega)

end Go.Proofs.YtifcigjminbllaaGreatDoor
