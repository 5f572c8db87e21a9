/- A flat memory's new objects: Blank, New, flat.New, Made; Oop. · A flat memory: one without objects is made; an object comes to it. -/
import Derived.Test.YtncoanmgifgcbaaDoorFlatC
namespace Go.Proofs.YtncoanmgifgcbaaDoor
set_option linter.unusedVariables false
set_option linter.unusedSimpArgs false
open Go.RowKit
open Go.ChangeMaps (setBlock)

def blankOk (class_ kind size : Int) : Bool := namedOk class_ && (kind == 1 || kind == 2) && decide (0 ≤ size) && decide (size ≤ 1000)
def newO (class_ kind size : Int) : O := ⟨class_, kind, if kind = 1 then List.replicate size.toNat 2 else [], if kind = 1 then [] else List.replicate size.toNat 0⟩

/-- a new object, and a truth beside it -/
def Blanked (w : World) (o : O) (v : Value) (w' : World) : Prop :=
  ∃ wv bv, v = .tuple #[.agg (cells2 o wv bv), .bool true] ∧ Chg No w w' ∧ w'.ownsRow w.heap.size 3 1 wv o.W.length (o.W.map (.int .i64)) ∧ w'.ownsRow w.heap.size 5 1 bv o.B.length (o.B.map (.int .u8))
def NoBlank (w : World) (v : Value) (w' : World) : Prop := v = .tuple #[.agg #[.int .i64 0, .int .i64 0, .slice none 0 0, .slice none 0 0], .bool false] ∧ Chg No w w'

set_option maxRecDepth 100000 in
set_option maxHeartbeats 400000 in
theorem Blank_words (c : Int) (N : Nat) (hc : namedOk c = true) (hN : N ≤ 1000) (w : World) :
    Calls Tryd.prog 159 #[.int .i64 c, .int .i64 1, .int .i64 N] w (Ret (Blanked w (newO c 1 N))) := by
  have h64 := named64 hc
  have hO : newO c 1 N = ⟨c, 1, List.replicate N 2, []⟩ := by simp [newO]
  rw [hO]
  obtain ⟨b1, b2⟩ := h64
  have hN' : (N : Int) ≤ 1000 := by omega
  go_enter Tryd.func159, Tryd.ntmps159
  go_wp2_with (go_at_call 29; refine (Named_any _ (by omega) (by omega) _).mono ?_; rintro e w' ⟨rfl, rfl⟩)
  refine (Repeat_any (w.heap.size + 1 + 1) 2 N hN _ (by simp [go_sem])).mono ?_
  rintro e w1 ⟨rfl, hc1, hr1⟩
  have ha : Row w1 w.heap.size 41 #[.int .i64 0, .int .i64 0, .slice none 0 0, .slice none 0 0] := Row.keep (((Row.new w _ _).alloc _).alloc _) hc1 (fun f => f)
  have hb : Row w1 (w.heap.size + 1) 41 #[.int .i64 c, .int .i64 1, .slice none 0 0, .slice none 0 0] := Row.keep (Row.alloc (by simpa using Row.new (w.alloc _) _ _) _) hc1 (fun f => f)
  obtain ⟨a0, a1, a2, a3, af⟩ := ha.four
  obtain ⟨d0, d1, d2, d3, df⟩ := hb.four
  have hsz : w.heap.size + 3 ≤ w1.heap.size := by have := hc1.size; simpa using this
  have hd : Chg No w w1 := Chg.trans ((((Chg.refl _ _).alloc _).alloc _).alloc _) hc1
  simp only [World.size_alloc] at hr1
  have HR := Lib.hid hr1
  have HD := Lib.hid hd
  clear ha hb hc1 hd hr1
  go_wp2_with fail
  refine bodyPost_ret (v := .tuple #[.agg (cells2 ⟨c, 1, List.replicate N 2, []⟩ _ _), .bool true]) (by simp [results, Tryd.results159, go_sem, a0, a1, a2, a3]; rfl) rfl (Ret.mk ⟨_, _, rfl, ?_, ?_, ?_⟩)
  · repeat (with_reducible first | exact HD.out | refine Chg.drew ?_ | refine Chg.setCell ?_ (.inr (by simp)) _)
  · refine own_keep (F := fun b => b = w.heap.size ∨ b = w.heap.size + 1) (w := w1) ?_ ?_ (fun b hb => by cases hb; simp only [World.size_alloc]; omega)
    · have h := own_of_row (base := w.heap.size) (n := N) (cs := List.replicate N (Value.int .i64 2)) HR.out (by simp) (by omega) (by unfold maxLen; omega)
      simpa using h
    · repeat (with_reducible first | exact Chg.refl _ _ | refine Chg.drew ?_ | refine Chg.setCell ?_ (.inl (by simp)) _)
  · exact World.ownsRow_nil _ _ _ _

set_option maxRecDepth 100000 in
set_option maxHeartbeats 400000 in
theorem Blank_bytes (c : Int) (N : Nat) (hc : namedOk c = true) (hN : N ≤ 1000) (w : World) :
    Calls Tryd.prog 159 #[.int .i64 c, .int .i64 2, .int .i64 N] w (Ret (Blanked w (newO c 2 N))) := by
  have h64 := named64 hc
  have hO : newO c 2 N = ⟨c, 2, [], List.replicate N 0⟩ := by simp [newO]
  rw [hO]
  obtain ⟨b1, b2⟩ := h64
  have hN' : (N : Int) ≤ 1000 := by omega
  obtain ⟨i0, hi, hz0, hz1, hz2⟩ := info_parts info_u8
  have Hz := Lib.hid (And.intro hz0 (And.intro hz1 hz2))
  clear hz0 hz1 hz2
  go_enter Tryd.func159, Tryd.ntmps159
  go_wp2_with (first
    | (go_at_call 29; refine (Named_any _ (by omega) (by omega) _).mono ?_; rintro e w' ⟨rfl, rfl⟩)
    | (at_make
       refine wpList_make_full _ rfl _ _ _ rfl (w.heap.size + 1 + 1) 5 i0 (.int .u8 0) 1 Tryd.underlying39 hi Hz.out.1 Hz.out.2.1 _ _ _ _ N rfl rfl (by omega) (by omega) (by rw [Hz.out.2.2]; omega) (by unfold maxLen; omega) (by simp) ?_
       intro w1 hown hgrow
       have hc1 : Chg No _ w1 := (Chg.refl _ _).grown hgrow (by simp)
       have ha : Row w1 w.heap.size 41 #[.int .i64 0, .int .i64 0, .slice none 0 0, .slice none 0 0] := Row.keep ((Row.new w _ _).alloc _) hc1 (fun f => f)
       have hb : Row w1 (w.heap.size + 1) 41 #[.int .i64 c, .int .i64 2, .slice none 0 0, .slice none 0 0] := Row.keep (by simpa using Row.new (w.alloc _) _ _) hc1 (fun f => f)
       obtain ⟨a0, a1, a2, a3, af⟩ := ha.four
       obtain ⟨d0, d1, d2, d3, df⟩ := hb.four
       have hsz : w.heap.size + 2 ≤ w1.heap.size := by have := hc1.size; simpa using this
       have hd : Chg No w w1 := Chg.trans (((Chg.refl _ _).alloc _).alloc _) hc1
       have HR := Lib.hid hown
       have HD := Lib.hid hd
       clear ha hb hc1 hd hown hgrow))
  refine bodyPost_ret (v := .tuple #[.agg (cells2 ⟨c, 2, [], List.replicate N 0⟩ _ _), .bool true]) (by simp [results, Tryd.results159, go_sem, a0, a1, a2, a3]; rfl) rfl (Ret.mk ⟨_, _, rfl, ?_, ?_, ?_⟩)
  · repeat (with_reducible first | exact HD.out | refine Chg.drew ?_ | refine Chg.setCell ?_ (.inr (by simp)) _)
  · exact World.ownsRow_nil _ _ _ _
  · refine own_keep (F := fun b => b = w.heap.size ∨ b = w.heap.size + 1) (w := w1) (own_base ?_ (Nat.le_add_right _ 2)) ?_ (fun b hb => by cases hb; simp only [World.size_alloc]; omega)
    · have h := HR.out
      simpa [Value.cells, toList_madeCells_one] using h
    · repeat (with_reducible first | exact Chg.refl _ _ | refine Chg.drew ?_ | refine Chg.setCell ?_ (.inl (by simp)) _)

set_option maxRecDepth 100000 in
set_option maxHeartbeats 1000000 in
theorem Blank_bad (c k s : Int) (hc : In64 c) (hk : In64 k) (hs : In64 s) (hbad : blankOk c k s = false) (w : World) :
    Calls Tryd.prog 159 #[.int .i64 c, .int .i64 k, .int .i64 s] w (Ret (NoBlank w)) := by
  obtain ⟨b1, b2⟩ := hc
  obtain ⟨b3, b4⟩ := hk
  obtain ⟨b5, b6⟩ := hs
  have HN := fun w => Named_any c b1 b2 w
  cases hn : namedOk c
  · clear hbad
    simp only [hn] at HN
    go_enter Tryd.func159, Tryd.ntmps159
    go_wp2_with (go_at_call 29; refine (HN _).mono ?_; rintro e w' ⟨rfl, rfl⟩)
    refine bodyPost_ret (v := .tuple #[.agg #[.int .i64 0, .int .i64 0, .slice none 0 0, .slice none 0 0], .bool false]) (by simp [results, Tryd.results159, go_sem]) rfl (Ret.mk ⟨rfl, ?_⟩)
    repeat (with_reducible first | exact Chg.refl _ _ | refine Chg.drew ?_ | refine Chg.setCell ?_ (.inr (by simp)) _ | refine Chg.alloc ?_ _)
  · simp only [blankOk, hn, Bool.true_and] at hbad
    simp only [hn] at HN
    by_cases h12 : k = 1 ∨ k = 2
    · have hs' : s < 0 ∨ 1000 < s := by
        rcases h12 with rfl | rfl <;> simp at hbad <;> omega
      clear hbad
      rcases hs' with h0 | h0
      · rcases h12 with rfl | rfl
        · go_enter Tryd.func159, Tryd.ntmps159
          go_wp2_with (go_at_call 29; refine (HN _).mono ?_; rintro e w' ⟨rfl, rfl⟩)
          refine bodyPost_ret (v := .tuple #[.agg #[.int .i64 0, .int .i64 0, .slice none 0 0, .slice none 0 0], .bool false]) (by simp [results, Tryd.results159, go_sem]) rfl (Ret.mk ⟨rfl, ?_⟩)
          repeat (with_reducible first | exact Chg.refl _ _ | refine Chg.drew ?_ | refine Chg.setCell ?_ (.inr (by simp)) _ | refine Chg.alloc ?_ _)
        · go_enter Tryd.func159, Tryd.ntmps159
          go_wp2_with (go_at_call 29; refine (HN _).mono ?_; rintro e w' ⟨rfl, rfl⟩)
          refine bodyPost_ret (v := .tuple #[.agg #[.int .i64 0, .int .i64 0, .slice none 0 0, .slice none 0 0], .bool false]) (by simp [results, Tryd.results159, go_sem]) rfl (Ret.mk ⟨rfl, ?_⟩)
          repeat (with_reducible first | exact Chg.refl _ _ | refine Chg.drew ?_ | refine Chg.setCell ?_ (.inr (by simp)) _ | refine Chg.alloc ?_ _)
      · have h1 : decide (s < 0) = false := by simp; omega
        rcases h12 with rfl | rfl
        · go_enter Tryd.func159, Tryd.ntmps159
          go_wp2_with (go_at_call 29; refine (HN _).mono ?_; rintro e w' ⟨rfl, rfl⟩)
          refine bodyPost_ret (v := .tuple #[.agg #[.int .i64 0, .int .i64 0, .slice none 0 0, .slice none 0 0], .bool false]) (by simp [results, Tryd.results159, go_sem]) rfl (Ret.mk ⟨rfl, ?_⟩)
          repeat (with_reducible first | exact Chg.refl _ _ | refine Chg.drew ?_ | refine Chg.setCell ?_ (.inr (by simp)) _ | refine Chg.alloc ?_ _)
        · go_enter Tryd.func159, Tryd.ntmps159
          go_wp2_with (go_at_call 29; refine (HN _).mono ?_; rintro e w' ⟨rfl, rfl⟩)
          refine bodyPost_ret (v := .tuple #[.agg #[.int .i64 0, .int .i64 0, .slice none 0 0, .slice none 0 0], .bool false]) (by simp [results, Tryd.results159, go_sem]) rfl (Ret.mk ⟨rfl, ?_⟩)
          repeat (with_reducible first | exact Chg.refl _ _ | refine Chg.drew ?_ | refine Chg.setCell ?_ (.inr (by simp)) _ | refine Chg.alloc ?_ _)
    · have k1 : (k != 1) = true := by simp; omega
      have k2 : (k != 2) = true := by simp; omega
      clear hbad
      go_enter Tryd.func159, Tryd.ntmps159
      go_wp2_with (go_at_call 29; refine (HN _).mono ?_; rintro e w' ⟨rfl, rfl⟩)
      refine bodyPost_ret (v := .tuple #[.agg #[.int .i64 0, .int .i64 0, .slice none 0 0, .slice none 0 0], .bool false]) (by simp [results, Tryd.results159, go_sem]) rfl (Ret.mk ⟨rfl, ?_⟩)
      repeat (with_reducible first | exact Chg.refl _ _ | refine Chg.drew ?_ | refine Chg.setCell ?_ (.inr (by simp)) _ | refine Chg.alloc ?_ _)

theorem Oop_any (k : Int) (h : In64 k) (w : World) :
    Calls Tryd.prog 32 #[.int .i64 k] w fun e w' => e = .returned (.int .i64 (if 1 ≤ k ∧ k ≤ 1073741823 then 2 * k else 0)) ∧ w = w' := by
  obtain ⟨b1, b2⟩ := h
  by_cases h1 : 1 ≤ k ∧ k ≤ 1073741823
  · rw [if_pos h1]
    have e1 : decide (k < 1) = false := by simp; omega
    have e2 : decide (1073741824 ≤ k) = false := by simp; omega
    have e3 : IntKind.i64.wrap (2 * k) = 2 * k := IntWalk.i64_in _ (by omega)
    go_enter Tryd.func32, Tryd.ntmps32
    go_wp2
    go_ret
    exact ⟨by go_num, rfl⟩
  · rw [if_neg h1]
    by_cases h2 : k < 1
    · go_enter Tryd.func32, Tryd.ntmps32
      go_wp2
      go_ret
      exact ⟨rfl, rfl⟩
    · have h3 : 1073741824 ≤ k := by omega
      go_enter Tryd.func32, Tryd.ntmps32
      go_wp2
      go_ret
      exact ⟨rfl, rfl⟩

set_option maxHeartbeats 400000 in
theorem Made_any {w : World} {m : Nat} {F : Nat → Prop} {L : List O} {q : Nat} {es : List (Int × Value)} {ad : Nat → Nat} {wv bv : Nat → Value} (h : FlatI w m F L q es ad wv bv) :
    Calls Tryd.prog 12 #[.pointer (some ⟨m, 0, none⟩)] w fun e w' => e = .returned (.int .i64 L.length) ∧ w = w' := by
  have c1 : w.cell? ⟨m, 1, none⟩ = some (.int .i64 L.length) := h.row.cell 1
  clear h
  go_enter Tryd.func12, Tryd.ntmps12
  go_wp2
  go_ret
  exact ⟨rfl, rfl⟩

theorem Oop_ok (k : Int) (h1 : 1 ≤ k) (h2 : k ≤ 1073741823) (w : World) :
    Calls Tryd.prog 32 #[.int .i64 k] w fun e w' => e = .returned (.int .i64 (2 * k)) ∧ w = w' := by
  have h := Oop_any k (by unfold In64; omega) w
  rwa [if_pos ⟨h1, h2⟩] at h
theorem own_ge {w : World} {base sz n : Nat} {e : TypeId} {v : Value} {xs : List Value} (h : w.ownsRow base e sz v n xs) {b : Nat} (hb : v.ownBlock = some b) : base ≤ b := by
  rcases h.2 with ⟨rfl, _⟩ | ⟨g, cap, cur, rfl, h1, _⟩
  · cases hb
  · cases hb; exact h1

/-- a new memory that stands for L -/
def MadeM (w : World) (L : List O) (v : Value) (w' : World) : Prop := ∃ m F, v = .pointer (some ⟨m, 0, none⟩) ∧ Flat w' m F L ∧ Chg No w w' ∧ (∀ b, F b → w.heap.size ≤ b)

set_option maxRecDepth 100000 in
set_option maxHeartbeats 400000 in
theorem flatNew_any (w : World) : Calls Tryd.prog 9 #[] w (Ret (MadeM w [])) := by
  have hmk := fun w => run_makeMap (P := Tryd.prog) 62 w
  go_enter Tryd.func9, Tryd.ntmps9
  go_wp2_with fail
  go_ret
  have h1 : IMap (w.alloc (.map #[] 0)) w.heap.size [] := IMap.new w
  refine ⟨_, rfl, w.heap.size + 1, fun b => b = w.heap.size ∨ b = w.heap.size + 1, by simp, ⟨w.heap.size, [], fun _ => 0, fun _ => .int .i64 0, fun _ => .int .i64 0, ?_⟩, ((Chg.refl _ _).alloc _).alloc _, by rintro b (rfl | rfl) <;> omega⟩
  have hz : ∀ i, (ob [] i).kind = 0 := fun i => by simp [ob, O.zero]
  exact ⟨by simpa using Row.new (w.alloc (.map #[] 0)) _ _, h1.keep ((Chg.refl No _).alloc _) (fun f => f), fun k => by rw [if_neg (fun e => e.2 (hz _))]; rfl, fun i hi => absurd (hz i) hi, fun i hi => absurd (hz i) hi, fun i _ => by simp [ob],
    fun i hi => absurd (hz i) hi, fun i _ hi => absurd (hz i) hi, .inr rfl, .inl rfl, by rintro b (rfl | rfl) <;> simp <;> omega, by simp⟩

section
variable {w w' : World} {m : Nat} {F : Nat → Prop} {L : List O} {q : Nat} {es : List (Int × Value)} {ad : Nat → Nat} {wv bv : Nat → Value}

theorem ob_app (L : List O) (o : O) (i : Nat) : ob (L ++ [o]) i = if i = L.length then o else ob L i := by
  unfold ob
  by_cases h : i = L.length
  · subst h; simp
  · rw [if_neg h]
    rcases Nat.lt_or_ge i L.length with h1 | h1
    · rw [List.getElem?_append_left h1]
    · rw [List.getElem?_eq_none (by simp; omega), List.getElem?_eq_none h1]

/-- an object more -/
theorem FlatI.added (h : FlatI w m F L q es ad wv bv) (c : Chg (fun b => b = m ∨ b = q) w w') {a : Nat} {x y : Value} {o : O}
    (hrow : Row w' m 64 #[.map (some q), .int .i64 ((L.length : Int) + 1)]) (hmap : IMap w' q (mset ((L.length : Int) + 1) (.pointer (some ⟨a, 0, none⟩)) es))
    (hown : OwnO w' a o x y) (ha : w.heap.size ≤ a) (hx : ∀ b, x.ownBlock = some b → w.heap.size ≤ b) (hy : ∀ b, y.ownBlock = some b → w.heap.size ≤ b) (hok : o.ok) (hn : L.length + 1 < 1073741823) :
    Flat w' m (fun b => F b ∨ w.heap.size ≤ b ∧ b < w'.heap.size) (L ++ [o]) := by
  have hok0 : o.kind ≠ 0 := by rcases hok.2.1 with h | h <;> rw [h.1] <;> decide
  have hxl : ∀ b, x.ownBlock = some b → b < w'.heap.size := fun b hb => by obtain ⟨cs, hr⟩ := own_block hown.ws hb; exact hr.lt
  have hyl : ∀ b, y.ownBlock = some b → b < w'.heap.size := fun b hb => by obtain ⟨cs, hr⟩ := own_block hown.bs hb; exact hr.lt
  have hz : (ob L L.length).kind = 0 := by rw [ob, List.getElem?_eq_none (Nat.le_refl _)]; rfl
  have hlt : ∀ i, (ob L i).kind ≠ 0 → i ≠ L.length := fun i hi e => hi (e ▸ hz)
  refine ⟨q, _, fun i => if i = L.length then a else ad i, fun i => if i = L.length then x else wv i, fun i => if i = L.length then y else bv i, ?_, hmap, ?_, ?_, ?_, ?_, ?_, ?_, .inl h.mF, .inl h.qF, ?_, by simpa using hn⟩
  · simpa using hrow
  · intro k
    rw [mget_mset, h.get k, ob_app]
    simp only [beq_iff_eq]
    by_cases hk : k = (L.length : Int) + 1
    · subst hk
      rw [if_pos rfl, if_pos ⟨by omega, by rw [if_pos (by omega)]; exact hok0⟩, if_pos (by omega)]
    · rw [if_neg hk]
      by_cases h1 : 1 ≤ k
      · simp only [if_neg (show ¬ (k - 1).toNat = L.length by omega)]
      · rw [if_neg (fun e => h1 e.1), if_neg (fun e => h1 e.1)]
  · intro i hi
    rw [ob_app] at hi ⊢
    split
    · exact hown
    · rename_i e
      rw [if_neg e] at hi
      have ho := h.own i hi
      refine ho.keep c ?_ ?_ ?_
      · rintro (h1 | h1)
        · exact h.row.ne ho.row (by decide) h1.symm
        · exact h.map.ne_row ho.row h1.symm
      · intro b hb
        obtain ⟨cs, hr⟩ := own_block ho.ws hb
        rintro (h1 | h1)
        · exact h.row.ne hr (by decide) h1.symm
        · exact h.map.ne_row hr h1.symm
      · intro b hb
        obtain ⟨cs, hr⟩ := own_block ho.bs hb
        rintro (h1 | h1)
        · exact h.row.ne hr (by decide) h1.symm
        · exact h.map.ne_row hr h1.symm
  · intro i hi
    rw [ob_app] at hi ⊢
    split
    · exact hok
    · rename_i e; rw [if_neg e] at hi; exact h.ok i hi
  · intro i hi
    rw [ob_app] at hi ⊢
    split
    · rename_i e; rw [if_pos e] at hi; exact absurd hi hok0
    · rename_i e; rw [if_neg e] at hi; exact h.gone i hi
  · intro i hi
    rw [ob_app] at hi
    by_cases e : i = L.length
    · simp only [if_pos e]
      exact ⟨.inr ⟨ha, hown.row.lt⟩, fun b hb => .inr ⟨hx b hb, hxl b hb⟩, fun b hb => .inr ⟨hy b hb, hyl b hb⟩⟩
    · rw [if_neg e] at hi
      simp only [if_neg e]
      have hf := h.inF i hi
      exact ⟨.inl hf.1, fun b hb => .inl (hf.2.1 b hb), fun b hb => .inl (hf.2.2 b hb)⟩
  · intro i j hi hj hij
    rw [ob_app] at hi hj
    have hold : ∀ b, F b → b < w.heap.size := fun b hb => h.lt b hb
    by_cases e : i = L.length
    · have e' : j ≠ L.length := fun e'' => hij (e.trans e''.symm)
      rw [if_neg e'] at hj
      simp only [if_pos e, if_neg e']
      have hf := h.inF j hj
      refine ⟨?_, fun b hb hb' => ?_, fun b hb hb' => ?_⟩
      · have := hold _ hf.1; omega
      · have := hold _ (hf.2.1 b hb'); have := hx b hb; omega
      · have := hold _ (hf.2.2 b hb'); have := hy b hb; omega
    · rw [if_neg e] at hi
      have hf := h.inF i hi
      by_cases e' : j = L.length
      · simp only [if_neg e, if_pos e']
        refine ⟨?_, fun b hb hb' => ?_, fun b hb hb' => ?_⟩
        · have := hold _ hf.1; omega
        · have := hold _ (hf.2.1 b hb); have := hx b hb'; omega
        · have := hold _ (hf.2.2 b hb); have := hy b hb'; omega
      · rw [if_neg e'] at hj
        simp only [if_neg e, if_neg e']
        exact h.apart i j hi hj hij
  · rintro b (hb | hb)
    · exact Nat.lt_of_lt_of_le (h.lt b hb) c.size
    · exact hb.2
end

/-- an object is added to the memory -/
def NewM (w : World) (m : Nat) (F : Nat → Prop) (L : List O) (o : O) (v : Value) (w' : World) : Prop :=
  v = .tuple #[.int .i64 (2 * ((L.length : Int) + 1)), .int .i64 0] ∧ ∃ F', Flat w' m F' (L ++ [o]) ∧ Chg F w w' ∧ (∀ b, F' b → F b ∨ w.heap.size ≤ b) ∧ (∀ b, F b → F' b)

section
variable {w w' : World} {m : Nat} {F : Nat → Prop} {L : List O} {q : Nat} {es : List (Int × Value)} {ad : Nat → Nat} {wv bv : Nat → Value}

theorem newO_ok {c k s : Int} (h : blankOk c k s = true) : (newO c k s).ok := by
  simp [blankOk] at h
  obtain ⟨⟨⟨hc, hk⟩, h0⟩, h1⟩ := h
  rcases hk with rfl | rfl
  · refine ⟨hc, .inl ⟨rfl, rfl⟩, ?_, by simp [newO], ?_, by simp [newO]⟩
    · simp [newO]; omega
    · intro x hx
      simp [newO] at hx
      rw [hx.2]; decide
  · refine ⟨hc, .inr ⟨rfl, rfl⟩, by simp [newO], ?_, by simp [newO], ?_⟩
    · simp [newO]; omega
    · intro x hx
      simp [newO] at hx
      rw [hx.2]; decide

theorem Blank_any (c k s : Int) (h : blankOk c k s = true) (w : World) : Calls Tryd.prog 159 #[.int .i64 c, .int .i64 k, .int .i64 s] w (Ret (Blanked w (newO c k s))) := by
  simp [blankOk] at h
  obtain ⟨⟨⟨hc, hk⟩, h0⟩, h1⟩ := h
  obtain ⟨N, rfl⟩ := Int.eq_ofNat_of_zero_le h0
  rcases hk with rfl | rfl
  · exact Blank_words c N hc (by omega) w
  · exact Blank_bytes c N hc (by omega) w

set_option maxRecDepth 100000 in
set_option maxHeartbeats 1000000 in
theorem New_bad (h : FlatI w m F L q es ad wv bv) (c k s : Int) (hc : In64 c) (hk : In64 k) (hs : In64 s) (hb : blankOk c k s = false) :
    Calls Tryd.prog 154 #[.pointer (some ⟨m, 0, none⟩), .int .i64 c, .int .i64 k, .int .i64 s] w (Ret fun v w' => v = .tuple #[.int .i64 0, .int .i64 2] ∧ Chg No w w') := by
  clear h
  go_enter Tryd.func154, Tryd.ntmps154
  go_wp2_with (go_at_call 159; refine (Blank_bad c k s hc hk hs hb _).mono ?_; rintro e w1 ⟨v, rfl, rfl, hd⟩)
  go_ret2
  refine ⟨_, rfl, rfl, hd.alloc _⟩

set_option maxRecDepth 100000 in
set_option maxHeartbeats 1000000 in
theorem New_ok (h : FlatI w m F L q es ad wv bv) (c k s : Int) (hb : blankOk c k s = true) (hn : L.length + 1 < 1073741823) :
    Calls Tryd.prog 154 #[.pointer (some ⟨m, 0, none⟩), .int .i64 c, .int .i64 k, .int .i64 s] w (Ret (NewM w m F L (newO c k s))) := by
  have hok := newO_ok hb
  have hwr : IntKind.i64.wrap ((L.length : Int) + 1) = (L.length : Int) + 1 := IntWalk.i64_in _ (by omega)
  have H := Lib.hid h
  clear h
  go_enter Tryd.func154, Tryd.ntmps154
  go_wp2_with (first
    | (go_at_call 159
       refine (Blank_any c k s hb _).mono ?_
       rintro e w1 ⟨v, rfl, x, y, rfl, hd, hx, hy⟩
       obtain ⟨A, ca, rfl⟩ := own_form hx
       obtain ⟨B, cb, rfl⟩ := own_form hy
       have h1 := H.out.keep hd (fun _ _ f => f)
       have c0 : w1.cell? ⟨m, 0, none⟩ = some (.map (some q)) := h1.row.cell 0
       have c1 : w1.cell? ⟨m, 1, none⟩ = some (.int .i64 L.length) := h1.row.cell 1
       have f1 : w1.frozen? ⟨m, 1, none⟩ = false := h1.row.frozen 1
       have hml := h1.row.lt
       have H1 := Lib.hid h1
       have HX := Lib.hid (And.intro hd (And.intro hx hy))
       clear h1 hd hx hy
       simp only [cells2])
    | fail)
  generalize hW : World.alloc (World.setCell w1 _ _) _ = W2
  have rowm : Row W2 m 64 #[.map (some q), .int .i64 ((L.length : Int) + 1)] := by
    rw [← hW]
    simpa using (H1.out.row.set 1 (.int .i64 ((L.length : Int) + 1))).alloc _
  have rowo : Row W2 w1.heap.size 41 (cells2 (newO c k s) (.slice A (newO c k s).W.length ca) (.slice B (newO c k s).B.length cb)) := by
    rw [← hW]
    simpa [cells2] using Row.new (w1.setCell ⟨m, 1, none⟩ (.int .i64 ((L.length : Int) + 1))) _ _
  have chg : Chg (fun b => b = m) w1 W2 := by
    rw [← hW]
    exact Chg.alloc (Chg.setCell (F := fun b => b = m) (Chg.refl _ _) (.inl rfl) _) _
  clear hW
  have e0 : W2.cell? ⟨m, 0, none⟩ = some (.map (some q)) := rowm.cell 0
  have e1 : W2.cell? ⟨m, 1, none⟩ = some (.int .i64 ((L.length : Int) + 1)) := rowm.cell 1
  have hmq := H1.out.ne_mq
  obtain ⟨o, ho⟩ := H1.out.map.updates (P := Tryd.prog) elem_map Tryd.underlying3 ((L.length : Int) + 1) (.pointer (some ⟨w1.heap.size, 0, none⟩))
  obtain ⟨hrun, hmap⟩ := ho W2.drew (chg.block q H1.out.map.lt (fun e => hmq e.symm))
  have chg2 : Chg (fun b => b = m ∨ b = q) w1 (setBlock W2.drew q o) := Chg.setBlock (chg.mono fun _ _ h => .inl h).drew (.inl (.inr rfl)) _
  have chg3 : Chg (fun b => b = q) W2 (setBlock W2.drew q o) := Chg.setBlock (F := fun b => b = q) (Chg.refl _ _).drew (.inl rfl) _
  have rowm' := rowm.keep chg3 hmq
  have rowo' := rowo.keep chg3 (fun e => Nat.ne_of_lt H1.out.map.lt e.symm)
  have g1 : (setBlock W2.drew q o).cell? ⟨m, 1, none⟩ = some (.int .i64 ((L.length : Int) + 1)) := rowm'.cell 1
  clear ho c0 c1 f1
  generalize setBlock W2.drew q o = W3 at *
  have HM := Lib.hid (And.intro hmap (And.intro chg2 (And.intro chg3 (And.intro rowm' rowo'))))
  have HW := Lib.hid (And.intro rowm (And.intro rowo chg))
  clear hmap chg2 chg3 rowm' rowo' rowm rowo chg
  go_region
  go_wp2_with (first
    | (go_at_call 32; refine (Oop_ok _ (by omega) (by omega) _).mono ?_; rintro e w' ⟨rfl, rfl⟩)
    | fail)
  go_ret2
  refine Ret.mk ⟨rfl, ?_⟩
  obtain ⟨hd, hx, hy⟩ := HX.out
  obtain ⟨hmap, chg2, _, rowm', rowo'⟩ := HM.out
  have hml0 := H.out.row.lt
  have hql0 := H.out.map.lt
  have c : Chg (fun b => b = m ∨ b = q) w W3 := Chg.trans hd.no chg2
  refine ⟨_, H.out.added c rowm' hmap ⟨rowo', own_keep (own_base hx (Nat.zero_le _)) chg2 ?_, own_keep (own_base hy (Nat.zero_le _)) chg2 ?_⟩ hd.size (fun b hb => own_ge hx hb) (fun b hb => own_ge hy hb) hok hn, c.mono ?_, ?_, fun b hb => .inl hb⟩
  · intro b hb
    have := own_ge hx hb
    omega
  · intro b hb
    have := own_ge hy hb
    omega
  · rintro b _ (rfl | rfl)
    · exact H.out.mF
    · exact H.out.qF
  · rintro b (hb | hb)
    · exact .inl hb
    · exact .inr hb.1
end

end Go.Proofs.YtncoanmgifgcbaaDoor
