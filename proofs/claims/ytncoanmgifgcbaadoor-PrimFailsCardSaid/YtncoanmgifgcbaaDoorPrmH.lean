/- Primitives over a flat memory: prim.Do, whatever it is asked: what fails changes nothing. -/
import Derived.Test.YtncoanmgifgcbaaDoorPrmG
import Derived.Test.YtncoanmgifgcbaaDoorLgIJ
import Derived.BigQuiet
import Derived.Deep.QuietTactic
namespace Go.Proofs.YtncoanmgifgcbaaDoor
set_option linter.unusedVariables false
set_option linter.unusedSimpArgs false
open Go.RowKit

/-- none is gone -/
def Full (L : List O) : Prop := ∀ i, i < L.length → (ob L i).kind ≠ 0
/-- what a primitive may do to the objects: where it fails nothing; else no object is lost -/
def Went (L : List O) (E : Int) (L' : List O) : Prop := E ≠ 3 ∧ (E ≠ 0 → L' = L) ∧ (Full L → L.length ≤ L'.length ∧ Full L')
theorem Went.same {L : List O} {E : Int} (h : E ≠ 3) : Went L E L := ⟨h, fun _ => rfl, fun h => ⟨Nat.le_refl _, h⟩⟩
theorem Went.new {L : List O} {x : O} (h : x.kind ≠ 0) : Went L 0 (L ++ [x]) :=
  ⟨by decide, fun h => absurd rfl h, fun hf => ⟨by simp, fun i hi => by
    rw [ob_app]
    split
    · exact h
    · rename_i hne
      simp at hi
      exact hf i (by omega)⟩⟩
theorem Went.set {L : List O} {j : Nat} {x : O} (hj : j < L.length) (h : x.kind ≠ 0) : Went L 0 (L.set j x) :=
  ⟨by decide, fun h => absurd rfl h, fun hf => ⟨by simp, fun i hi => by
    rw [List.length_set] at hi
    rw [ob_set hj]
    split
    · exact h
    · exact hf i hi⟩⟩
theorem placeE_3 (L : List O) (o k i : Int) : placeE L o k i ≠ 3 := by
  unfold placeE
  split
  · decide
  · split
    · split <;> decide
    · decide
theorem objE_3 (L : List O) (o : Int) : objE L o ≠ 3 := by unfold objE; split <;> decide
theorem shapeE_3 (L : List O) (c : Int) : (shapeOf L c).e ≠ 3 := by
  unfold shapeOf
  split
  · exact placeE_3 _ _ _ _
  · split <;> simp
theorem smallE_3 (x : Int) : smallE x ≠ 3 := by unfold smallE; split <;> decide
theorem behE_3 (L : List O) (o : Int) : behE L o ≠ 3 := by
  unfold behE
  split
  · exact objE_3 _ _
  · split
    · exact shapeE_3 _ _
    · split <;> decide
theorem plE_3 (L : List O) (o i : Int) : plE L o i ≠ 3 := by
  unfold plE
  split
  · exact behE_3 _ _
  · split <;> decide
theorem went_60 (L : List O) (o i : Int) : Went L (getE' L o i) L := by
  refine Went.same ?_
  unfold getE'
  split
  · exact plE_3 _ _ _
  · split
    · exact placeE_3 _ _ _ _
    · split
      · exact placeE_3 _ _ _ _
      · exact smallE_3 _
theorem went_set (L : List O) (o i v : Int) : Went L (setE L o i v) (setL L o i v) := by
  have h3 : setE L o i v ≠ 3 := by
    unfold setE
    split
    · split <;> decide
    · exact placeE_3 _ _ _ _
  unfold setL
  cases hf : fnd L o with
  | none => exact Went.same h3
  | some j =>
    obtain ⟨-, hk, hj, -⟩ := fnd_some hf
    dsimp only
    by_cases h0 : setE L o i v = 0
    · rw [if_pos h0, h0]
      exact Went.set hj hk
    · rw [if_neg h0]
      exact Went.same h3
theorem went_sbyte (L : List O) (o i v : Int) : Went L (sbyteE L o i v) (sbyteL L o i v) := by
  have h3 : sbyteE L o i v ≠ 3 := by
    unfold sbyteE
    split
    · split <;> decide
    · exact placeE_3 _ _ _ _
  unfold sbyteL
  cases hf : fnd L o with
  | none => exact Went.same h3
  | some j =>
    obtain ⟨-, hk, hj, -⟩ := fnd_some hf
    dsimp only
    by_cases h0 : sbyteE L o i v = 0
    · rw [if_pos h0, h0]
      exact Went.set hj hk
    · rw [if_neg h0]
      exact Went.same h3
theorem went_61 (L : List O) (o i v : Int) : Went L (putE' L o i v) (putL' L o i v) := by
  unfold putE' putL'
  split
  · exact Went.same (plE_3 _ _ _)
  · split
    · exact went_set _ _ _ _
    · split
      · exact Went.same (by decide)
      · exact went_sbyte _ _ _ _
theorem went_62 (L : List O) (o : Int) : Went L (if behE L o ≠ 0 then behE L o else smallE (behN L o)) L := by
  refine Went.same ?_
  split
  · exact behE_3 _ _
  · exact smallE_3 _
theorem went_ins (L : List O) (c : Int) (l : List Int) : Went L (insE L c l) (insL L c l) := by
  unfold insE insL insOk
  by_cases h0 : (shapeOf L c).e = 0
  · rw [if_neg (by simp [h0]), h0]
    by_cases hb : insBad L c l = true
    · rw [if_pos hb, if_neg (by simp [hb])]
      exact Went.same (by decide)
    · rw [if_neg hb, if_pos (by simp [hb])]
      unfold newE newL
      cases hbl : blankOk c (shapeOf L c).k ((shapeOf L c).n + l.sum) with
      | true =>
        rw [if_pos rfl, if_pos rfl]
        refine Went.new ?_
        unfold blankOk at hbl
        simp only [Bool.and_eq_true, Bool.or_eq_true, beq_iff_eq] at hbl
        show (shapeOf L c).k ≠ 0
        omega
      | false =>
        rw [if_neg (by simp), if_neg (by simp)]
        exact Went.same (by decide)
  · rw [if_pos h0, if_neg (by simp [h0])]
    exact Went.same (shapeE_3 _ _)
theorem went_72 (L : List O) (a b : Int) : Went L (becomeE L a b) (becomeL L a b) := by
  unfold becomeE becomeL
  cases ha : fnd L a with
  | none => exact Went.same (by simp)
  | some i =>
    cases hb : fnd L b with
    | none => exact Went.same (by simp)
    | some j =>
      dsimp only
      obtain ⟨-, hk, hi, -⟩ := fnd_some ha
      obtain ⟨-, hk2, hj, -⟩ := fnd_some hb
      refine ⟨by decide, fun h => absurd rfl h, fun hf => ⟨by simp [becL], fun k hkl => ?_⟩⟩
      rw [ob_bec hi hj]
      have hkl' : k < L.length := by simpa [becL] using hkl
      split
      · exact hk
      · split
        · exact hk2
        · exact hf k hkl'
theorem went_75 (L : List O) (o : Int) : Went L (if namedOk o = true then smallE (namedV o) else 4) L := by
  refine Went.same ?_
  split
  · exact smallE_3 _
  · decide
theorem went_111 (L : List O) (o : Int) : Went L (classE L o) L := by
  refine Went.same ?_
  unfold classE
  split
  · exact placeE_3 _ _ _ _
  · exact objE_3 _ _
theorem went_sum (L : List O) (n a b : Int) : Went L (sumR L n a b).2.1 (sumR L n a b).2.2 := by
  have h3 := sumR_e L n a b
  unfold sumR at h3 ⊢
  split
  · rename_i hd
    rw [if_pos hd] at h3
    split
    · exact Went.same (by simp)
    · split
      · exact Went.same (by simp)
      · split
        · exact Went.same (placeE_3 _ _ _ _)
        · split
          · exact Went.new (by simp)
          · exact Went.same (by simp)
  · exact Went.same (by simp)

section
variable {w0 w w' : World} {m : Nat} {L L' : List O} {K : (Nat → Prop) → World → Prop} {F F' : Nat → Prop}
/-- what prim.Do does, whatever it is asked -/
def Did (w0 : World) (m : Nat) (L : List O) (K : (Nat → Prop) → World → Prop) (n : Int) (q : Nat) (e : Ending) (w' : World) : Prop :=
  ∃ (V : Int) (B : Bool) (L' : List O), e = .returned (.tuple #[.int .i64 V, .bool B, .int .i64 0]) ∧ MemK w0 w' m L' K ∧ (B = false → V = 0 ∧ L' = L) ∧ (B = true → knOk n = true ∧ knV n = q) ∧ (Full L → L.length ≤ L'.length ∧ Full L')
theorem did_obj {n : Int} {q : Nat} {e : Ending} {V E : Int} (hk : knOk n = true) (hkv : knV n = q) (hw : Went L E L') (h : e = .returned (.tuple #[.int .i64 (if E = 0 then V else 0), .bool (E == 0), .int .i64 (if E = 3 then 3 else 0)]) ∧ MemK w0 w' m L' K) : Did w0 m L K n q e w' := by
  obtain ⟨rfl, g⟩ := h
  rw [if_neg hw.1]
  refine ⟨_, _, L', rfl, g, fun hB => ?_, fun _ => ⟨hk, hkv⟩, hw.2.2⟩
  have h0 : E ≠ 0 := by simpa using hB
  exact ⟨if_neg h0, hw.2.1 h0⟩
/-- what there is no primitive for, or has another number of arguments -/
theorem k_DoNone (h : MemK w0 w m L K) (ht : Tab w) (n o : Int) (A : Option Addr) (q c : Nat) (hk : ¬ (knOk n = true ∧ knV n = q)) :
    Calls Tryd.prog 20 #[.iface 27 (.pointer (some ⟨m, 0, none⟩)), .int .i64 n, .int .i64 o, .slice A q c] w fun e w' => Did w0 m L K n q e w' := by
  have HM := Lib.hid h
  obtain ⟨b, hb⟩ : ∃ b, knOk n = b := ⟨_, rfl⟩
  obtain ⟨v, hv⟩ : ∃ v, knV n = v := ⟨_, rfl⟩
  rw [hb, hv] at hk
  have HKN := Lib.hid (And.intro hv hb)
  clear h hb hv
  have key : b = false ∨ (b = true ∧ (v != (q : Int)) = true) := by
    cases b with
    | false => exact .inl rfl
    | true => exact .inr ⟨rfl, by simpa using hk⟩
  clear hk
  rcases key with rfl | ⟨rfl, t1⟩
  all_goals
    go_enter Tryd.func20, Tryd.ntmps20
    go_wp2_with (first
      | (go_at_call 23
         refine (Known_any n _ ht).mono ?_
         rw [HKN.out.1, HKN.out.2]
         rintro e' w1 ⟨rfl, hb⟩
         have H3 := Lib.hid (Chg.of_below (F := No) hb)
         clear hb)
      | fail)
    exact bodyPost_ret (v := .tuple #[.int .i64 0, .bool false, .int .i64 0]) (by simp [results, Tryd.results20, go_sem]) rfl ⟨0, false, L, rfl, HM.out.world H3.out, fun _ => ⟨rfl, rfl⟩, fun hh => by simp at hh, fun hf => ⟨Nat.le_refl _, hf⟩⟩
theorem arith_cell (k : Nat) (hk : k < 16) : ∃ a : Int, (#[.int .i64 0, .int .i64 0, .int .i64 1, .int .i64 2, .int .i64 3, .int .i64 4, .int .i64 5, .int .i64 6, .int .i64 7, .int .i64 8, .int .i64 9, .int .i64 10, .int .i64 13, .int .i64 0, .int .i64 14, .int .i64 15] : Array Value)[k]? = some (.int .i64 a) := by
  have : k = 0 ∨ k = 1 ∨ k = 2 ∨ k = 3 ∨ k = 4 ∨ k = 5 ∨ k = 6 ∨ k = 7 ∨ k = 8 ∨ k = 9 ∨ k = 10 ∨ k = 11 ∨ k = 12 ∨ k = 13 ∨ k = 14 ∨ k = 15 := by omega
  rcases this with rfl | rfl | rfl | rfl | rfl | rfl | rfl | rfl | rfl | rfl | rfl | rfl | rfl | rfl | rfl | rfl <;> exact ⟨_, rfl⟩

set_option maxRecDepth 100000 in
set_option maxHeartbeats 1000000 in
theorem k_DoArith (h : MemK w0 w m L K) (ht : Tab w) (k : Nat) (hk16 : k < 16) (o b : Int) (ho : In64 o) (hb : In64 b) (A : Option Addr) (c : Nat) (S : Nat → Prop) (hv : IntS w S (.slice A 1 c) [b]) (hk : knOk k = true) (hkv : knV k = 1) :
    Calls Tryd.prog 20 #[.iface 27 (.pointer (some ⟨m, 0, none⟩)), .int .i64 (k : Int), .int .i64 o, .slice A 1 c] w fun e w' => Did w0 m L K k 1 e w' := by
  have HM := Lib.hid h
  have HKN := Lib.hid (And.intro hkv hk)
  obtain ⟨a, ha⟩ := arith_cell k hk16
  obtain ⟨g, off, rfl, hlt, hc, -⟩ := hv.at (i := 0) (by simp)
  simp only [List.getElem?_cons_zero, Option.getD_some, Nat.add_zero] at hc
  have HA := Lib.hid (fun (v : World) (hv : Chg No w v) => ((hv.cell hlt (fun f => f)).trans hc : v.cell? ⟨g, off, none⟩ = some (.int .i64 b)))
  have HC := Lib.hid ha
  have t1 : decide ((k : Int) < 16) = true := decide_eq_true (by omega)
  have t2 : (k : Int) < 16 := by omega
  clear h hk hkv hv hc hlt ha
  go_enter Tryd.func20, Tryd.ntmps20
  go_wp2_with (first
    | (go_at_call 23
       refine (Known_any (k : Int) _ ht).mono ?_
       rw [HKN.out.1, HKN.out.2]
       rintro e' w1 ⟨rfl, hb⟩
       have c1 := Chg.of_below (F := No) hb
       obtain ⟨W2, hW2⟩ : ∃ W, w1.alloc (.cells #[.int .i64 0, .int .i64 0, .int .i64 1, .int .i64 2, .int .i64 3, .int .i64 4, .int .i64 5, .int .i64 6, .int .i64 7, .int .i64 8, .int .i64 9, .int .i64 10, .int .i64 13, .int .i64 0, .int .i64 14, .int .i64 15] 3) = W := ⟨_, rfl⟩
       have c2 : Chg No w1 W2 := by rw [← hW2]; exact (Chg.refl _ _).alloc _
       have r2 := Row.new w1 3 #[.int .i64 0, .int .i64 0, .int .i64 1, .int .i64 2, .int .i64 3, .int .i64 4, .int .i64 5, .int .i64 6, .int .i64 7, .int .i64 8, .int .i64 9, .int .i64 10, .int .i64 13, .int .i64 0, .int .i64 14, .int .i64 15]
       rw [hW2] at r2
       have e1 := (r2.cell k).trans HC.out
       have e2 := HA.out _ (c1.trans c2)
       have H2 := Lib.hid (c1.trans c2)
       have HW2 := Lib.hid hW2
       clear c1 c2 r2 hW2 hb)
    | (rw [HW2.out])
    | fail)
  go_quiet (first | (go_at_call 44; refine Calls.quiet_of (Arith_any a o b ho.1 ho.2 hb.1 hb.2 _)) | fail)
  go_wp2_with fail
  refine bodyPost_ret (v := .tuple #[.int .i64 (arV a o b), .bool (arB a o b), .int .i64 0]) (by simp [results, Tryd.results20, go_sem]) rfl ⟨_, _, L, rfl, (HM.out.world H2.out).world ((Chg.refl _ _).drewN _), fun hB => ⟨?_, rfl⟩, fun _ => ⟨HKN.out.2, HKN.out.1⟩, fun hf => ⟨Nat.le_refl _, hf⟩⟩
  unfold arV
  rw [if_neg (by simp [hB])]

/-- prim.Do, whatever it is asked -/
theorem k_DoAny (h : MemK w0 w m L K) (ht : Tab w) (n o : Int) (ho : In64 o) (A : Option Addr) (q c : Nat) (l : List Int) (S : Nat → Prop) (hS : ∀ b, S b → b < w0.heap.size) (hv : IntS w S (.slice A q c) l) (hn : L.length + 2 < 1073741823) :
    Calls Tryd.prog 20 #[.iface 27 (.pointer (some ⟨m, 0, none⟩)), .int .i64 n, .int .i64 o, .slice A q c] w fun e w' => Did w0 m L K n q e w' := by
  by_cases hk : knOk n = true ∧ knV n = q
  · obtain ⟨hk1, hk2⟩ := hk
    have hql : q = l.length := by
      obtain ⟨A', c', e, -⟩ := hv.form
      exact (Value.slice.inj e).2.1
    have h64 : ∀ x ∈ l, In64 x := hv.2
    have hkn : (0 ≤ kn n) ∧ kn n = q := by
      have h1 : 0 ≤ kn n := by unfold knOk at hk1; exact of_decide_eq_true hk1
      refine ⟨h1, ?_⟩
      unfold knV at hk2
      rw [if_pos h1] at hk2
      exact hk2
    by_cases c1 : 1 ≤ n ∧ n ≤ 12 ∨ n = 14 ∨ n = 15 ∨ n = 21 ∨ n = 22 ∨ n = 29
    · have hq1 : q = 1 := by have h1 := hkn.2; unfold kn at h1; rw [if_pos c1] at h1; omega
      subst hq1
      obtain ⟨b, rfl⟩ := List.length_eq_one_iff.1 hql.symm
      by_cases c2 : n < 16
      · obtain ⟨k, rfl⟩ : ∃ k : Nat, n = k := ⟨n.toNat, by omega⟩
        exact k_DoArith h ht k (by omega) o b ho (h64 b (by simp)) A c S hv hk1 hk2
      · refine (k_DoSum h ht n o b (by omega) ho (h64 b (by simp)) A c S hv hn).mono fun e w' hh => ?_
        have hw := went_sum L n o b
        refine did_obj (V := (sumR L n o b).1) hk1 hk2 hw ⟨?_, hh.2⟩
        rw [hh.1, if_neg hw.1]
    · have h30 : 30 ≤ n := by
        rcases hkn with ⟨h1, -⟩
        unfold kn at h1
        rw [if_neg c1] at h1
        split at h1
        · omega
        · split at h1
          · omega
          · split at h1
            · omega
            · omega
      have go : ∀ (V E : Int) (L' : List O), Went L E L' → (∀ w1, MemK w0 w1 m L K → Chg No w w1 → Calls Tryd.prog 47 #[.iface 27 (.pointer (some ⟨m, 0, none⟩)), .int .i64 n, .int .i64 o, .slice A q c] w1 fun e' w' => e' = .returned (.tuple #[.int .i64 V, .int .i64 E]) ∧ MemK w0 w' m L' K) → Calls Tryd.prog 20 #[.iface 27 (.pointer (some ⟨m, 0, none⟩)), .int .i64 n, .int .i64 o, .slice A q c] w fun e w' => Did w0 m L K n q e w' :=
        fun V E L' hw hob => (k_DoObj h ht n o h30 A q c hk1 hk2 V E hob).mono fun e w' hh => did_obj hk1 hk2 hw hh
      have kv : ∀ w1, Chg No w w1 → IntS w1 S (.slice A q c) l := fun w1 c1 => hv.keep c1 (fun _ _ f => f)
      by_cases c3 : n = 60 ∨ n = 71 ∨ n = 72 ∨ n = 73 ∨ n = 110
      · have hq1 : q = 1 := by have h1 := hkn.2; unfold kn at h1; rw [if_neg c1, if_pos c3] at h1; omega
        subst hq1
        obtain ⟨x, rfl⟩ := List.length_eq_one_iff.1 hql.symm
        have hx := h64 x (by simp)
        rcases c3 with rfl | rfl | rfl | rfl | rfl
        · exact go _ _ _ (went_60 L o x) fun w1 g c1 => k_obj60 g o x ho hx _ S (kv w1 c1)
        · exact go _ _ _ (went_ins L o _) fun w1 g c1 => k_obj71 g o ho [x] _ S (kv w1 c1) (by simp) (by omega)
        · exact go _ _ _ (went_72 L o x) fun w1 g c1 => k_obj72 g o x ho hx _ S (kv w1 c1)
        · exact go _ _ _ (Went.same (placeE_3 L o 1 (kN x - 1))) fun w1 g c1 => k_obj73 g o x ho _ S (kv w1 c1)
        · exact go _ _ _ (Went.same (by decide)) fun w1 g c1 => k_obj110 g o x ho _ S (kv w1 c1)
      · by_cases c4 : n = 61 ∨ n = 74
        · have hq1 : q = 2 := by have h1 := hkn.2; unfold kn at h1; rw [if_neg c1, if_neg c3, if_pos c4] at h1; omega
          subst hq1
          obtain ⟨x, y, rfl⟩ : ∃ x y, l = [x, y] := by
            match l, hql with
            | [x, y], _ => exact ⟨x, y, rfl⟩
          have hx := h64 x (by simp)
          have hy := h64 y (by simp)
          rcases c4 with rfl | rfl
          · exact go _ _ _ (went_61 L o x y) fun w1 g c1 => k_obj61 g o x y ho hx hy _ S (kv w1 c1)
          · exact go _ _ _ (went_set L o (kN x - 1) y) fun w1 g c1 => k_obj74 g o x y ho hy _ S hS (kv w1 c1)
        · by_cases c5 : n = 62 ∨ n = 70 ∨ n = 75 ∨ n = 76 ∨ n = 111
          · have hq1 : q = 0 := by have h1 := hkn.2; unfold kn at h1; rw [if_neg c1, if_neg c3, if_neg c4, if_pos c5] at h1; omega
            have hl : l.length ≤ 1000 := by omega
            rcases c5 with rfl | rfl | rfl | rfl | rfl
            · exact go _ _ _ (went_62 L o) fun w1 g c1 => k_obj62 g o ho l _ S (kv w1 c1) hl
            · exact go _ _ _ (went_ins L o _) fun w1 g c1 => k_obj70 g o ho l _ S (kv w1 c1) hl (by omega)
            · exact go _ _ _ (went_75 L o) fun w1 g c1 => k_obj75 g o ho l _ S (kv w1 c1) hl
            · exact go _ _ _ (Went.same (by decide)) fun w1 g c1 => k_obj76 g o ho l _ S (kv w1 c1) hl
            · exact go _ _ _ (went_111 L o) fun w1 g c1 => k_obj111 g o ho l _ S (kv w1 c1) hl
          · have h1 := hkn.1
            unfold kn at h1
            rw [if_neg c1, if_neg c3, if_neg c4, if_neg c5] at h1
            omega
  · exact k_DoNone h ht n o A q c hk
end

end Go.Proofs.YtncoanmgifgcbaaDoor
