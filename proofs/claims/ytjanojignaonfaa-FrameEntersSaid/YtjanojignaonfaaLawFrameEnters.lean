/- The walk of FrameEnters. -/
import Derived.Test.YtjanojignaonfaaFrameE
import Derived.Test.YtjanojignaonfaaRef15
import Derived.Test.YtjanojignaonfaaFlatN
import Derived.Test.YtjanojignaonfaaFlatJ
import Derived.Test.YtjanojignaonfaaLoad
import Derived.Test.YtjanojignaonfaaRef15d
import Derived.Test.YtjanojignaonfaaFrameH
namespace Go.Proofs.Ytjanojignaonfaa
set_option linter.unusedVariables false
set_option linter.unusedSimpArgs false
open Go.RowKit

/-- none is gone -/
def Live (L : List O) : Prop := ∀ i, i < L.length → (ob L i).kind ≠ 0
theorem kind_setL (L : List O) (o i v : Int) (j : Nat) : (ob (setL L o i v) j).kind = (ob L j).kind := by
  unfold setL
  cases hf : fnd L o with
  | none => rfl
  | some q =>
    simp only []
    split
    · rw [obSet]
      split
      · rename_i h
        rw [h.1]
      · rfl
    · rfl
theorem Live.setL {L : List O} (h : Live L) (o i v : Int) : Live (setL L o i v) := fun j hj => by
  rw [kind_setL]
  exact h j (by rw [length_setL] at hj; exact hj)
theorem Live.newL {L : List O} (h : Live L) (c k s : Int) : Live (newL L c k s) := by
  unfold Proofs.Ytjanojignaonfaa.newL
  split
  · rename_i hb
    intro j hj
    rcases Nat.lt_or_ge j L.length with h1 | h1
    · rw [show ob (L ++ [newO c k s]) j = ob L j by unfold ob; rw [List.getElem?_append_left h1]]
      exact h j h1
    · obtain rfl : j = L.length := by simp at hj; omega
      rw [show ob (L ++ [newO c k s]) L.length = newO c k s by unfold ob; simp]
      rcases (newO_ok hb).2.1 with e | e <;> rw [e.1] <;> decide
  · exact h
theorem Live.setNumL {L : List O} (h : Live L) (f i n : Int) : Live (setNumL L f i n) := by
  unfold Proofs.Ytjanojignaonfaa.setNumL
  split
  · exact h.setL _ _ _
  · exact h
theorem Live.push1L {L : List O} (h : Live L) (f v : Int) : Live (push1L L f v) := by
  unfold Proofs.Ytjanojignaonfaa.push1L
  split
  · split
    · exact (h.setL _ _ _).setNumL _ _ _
    · exact h.setL _ _ _
  · exact h
theorem Live.pushR (f : Int) : ∀ (l : List Int) (L : List O), Live L → Live (pushR f L l).1
  | [], L, h => h
  | v :: r, L, h => by
    rw [Proofs.Ytjanojignaonfaa.pushR]
    split
    · exact Live.pushR f r _ (h.push1L _ _)
    · exact h.push1L _ _
theorem Live.setsR {f : Int} : ∀ (l : List Int) (i : Int) (L : List O) (e : Int), Live L → Live (setsR f i L e l).1
  | [], i, L, e, h => h
  | v :: r, i, L, e, h => by
    rw [Proofs.Ytjanojignaonfaa.setsR]
    split
    · exact Live.setsR r (i + 1) _ _ (h.setL _ _ _)
    · exact Live.setsR r (i + 1) L e h
theorem Live.madeL {L : List O} (h : Live L) (sp : Int) (l : List Int) : Live (madeL L sp l) := by
  unfold Proofs.Ytjanojignaonfaa.madeL
  split
  · exact Live.setsR _ _ _ _ (h.newL _ _ _)
  · exact h
theorem Live.enterR {L : List O} (h : Live L) (s m r : Int) (args : List Int) : Live (enterR L s m r args).1 := by
  unfold Proofs.Ytjanojignaonfaa.enterR
  split
  · exact h
  split
  · exact h
  split
  · exact h.madeL _ _
  split
  · rw [fillR_eq]
    exact Live.pushR _ _ _ (h.madeL _ _)
  · rw [fillR_eq]
    exact Live.pushR _ _ _ (h.madeL _ _)
theorem Live.allL {L : List O} (h : Live L) : allL L = (List.range L.length).map fun (i : Nat) => 2 * ((i : Int) + 1) := by
  unfold Proofs.Ytjanojignaonfaa.allL allTo
  rw [List.filter_eq_self.2 (fun i hi => by simpa using h i (List.mem_range.1 hi))]
theorem Live.of_all {L : List O} (h : L.all okB = true) : Live L := fun i hi => by
  have := List.all_eq_true.1 h (ob L i) (by unfold ob; rw [List.getElem?_eq_getElem hi]; exact List.getElem_mem hi)
  rcases (okB_cases this).2.2.2.2 with e | e <;> rw [e.1] <;> decide
theorem objV_ob {L : List O} (i : Nat) (hi : i < L.length) (hk : (ob L i).kind ≠ 0) (hL : L.length < 1073741823) : objV L (2 * ((i : Int) + 1)) = ob L i ∧ objE L (2 * ((i : Int) + 1)) = 0 := by
  have h : fnd L (2 * ((i : Int) + 1)) = some i := by
    unfold fnd
    have e : (2 * ((i : Int) + 1) / 2 - 1).toNat = i := by omega
    rw [e, if_pos ⟨by simp [namedOk]; omega, hk⟩]
  simp [objV, objE, h]

theorem MemK.beside {w0 w : World} {m : Nat} {L : List O} {K : (Nat → Prop) → World → Prop} (g : MemK w0 w m L K) {lv : Value} {l : List Int} (h : IntS w0 (fun _ => True) lv l) : MemK w0 w m L (fun F v => IntS v (fun b => ¬ F b) lv l) := by
  have hc := g.chg
  have h1 : IntS w0 (fun b => b < w0.heap.size) lv l := h.more fun b hb _ => hb
  refine g.now (Chg.refl _ _) fun G hG _ G' w2 h2 h3 c2 _ => ?_
  refine (((h1.keep hc (fun _ _ f => f)).keep c2 fun b hb hg => ?_).more fun b _ hb hg => ?_)
  · have := (hG b hg).2; omega
  · rcases h3 b hg with h | h
    · have := (hG b h).2; omega
    · have := hc.size; omega
theorem MemK.besideT {w w1 : World} {m : Nat} {L : List O} {lv : Value} {T : List T3} (g : MemK w w1 m L (fun _ _ => True)) (h : RefT w (fun _ => True) lv T) : MemK w w1 m L (fun F v => RefT v (fun b => ¬ F b) lv T) := by
  have hc := g.chg
  have h1 : RefT w (fun b => b < w.heap.size) lv T := h.more fun b hb _ => hb
  refine g.now (Chg.refl _ _) fun G hG _ G' w2 h2 h3 c2 _ => ?_
  refine (((h1.keep hc (fun _ _ f => f)).keep c2 fun b hb hg => ?_).more fun b _ hb hg => ?_)
  · have := (hG b hg).2; omega
  · rcases h3 b hg with h | h
    · have := (hG b h).2; omega
    · have := hc.size; omega
theorem ints_own {w : World} {base : Nat} {v : Value} {l : List Int} (h : OwnInts w base v l) (hl : ∀ x ∈ l, In64 x) : IntS w (fun _ => True) v l := ⟨(Slc.of_own h).more fun _ _ _ => trivial, hl⟩
theorem all_take {T : List T3} {i : Nat} {t : T3} (h : T[i]? = some t) : ((T.take (i + 1)).map (·.1)).all okB = (((T.take i).map (·.1)).all okB && okB t.1) := by
  rw [List.take_add_one, h]
  simp

section
variable {w0 w w' : World} {m : Nat} {L L' : List O} {K : (Nat → Prop) → World → Prop} {F F' : Nat → Prop}
set_option maxRecDepth 100000 in
set_option maxHeartbeats 4000000 in
theorem same15_any (g : MemK w0 w m L K) (xv : Value) (hv : RefM w (fun _ => True) xv L) (hlv : Live L) :
    Calls Try.prog 50 #[.pointer (some ⟨m, 0, none⟩), xv] w fun e w' => e = .returned (.bool true) ∧ Chg No w w' := by
  obtain ⟨lv, rfl, hl⟩ := hv
  obtain ⟨A, cp, rfl, -⟩ := hl.form
  have hL : L.length < 1073741823 := by
    obtain ⟨F, ⟨q, es, ad, wv, bv, hi⟩, _⟩ := g
    exact hi.made
  have HALL := Lib.hid hlv.allL
  have HLV := Lib.hid hlv
  have HR := Lib.hid hl
  have HG := Lib.hid g
  clear hl g hlv
  obtain ⟨n, hn⟩ : ∃ n, L.length = n := ⟨_, rfl⟩
  rw [hn] at hL
  have HN := Lib.hid hn
  obtain ⟨W, hW⟩ : ∃ W, w.alloc (.cells #[.slice A L.length cp] 33) = W := ⟨_, rfl⟩
  have cW : Chg No w W := by rw [← hW]; exact (Chg.refl _ _).alloc _
  have rW : Row W w.heap.size 33 #[.slice A L.length cp] := by rw [← hW]; exact Row.new w _ _
  have HA := Lib.hid (And.intro cW rW)
  have HW := Lib.hid hW
  rw [hn] at HW
  clear cW rW hW
  rw [hn]
  go_enter Try.func50, Try.ntmps50
  go_wp2_with (first
    | (go_at_call 82
       have HZ := HW.out
       clear HW
       rw [HZ]
       refine (k_All (HG.out.world HA.out.1)).mono ?_
       rintro e w1 ⟨v, rfl, ho, -, c1⟩
       obtain ⟨A1, c1', hv1⟩ := ho.form
       subst hv1
       have hi : IntS w1 (fun _ => True) _ _ := ints_own ho (by
         rw [HALL.out]
         intro x hx
         simp only [List.mem_map, List.mem_range] at hx
         obtain ⟨i, h1, rfl⟩ := hx
         have := HN.out
         unfold In64
         omega)
       rw [show (allL L).length = n by rw [HALL.out, List.length_map, List.length_range, HN.out]] at hi ⊢
       have r1 := HA.out.2.keep c1 (fun f => f)
       have x1 : w1.cell? ⟨w.heap.size, 0, none⟩ = some (.slice A L.length cp) := r1.cell 0
       rw [HN.out] at x1
       have HI := Lib.hid hi
       have H1 := Lib.hid (And.intro (HA.out.1.trans c1) r1)
       clear ho hi r1 c1 HZ)
    | fail)
  go_loopg [6] n (fun j v6 wr => ∃ k : Nat, v6 = .int .i64 (k : Int) ∧ k ≤ n ∧ n - k ≤ j ∧ Chg No w1 wr)
  case atStart => exact ⟨0, rfl, by omega, by omega, Chg.refl _ _⟩
  case round =>
    obtain ⟨k, rfl, k1, k2, cg⟩ := hrel
    clear x1
    by_cases hk : k < n
    · have t1 : decide ((k : Int) < (n : Int)) = true := decide_eq_true (by omega)
      have l1 : (k : Int) < (n : Int) := by omega
      have hkk := HLV.out k (by rw [HN.out]; exact hk)
      have hob := objV_ob k (by rw [HN.out]; exact hk) hkk (by rw [HN.out]; exact hL)
      have HV := Lib.hid hob
      have o64 : In64 (2 * ((k : Int) + 1)) := by unfold In64; omega
      obtain ⟨b1, off1, rfl⟩ := HI.out.some' (by rw [HALL.out]; simp; have := HN.out; omega)
      obtain ⟨y0, -⟩ := (HI.out.keep cg (fun _ _ f => f)).lay' (i := k) (by rw [HALL.out]; simp; have := HN.out; omega)
      rw [show (allL L)[k]?.getD 0 = 2 * ((k : Int) + 1) by rw [HALL.out, List.getElem?_map, List.getElem?_range (by rw [HN.out]; exact hk)]; rfl] at y0
      have hb1 : b1 < wr.heap.size := World.block_lt_of_cell? wr _ y0
      have wk1 : IntKind.i64.wrap ((k : Int) + 1) = (k : Int) + 1 := IntWalk.i64_in _ (by omega)
      have wk2 : IntKind.i64.wrap (2 * ((k : Int) + 1)) = 2 * ((k : Int) + 1) := IntWalk.i64_in _ (by omega)
      clear hkk hob
      have cwr : Chg No w wr := H1.out.1.trans cg
      obtain ⟨b, off, c', wv, bv, hsl, -, hcel, hobj⟩ := (HR.out.keep cwr (fun _ _ f => f)).cells (i := k) (by rw [HN.out]; exact hk)
      obtain ⟨rfl, -, rfl⟩ := Value.slice.inj hsl
      have HO := Lib.hid hobj
      have HC := Lib.hid hcel
      have HG0 := Lib.hid (And.intro cg cwr)
      have r1 := H1.out.2.keep cg (fun f => f)
      have HX := Lib.hid r1
      obtain ⟨x, hx⟩ : ∃ x, ob L k = x := ⟨_, rfl⟩
      rw [hx] at HO HC HV
      clear hsl hobj hcel cg cwr r1 hx
      go_wp2_with (first
        | (go_at_call 24
           refine (k_ObjC (HG.out.world HG0.out.2) (2 * ((k : Int) + 1)) o64).mono ?_
           rw [HV.out.1, HV.out.2]
           rintro e w5 ⟨r, rfl, -, hr5, c5⟩
           obtain ⟨A5, c5', A6, c6, rfl⟩ := hr5.shape
           have HR5 := Lib.hid (And.intro hr5 c5)
           clear hr5 c5)
        | fail)
      generalize hWW : World.alloc w5 _ = W5 at *
      have hc5 : Chg No w5 W5 := by rw [← hWW]; exact (Chg.refl _ _).alloc _
      have hrow : Row W5 w5.heap.size 39 #[.int .i64 x.cls, .int .i64 x.kind, .slice A5 x.W.length c5', .slice A6 x.B.length c6] := by rw [← hWW]; exact Row.new w5 _ _
      have c05 := HR5.out.2.trans hc5
      have u0 : ∀ v, Chg No W5 v → v.cell? ⟨w5.heap.size, 0, none⟩ = some (.int .i64 x.cls) := fun v hv => (hrow.keep hv (fun f => f)).cell 0
      have u1 : ∀ v, Chg No W5 v → v.cell? ⟨w5.heap.size, 1, none⟩ = some (.int .i64 x.kind) := fun v hv => (hrow.keep hv (fun f => f)).cell 1
      have u2 : ∀ v, Chg No W5 v → v.cell? ⟨w5.heap.size, 2, none⟩ = some (.slice A5 x.W.length c5') := fun v hv => (hrow.keep hv (fun f => f)).cell 2
      have u3 : ∀ v, Chg No W5 v → v.cell? ⟨w5.heap.size, 3, none⟩ = some (.slice A6 x.B.length c6) := fun v hv => (hrow.keep hv (fun f => f)).cell 3
      have x0 : ∀ v, Chg No W5 v → v.cell? ⟨b, off + k * 4, none⟩ = some (.int .i64 x.cls) := fun v hv => (HC.out v (c05.trans hv)).1
      have x1 : ∀ v, Chg No W5 v → v.cell? ⟨b, off + k * 4 + 1, none⟩ = some (.int .i64 x.kind) := fun v hv => (HC.out v (c05.trans hv)).2.1
      have x2 : ∀ v, Chg No W5 v → v.cell? ⟨b, off + k * 4 + 2, none⟩ = some wv := fun v hv => (HC.out v (c05.trans hv)).2.2.1
      have x3 : ∀ v, Chg No W5 v → v.cell? ⟨b, off + k * 4 + 3, none⟩ = some bv := fun v hv => (HC.out v (c05.trans hv)).2.2.2
      have y1 : ∀ v, Chg No W5 v → v.cell? ⟨b1, off1 + k, none⟩ = some (.int .i64 (2 * ((k : Int) + 1))) := fun v hv => ((c05.trans hv).cell (p := ⟨b1, off1 + k, none⟩) hb1 (fun f => f)).trans y0
      have z1 : ∀ v, Chg No W5 v → v.cell? ⟨w.heap.size, 0, none⟩ = some (.slice (some ⟨b, off, none⟩) n cp) := fun v hv => by
        have := (HX.out.keep (c05.trans hv) (fun f => f)).cell 0
        rw [← HN.out]
        exact this
      have G := Lib.hid (And.intro (HG0.out.1.trans c05) (And.intro (HR5.out.1.more (S' := fun _ => True) (fun _ _ _ => trivial) |>.keep hc5 (fun _ _ f => f)) (HO.out.more (S' := fun _ => True) (fun _ _ _ => trivial) |>.keep c05 (fun _ _ f => f))))
      clear hc5 hWW hrow c05 y0
      simp only [cells2] at G
      refine q_region (C := (Chg No W5)) (by kernel_rfl) (by kernel_rfl) ?_ ?_
      · exact (Chg.refl _ _).drew
      repeat
        refine q_step (fun K hK => ?_)
        go_simp
        first
          | ((with_reducible refine hK _ ?_); clear hK K)
          | (refine (if_neg (by simp [undef])).mpr ?_; (with_reducible refine hK _ ?_); clear hK K)
          | (apply Exists.intro
             with_reducible refine ⟨fun v hv => ?_, hK _ ?_⟩
             · first
                 | with_reducible exact rfl
                 | with_reducible exact ⟨rfl, rfl⟩
                 | (go_simp
                    first
                      | done
                      | with_reducible exact rfl
                      | with_reducible exact ⟨rfl, rfl⟩
                      | (go_at_call 26; refine (Same05_eq _ _ x (fun _ => True) _ (G.out.2.1.keep hv (fun _ _ f => f)) (G.out.2.2.keep hv (fun _ _ f => f))).mono ?_; rintro e w5 ⟨rfl, g5⟩; exact ⟨rfl, hv.trans g5⟩))
             clear hK K)
      refine q_nil ?_
      intro V hV
      go_wp2_with fail
      go_roundg (n - (k + 1))
      case measure => omega
      case rel => exact ⟨k + 1, by go_num, by omega, by omega, G.out.1.trans hV⟩
    · have t1 : decide ((k : Int) < (n : Int)) = false := decide_eq_false (by omega)
      go_wp2_with fail
      go_ret
      exact ⟨rfl, H1.out.1.trans cg⟩
end


set_option maxRecDepth 100000 in
set_option maxHeartbeats 4000000 in
theorem FrameEnters_any (lv : Value) (L : List O) (w : World) (h : RefL w (fun _ => True) lv L) (hm : L.length ≤ maxLen) (sender method receiver : Int) (s64 : In64 sender) (h64 : In64 method) (r64 : In64 receiver) (av : Value) (args : List Int) (hx : IntS w (fun _ => True) av args) :
    Calls Try.prog 12 #[lv, .int .i64 sender, .int .i64 method, .int .i64 receiver, av] w fun e w' => e = .returned (.bool true) ∧ Below w.heap.size w w' := by
  have HRL := Lib.hid h
  obtain ⟨T, rfl, hT⟩ := h.toT
  obtain ⟨A, n, c, rfl⟩ : ∃ A n c, lv = .slice A n c := by
    obtain ⟨⟨A, c, e, -⟩, -⟩ := hT
    exact ⟨A, _, c, e⟩
  obtain rfl : T.length = n := by
    obtain ⟨⟨A', c', e, -⟩, -⟩ := hT
    exact (Value.slice.inj e).2.1.symm
  have HT := Lib.hid hT
  have hmax : T.length ≤ 9223372036854775807 := by unfold maxLen at hm; simp at hm; omega
  obtain ⟨A0, c0, rfl, hl0, hl1, -⟩ := hx.form
  have hmaxp : args.length ≤ 9223372036854775807 := by unfold maxLen at hl1; simp at hl1; omega
  have HX := Lib.hid hx
  clear hT h hm hx hl0 hl1
  generalize hn : T.length = n at *
  have HN := Lib.hid hn
  clear hn
  obtain ⟨p, hp⟩ : ∃ p, args.length = p := ⟨_, rfl⟩
  rw [hp] at hmaxp HX ⊢
  have HP := Lib.hid hp
  clear hp
  by_cases h60 : 60 < n
  · have t0 : decide (60 < (n : Int)) = true := decide_eq_true (by omega)
    go_enter Try.func12, Try.ntmps12
    go_wp2_with (first
      | (go_at_call 36
         refine (known15_any _).mono ?_
         rintro e w9 ⟨rfl, c9⟩)
      | fail)
    go_ret
    exact ⟨rfl, c9.below⟩
  have t0 : decide (60 < (n : Int)) = false := decide_eq_false (by omega)
  by_cases h20 : 20 < p
  · have t1 : decide (20 < (p : Int)) = true := decide_eq_true (by omega)
    go_enter Try.func12, Try.ntmps12
    go_wp2_with (first
      | (go_at_call 36
         refine (known15_any _).mono ?_
         rintro e w9 ⟨rfl, c9⟩)
      | fail)
    go_ret
    exact ⟨rfl, c9.below⟩
  have t1 : decide (20 < (p : Int)) = false := decide_eq_false (by omega)
  go_enter Try.func12, Try.ntmps12
  go_wp2_with fail
  go_loopg [11] n (fun j v11 wr => ∃ i : Nat, v11 = .int .i64 (i : Int) ∧ i ≤ n ∧ n - i ≤ j ∧ Chg No w wr ∧ ((T.take i).map (·.1)).all okB = true)
  case atStart => exact ⟨0, rfl, by omega, by omega, Chg.refl _ _, by simp⟩
  case round =>
    obtain ⟨i, rfl, i1, i2, cg, hall⟩ := hrel
    by_cases hi : i < n
    · have t2 : decide ((i : Int) < (n : Int)) = true := decide_eq_true (by omega)
      have l2 : (i : Int) < (n : Int) := by omega
      obtain ⟨⟨x, wv, bv⟩, hti⟩ : ∃ t, T[i]? = some t := ⟨_, List.getElem?_eq_getElem (by rw [HN.out]; exact hi)⟩
      obtain ⟨b, off, rfl, -, hb, hok, y0, y1, y2, y3⟩ := (HT.out.keep cg (fun _ _ f => f)).at hti
      have hsn := all_take hti
      dsimp only at hok y0 y1 y2 y3 hsn
      have HO := Lib.hid (show ObjR wr _ (.agg (cells2 x wv bv)) x from ⟨wv, bv, rfl, hok⟩)
      obtain ⟨A1, c1, hA1, hm1, hm2, -⟩ := hok.1.form
      obtain ⟨A2, c2, hA2, hm3, hm4, -⟩ := hok.2.1.form
      dsimp only at hA1 hA2 hm1 hm3
      subst hA1 hA2
      have hw1 : x.W.length ≤ 9223372036854775807 := by unfold maxLen at hm2; simp at hm2; omega
      have hb1 : x.B.length ≤ 9223372036854775807 := by unfold maxLen at hm4; simp at hm4; omega
      have zz : ∀ v, Chg No wr v → v.cell? ⟨b, off + i * 4, none⟩ = some (.int .i64 x.cls) ∧ v.cell? ⟨b, off + i * 4 + 1, none⟩ = some (.int .i64 x.kind) ∧ v.cell? ⟨b, off + i * 4 + 2, none⟩ = some (.slice A1 x.W.length c1) ∧ v.cell? ⟨b, off + i * 4 + 3, none⟩ = some (.slice A2 x.B.length c2) := fun v hv => ⟨(hv.cell hb (fun f => f)).trans y0, (hv.cell hb (fun f => f)).trans y1, (hv.cell hb (fun f => f)).trans y2, (hv.cell hb (fun f => f)).trans y3⟩
      have z0 : ∀ v, Chg No wr v → v.cell? ⟨b, off + i * 4, none⟩ = some (.int .i64 x.cls) := fun v hv => (zz v hv).1
      have z1 : ∀ v, Chg No wr v → v.cell? ⟨b, off + i * 4 + 1, none⟩ = some (.int .i64 x.kind) := fun v hv => (zz v hv).2.1
      have z2 : ∀ v, Chg No wr v → v.cell? ⟨b, off + i * 4 + 2, none⟩ = some (.slice A1 x.W.length c1) := fun v hv => (zz v hv).2.2.1
      have z3 : ∀ v, Chg No wr v → v.cell? ⟨b, off + i * 4 + 3, none⟩ = some (.slice A2 x.B.length c2) := fun v hv => (zz v hv).2.2.2
      have HG := Lib.hid (And.intro cg (And.intro hsn hall))
      cases hxx : okB x
      · have hc : chk x = 2 := by simp [chk, hxx]
        have HC := Lib.hid hc
        clear hok hti hsn hall y0 y1 y2 y3 hxx hm1 hm2 hm3 hm4 zz cg hc
        go_wp2_with fail
        refine q_region (C := (Chg No wr)) (by kernel_rfl) (by kernel_rfl) ?_ ?_
        · exact (Chg.refl _ _).drew
        repeat
          refine q_step (fun K hK => ?_)
          go_simp
          first
            | ((with_reducible refine hK _ ?_); clear hK K)
            | (refine (if_neg (by simp [undef])).mpr ?_; (with_reducible refine hK _ ?_); clear hK K)
            | (apply Exists.intro
               with_reducible refine ⟨fun v hv => ?_, hK _ ?_⟩
               · first
                   | with_reducible exact rfl
                   | with_reducible exact ⟨rfl, rfl⟩
                   | (go_simp
                      first
                        | done
                        | with_reducible exact rfl
                        | with_reducible exact ⟨rfl, rfl⟩
                        | (go_at_call 45; refine (Check05_any _ x _ _ (HO.out.keep hv (fun _ _ f => f))).mono ?_; rw [HC.out]; rintro e w5 ⟨rfl, g5⟩; exact ⟨rfl, hv.trans g5⟩))
               clear hK K)
        refine q_nil ?_
        intro V hV
        go_wp2_with (first
          | (go_at_call 36
             refine (known15_any _).mono ?_
             rintro e w9 ⟨rfl, c9⟩)
          | fail)
        go_ret
        exact ⟨rfl, ((HG.out.1.trans hV).trans c9).below⟩
      · have hc : chk x = 0 := by simp [chk, hxx]
        have HC := Lib.hid hc
        obtain ⟨-, hw2, hb2, -, -⟩ := okB_cases hxx
        generalize hlw : x.W.length = lw at *
        generalize hlb : x.B.length = lb at *
        have v2 : IntKind.i64.wrap ((lw : Int) + lb) = (lw : Int) + lb := IntWalk.i64_in _ (by omega)
        by_cases h200 : 200 < lw + lb
        · have t3 : decide (200 < (lw : Int) + lb) = true := decide_eq_true (by omega)
          clear hok hti hsn hall y0 y1 y2 y3 hxx hm1 hm2 hm3 hm4 zz cg hc hlw hlb
          go_wp2_with fail
          refine q_region (C := (Chg No wr)) (by kernel_rfl) (by kernel_rfl) ?_ ?_
          · exact (Chg.refl _ _).drew
          repeat
            refine q_step (fun K hK => ?_)
            go_simp
            first
              | ((with_reducible refine hK _ ?_); clear hK K)
              | (refine (if_neg (by simp [undef])).mpr ?_; (with_reducible refine hK _ ?_); clear hK K)
              | (apply Exists.intro
                 with_reducible refine ⟨fun v hv => ?_, hK _ ?_⟩
                 · first
                     | with_reducible exact rfl
                     | with_reducible exact ⟨rfl, rfl⟩
                     | (go_simp
                        first
                          | done
                          | with_reducible exact rfl
                          | with_reducible exact ⟨rfl, rfl⟩
                          | (go_at_call 45; refine (Check05_any _ x _ _ (HO.out.keep hv (fun _ _ f => f))).mono ?_; rw [HC.out]; rintro e w5 ⟨rfl, g5⟩; exact ⟨rfl, hv.trans g5⟩))
                 clear hK K)
          refine q_nil ?_
          intro V hV
          go_wp2_with (first
            | (go_at_call 36
               refine (known15_any _).mono ?_
               rintro e w9 ⟨rfl, c9⟩)
            | fail)
          go_ret
          exact ⟨rfl, ((HG.out.1.trans hV).trans c9).below⟩
        · have t3 : decide (200 < (lw : Int) + lb) = false := decide_eq_false (by omega)
          rw [hxx, Bool.and_true] at hsn
          have HS := Lib.hid (hsn.trans hall)
          clear hok hti hsn hall y0 y1 y2 y3 hxx hm1 hm2 hm3 hm4 zz cg hc hlw hlb
          go_wp2_with fail
          refine q_region (C := (Chg No wr)) (by kernel_rfl) (by kernel_rfl) ?_ ?_
          · exact (Chg.refl _ _).drew
          repeat
            refine q_step (fun K hK => ?_)
            go_simp
            first
              | ((with_reducible refine hK _ ?_); clear hK K)
              | (refine (if_neg (by simp [undef])).mpr ?_; (with_reducible refine hK _ ?_); clear hK K)
              | (apply Exists.intro
                 with_reducible refine ⟨fun v hv => ?_, hK _ ?_⟩
                 · first
                     | with_reducible exact rfl
                     | with_reducible exact ⟨rfl, rfl⟩
                     | (go_simp
                        first
                          | done
                          | with_reducible exact rfl
                          | with_reducible exact ⟨rfl, rfl⟩
                          | (go_at_call 45; refine (Check05_any _ x _ _ (HO.out.keep hv (fun _ _ f => f))).mono ?_; rw [HC.out]; rintro e w5 ⟨rfl, g5⟩; exact ⟨rfl, hv.trans g5⟩))
                 clear hK K)
          refine q_nil ?_
          intro V hV
          go_wp2_with fail
          go_roundg (n - (i + 1))
          case measure => omega
          case rel => exact ⟨i + 1, by go_num, by omega, by omega, HG.out.1.trans hV, HS.out⟩
    · have t2 : decide ((i : Int) < (n : Int)) = false := decide_eq_false (by omega)
      obtain rfl : i = n := by omega
      rw [List.take_of_length_le (by rw [HN.out]; exact Nat.le_refl _)] at hall
      have HALL := Lib.hid hall
      have HC := Lib.hid cg
      clear hall cg
      obtain ⟨R, hR⟩ : ∃ R, enterR (T.map (·.1)) sender method receiver args = R := ⟨_, rfl⟩
      obtain ⟨RL, Rf, Re⟩ := R
      have HR := Lib.hid hR
      clear hR
      go_wp2_with (first
        | (go_at_call 46
           refine (k_flatNew HC.out).mono ?_
           rintro e w1 ⟨m, rfl, g1⟩
           have H1 := Lib.hid (g1.besideT HT.out)
           clear g1)
        | (go_at_call 47
           refine (k_Load_ok H1.out _ T (by rw [HN.out]; omega) (fun F v h => h) HALL.out).mono ?_
           rintro e w3 ⟨rfl, g3⟩
           have H3 := Lib.hid (g3.beside HX.out)
           clear g3)
        | (go_at_call 48
           refine (k_Enter H3.out sender method receiver s64 h64 r64 _ args (fun F v hk => hk) (by rw [List.length_map, HN.out]; omega)).mono ?_
           rw [HR.out]
           rintro e w4 ⟨rfl, g4⟩
           have H4 := Lib.hid g4
           clear g4)
        | (go_at_call 49
           refine (Enter15_any _ (fun _ => True) (T.map (·.1)) _ ⟨_, rfl, HRL.out.keep H4.out.chg (fun _ _ f => f)⟩ (fun i hk => H3.out.okAt hk) (by rw [List.length_map, HN.out]; omega) sender method receiver s64 h64 r64 _ args (HX.out.keep H4.out.chg (fun _ _ f => f))).mono ?_
           rw [HR.out]
           rintro e w5 ⟨r1, rfl, x, rfl, c5, ⟨lx, rfl, hlx⟩⟩
           obtain ⟨A6, k6, rfl, -⟩ := hlx.form
           have H5 := Lib.hid (And.intro c5 (hlx.more (S' := fun _ => True) (fun _ _ _ => trivial)))
           clear c5 hlx)
        | (go_at_call 50
           refine (same15_any (H4.out.world (H5.out.1.alloc _)) _ ⟨_, rfl, RefL.keep H5.out.2 ((Chg.refl No _).alloc _) (fun _ _ f => f)⟩ (by
             have hl := Live.enterR (Live.of_all HALL.out) sender method receiver args
             rw [HR.out] at hl
             exact hl)).mono ?_
           rintro e w6 ⟨rfl, c6⟩)
        | (go_at_call 36
           refine (known15_any _).mono ?_
           rintro e w9 ⟨rfl, c9⟩)
        | fail)
      go_ret
      exact ⟨rfl, ((((H4.out.chg.trans H5.out.1).alloc _).trans c6).trans c9).below⟩

end Go.Proofs.Ytjanojignaonfaa
