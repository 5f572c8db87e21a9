/- Primitives over a flat memory: prim.objects at 70, 72 to 76, 110 and 111. -/
import Derived.Test.YtncoanmgifgcbaaDoorPrmE
import Derived.Deep.RegionHeld3
namespace Go.Proofs.YtncoanmgifgcbaaDoor
set_option linter.unusedVariables false
set_option linter.unusedSimpArgs false
open Go.RowKit

theorem IntS.atS {w : World} {S : Nat → Prop} {A : Option Addr} {n c : Nat} {l : List Int} (h : IntS w S (.slice A n c) l) {i : Nat} (hi : i < l.length) : ∃ b off, A = some ⟨b, off, none⟩ ∧ b < w.heap.size ∧ w.cell? ⟨b, off + i, none⟩ = some (.int .i64 (l[i]?.getD 0)) ∧ In64 (l[i]?.getD 0) ∧ S b := by
  obtain ⟨A', c', e, _, _, _, hc⟩ := h.form
  obtain ⟨rfl, rfl, rfl⟩ := Value.slice.inj e
  obtain ⟨b, off, h1, h2, h3, h4, h5⟩ := hc i hi
  exact ⟨b, off, h1, h3, h4, h5, h2⟩
theorem ahead_Become (a : Addr) (w : World) : (nilAhead 317 27 (.pointer (some a)) "Become").run Tryd.prog w = .ok (some false) w := by kernel_rfl
theorem ahead_FetchP (a : Addr) (w : World) : (nilAhead 317 27 (.pointer (some a)) "Fetch").run Tryd.prog w = .ok (some false) w := by kernel_rfl
theorem ahead_SetP (a : Addr) (w : World) : (nilAhead 317 27 (.pointer (some a)) "Set").run Tryd.prog w = .ok (some false) w := by kernel_rfl
theorem meth_Become (a : Addr) (w : World) : (method 317 27 (.pointer (some a)) "Become").run Tryd.prog w = .ok (152, .pointer (some a)) w := by kernel_rfl
theorem meth_SetP (a : Addr) (w : World) : (method 317 27 (.pointer (some a)) "Set").run Tryd.prog w = .ok (157, .pointer (some a)) w := by kernel_rfl

section
variable {w0 w w' : World} {m : Nat} {L L' : List O} {K : (Nat → Prop) → World → Prop} {F F' : Nat → Prop}
set_option maxRecDepth 100000 in
set_option maxHeartbeats 1000000 in
theorem k_obj70 (h : MemK w0 w m L K) (o : Int) (ho : In64 o) (l : List Int) (v : Value) (S : Nat → Prop) (hv : IntS w S v l) (hl : l.length ≤ 1000) (hn : L.length + 1 < 1073741823) :
    Calls Tryd.prog 47 #[.iface 27 (.pointer (some ⟨m, 0, none⟩)), .int .i64 70, .int .i64 o, v] w fun e w' => e = .returned (.tuple #[.int .i64 (insN L o (l.map kN)), .int .i64 (insE L o (l.map kN))]) ∧ MemK w0 w' m (insL L o (l.map kN)) K := by
  have H0 := Lib.hid h
  obtain ⟨A, c, rfl, hlc, hcm, -⟩ := hv.form
  have HV := Lib.hid hv
  generalize hnl : l.length = nl at *
  have HNL := Lib.hid hnl
  clear h hv hnl
  go_enter Tryd.func47, Tryd.ntmps47
  go_wp2_with fail
  go_loopg [10, 25] nl (fun j v10 v25 wr => ∃ i : Nat, v25 = .int .i64 (i : Int) ∧ i ≤ nl ∧ nl - i ≤ j ∧ OwnInts wr w.heap.size v10 ((l.take i).map kN) ∧ Chg No w wr)
  case atStart => exact ⟨0, rfl, by omega, by omega, World.ownsRow_nil _ _ _ _, Chg.refl _ _⟩
  case round =>
    obtain ⟨i, rfl, i1, i2, own, cw⟩ := hrel
    obtain ⟨A3, c3, rfl⟩ := own.form
    have hlen : ((l.take i).map kN).length ≤ i := by simp; omega
    by_cases hi : i < nl
    · have t1 : decide ((i : Int) < (nl : Int)) = true := decide_eq_true (by omega)
      have t0 : (i : Int) < (nl : Int) := by omega
      obtain ⟨g, off, rfl, hg, hc, x64, -⟩ := (HV.out.keep cw (fun _ _ f => f)).at (i := i) (by rw [HNL.out]; exact hi)
      have hsn := kN_snoc (l := l) (i := i) (by rw [HNL.out]; exact hi)
      generalize l[i]?.getD 0 = x at *
      obtain ⟨A5, c5, w5, hr5, ho5, cg5⟩ := app_one own (by omega) cw.size (kN x) 36
      have cw5 : Chg No w w5 := cw.then cg5 (fun k hk hle => by omega)
      have HR := Lib.hid hr5
      have HC := Lib.hid (And.intro ho5 (And.intro cw5 hsn))
      clear own cw hr5 ho5 cg5 cw5 hsn
      generalize ((l.take i).map kN).length = q at *
      cases hb : numOk x with
      | true =>
        have hk : kN x = numV x := by unfold kN; rw [if_pos hb]
        rw [hk] at HR
        go_wp2_with (first
          | (go_at_call 35
             refine (Number_any x x64.1 x64.2 _).mono ?_
             rw [hb]
             rintro e' w2 ⟨rfl, rfl⟩)
          | (at_builtin; refine wpList_append_run rfl _ _ _ rfl rfl rfl HR.out ?_)
          | fail)
        go_roundg (nl - (i + 1))
        case measure => omega
        case rel => exact ⟨i + 1, by go_num, by omega, by omega, by rw [HC.out.2.2, hk]; rw [hk] at HC; exact HC.out.1, HC.out.2.1⟩
      | false =>
        have hk : kN x = -1 := by unfold kN; rw [if_neg (by simp [hb])]
        rw [hk] at HR
        go_wp2_with (first
          | (go_at_call 35
             refine (Number_any x x64.1 x64.2 _).mono ?_
             rw [hb]
             rintro e' w2 ⟨rfl, rfl⟩)
          | (at_builtin; refine wpList_append_run rfl _ _ _ rfl rfl rfl HR.out ?_)
          | fail)
        go_roundg (nl - (i + 1))
        case measure => omega
        case rel => exact ⟨i + 1, by go_num, by omega, by omega, by rw [HC.out.2.2, hk]; rw [hk] at HC; exact HC.out.1, HC.out.2.1⟩
    · obtain rfl : i = nl := by omega
      have t1 : decide ((i : Int) < (i : Int)) = false := decide_eq_false (by omega)
      rw [List.take_of_length_le (by rw [HNL.out]; exact Nat.le_refl _)] at own hlen ⊢
      clear hlen
      rw [show (l.map kN).length = i by rw [List.length_map, HNL.out]] at own
      have HK := Lib.hid (And.intro own cw)
      rw [show (l.map kN).length = i by rw [List.length_map, HNL.out]]
      have H := Lib.hid (H0.out.world cw)
      clear own cw
      go_wp2_with (first
        | (go_at_call 82
           refine (k_Instance H.out o ho (l.map kN) _ _ (IntS.of_own HK.out.1 (by intro x hx; obtain ⟨y, -, rfl⟩ := List.mem_map.1 hx; exact kN64 y)) hn).mono ?_
           rintro e' w5 ⟨rfl, g5⟩)
        | fail)
      go_ret2
      exact ⟨rfl, g5⟩

/-- a store, and that it turns the memory's own blocks alone -/
theorem k_SetF (hf : Flat w m F L) (hc : Chg No w0 w) (hF : ∀ b, F b → w0.heap.size ≤ b) (hK : ∀ F' w', (∀ b, F b → F' b) → (∀ b, F' b → F b ∨ w.heap.size ≤ b) → Chg F w w' → K F' w') (c : Chg No w w') (o i v : Int) (ho : In64 o) (hv : In64 v) :
    Calls Tryd.prog 157 #[.pointer (some ⟨m, 0, none⟩), .int .i64 o, .int .i64 i, .int .i64 v] w' fun e u => (e = .returned (.int .i64 (setE L o i v)) ∧ MemK w0 u m (setL L o i v) K) ∧ Chg F w' u := by
  refine (k_Set (hf.keep c (fun _ _ f => f)).toK o i v ho hv).mono fun e u ⟨h1, g⟩ => ?_
  obtain ⟨F', hf', -, t1, t2, t3⟩ := g.opened
  exact ⟨⟨h1, MemK.go hf hc hF hK hf' (c.no.trans t3) (fun b hb => (t2 b hb).imp id (fun h => Nat.le_trans c.size h)) t1⟩, t3⟩
theorem kN_bd (x : Int) : -1073741824 ≤ kN x ∧ kN x ≤ 1073741823 := by
  have := numV_bd x
  unfold kN
  split <;> omega
set_option maxRecDepth 100000 in
set_option maxHeartbeats 1000000 in
theorem k_obj72 (h : MemK w0 w m L K) (o x : Int) (ho : In64 o) (hx : In64 x) (v : Value) (S : Nat → Prop) (hv : IntS w S v [x]) :
    Calls Tryd.prog 47 #[.iface 27 (.pointer (some ⟨m, 0, none⟩)), .int .i64 72, .int .i64 o, v] w fun e w' => e = .returned (.tuple #[.int .i64 o, .int .i64 (becomeE L o x)]) ∧ MemK w0 w' m (becomeL L o x) K := by
  obtain ⟨l, hl'⟩ : ∃ l, [x] = l := ⟨_, rfl⟩
  have hl : l.length ≤ 1000 := by rw [← hl']; simp
  have hl1 : l.length = 1 := by rw [← hl']; rfl
  rw [hl'] at hv
  have HLX := Lib.hid hl'
  have HL1 := Lib.hid hl1
  clear hl' hl1
  have a3 := ahead_Become ⟨m, 0, none⟩
  have a4 := meth_Become ⟨m, 0, none⟩
  have H0 := Lib.hid h
  obtain ⟨A, c, rfl, hlc, hcm, -⟩ := hv.form
  have HV := Lib.hid hv
  generalize hnl : l.length = nl at *
  have HNL := Lib.hid hnl
  clear h hv hnl
  go_enter Tryd.func47, Tryd.ntmps47
  go_wp2_with fail
  go_loopg [10, 25] nl (fun j v10 v25 wr => ∃ i : Nat, v25 = .int .i64 (i : Int) ∧ i ≤ nl ∧ nl - i ≤ j ∧ OwnInts wr w.heap.size v10 ((l.take i).map kN) ∧ Chg No w wr)
  case atStart => exact ⟨0, rfl, by omega, by omega, World.ownsRow_nil _ _ _ _, Chg.refl _ _⟩
  case round =>
    obtain ⟨i, rfl, i1, i2, own, cw⟩ := hrel
    obtain ⟨A3, c3, rfl⟩ := own.form
    have hlen : ((l.take i).map kN).length ≤ i := by simp; omega
    by_cases hi : i < nl
    · have t1 : decide ((i : Int) < (nl : Int)) = true := decide_eq_true (by omega)
      have t0 : (i : Int) < (nl : Int) := by omega
      obtain ⟨g, off, rfl, hg, hc, x64, -⟩ := (HV.out.keep cw (fun _ _ f => f)).at (i := i) (by rw [HNL.out]; exact hi)
      have hsn := kN_snoc (l := l) (i := i) (by rw [HNL.out]; exact hi)
      generalize l[i]?.getD 0 = x at *
      obtain ⟨A5, c5, w5, hr5, ho5, cg5⟩ := app_one own (by omega) cw.size (kN x) 36
      have cw5 : Chg No w w5 := cw.then cg5 (fun k hk hle => by omega)
      have HR := Lib.hid hr5
      have HC := Lib.hid (And.intro ho5 (And.intro cw5 hsn))
      clear own cw hr5 ho5 cg5 cw5 hsn
      generalize ((l.take i).map kN).length = q at *
      cases hb : numOk x with
      | true =>
        have hk : kN x = numV x := by unfold kN; rw [if_pos hb]
        rw [hk] at HR
        go_wp2_with (first
          | (go_at_call 35
             refine (Number_any x x64.1 x64.2 _).mono ?_
             rw [hb]
             rintro e' w2 ⟨rfl, rfl⟩)
          | (at_builtin; refine wpList_append_run rfl _ _ _ rfl rfl rfl HR.out ?_)
          | fail)
        go_roundg (nl - (i + 1))
        case measure => omega
        case rel => exact ⟨i + 1, by go_num, by omega, by omega, by rw [HC.out.2.2, hk]; rw [hk] at HC; exact HC.out.1, HC.out.2.1⟩
      | false =>
        have hk : kN x = -1 := by unfold kN; rw [if_neg (by simp [hb])]
        rw [hk] at HR
        go_wp2_with (first
          | (go_at_call 35
             refine (Number_any x x64.1 x64.2 _).mono ?_
             rw [hb]
             rintro e' w2 ⟨rfl, rfl⟩)
          | (at_builtin; refine wpList_append_run rfl _ _ _ rfl rfl rfl HR.out ?_)
          | fail)
        go_roundg (nl - (i + 1))
        case measure => omega
        case rel => exact ⟨i + 1, by go_num, by omega, by omega, by rw [HC.out.2.2, hk]; rw [hk] at HC; exact HC.out.1, HC.out.2.1⟩
    · obtain rfl : i = nl := by omega
      have t1 : decide ((i : Int) < (i : Int)) = false := decide_eq_false (by omega)
      rw [List.take_of_length_le (by rw [HNL.out]; exact Nat.le_refl _)] at own hlen ⊢
      clear hlen
      rw [show (l.map kN).length = i by rw [List.length_map, HNL.out]] at own
      have HK := Lib.hid (And.intro own cw)
      rw [show (l.map kN).length = i by rw [List.length_map, HNL.out]]
      have H := Lib.hid (H0.out.world cw)
      clear own cw
      obtain ⟨g, off, rfl, hg, hc, x64, -⟩ := (HV.out.keep HK.out.2 (fun _ _ f => f)).at (i := 0) (by rw [HNL.out, HL1.out]; omega)
      rw [← HLX.out] at hc
      simp only [List.getElem?_cons_zero, Option.getD_some, Nat.add_zero] at hc
      obtain rfl := HL1.out
      have e2 : ∀ v, Chg No wr v → v.cell? ⟨g, off, none⟩ = some (.int .i64 x) := fun v hv => (hv.cell hg (fun f => f)).trans hc
      go_wp2_with fail
      go_region_law (first
        | (go_simp; go_at_call 152
           refine (k_Become (H.out.world ((Chg.refl _ _).drew)) o x ho hx).mono ?_
           rintro e' w5 ⟨rfl, g5⟩)
        | fail)
      all_goals
        go_wp2_with fail
        go_ret2
        exact ⟨rfl, g5⟩

set_option maxRecDepth 100000 in
set_option maxHeartbeats 1000000 in
theorem k_obj73 (h : MemK w0 w m L K) (o x : Int) (ho : In64 o) (v : Value) (S : Nat → Prop) (hv : IntS w S v [x]) :
    Calls Tryd.prog 47 #[.iface 27 (.pointer (some ⟨m, 0, none⟩)), .int .i64 73, .int .i64 o, v] w fun e w' => e = .returned (.tuple #[.int .i64 (fetchV L o (kN x - 1)), .int .i64 (placeE L o 1 (kN x - 1))]) ∧ MemK w0 w' m L K := by
  obtain ⟨l, hl'⟩ : ∃ l, [x] = l := ⟨_, rfl⟩
  have hl : l.length ≤ 1000 := by rw [← hl']; simp
  have hl1 : l.length = 1 := by rw [← hl']; rfl
  rw [hl'] at hv
  have HLX := Lib.hid hl'
  have HL1 := Lib.hid hl1
  clear hl' hl1
  have a3 := ahead_FetchP ⟨m, 0, none⟩
  have H0 := Lib.hid h
  obtain ⟨A, c, rfl, hlc, hcm, -⟩ := hv.form
  have HV := Lib.hid hv
  generalize hnl : l.length = nl at *
  have HNL := Lib.hid hnl
  clear h hv hnl
  go_enter Tryd.func47, Tryd.ntmps47
  go_wp2_with fail
  go_loopg [10, 25] nl (fun j v10 v25 wr => ∃ i : Nat, v25 = .int .i64 (i : Int) ∧ i ≤ nl ∧ nl - i ≤ j ∧ OwnInts wr w.heap.size v10 ((l.take i).map kN) ∧ Chg No w wr)
  case atStart => exact ⟨0, rfl, by omega, by omega, World.ownsRow_nil _ _ _ _, Chg.refl _ _⟩
  case round =>
    obtain ⟨i, rfl, i1, i2, own, cw⟩ := hrel
    obtain ⟨A3, c3, rfl⟩ := own.form
    have hlen : ((l.take i).map kN).length ≤ i := by simp; omega
    by_cases hi : i < nl
    · have t1 : decide ((i : Int) < (nl : Int)) = true := decide_eq_true (by omega)
      have t0 : (i : Int) < (nl : Int) := by omega
      obtain ⟨g, off, rfl, hg, hc, x64, -⟩ := (HV.out.keep cw (fun _ _ f => f)).at (i := i) (by rw [HNL.out]; exact hi)
      have hsn := kN_snoc (l := l) (i := i) (by rw [HNL.out]; exact hi)
      generalize l[i]?.getD 0 = x at *
      obtain ⟨A5, c5, w5, hr5, ho5, cg5⟩ := app_one own (by omega) cw.size (kN x) 36
      have cw5 : Chg No w w5 := cw.then cg5 (fun k hk hle => by omega)
      have HR := Lib.hid hr5
      have HC := Lib.hid (And.intro ho5 (And.intro cw5 hsn))
      clear own cw hr5 ho5 cg5 cw5 hsn
      generalize ((l.take i).map kN).length = q at *
      cases hb : numOk x with
      | true =>
        have hk : kN x = numV x := by unfold kN; rw [if_pos hb]
        rw [hk] at HR
        go_wp2_with (first
          | (go_at_call 35
             refine (Number_any x x64.1 x64.2 _).mono ?_
             rw [hb]
             rintro e' w2 ⟨rfl, rfl⟩)
          | (at_builtin; refine wpList_append_run rfl _ _ _ rfl rfl rfl HR.out ?_)
          | fail)
        go_roundg (nl - (i + 1))
        case measure => omega
        case rel => exact ⟨i + 1, by go_num, by omega, by omega, by rw [HC.out.2.2, hk]; rw [hk] at HC; exact HC.out.1, HC.out.2.1⟩
      | false =>
        have hk : kN x = -1 := by unfold kN; rw [if_neg (by simp [hb])]
        rw [hk] at HR
        go_wp2_with (first
          | (go_at_call 35
             refine (Number_any x x64.1 x64.2 _).mono ?_
             rw [hb]
             rintro e' w2 ⟨rfl, rfl⟩)
          | (at_builtin; refine wpList_append_run rfl _ _ _ rfl rfl rfl HR.out ?_)
          | fail)
        go_roundg (nl - (i + 1))
        case measure => omega
        case rel => exact ⟨i + 1, by go_num, by omega, by omega, by rw [HC.out.2.2, hk]; rw [hk] at HC; exact HC.out.1, HC.out.2.1⟩
    · obtain rfl : i = nl := by omega
      have t1 : decide ((i : Int) < (i : Int)) = false := decide_eq_false (by omega)
      rw [List.take_of_length_le (by rw [HNL.out]; exact Nat.le_refl _)] at own hlen ⊢
      clear hlen
      rw [show (l.map kN).length = i by rw [List.length_map, HNL.out]] at own
      have HK := Lib.hid (And.intro own cw)
      rw [show (l.map kN).length = i by rw [List.length_map, HNL.out]]
      have H := Lib.hid (H0.out.world cw)
      clear own cw
      obtain ⟨gk, offk, rfl, hgk, hck, k64, -⟩ := (IntS.of_own HK.out.1 (by intro x hx; obtain ⟨y, -, rfl⟩ := List.mem_map.1 hx; exact kN64 y)).at (i := 0) (by rw [List.length_map, HNL.out, HL1.out]; omega)
      rw [← HLX.out] at hck k64
      simp only [List.map_cons, List.getElem?_cons_zero, Option.getD_some, Nat.add_zero] at hck k64
      have e3 : ∀ v, Chg No wr v → v.cell? ⟨gk, offk, none⟩ = some (.int .i64 (kN x)) := fun v hv => (hv.cell hgk (fun f => f)).trans hck
      have hkb := kN_bd x
      have wk : IntKind.i64.wrap (kN x - 1) = kN x - 1 := IntWalk.i64_in _ (by omega)
      obtain rfl := HL1.out
      go_wp2_with fail
      refine rem_start (by kernel_rfl) (by kernel_rfl) ?_
      refine rem_quiet 9 (C := (Chg No wr)) (by kernel_rfl) (by simp only [List.toList_toArray, List.drop_succ_cons, List.drop_zero, List.take_succ_cons, List.take_zero, Nat.reduceSub, Nat.reduceAdd]; rfl) ?_ ?_
      · exact (Chg.refl _ _).drew
      repeat
        refine q_step (fun K hK => ?_)
        go_simp
        first
          | ((with_reducible refine hK _ ?_); clear hK K)
          | (refine (if_neg (by simp [undef])).mpr ?_; (with_reducible refine hK _ ?_); clear hK K)
          | (apply Exists.intro
             with_reducible refine ⟨fun v hv => ?_, hK _ ?_⟩
             · first
                 | with_reducible exact rfl
                 | with_reducible exact ⟨rfl, rfl⟩
                 | (go_simp
                    first
                      | done
                      | with_reducible exact rfl
                      | with_reducible exact ⟨rfl, rfl⟩
                      | fail)
             clear hK K)
      refine q_nil ?_
      intro V hV
      refine rem_one (by kernel_rfl) (by kernel_rfl) rfl (by kernel_rfl) (fun K hK => ?_)
      go_wp2_with (go_at_call 21; refine (k_Fetch (H.out.world hV) o (kN x - 1) ho).mono ?_; rintro e w3 ⟨rfl, g5⟩)
      refine rem_quiet 14 (C := (fun v => v = w3)) (by kernel_rfl) (by simp only [List.toList_toArray, List.drop_succ_cons, List.drop_zero, List.take_succ_cons, List.take_zero, Nat.reduceSub, Nat.reduceAdd]; rfl) ?_ ?_
      · rfl
      repeat
        refine q_step (fun K hK => ?_)
        go_simp
        first
          | ((with_reducible refine hK _ ?_); clear hK K)
          | (refine (if_neg (by simp [undef])).mpr ?_; (with_reducible refine hK _ ?_); clear hK K)
          | (apply Exists.intro
             with_reducible refine ⟨fun v hv => ?_, hK _ ?_⟩
             · first
                 | with_reducible exact rfl
                 | with_reducible exact ⟨rfl, rfl⟩
                 | (go_simp
                    first
                      | done
                      | with_reducible exact rfl
                      | with_reducible exact ⟨rfl, rfl⟩
                      | fail)
             clear hK K)
      refine q_nil ?_
      intro V2 hV2
      subst hV2
      refine rem_end (by kernel_rfl) ?_
      go_wp2_with fail
      go_ret2
      exact ⟨rfl, g5⟩

set_option maxRecDepth 100000 in
set_option maxHeartbeats 1000000 in
theorem k_obj74 (h : MemK w0 w m L K) (o x y : Int) (ho : In64 o) (hy : In64 y) (v : Value) (S : Nat → Prop) (hS : ∀ b, S b → b < w0.heap.size) (hv : IntS w S v [x, y]) :
    Calls Tryd.prog 47 #[.iface 27 (.pointer (some ⟨m, 0, none⟩)), .int .i64 74, .int .i64 o, v] w fun e w' => e = .returned (.tuple #[.int .i64 y, .int .i64 (setE L o (kN x - 1) y)]) ∧ MemK w0 w' m (setL L o (kN x - 1) y) K := by
  obtain ⟨l, hl'⟩ : ∃ l, [x, y] = l := ⟨_, rfl⟩
  have hl : l.length ≤ 1000 := by rw [← hl']; simp
  have hl1 : l.length = 2 := by rw [← hl']; rfl
  rw [hl'] at hv
  have HLX := Lib.hid hl'
  have HL1 := Lib.hid hl1
  clear hl' hl1
  have a3 := ahead_SetP ⟨m, 0, none⟩
  have a4 := meth_SetP ⟨m, 0, none⟩
  have H0 := Lib.hid h
  obtain ⟨A, c, rfl, hlc, hcm, -⟩ := hv.form
  have HV := Lib.hid hv
  generalize hnl : l.length = nl at *
  have HNL := Lib.hid hnl
  clear h hv hnl
  go_enter Tryd.func47, Tryd.ntmps47
  go_wp2_with fail
  go_loopg [10, 25] nl (fun j v10 v25 wr => ∃ i : Nat, v25 = .int .i64 (i : Int) ∧ i ≤ nl ∧ nl - i ≤ j ∧ OwnInts wr w.heap.size v10 ((l.take i).map kN) ∧ Chg No w wr)
  case atStart => exact ⟨0, rfl, by omega, by omega, World.ownsRow_nil _ _ _ _, Chg.refl _ _⟩
  case round =>
    obtain ⟨i, rfl, i1, i2, own, cw⟩ := hrel
    obtain ⟨A3, c3, rfl⟩ := own.form
    have hlen : ((l.take i).map kN).length ≤ i := by simp; omega
    by_cases hi : i < nl
    · have t1 : decide ((i : Int) < (nl : Int)) = true := decide_eq_true (by omega)
      have t0 : (i : Int) < (nl : Int) := by omega
      obtain ⟨g, off, rfl, hg, hc, x64, -⟩ := (HV.out.keep cw (fun _ _ f => f)).at (i := i) (by rw [HNL.out]; exact hi)
      have hsn := kN_snoc (l := l) (i := i) (by rw [HNL.out]; exact hi)
      generalize l[i]?.getD 0 = x at *
      obtain ⟨A5, c5, w5, hr5, ho5, cg5⟩ := app_one own (by omega) cw.size (kN x) 36
      have cw5 : Chg No w w5 := cw.then cg5 (fun k hk hle => by omega)
      have HR := Lib.hid hr5
      have HC := Lib.hid (And.intro ho5 (And.intro cw5 hsn))
      clear own cw hr5 ho5 cg5 cw5 hsn
      generalize ((l.take i).map kN).length = q at *
      cases hb : numOk x with
      | true =>
        have hk : kN x = numV x := by unfold kN; rw [if_pos hb]
        rw [hk] at HR
        go_wp2_with (first
          | (go_at_call 35
             refine (Number_any x x64.1 x64.2 _).mono ?_
             rw [hb]
             rintro e' w2 ⟨rfl, rfl⟩)
          | (at_builtin; refine wpList_append_run rfl _ _ _ rfl rfl rfl HR.out ?_)
          | fail)
        go_roundg (nl - (i + 1))
        case measure => omega
        case rel => exact ⟨i + 1, by go_num, by omega, by omega, by rw [HC.out.2.2, hk]; rw [hk] at HC; exact HC.out.1, HC.out.2.1⟩
      | false =>
        have hk : kN x = -1 := by unfold kN; rw [if_neg (by simp [hb])]
        rw [hk] at HR
        go_wp2_with (first
          | (go_at_call 35
             refine (Number_any x x64.1 x64.2 _).mono ?_
             rw [hb]
             rintro e' w2 ⟨rfl, rfl⟩)
          | (at_builtin; refine wpList_append_run rfl _ _ _ rfl rfl rfl HR.out ?_)
          | fail)
        go_roundg (nl - (i + 1))
        case measure => omega
        case rel => exact ⟨i + 1, by go_num, by omega, by omega, by rw [HC.out.2.2, hk]; rw [hk] at HC; exact HC.out.1, HC.out.2.1⟩
    · obtain rfl : i = nl := by omega
      have t1 : decide ((i : Int) < (i : Int)) = false := decide_eq_false (by omega)
      rw [List.take_of_length_le (by rw [HNL.out]; exact Nat.le_refl _)] at own hlen ⊢
      clear hlen
      rw [show (l.map kN).length = i by rw [List.length_map, HNL.out]] at own
      have HK := Lib.hid (And.intro own cw)
      rw [show (l.map kN).length = i by rw [List.length_map, HNL.out]]
      have H := Lib.hid (H0.out.world cw)
      clear own cw
      obtain ⟨F, hf, hc0, hF, hK⟩ := H0.out
      have hfl : ∀ b, F b → b < w.heap.size := fun b hb => hf.lt hb
      obtain ⟨gk, offk, rfl, hgk, hck, k64, hsk⟩ := (IntS.of_own HK.out.1 (by intro x hx; obtain ⟨y, -, rfl⟩ := List.mem_map.1 hx; exact kN64 y)).atS (i := 0) (by rw [List.length_map, HNL.out, HL1.out]; omega)
      rw [← HLX.out] at hck k64
      simp only [List.map_cons, List.getElem?_cons_zero, Option.getD_some, Nat.add_zero] at hck k64
      have hgk2 : w.heap.size ≤ gk := own_ge HK.out.1 rfl
      have e3 : ∀ v, Chg F wr v → v.cell? ⟨gk, offk, none⟩ = some (.int .i64 (kN x)) := fun v hv => (hv.cell hgk (fun hh => by have h1 : gk < w.heap.size := hfl _ hh; omega)).trans hck
      have hkb := kN_bd x
      have wk : IntKind.i64.wrap (kN x - 1) = kN x - 1 := IntWalk.i64_in _ (by omega)
      obtain ⟨g, off, rfl, hg, hc, x64, hsg⟩ := (HV.out.keep HK.out.2 (fun _ _ f => f)).atS (i := 1) (by rw [HNL.out, HL1.out]; omega)
      rw [← HLX.out] at hc
      simp only [List.getElem?_cons_zero, List.getElem?_cons_succ, Option.getD_some] at hc
      have e2 : ∀ v, Chg F wr v → v.cell? ⟨g, off + 1, none⟩ = some (.int .i64 y) := fun v hv => (hv.cell hg (fun hh => by have h1 : w0.heap.size ≤ g := hF _ hh; have h2 := hS _ hsg; omega)).trans hc
      have HKS := Lib.hid (k_SetF hf hc0 hF hK (HK.out.2.drew) o (kN x - 1) y ho hy)
      obtain rfl := HL1.out
      clear hf hc0 hF hK hfl hck hc x64 k64 hgk hg hsg
      go_wp2_with fail
      go_region_held3 (fun w' => Chg F wr w') (repeat (with_reducible first | assumption | exact Chg.refl _ _ | refine Chg.drew ?_ | refine Chg.alloc ?_ _))
        (first
          | (go_at_call 157
             refine HKS.out.mono ?_
             rintro e' w5 ⟨⟨rfl, g5⟩, cF⟩
             have cG : Chg F wr w5 := ((Chg.refl _ _).drew).trans cF
             clear cF)
          | fail)
      all_goals
        go_wp2_with fail
        go_ret2
        exact ⟨rfl, g5⟩

set_option maxRecDepth 100000 in
set_option maxHeartbeats 1000000 in
theorem k_obj75 (h : MemK w0 w m L K) (o : Int) (ho : In64 o) (l : List Int) (v : Value) (S : Nat → Prop) (hv : IntS w S v l) (hl : l.length ≤ 1000) :
    Calls Tryd.prog 47 #[.iface 27 (.pointer (some ⟨m, 0, none⟩)), .int .i64 75, .int .i64 o, v] w fun e w' => e = .returned (.tuple #[.int .i64 (if namedOk o = true then smallV (namedV o) else 0), .int .i64 (if namedOk o = true then smallE (namedV o) else 4)]) ∧ MemK w0 w' m L K := by
  have hnb : 0 ≤ namedV o ∧ namedV o ≤ 1073741823 := by unfold namedV; split <;> omega
  cases hno : namedOk o with
  | true =>
    rw [if_pos rfl, if_pos rfl]
    have HNO := Lib.hid hno
    clear hno
    have H0 := Lib.hid h
    obtain ⟨A, c, rfl, hlc, hcm, -⟩ := hv.form
    have HV := Lib.hid hv
    generalize hnl : l.length = nl at *
    have HNL := Lib.hid hnl
    clear h hv hnl
    go_enter Tryd.func47, Tryd.ntmps47
    go_wp2_with fail
    go_loopg [10, 25] nl (fun j v10 v25 wr => ∃ i : Nat, v25 = .int .i64 (i : Int) ∧ i ≤ nl ∧ nl - i ≤ j ∧ OwnInts wr w.heap.size v10 ((l.take i).map kN) ∧ Chg No w wr)
    case atStart => exact ⟨0, rfl, by omega, by omega, World.ownsRow_nil _ _ _ _, Chg.refl _ _⟩
    case round =>
      obtain ⟨i, rfl, i1, i2, own, cw⟩ := hrel
      obtain ⟨A3, c3, rfl⟩ := own.form
      have hlen : ((l.take i).map kN).length ≤ i := by simp; omega
      by_cases hi : i < nl
      · have t1 : decide ((i : Int) < (nl : Int)) = true := decide_eq_true (by omega)
        have t0 : (i : Int) < (nl : Int) := by omega
        obtain ⟨g, off, rfl, hg, hc, x64, -⟩ := (HV.out.keep cw (fun _ _ f => f)).at (i := i) (by rw [HNL.out]; exact hi)
        have hsn := kN_snoc (l := l) (i := i) (by rw [HNL.out]; exact hi)
        generalize l[i]?.getD 0 = x at *
        obtain ⟨A5, c5, w5, hr5, ho5, cg5⟩ := app_one own (by omega) cw.size (kN x) 36
        have cw5 : Chg No w w5 := cw.then cg5 (fun k hk hle => by omega)
        have HR := Lib.hid hr5
        have HC := Lib.hid (And.intro ho5 (And.intro cw5 hsn))
        clear own cw hr5 ho5 cg5 cw5 hsn
        generalize ((l.take i).map kN).length = q at *
        cases hb : numOk x with
        | true =>
          have hk : kN x = numV x := by unfold kN; rw [if_pos hb]
          rw [hk] at HR
          go_wp2_with (first
            | (go_at_call 35
               refine (Number_any x x64.1 x64.2 _).mono ?_
               rw [hb]
               rintro e' w2 ⟨rfl, rfl⟩)
            | (at_builtin; refine wpList_append_run rfl _ _ _ rfl rfl rfl HR.out ?_)
            | fail)
          go_roundg (nl - (i + 1))
          case measure => omega
          case rel => exact ⟨i + 1, by go_num, by omega, by omega, by rw [HC.out.2.2, hk]; rw [hk] at HC; exact HC.out.1, HC.out.2.1⟩
        | false =>
          have hk : kN x = -1 := by unfold kN; rw [if_neg (by simp [hb])]
          rw [hk] at HR
          go_wp2_with (first
            | (go_at_call 35
               refine (Number_any x x64.1 x64.2 _).mono ?_
               rw [hb]
               rintro e' w2 ⟨rfl, rfl⟩)
            | (at_builtin; refine wpList_append_run rfl _ _ _ rfl rfl rfl HR.out ?_)
            | fail)
          go_roundg (nl - (i + 1))
          case measure => omega
          case rel => exact ⟨i + 1, by go_num, by omega, by omega, by rw [HC.out.2.2, hk]; rw [hk] at HC; exact HC.out.1, HC.out.2.1⟩
      · obtain rfl : i = nl := by omega
        have t1 : decide ((i : Int) < (i : Int)) = false := decide_eq_false (by omega)
        rw [List.take_of_length_le (by rw [HNL.out]; exact Nat.le_refl _)] at own hlen ⊢
        clear hlen
        rw [show (l.map kN).length = i by rw [List.length_map, HNL.out]] at own
        have HK := Lib.hid (And.intro own cw)
        rw [show (l.map kN).length = i by rw [List.length_map, HNL.out]]
        have H := Lib.hid (H0.out.world cw)
        clear own cw
        go_wp2_with (first
          | (go_at_call 29
             refine (Named_any o ho.1 ho.2 _).mono ?_
             rw [HNO.out]
             rintro e' w5 ⟨rfl, rfl⟩)
          | (go_at_call 69
             refine (Small_any (namedV o) (by omega) (by omega) _).mono ?_
             rintro e' w6 ⟨rfl, rfl⟩)
          | fail)
        go_ret2
        exact ⟨rfl, H.out⟩
  | false =>
    rw [if_neg (by simp), if_neg (by simp)]
    have HNO := Lib.hid hno
    clear hno
    have H0 := Lib.hid h
    obtain ⟨A, c, rfl, hlc, hcm, -⟩ := hv.form
    have HV := Lib.hid hv
    generalize hnl : l.length = nl at *
    have HNL := Lib.hid hnl
    clear h hv hnl
    go_enter Tryd.func47, Tryd.ntmps47
    go_wp2_with fail
    go_loopg [10, 25] nl (fun j v10 v25 wr => ∃ i : Nat, v25 = .int .i64 (i : Int) ∧ i ≤ nl ∧ nl - i ≤ j ∧ OwnInts wr w.heap.size v10 ((l.take i).map kN) ∧ Chg No w wr)
    case atStart => exact ⟨0, rfl, by omega, by omega, World.ownsRow_nil _ _ _ _, Chg.refl _ _⟩
    case round =>
      obtain ⟨i, rfl, i1, i2, own, cw⟩ := hrel
      obtain ⟨A3, c3, rfl⟩ := own.form
      have hlen : ((l.take i).map kN).length ≤ i := by simp; omega
      by_cases hi : i < nl
      · have t1 : decide ((i : Int) < (nl : Int)) = true := decide_eq_true (by omega)
        have t0 : (i : Int) < (nl : Int) := by omega
        obtain ⟨g, off, rfl, hg, hc, x64, -⟩ := (HV.out.keep cw (fun _ _ f => f)).at (i := i) (by rw [HNL.out]; exact hi)
        have hsn := kN_snoc (l := l) (i := i) (by rw [HNL.out]; exact hi)
        generalize l[i]?.getD 0 = x at *
        obtain ⟨A5, c5, w5, hr5, ho5, cg5⟩ := app_one own (by omega) cw.size (kN x) 36
        have cw5 : Chg No w w5 := cw.then cg5 (fun k hk hle => by omega)
        have HR := Lib.hid hr5
        have HC := Lib.hid (And.intro ho5 (And.intro cw5 hsn))
        clear own cw hr5 ho5 cg5 cw5 hsn
        generalize ((l.take i).map kN).length = q at *
        cases hb : numOk x with
        | true =>
          have hk : kN x = numV x := by unfold kN; rw [if_pos hb]
          rw [hk] at HR
          go_wp2_with (first
            | (go_at_call 35
               refine (Number_any x x64.1 x64.2 _).mono ?_
               rw [hb]
               rintro e' w2 ⟨rfl, rfl⟩)
            | (at_builtin; refine wpList_append_run rfl _ _ _ rfl rfl rfl HR.out ?_)
            | fail)
          go_roundg (nl - (i + 1))
          case measure => omega
          case rel => exact ⟨i + 1, by go_num, by omega, by omega, by rw [HC.out.2.2, hk]; rw [hk] at HC; exact HC.out.1, HC.out.2.1⟩
        | false =>
          have hk : kN x = -1 := by unfold kN; rw [if_neg (by simp [hb])]
          rw [hk] at HR
          go_wp2_with (first
            | (go_at_call 35
               refine (Number_any x x64.1 x64.2 _).mono ?_
               rw [hb]
               rintro e' w2 ⟨rfl, rfl⟩)
            | (at_builtin; refine wpList_append_run rfl _ _ _ rfl rfl rfl HR.out ?_)
            | fail)
          go_roundg (nl - (i + 1))
          case measure => omega
          case rel => exact ⟨i + 1, by go_num, by omega, by omega, by rw [HC.out.2.2, hk]; rw [hk] at HC; exact HC.out.1, HC.out.2.1⟩
      · obtain rfl : i = nl := by omega
        have t1 : decide ((i : Int) < (i : Int)) = false := decide_eq_false (by omega)
        rw [List.take_of_length_le (by rw [HNL.out]; exact Nat.le_refl _)] at own hlen ⊢
        clear hlen
        rw [show (l.map kN).length = i by rw [List.length_map, HNL.out]] at own
        have HK := Lib.hid (And.intro own cw)
        rw [show (l.map kN).length = i by rw [List.length_map, HNL.out]]
        have H := Lib.hid (H0.out.world cw)
        clear own cw
        go_wp2_with (first
          | (go_at_call 29
             refine (Named_any o ho.1 ho.2 _).mono ?_
             rw [HNO.out]
             rintro e' w5 ⟨rfl, rfl⟩)
          | fail)
        go_ret2
        exact ⟨rfl, H.out⟩

set_option maxRecDepth 100000 in
set_option maxHeartbeats 1000000 in
theorem k_obj76 (h : MemK w0 w m L K) (o : Int) (ho : In64 o) (l : List Int) (v : Value) (S : Nat → Prop) (hv : IntS w S v l) (hl : l.length ≤ 1000) :
    Calls Tryd.prog 47 #[.iface 27 (.pointer (some ⟨m, 0, none⟩)), .int .i64 76, .int .i64 o, v] w fun e w' => e = .returned (.tuple #[.int .i64 (if nextOK L o = true then nextN L o else 2), .int .i64 0]) ∧ MemK w0 w' m L K := by
  cases hno : nextOK L o with
  | true =>
    rw [if_pos rfl]
    have HNO := Lib.hid hno
    clear hno
    have H0 := Lib.hid h
    obtain ⟨A, c, rfl, hlc, hcm, -⟩ := hv.form
    have HV := Lib.hid hv
    generalize hnl : l.length = nl at *
    have HNL := Lib.hid hnl
    clear h hv hnl
    go_enter Tryd.func47, Tryd.ntmps47
    go_wp2_with fail
    go_loopg [10, 25] nl (fun j v10 v25 wr => ∃ i : Nat, v25 = .int .i64 (i : Int) ∧ i ≤ nl ∧ nl - i ≤ j ∧ OwnInts wr w.heap.size v10 ((l.take i).map kN) ∧ Chg No w wr)
    case atStart => exact ⟨0, rfl, by omega, by omega, World.ownsRow_nil _ _ _ _, Chg.refl _ _⟩
    case round =>
      obtain ⟨i, rfl, i1, i2, own, cw⟩ := hrel
      obtain ⟨A3, c3, rfl⟩ := own.form
      have hlen : ((l.take i).map kN).length ≤ i := by simp; omega
      by_cases hi : i < nl
      · have t1 : decide ((i : Int) < (nl : Int)) = true := decide_eq_true (by omega)
        have t0 : (i : Int) < (nl : Int) := by omega
        obtain ⟨g, off, rfl, hg, hc, x64, -⟩ := (HV.out.keep cw (fun _ _ f => f)).at (i := i) (by rw [HNL.out]; exact hi)
        have hsn := kN_snoc (l := l) (i := i) (by rw [HNL.out]; exact hi)
        generalize l[i]?.getD 0 = x at *
        obtain ⟨A5, c5, w5, hr5, ho5, cg5⟩ := app_one own (by omega) cw.size (kN x) 36
        have cw5 : Chg No w w5 := cw.then cg5 (fun k hk hle => by omega)
        have HR := Lib.hid hr5
        have HC := Lib.hid (And.intro ho5 (And.intro cw5 hsn))
        clear own cw hr5 ho5 cg5 cw5 hsn
        generalize ((l.take i).map kN).length = q at *
        cases hb : numOk x with
        | true =>
          have hk : kN x = numV x := by unfold kN; rw [if_pos hb]
          rw [hk] at HR
          go_wp2_with (first
            | (go_at_call 35
               refine (Number_any x x64.1 x64.2 _).mono ?_
               rw [hb]
               rintro e' w2 ⟨rfl, rfl⟩)
            | (at_builtin; refine wpList_append_run rfl _ _ _ rfl rfl rfl HR.out ?_)
            | fail)
          go_roundg (nl - (i + 1))
          case measure => omega
          case rel => exact ⟨i + 1, by go_num, by omega, by omega, by rw [HC.out.2.2, hk]; rw [hk] at HC; exact HC.out.1, HC.out.2.1⟩
        | false =>
          have hk : kN x = -1 := by unfold kN; rw [if_neg (by simp [hb])]
          rw [hk] at HR
          go_wp2_with (first
            | (go_at_call 35
               refine (Number_any x x64.1 x64.2 _).mono ?_
               rw [hb]
               rintro e' w2 ⟨rfl, rfl⟩)
            | (at_builtin; refine wpList_append_run rfl _ _ _ rfl rfl rfl HR.out ?_)
            | fail)
          go_roundg (nl - (i + 1))
          case measure => omega
          case rel => exact ⟨i + 1, by go_num, by omega, by omega, by rw [HC.out.2.2, hk]; rw [hk] at HC; exact HC.out.1, HC.out.2.1⟩
      · obtain rfl : i = nl := by omega
        have t1 : decide ((i : Int) < (i : Int)) = false := decide_eq_false (by omega)
        rw [List.take_of_length_le (by rw [HNL.out]; exact Nat.le_refl _)] at own hlen ⊢
        clear hlen
        rw [show (l.map kN).length = i by rw [List.length_map, HNL.out]] at own
        have HK := Lib.hid (And.intro own cw)
        rw [show (l.map kN).length = i by rw [List.length_map, HNL.out]]
        have H := Lib.hid (H0.out.world cw)
        clear own cw
        go_wp2_with (first
          | (go_at_call 155
             refine (k_Next H.out o ho).mono ?_
             rw [HNO.out]
             rintro e' w5 ⟨rfl, g5, -⟩)
          | fail)
        go_ret2
        exact ⟨rfl, g5⟩
  | false =>
    rw [if_neg (by simp)]
    have HNO := Lib.hid hno
    clear hno
    have H0 := Lib.hid h
    obtain ⟨A, c, rfl, hlc, hcm, -⟩ := hv.form
    have HV := Lib.hid hv
    generalize hnl : l.length = nl at *
    have HNL := Lib.hid hnl
    clear h hv hnl
    go_enter Tryd.func47, Tryd.ntmps47
    go_wp2_with fail
    go_loopg [10, 25] nl (fun j v10 v25 wr => ∃ i : Nat, v25 = .int .i64 (i : Int) ∧ i ≤ nl ∧ nl - i ≤ j ∧ OwnInts wr w.heap.size v10 ((l.take i).map kN) ∧ Chg No w wr)
    case atStart => exact ⟨0, rfl, by omega, by omega, World.ownsRow_nil _ _ _ _, Chg.refl _ _⟩
    case round =>
      obtain ⟨i, rfl, i1, i2, own, cw⟩ := hrel
      obtain ⟨A3, c3, rfl⟩ := own.form
      have hlen : ((l.take i).map kN).length ≤ i := by simp; omega
      by_cases hi : i < nl
      · have t1 : decide ((i : Int) < (nl : Int)) = true := decide_eq_true (by omega)
        have t0 : (i : Int) < (nl : Int) := by omega
        obtain ⟨g, off, rfl, hg, hc, x64, -⟩ := (HV.out.keep cw (fun _ _ f => f)).at (i := i) (by rw [HNL.out]; exact hi)
        have hsn := kN_snoc (l := l) (i := i) (by rw [HNL.out]; exact hi)
        generalize l[i]?.getD 0 = x at *
        obtain ⟨A5, c5, w5, hr5, ho5, cg5⟩ := app_one own (by omega) cw.size (kN x) 36
        have cw5 : Chg No w w5 := cw.then cg5 (fun k hk hle => by omega)
        have HR := Lib.hid hr5
        have HC := Lib.hid (And.intro ho5 (And.intro cw5 hsn))
        clear own cw hr5 ho5 cg5 cw5 hsn
        generalize ((l.take i).map kN).length = q at *
        cases hb : numOk x with
        | true =>
          have hk : kN x = numV x := by unfold kN; rw [if_pos hb]
          rw [hk] at HR
          go_wp2_with (first
            | (go_at_call 35
               refine (Number_any x x64.1 x64.2 _).mono ?_
               rw [hb]
               rintro e' w2 ⟨rfl, rfl⟩)
            | (at_builtin; refine wpList_append_run rfl _ _ _ rfl rfl rfl HR.out ?_)
            | fail)
          go_roundg (nl - (i + 1))
          case measure => omega
          case rel => exact ⟨i + 1, by go_num, by omega, by omega, by rw [HC.out.2.2, hk]; rw [hk] at HC; exact HC.out.1, HC.out.2.1⟩
        | false =>
          have hk : kN x = -1 := by unfold kN; rw [if_neg (by simp [hb])]
          rw [hk] at HR
          go_wp2_with (first
            | (go_at_call 35
               refine (Number_any x x64.1 x64.2 _).mono ?_
               rw [hb]
               rintro e' w2 ⟨rfl, rfl⟩)
            | (at_builtin; refine wpList_append_run rfl _ _ _ rfl rfl rfl HR.out ?_)
            | fail)
          go_roundg (nl - (i + 1))
          case measure => omega
          case rel => exact ⟨i + 1, by go_num, by omega, by omega, by rw [HC.out.2.2, hk]; rw [hk] at HC; exact HC.out.1, HC.out.2.1⟩
      · obtain rfl : i = nl := by omega
        have t1 : decide ((i : Int) < (i : Int)) = false := decide_eq_false (by omega)
        rw [List.take_of_length_le (by rw [HNL.out]; exact Nat.le_refl _)] at own hlen ⊢
        clear hlen
        rw [show (l.map kN).length = i by rw [List.length_map, HNL.out]] at own
        have HK := Lib.hid (And.intro own cw)
        rw [show (l.map kN).length = i by rw [List.length_map, HNL.out]]
        have H := Lib.hid (H0.out.world cw)
        clear own cw
        go_wp2_with (first
          | (go_at_call 155
             refine (k_Next H.out o ho).mono ?_
             rw [HNO.out]
             rintro e' w5 ⟨rfl, g5, -⟩)
          | fail)
        go_ret2
        exact ⟨rfl, g5⟩

set_option maxRecDepth 100000 in
set_option maxHeartbeats 1000000 in
theorem k_obj110 (h : MemK w0 w m L K) (o x : Int) (ho : In64 o) (v : Value) (S : Nat → Prop) (hv : IntS w S v [x]) :
    Calls Tryd.prog 47 #[.iface 27 (.pointer (some ⟨m, 0, none⟩)), .int .i64 110, .int .i64 o, v] w fun e w' => e = .returned (.tuple #[.int .i64 (tr (o == x)), .int .i64 0]) ∧ MemK w0 w' m L K := by
  obtain ⟨l, hl'⟩ : ∃ l, [x] = l := ⟨_, rfl⟩
  have hl : l.length ≤ 1000 := by rw [← hl']; simp
  have hl1 : l.length = 1 := by rw [← hl']; rfl
  rw [hl'] at hv
  have HLX := Lib.hid hl'
  have HL1 := Lib.hid hl1
  clear hl' hl1
  have H0 := Lib.hid h
  obtain ⟨A, c, rfl, hlc, hcm, -⟩ := hv.form
  have HV := Lib.hid hv
  generalize hnl : l.length = nl at *
  have HNL := Lib.hid hnl
  clear h hv hnl
  go_enter Tryd.func47, Tryd.ntmps47
  go_wp2_with fail
  go_loopg [10, 25] nl (fun j v10 v25 wr => ∃ i : Nat, v25 = .int .i64 (i : Int) ∧ i ≤ nl ∧ nl - i ≤ j ∧ OwnInts wr w.heap.size v10 ((l.take i).map kN) ∧ Chg No w wr)
  case atStart => exact ⟨0, rfl, by omega, by omega, World.ownsRow_nil _ _ _ _, Chg.refl _ _⟩
  case round =>
    obtain ⟨i, rfl, i1, i2, own, cw⟩ := hrel
    obtain ⟨A3, c3, rfl⟩ := own.form
    have hlen : ((l.take i).map kN).length ≤ i := by simp; omega
    by_cases hi : i < nl
    · have t1 : decide ((i : Int) < (nl : Int)) = true := decide_eq_true (by omega)
      have t0 : (i : Int) < (nl : Int) := by omega
      obtain ⟨g, off, rfl, hg, hc, x64, -⟩ := (HV.out.keep cw (fun _ _ f => f)).at (i := i) (by rw [HNL.out]; exact hi)
      have hsn := kN_snoc (l := l) (i := i) (by rw [HNL.out]; exact hi)
      generalize l[i]?.getD 0 = x at *
      obtain ⟨A5, c5, w5, hr5, ho5, cg5⟩ := app_one own (by omega) cw.size (kN x) 36
      have cw5 : Chg No w w5 := cw.then cg5 (fun k hk hle => by omega)
      have HR := Lib.hid hr5
      have HC := Lib.hid (And.intro ho5 (And.intro cw5 hsn))
      clear own cw hr5 ho5 cg5 cw5 hsn
      generalize ((l.take i).map kN).length = q at *
      cases hb : numOk x with
      | true =>
        have hk : kN x = numV x := by unfold kN; rw [if_pos hb]
        rw [hk] at HR
        go_wp2_with (first
          | (go_at_call 35
             refine (Number_any x x64.1 x64.2 _).mono ?_
             rw [hb]
             rintro e' w2 ⟨rfl, rfl⟩)
          | (at_builtin; refine wpList_append_run rfl _ _ _ rfl rfl rfl HR.out ?_)
          | fail)
        go_roundg (nl - (i + 1))
        case measure => omega
        case rel => exact ⟨i + 1, by go_num, by omega, by omega, by rw [HC.out.2.2, hk]; rw [hk] at HC; exact HC.out.1, HC.out.2.1⟩
      | false =>
        have hk : kN x = -1 := by unfold kN; rw [if_neg (by simp [hb])]
        rw [hk] at HR
        go_wp2_with (first
          | (go_at_call 35
             refine (Number_any x x64.1 x64.2 _).mono ?_
             rw [hb]
             rintro e' w2 ⟨rfl, rfl⟩)
          | (at_builtin; refine wpList_append_run rfl _ _ _ rfl rfl rfl HR.out ?_)
          | fail)
        go_roundg (nl - (i + 1))
        case measure => omega
        case rel => exact ⟨i + 1, by go_num, by omega, by omega, by rw [HC.out.2.2, hk]; rw [hk] at HC; exact HC.out.1, HC.out.2.1⟩
    · obtain rfl : i = nl := by omega
      have t1 : decide ((i : Int) < (i : Int)) = false := decide_eq_false (by omega)
      rw [List.take_of_length_le (by rw [HNL.out]; exact Nat.le_refl _)] at own hlen ⊢
      clear hlen
      rw [show (l.map kN).length = i by rw [List.length_map, HNL.out]] at own
      have HK := Lib.hid (And.intro own cw)
      rw [show (l.map kN).length = i by rw [List.length_map, HNL.out]]
      have H := Lib.hid (H0.out.world cw)
      clear own cw
      obtain ⟨g, off, rfl, hg, hc, x64, -⟩ := (HV.out.keep HK.out.2 (fun _ _ f => f)).at (i := 0) (by rw [HNL.out, HL1.out]; omega)
      rw [← HLX.out] at hc
      simp only [List.getElem?_cons_zero, Option.getD_some, Nat.add_zero] at hc
      obtain rfl := HL1.out
      have e2 : ∀ v, Chg No wr v → v.cell? ⟨g, off, none⟩ = some (.int .i64 x) := fun v hv => (hv.cell hg (fun f => f)).trans hc
      go_wp2_with (first
        | (go_at_call 83
           refine (truth_any (o == x) _).mono ?_
           rintro e' w5 ⟨rfl, rfl⟩)
        | fail)
      go_ret2
      exact ⟨rfl, H.out⟩

set_option maxRecDepth 100000 in
set_option maxHeartbeats 1000000 in
theorem k_obj111 (h : MemK w0 w m L K) (o : Int) (ho : In64 o) (l : List Int) (v : Value) (S : Nat → Prop) (hv : IntS w S v l) (hl : l.length ≤ 1000) :
    Calls Tryd.prog 47 #[.iface 27 (.pointer (some ⟨m, 0, none⟩)), .int .i64 111, .int .i64 o, v] w fun e w' => e = .returned (.tuple #[.int .i64 (classV L o), .int .i64 (classE L o)]) ∧ MemK w0 w' m L K := by
  have H0 := Lib.hid h
  obtain ⟨A, c, rfl, hlc, hcm, -⟩ := hv.form
  have HV := Lib.hid hv
  generalize hnl : l.length = nl at *
  have HNL := Lib.hid hnl
  clear h hv hnl
  go_enter Tryd.func47, Tryd.ntmps47
  go_wp2_with fail
  go_loopg [10, 25] nl (fun j v10 v25 wr => ∃ i : Nat, v25 = .int .i64 (i : Int) ∧ i ≤ nl ∧ nl - i ≤ j ∧ OwnInts wr w.heap.size v10 ((l.take i).map kN) ∧ Chg No w wr)
  case atStart => exact ⟨0, rfl, by omega, by omega, World.ownsRow_nil _ _ _ _, Chg.refl _ _⟩
  case round =>
    obtain ⟨i, rfl, i1, i2, own, cw⟩ := hrel
    obtain ⟨A3, c3, rfl⟩ := own.form
    have hlen : ((l.take i).map kN).length ≤ i := by simp; omega
    by_cases hi : i < nl
    · have t1 : decide ((i : Int) < (nl : Int)) = true := decide_eq_true (by omega)
      have t0 : (i : Int) < (nl : Int) := by omega
      obtain ⟨g, off, rfl, hg, hc, x64, -⟩ := (HV.out.keep cw (fun _ _ f => f)).at (i := i) (by rw [HNL.out]; exact hi)
      have hsn := kN_snoc (l := l) (i := i) (by rw [HNL.out]; exact hi)
      generalize l[i]?.getD 0 = x at *
      obtain ⟨A5, c5, w5, hr5, ho5, cg5⟩ := app_one own (by omega) cw.size (kN x) 36
      have cw5 : Chg No w w5 := cw.then cg5 (fun k hk hle => by omega)
      have HR := Lib.hid hr5
      have HC := Lib.hid (And.intro ho5 (And.intro cw5 hsn))
      clear own cw hr5 ho5 cg5 cw5 hsn
      generalize ((l.take i).map kN).length = q at *
      cases hb : numOk x with
      | true =>
        have hk : kN x = numV x := by unfold kN; rw [if_pos hb]
        rw [hk] at HR
        go_wp2_with (first
          | (go_at_call 35
             refine (Number_any x x64.1 x64.2 _).mono ?_
             rw [hb]
             rintro e' w2 ⟨rfl, rfl⟩)
          | (at_builtin; refine wpList_append_run rfl _ _ _ rfl rfl rfl HR.out ?_)
          | fail)
        go_roundg (nl - (i + 1))
        case measure => omega
        case rel => exact ⟨i + 1, by go_num, by omega, by omega, by rw [HC.out.2.2, hk]; rw [hk] at HC; exact HC.out.1, HC.out.2.1⟩
      | false =>
        have hk : kN x = -1 := by unfold kN; rw [if_neg (by simp [hb])]
        rw [hk] at HR
        go_wp2_with (first
          | (go_at_call 35
             refine (Number_any x x64.1 x64.2 _).mono ?_
             rw [hb]
             rintro e' w2 ⟨rfl, rfl⟩)
          | (at_builtin; refine wpList_append_run rfl _ _ _ rfl rfl rfl HR.out ?_)
          | fail)
        go_roundg (nl - (i + 1))
        case measure => omega
        case rel => exact ⟨i + 1, by go_num, by omega, by omega, by rw [HC.out.2.2, hk]; rw [hk] at HC; exact HC.out.1, HC.out.2.1⟩
    · obtain rfl : i = nl := by omega
      have t1 : decide ((i : Int) < (i : Int)) = false := decide_eq_false (by omega)
      rw [List.take_of_length_le (by rw [HNL.out]; exact Nat.le_refl _)] at own hlen ⊢
      clear hlen
      rw [show (l.map kN).length = i by rw [List.length_map, HNL.out]] at own
      have HK := Lib.hid (And.intro own cw)
      rw [show (l.map kN).length = i by rw [List.length_map, HNL.out]]
      have H := Lib.hid (H0.out.world cw)
      clear own cw
      go_wp2_with (first
        | (go_at_call 84
           refine (k_ClassOf H.out o ho).mono ?_
           rintro e' w5 ⟨rfl, g5, -⟩)
        | fail)
      go_ret2
      exact ⟨rfl, g5⟩

end

end Go.Proofs.YtncoanmgifgcbaaDoor
