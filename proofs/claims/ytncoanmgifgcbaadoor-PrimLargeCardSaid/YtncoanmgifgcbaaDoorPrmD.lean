/- Primitives over a flat memory: prim.objects and prim.Do at 60, 61, 62 and 71 (places of objects; a new one of a size). -/
import Derived.Test.YtncoanmgifgcbaaDoorPrmC
import Derived.Test.YtncoanmgifgcbaaDoorCont
import Derived.Test.YtncoanmgifgcbaaDoorPrimK
namespace Go.Proofs.YtncoanmgifgcbaaDoor
set_option linter.unusedVariables false
set_option linter.unusedSimpArgs false
open Go.RowKit

/-- an argument, as a number; below 0: none -/
def kN (x : Int) : Int := if numOk x = true then numV x else -1
theorem kN64 (x : Int) : In64 (kN x) := by
  have := numV_bd x
  unfold kN In64
  split <;> omega
theorem kN_snoc {l : List Int} {i : Nat} (hi : i < l.length) : (l.take (i + 1)).map kN = (l.take i).map kN ++ [kN (l[i]?.getD 0)] := by
  rw [List.take_add_one, List.getElem?_eq_getElem hi]
  simp only [Option.toList_some, List.map_append, List.map_cons, List.map_nil, Option.getD_some]

section
variable {w0 w w' : World} {m : Nat} {L L' : List O} {K : (Nat → Prop) → World → Prop} {F F' : Nat → Prop}
set_option maxRecDepth 100000 in
set_option maxHeartbeats 1000000 in
theorem k_obj71 (h : MemK w0 w m L K) (o : Int) (ho : In64 o) (l : List Int) (v : Value) (S : Nat → Prop) (hv : IntS w S v l) (hl : l.length ≤ 1000) (hn : L.length + 1 < 1073741823) :
    Calls Tryd.prog 47 #[.iface 27 (.pointer (some ⟨m, 0, none⟩)), .int .i64 71, .int .i64 o, v] w fun e w' => e = .returned (.tuple #[.int .i64 (insN L o (l.map kN)), .int .i64 (insE L o (l.map kN))]) ∧ MemK w0 w' m (insL L o (l.map kN)) K := by
  have H0 := Lib.hid h
  obtain ⟨A, c, rfl, hlc, hcm, -⟩ := hv.form
  have HV := Lib.hid hv
  generalize hnl : l.length = nl at *
  have HNL := Lib.hid hnl
  clear h hv hnl
  go_enter Tryd.func47, Tryd.ntmps47
  go_wp2_with fail
  go_loopg [10, 25] nl (fun j v10 v25 wr => ∃ i : Nat, v25 = .int .i64 (i : Int) ∧ i ≤ nl ∧ nl - i ≤ j ∧ OwnInts wr w.heap.size v10 ((l.take i).map kN) ∧ Chg No w wr)
  case atStart => exact ⟨0, rfl, by omega, by omega, World.ownsRow_nil _ _ _ _, Chg.refl _ _⟩
  case round =>
    obtain ⟨i, rfl, i1, i2, own, cw⟩ := hrel
    obtain ⟨A3, c3, rfl⟩ := own.form
    have hlen : ((l.take i).map kN).length ≤ i := by simp; omega
    by_cases hi : i < nl
    · have t1 : decide ((i : Int) < (nl : Int)) = true := decide_eq_true (by omega)
      have t0 : (i : Int) < (nl : Int) := by omega
      obtain ⟨g, off, rfl, hg, hc, x64, -⟩ := (HV.out.keep cw (fun _ _ f => f)).at (i := i) (by rw [HNL.out]; exact hi)
      have hsn := kN_snoc (l := l) (i := i) (by rw [HNL.out]; exact hi)
      generalize l[i]?.getD 0 = x at *
      obtain ⟨A5, c5, w5, hr5, ho5, cg5⟩ := app_one own (by omega) cw.size (kN x) 36
      have cw5 : Chg No w w5 := cw.then cg5 (fun k hk hle => by omega)
      have HR := Lib.hid hr5
      have HC := Lib.hid (And.intro ho5 (And.intro cw5 hsn))
      clear own cw hr5 ho5 cg5 cw5 hsn
      generalize ((l.take i).map kN).length = q at *
      cases hb : numOk x with
      | true =>
        have hk : kN x = numV x := by unfold kN; rw [if_pos hb]
        rw [hk] at HR
        go_wp2_with (first
          | (go_at_call 35
             refine (Number_any x x64.1 x64.2 _).mono ?_
             rw [hb]
             rintro e' w2 ⟨rfl, rfl⟩)
          | (at_builtin; refine wpList_append_run rfl _ _ _ rfl rfl rfl HR.out ?_)
          | fail)
        go_roundg (nl - (i + 1))
        case measure => omega
        case rel => exact ⟨i + 1, by go_num, by omega, by omega, by rw [HC.out.2.2, hk]; rw [hk] at HC; exact HC.out.1, HC.out.2.1⟩
      | false =>
        have hk : kN x = -1 := by unfold kN; rw [if_neg (by simp [hb])]
        rw [hk] at HR
        go_wp2_with (first
          | (go_at_call 35
             refine (Number_any x x64.1 x64.2 _).mono ?_
             rw [hb]
             rintro e' w2 ⟨rfl, rfl⟩)
          | (at_builtin; refine wpList_append_run rfl _ _ _ rfl rfl rfl HR.out ?_)
          | fail)
        go_roundg (nl - (i + 1))
        case measure => omega
        case rel => exact ⟨i + 1, by go_num, by omega, by omega, by rw [HC.out.2.2, hk]; rw [hk] at HC; exact HC.out.1, HC.out.2.1⟩
    · obtain rfl : i = nl := by omega
      have t1 : decide ((i : Int) < (i : Int)) = false := decide_eq_false (by omega)
      rw [List.take_of_length_le (by rw [HNL.out]; exact Nat.le_refl _)] at own hlen ⊢
      clear hlen
      rw [show (l.map kN).length = i by rw [List.length_map, HNL.out]] at own
      have HK := Lib.hid (And.intro own cw)
      rw [show (l.map kN).length = i by rw [List.length_map, HNL.out]]
      have H := Lib.hid (H0.out.world cw)
      clear own cw
      go_wp2_with (first
        | (go_at_call 82
           refine (k_Instance H.out o ho (l.map kN) _ _ (IntS.of_own HK.out.1 (by intro x hx; obtain ⟨y, -, rfl⟩ := List.mem_map.1 hx; exact kN64 y)) hn).mono ?_
           rintro e' w5 ⟨rfl, g5⟩)
        | fail)
      go_ret2
      exact ⟨rfl, g5⟩

set_option maxRecDepth 100000 in
set_option maxHeartbeats 1000000 in
theorem k_obj62 (h : MemK w0 w m L K) (o : Int) (ho : In64 o) (l : List Int) (v : Value) (S : Nat → Prop) (hv : IntS w S v l) (hl : l.length ≤ 1000) :
    Calls Tryd.prog 47 #[.iface 27 (.pointer (some ⟨m, 0, none⟩)), .int .i64 62, .int .i64 o, v] w fun e w' => e = .returned (.tuple #[.int .i64 (if behE L o ≠ 0 then 0 else smallV (behN L o)), .int .i64 (if behE L o ≠ 0 then behE L o else smallE (behN L o))]) ∧ MemK w0 w' m L K := by
  have hz := szO_bd h o
  have hN64 : In64 (behN L o) := by
    unfold behN In64
    have := shape_bd L (objV L o).cls
    split <;> omega
  have hsm := fun w => small_any (behN L o) (behE L o) hN64 w
  obtain ⟨V, hV⟩ : ∃ x, (if behE L o ≠ 0 then 0 else smallV (behN L o)) = x := ⟨_, rfl⟩
  obtain ⟨E, hE⟩ : ∃ x, (if behE L o ≠ 0 then behE L o else smallE (behN L o)) = x := ⟨_, rfl⟩
  rw [hV, hE]
  simp only [hV, hE] at hsm
  have HSM := Lib.hid hsm
  clear hV hE hsm hz
  have H0 := Lib.hid h
  obtain ⟨A, c, rfl, hlc, hcm, -⟩ := hv.form
  have HV := Lib.hid hv
  generalize hnl : l.length = nl at *
  have HNL := Lib.hid hnl
  clear h hv hnl
  go_enter Tryd.func47, Tryd.ntmps47
  go_wp2_with fail
  go_loopg [10, 25] nl (fun j v10 v25 wr => ∃ i : Nat, v25 = .int .i64 (i : Int) ∧ i ≤ nl ∧ nl - i ≤ j ∧ OwnInts wr w.heap.size v10 ((l.take i).map kN) ∧ Chg No w wr)
  case atStart => exact ⟨0, rfl, by omega, by omega, World.ownsRow_nil _ _ _ _, Chg.refl _ _⟩
  case round =>
    obtain ⟨i, rfl, i1, i2, own, cw⟩ := hrel
    obtain ⟨A3, c3, rfl⟩ := own.form
    have hlen : ((l.take i).map kN).length ≤ i := by simp; omega
    by_cases hi : i < nl
    · have t1 : decide ((i : Int) < (nl : Int)) = true := decide_eq_true (by omega)
      have t0 : (i : Int) < (nl : Int) := by omega
      obtain ⟨g, off, rfl, hg, hc, x64, -⟩ := (HV.out.keep cw (fun _ _ f => f)).at (i := i) (by rw [HNL.out]; exact hi)
      have hsn := kN_snoc (l := l) (i := i) (by rw [HNL.out]; exact hi)
      generalize l[i]?.getD 0 = x at *
      obtain ⟨A5, c5, w5, hr5, ho5, cg5⟩ := app_one own (by omega) cw.size (kN x) 36
      have cw5 : Chg No w w5 := cw.then cg5 (fun k hk hle => by omega)
      have HR := Lib.hid hr5
      have HC := Lib.hid (And.intro ho5 (And.intro cw5 hsn))
      clear own cw hr5 ho5 cg5 cw5 hsn
      generalize ((l.take i).map kN).length = q at *
      cases hb : numOk x with
      | true =>
        have hk : kN x = numV x := by unfold kN; rw [if_pos hb]
        rw [hk] at HR
        go_wp2_with (first
          | (go_at_call 35
             refine (Number_any x x64.1 x64.2 _).mono ?_
             rw [hb]
             rintro e' w2 ⟨rfl, rfl⟩)
          | (at_builtin; refine wpList_append_run rfl _ _ _ rfl rfl rfl HR.out ?_)
          | fail)
        go_roundg (nl - (i + 1))
        case measure => omega
        case rel => exact ⟨i + 1, by go_num, by omega, by omega, by rw [HC.out.2.2, hk]; rw [hk] at HC; exact HC.out.1, HC.out.2.1⟩
      | false =>
        have hk : kN x = -1 := by unfold kN; rw [if_neg (by simp [hb])]
        rw [hk] at HR
        go_wp2_with (first
          | (go_at_call 35
             refine (Number_any x x64.1 x64.2 _).mono ?_
             rw [hb]
             rintro e' w2 ⟨rfl, rfl⟩)
          | (at_builtin; refine wpList_append_run rfl _ _ _ rfl rfl rfl HR.out ?_)
          | fail)
        go_roundg (nl - (i + 1))
        case measure => omega
        case rel => exact ⟨i + 1, by go_num, by omega, by omega, by rw [HC.out.2.2, hk]; rw [hk] at HC; exact HC.out.1, HC.out.2.1⟩
    · obtain rfl : i = nl := by omega
      have t1 : decide ((i : Int) < (i : Int)) = false := decide_eq_false (by omega)
      rw [List.take_of_length_le (by rw [HNL.out]; exact Nat.le_refl _)] at own hlen ⊢
      clear hlen
      rw [show (l.map kN).length = i by rw [List.length_map, HNL.out]] at own
      have HK := Lib.hid (And.intro own cw)
      rw [show (l.map kN).length = i by rw [List.length_map, HNL.out]]
      have H := Lib.hid (H0.out.world cw)
      clear own cw
      go_wp2_with (first
        | (go_at_call 80
           refine (k_behind H.out o ho).mono ?_
           rintro e' w5 ⟨rfl, g5, -⟩)
        | (go_at_call 81
           refine (HSM.out _).mono ?_
           rintro e' w6 ⟨rfl, rfl⟩)
        | fail)
      go_ret2
      exact ⟨rfl, g5⟩

set_option maxRecDepth 100000 in
set_option maxHeartbeats 1000000 in
theorem k_obj60 (h : MemK w0 w m L K) (o x : Int) (ho : In64 o) (hx : In64 x) (v : Value) (S : Nat → Prop) (hv : IntS w S v [x]) :
    Calls Tryd.prog 47 #[.iface 27 (.pointer (some ⟨m, 0, none⟩)), .int .i64 60, .int .i64 o, v] w fun e w' => e = .returned (.tuple #[.int .i64 (getV' L o x), .int .i64 (getE' L o x)]) ∧ MemK w0 w' m L K := by
  obtain ⟨l, hl'⟩ : ∃ l, [x] = l := ⟨_, rfl⟩
  have hl : l.length ≤ 1000 := by rw [← hl']; simp
  have hl1 : l.length = 1 := by rw [← hl']; rfl
  rw [hl'] at hv
  have HLX := Lib.hid hl'
  have HL1 := Lib.hid hl1
  clear hl' hl1
  have H0 := Lib.hid h
  obtain ⟨A, c, rfl, hlc, hcm, -⟩ := hv.form
  have HV := Lib.hid hv
  generalize hnl : l.length = nl at *
  have HNL := Lib.hid hnl
  clear h hv hnl
  go_enter Tryd.func47, Tryd.ntmps47
  go_wp2_with fail
  go_loopg [10, 25] nl (fun j v10 v25 wr => ∃ i : Nat, v25 = .int .i64 (i : Int) ∧ i ≤ nl ∧ nl - i ≤ j ∧ OwnInts wr w.heap.size v10 ((l.take i).map kN) ∧ Chg No w wr)
  case atStart => exact ⟨0, rfl, by omega, by omega, World.ownsRow_nil _ _ _ _, Chg.refl _ _⟩
  case round =>
    obtain ⟨i, rfl, i1, i2, own, cw⟩ := hrel
    obtain ⟨A3, c3, rfl⟩ := own.form
    have hlen : ((l.take i).map kN).length ≤ i := by simp; omega
    by_cases hi : i < nl
    · have t1 : decide ((i : Int) < (nl : Int)) = true := decide_eq_true (by omega)
      have t0 : (i : Int) < (nl : Int) := by omega
      obtain ⟨g, off, rfl, hg, hc, x64, -⟩ := (HV.out.keep cw (fun _ _ f => f)).at (i := i) (by rw [HNL.out]; exact hi)
      have hsn := kN_snoc (l := l) (i := i) (by rw [HNL.out]; exact hi)
      generalize l[i]?.getD 0 = x at *
      obtain ⟨A5, c5, w5, hr5, ho5, cg5⟩ := app_one own (by omega) cw.size (kN x) 36
      have cw5 : Chg No w w5 := cw.then cg5 (fun k hk hle => by omega)
      have HR := Lib.hid hr5
      have HC := Lib.hid (And.intro ho5 (And.intro cw5 hsn))
      clear own cw hr5 ho5 cg5 cw5 hsn
      generalize ((l.take i).map kN).length = q at *
      cases hb : numOk x with
      | true =>
        have hk : kN x = numV x := by unfold kN; rw [if_pos hb]
        rw [hk] at HR
        go_wp2_with (first
          | (go_at_call 35
             refine (Number_any x x64.1 x64.2 _).mono ?_
             rw [hb]
             rintro e' w2 ⟨rfl, rfl⟩)
          | (at_builtin; refine wpList_append_run rfl _ _ _ rfl rfl rfl HR.out ?_)
          | fail)
        go_roundg (nl - (i + 1))
        case measure => omega
        case rel => exact ⟨i + 1, by go_num, by omega, by omega, by rw [HC.out.2.2, hk]; rw [hk] at HC; exact HC.out.1, HC.out.2.1⟩
      | false =>
        have hk : kN x = -1 := by unfold kN; rw [if_neg (by simp [hb])]
        rw [hk] at HR
        go_wp2_with (first
          | (go_at_call 35
             refine (Number_any x x64.1 x64.2 _).mono ?_
             rw [hb]
             rintro e' w2 ⟨rfl, rfl⟩)
          | (at_builtin; refine wpList_append_run rfl _ _ _ rfl rfl rfl HR.out ?_)
          | fail)
        go_roundg (nl - (i + 1))
        case measure => omega
        case rel => exact ⟨i + 1, by go_num, by omega, by omega, by rw [HC.out.2.2, hk]; rw [hk] at HC; exact HC.out.1, HC.out.2.1⟩
    · obtain rfl : i = nl := by omega
      have t1 : decide ((i : Int) < (i : Int)) = false := decide_eq_false (by omega)
      rw [List.take_of_length_le (by rw [HNL.out]; exact Nat.le_refl _)] at own hlen ⊢
      clear hlen
      rw [show (l.map kN).length = i by rw [List.length_map, HNL.out]] at own
      have HK := Lib.hid (And.intro own cw)
      rw [show (l.map kN).length = i by rw [List.length_map, HNL.out]]
      have H := Lib.hid (H0.out.world cw)
      clear own cw
      obtain ⟨g, off, rfl, hg, hc, x64, -⟩ := (HV.out.keep HK.out.2 (fun _ _ f => f)).at (i := 0) (by rw [HNL.out, HL1.out]; omega)
      rw [← HLX.out] at hc
      simp only [List.getElem?_cons_zero, Option.getD_some, Nat.add_zero] at hc
      obtain rfl := HL1.out
      go_wp2_with (first
        | (go_at_call 78
           refine (k_get H.out o x ho hx).mono ?_
           rintro e' w5 ⟨rfl, g5⟩)
        | fail)
      go_ret2
      exact ⟨rfl, g5⟩

set_option maxRecDepth 100000 in
set_option maxHeartbeats 1000000 in
theorem k_obj61 (h : MemK w0 w m L K) (o x y : Int) (ho : In64 o) (hx : In64 x) (hy : In64 y) (v : Value) (S : Nat → Prop) (hv : IntS w S v [x, y]) :
    Calls Tryd.prog 47 #[.iface 27 (.pointer (some ⟨m, 0, none⟩)), .int .i64 61, .int .i64 o, v] w fun e w' => e = .returned (.tuple #[.int .i64 (putV' L o x y), .int .i64 (putE' L o x y)]) ∧ MemK w0 w' m (putL' L o x y) K := by
  obtain ⟨l, hl'⟩ : ∃ l, [x, y] = l := ⟨_, rfl⟩
  have hl : l.length ≤ 1000 := by rw [← hl']; simp
  have hl1 : l.length = 2 := by rw [← hl']; rfl
  rw [hl'] at hv
  have HLX := Lib.hid hl'
  have HL1 := Lib.hid hl1
  clear hl' hl1
  have H0 := Lib.hid h
  obtain ⟨A, c, rfl, hlc, hcm, -⟩ := hv.form
  have HV := Lib.hid hv
  generalize hnl : l.length = nl at *
  have HNL := Lib.hid hnl
  clear h hv hnl
  go_enter Tryd.func47, Tryd.ntmps47
  go_wp2_with fail
  go_loopg [10, 25] nl (fun j v10 v25 wr => ∃ i : Nat, v25 = .int .i64 (i : Int) ∧ i ≤ nl ∧ nl - i ≤ j ∧ OwnInts wr w.heap.size v10 ((l.take i).map kN) ∧ Chg No w wr)
  case atStart => exact ⟨0, rfl, by omega, by omega, World.ownsRow_nil _ _ _ _, Chg.refl _ _⟩
  case round =>
    obtain ⟨i, rfl, i1, i2, own, cw⟩ := hrel
    obtain ⟨A3, c3, rfl⟩ := own.form
    have hlen : ((l.take i).map kN).length ≤ i := by simp; omega
    by_cases hi : i < nl
    · have t1 : decide ((i : Int) < (nl : Int)) = true := decide_eq_true (by omega)
      have t0 : (i : Int) < (nl : Int) := by omega
      obtain ⟨g, off, rfl, hg, hc, x64, -⟩ := (HV.out.keep cw (fun _ _ f => f)).at (i := i) (by rw [HNL.out]; exact hi)
      have hsn := kN_snoc (l := l) (i := i) (by rw [HNL.out]; exact hi)
      generalize l[i]?.getD 0 = x at *
      obtain ⟨A5, c5, w5, hr5, ho5, cg5⟩ := app_one own (by omega) cw.size (kN x) 36
      have cw5 : Chg No w w5 := cw.then cg5 (fun k hk hle => by omega)
      have HR := Lib.hid hr5
      have HC := Lib.hid (And.intro ho5 (And.intro cw5 hsn))
      clear own cw hr5 ho5 cg5 cw5 hsn
      generalize ((l.take i).map kN).length = q at *
      cases hb : numOk x with
      | true =>
        have hk : kN x = numV x := by unfold kN; rw [if_pos hb]
        rw [hk] at HR
        go_wp2_with (first
          | (go_at_call 35
             refine (Number_any x x64.1 x64.2 _).mono ?_
             rw [hb]
             rintro e' w2 ⟨rfl, rfl⟩)
          | (at_builtin; refine wpList_append_run rfl _ _ _ rfl rfl rfl HR.out ?_)
          | fail)
        go_roundg (nl - (i + 1))
        case measure => omega
        case rel => exact ⟨i + 1, by go_num, by omega, by omega, by rw [HC.out.2.2, hk]; rw [hk] at HC; exact HC.out.1, HC.out.2.1⟩
      | false =>
        have hk : kN x = -1 := by unfold kN; rw [if_neg (by simp [hb])]
        rw [hk] at HR
        go_wp2_with (first
          | (go_at_call 35
             refine (Number_any x x64.1 x64.2 _).mono ?_
             rw [hb]
             rintro e' w2 ⟨rfl, rfl⟩)
          | (at_builtin; refine wpList_append_run rfl _ _ _ rfl rfl rfl HR.out ?_)
          | fail)
        go_roundg (nl - (i + 1))
        case measure => omega
        case rel => exact ⟨i + 1, by go_num, by omega, by omega, by rw [HC.out.2.2, hk]; rw [hk] at HC; exact HC.out.1, HC.out.2.1⟩
    · obtain rfl : i = nl := by omega
      have t1 : decide ((i : Int) < (i : Int)) = false := decide_eq_false (by omega)
      rw [List.take_of_length_le (by rw [HNL.out]; exact Nat.le_refl _)] at own hlen ⊢
      clear hlen
      rw [show (l.map kN).length = i by rw [List.length_map, HNL.out]] at own
      have HK := Lib.hid (And.intro own cw)
      rw [show (l.map kN).length = i by rw [List.length_map, HNL.out]]
      have H := Lib.hid (H0.out.world cw)
      clear own cw
      obtain ⟨g, off, rfl, hg, hc, x64, -⟩ := (HV.out.keep HK.out.2 (fun _ _ f => f)).at (i := 0) (by rw [HNL.out, HL1.out]; omega)
      obtain ⟨g', off', e9, hg', hc', y64, -⟩ := (HV.out.keep HK.out.2 (fun _ _ f => f)).at (i := 1) (by rw [HNL.out, HL1.out]; omega)
      obtain ⟨rfl, rfl⟩ : g = g' ∧ off = off' := by simpa using e9
      rw [← HLX.out] at hc hc'
      simp only [List.getElem?_cons_zero, List.getElem?_cons_succ, Option.getD_some, Nat.add_zero] at hc hc'
      obtain rfl := HL1.out
      go_wp2_with fail
      go_region_law (first
        | (go_simp; go_at_call 79
           refine (k_put (H.out.world ((Chg.refl _ _).drew)) o x y ho hx hy).mono ?_
           rintro e' w5 ⟨rfl, g5⟩)
        | fail)
      all_goals
        go_wp2_with fail
        go_ret2
        exact ⟨rfl, g5⟩

end

end Go.Proofs.YtncoanmgifgcbaaDoor
