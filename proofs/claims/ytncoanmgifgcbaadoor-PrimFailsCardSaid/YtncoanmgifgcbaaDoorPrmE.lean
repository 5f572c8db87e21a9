/- Primitives over a flat memory: prim.objects and prim.Do at 60, 61, 62 and 71 (places of objects; a new one of a size). · Primitives over a flat memory: prim.Do where it comes to objects, whatever that tells. -/
import Derived.Test.YtncoanmgifgcbaaDoorPrmC
import Derived.Test.YtncoanmgifgcbaaDoorCont
import Derived.Test.YtncoanmgifgcbaaDoorPrimK
namespace Go.Proofs.YtncoanmgifgcbaaDoor
set_option linter.unusedVariables false
set_option linter.unusedSimpArgs false
open Go.RowKit

/-- an argument, as a number; below 0: none -/
def kN (x : Int) : Int := if numOk x = true then numV x else -1
theorem kN64 (x : Int) : In64 (kN x) := by
  have := numV_bd x
  unfold kN In64
  split <;> omega
theorem kN_snoc {l : List Int} {i : Nat} (hi : i < l.length) : (l.take (i + 1)).map kN = (l.take i).map kN ++ [kN (l[i]?.getD 0)] := by
  rw [List.take_add_one, List.getElem?_eq_getElem hi]
  simp only [Option.toList_some, List.map_append, List.map_cons, List.map_nil, Option.getD_some]

section
variable {w0 w w' : World} {m : Nat} {L L' : List O} {K : (Nat → Prop) → World → Prop} {F F' : Nat → Prop}
set_option maxRecDepth 100000 in
set_option maxHeartbeats 1000000 in
theorem k_obj71 (h : MemK w0 w m L K) (o : Int) (ho : In64 o) (l : List Int) (v : Value) (S : Nat → Prop) (hv : IntS w S v l) (hl : l.length ≤ 1000) (hn : L.length + 1 < 1073741823) :
    Calls Tryd.prog 47 #[.iface 27 (.pointer (some ⟨m, 0, none⟩)), .int .i64 71, .int .i64 o, v] w fun e w' => e = .returned (.tuple #[.int .i64 (insN L o (l.map kN)), .int .i64 (insE L o (l.map kN))]) ∧ MemK w0 w' m (insL L o (l.map kN)) K := by
  have H0 := Lib.hid h
  obtain ⟨A, c, rfl, hlc, hcm, -⟩ := hv.form
  have HV := Lib.hid hv
  generalize hnl : l.length = nl at *
  have HNL := Lib.hid hnl
  clear h hv hnl
  go_enter Tryd.func47, Tryd.ntmps47
  go_wp2_with fail
  go_loopg [10, 25] nl (fun j v10 v25 wr => ∃ i : Nat, v25 = .int .i64 (i : Int) ∧ i ≤ nl ∧ nl - i ≤ j ∧ OwnInts wr w.heap.size v10 ((l.take i).map kN) ∧ Chg No w wr)
  case atStart => exact ⟨0, rfl, by omega, by omega, World.ownsRow_nil _ _ _ _, Chg.refl _ _⟩
  case round =>
    obtain ⟨i, rfl, i1, i2, own, cw⟩ := hrel
    obtain ⟨A3, c3, rfl⟩ := own.form
    have hlen : ((l.take i).map kN).length ≤ i := by simp; omega
    by_cases hi : i < nl
    · have t1 : decide ((i : Int) < (nl : Int)) = true := decide_eq_true (by omega)
      have t0 : (i : Int) < (nl : Int) := by omega
      obtain ⟨g, off, rfl, hg, hc, x64, -⟩ := (HV.out.keep cw (fun _ _ f => f)).at (i := i) (by rw [HNL.out]; exact hi)
      have hsn := kN_snoc (l := l) (i := i) (by rw [HNL.out]; exact hi)
      generalize l[i]?.getD 0 = x at *
      obtain ⟨A5, c5, w5, hr5, ho5, cg5⟩ := app_one own (by omega) cw.size (kN x) 36
      have cw5 : Chg No w w5 := cw.then cg5 (fun k hk hle => by omega)
      have HR := Lib.hid hr5
      have HC := Lib.hid (And.intro ho5 (And.intro cw5 hsn))
      clear own cw hr5 ho5 cg5 cw5 hsn
      generalize ((l.take i).map kN).length = q at *
      cases hb : numOk x with
      | true =>
        have hk : kN x = numV x := by unfold kN; rw [if_pos hb]
        rw [hk] at HR
        go_wp2_with (first
          | (go_at_call 35
             refine (Number_any x x64.1 x64.2 _).mono ?_
             rw [hb]
             rintro e' w2 ⟨rfl, rfl⟩)
          | (at_builtin; refine wpList_append_run rfl _ _ _ rfl rfl rfl HR.out ?_)
          | fail)
        go_roundg (nl - (i + 1))
        case measure => omega
        case rel => exact ⟨i + 1, by go_num, by omega, by omega, by rw [HC.out.2.2, hk]; rw [hk] at HC; exact HC.out.1, HC.out.2.1⟩
      | false =>
        have hk : kN x = -1 := by unfold kN; rw [if_neg (by simp [hb])]
        rw [hk] at HR
        go_wp2_with (first
          | (go_at_call 35
             refine (Number_any x x64.1 x64.2 _).mono ?_
             rw [hb]
             rintro e' w2 ⟨rfl, rfl⟩)
          | (at_builtin; refine wpList_append_run rfl _ _ _ rfl rfl rfl HR.out ?_)
          | fail)
        go_roundg (nl - (i + 1))
        case measure => omega
        case rel => exact ⟨i + 1, by go_num, by omega, by omega, by rw [HC.out.2.2, hk]; rw [hk] at HC; exact HC.out.1, HC.out.2.1⟩
    · obtain rfl : i = nl := by omega
      have t1 : decide ((i : Int) < (i : Int)) = false := decide_eq_false (by omega)
      rw [List.take_of_length_le (by rw [HNL.out]; exact Nat.le_refl _)] at own hlen ⊢
      clear hlen
      rw [show (l.map kN).length = i by rw [List.length_map, HNL.out]] at own
      have HK := Lib.hid (And.intro own cw)
      rw [show (l.map kN).length = i by rw [List.length_map, HNL.out]]
      have H := Lib.hid (H0.out.world cw)
      clear own cw
      go_wp2_with (first
        | (go_at_call 82
           refine (k_Instance H.out o ho (l.map kN) _ _ (IntS.of_own HK.out.1 (by intro x hx; obtain ⟨y, -, rfl⟩ := List.mem_map.1 hx; exact kN64 y)) hn).mono ?_
           rintro e' w5 ⟨rfl, g5⟩)
        | fail)
      go_ret2
      exact ⟨rfl, g5⟩

set_option maxRecDepth 100000 in
set_option maxHeartbeats 1000000 in
theorem k_obj62 (h : MemK w0 w m L K) (o : Int) (ho : In64 o) (l : List Int) (v : Value) (S : Nat → Prop) (hv : IntS w S v l) (hl : l.length ≤ 1000) :
    Calls Tryd.prog 47 #[.iface 27 (.pointer (some ⟨m, 0, none⟩)), .int .i64 62, .int .i64 o, v] w fun e w' => e = .returned (.tuple #[.int .i64 (if behE L o ≠ 0 then 0 else smallV (behN L o)), .int .i64 (if behE L o ≠ 0 then behE L o else smallE (behN L o))]) ∧ MemK w0 w' m L K := by
  have hz := szO_bd h o
  have hN64 : In64 (behN L o) := by
    unfold behN In64
    have := shape_bd L (objV L o).cls
    split <;> omega
  have hsm := fun w => small_any (behN L o) (behE L o) hN64 w
  obtain ⟨V, hV⟩ : ∃ x, (if behE L o ≠ 0 then 0 else smallV (behN L o)) = x := ⟨_, rfl⟩
  obtain ⟨E, hE⟩ : ∃ x, (if behE L o ≠ 0 then behE L o else smallE (behN L o)) = x := ⟨_, rfl⟩
  rw [hV, hE]
  simp only [hV, hE] at hsm
  have HSM := Lib.hid hsm
  clear hV hE hsm hz
  have H0 := Lib.hid h
  obtain ⟨A, c, rfl, hlc, hcm, -⟩ := hv.form
  have HV := Lib.hid hv
  generalize hnl : l.length = nl at *
  have HNL := Lib.hid hnl
  clear h hv hnl
  go_enter Tryd.func47, Tryd.ntmps47
  go_wp2_with fail
  go_loopg [10, 25] nl (fun j v10 v25 wr => ∃ i : Nat, v25 = .int .i64 (i : Int) ∧ i ≤ nl ∧ nl - i ≤ j ∧ OwnInts wr w.heap.size v10 ((l.take i).map kN) ∧ Chg No w wr)
  case atStart => exact ⟨0, rfl, by omega, by omega, World.ownsRow_nil _ _ _ _, Chg.refl _ _⟩
  case round =>
    obtain ⟨i, rfl, i1, i2, own, cw⟩ := hrel
    obtain ⟨A3, c3, rfl⟩ := own.form
    have hlen : ((l.take i).map kN).length ≤ i := by simp; omega
    by_cases hi : i < nl
    · have t1 : decide ((i : Int) < (nl : Int)) = true := decide_eq_true (by omega)
      have t0 : (i : Int) < (nl : Int) := by omega
      obtain ⟨g, off, rfl, hg, hc, x64, -⟩ := (HV.out.keep cw (fun _ _ f => f)).at (i := i) (by rw [HNL.out]; exact hi)
      have hsn := kN_snoc (l := l) (i := i) (by rw [HNL.out]; exact hi)
      generalize l[i]?.getD 0 = x at *
      obtain ⟨A5, c5, w5, hr5, ho5, cg5⟩ := app_one own (by omega) cw.size (kN x) 36
      have cw5 : Chg No w w5 := cw.then cg5 (fun k hk hle => by omega)
      have HR := Lib.hid hr5
      have HC := Lib.hid (And.intro ho5 (And.intro cw5 hsn))
      clear own cw hr5 ho5 cg5 cw5 hsn
      generalize ((l.take i).map kN).length = q at *
      cases hb : numOk x with
      | true =>
        have hk : kN x = numV x := by unfold kN; rw [if_pos hb]
        rw [hk] at HR
        go_wp2_with (first
          | (go_at_call 35
             refine (Number_any x x64.1 x64.2 _).mono ?_
             rw [hb]
             rintro e' w2 ⟨rfl, rfl⟩)
          | (at_builtin; refine wpList_append_run rfl _ _ _ rfl rfl rfl HR.out ?_)
          | fail)
        go_roundg (nl - (i + 1))
        case measure => omega
        case rel => exact ⟨i + 1, by go_num, by omega, by omega, by rw [HC.out.2.2, hk]; rw [hk] at HC; exact HC.out.1, HC.out.2.1⟩
      | false =>
        have hk : kN x = -1 := by unfold kN; rw [if_neg (by simp [hb])]
        rw [hk] at HR
        go_wp2_with (first
          | (go_at_call 35
             refine (Number_any x x64.1 x64.2 _).mono ?_
             rw [hb]
             rintro e' w2 ⟨rfl, rfl⟩)
          | (at_builtin; refine wpList_append_run rfl _ _ _ rfl rfl rfl HR.out ?_)
          | fail)
        go_roundg (nl - (i + 1))
        case measure => omega
        case rel => exact ⟨i + 1, by go_num, by omega, by omega, by rw [HC.out.2.2, hk]; rw [hk] at HC; exact HC.out.1, HC.out.2.1⟩
    · obtain rfl : i = nl := by omega
      have t1 : decide ((i : Int) < (i : Int)) = false := decide_eq_false (by omega)
      rw [List.take_of_length_le (by rw [HNL.out]; exact Nat.le_refl _)] at own hlen ⊢
      clear hlen
      rw [show (l.map kN).length = i by rw [List.length_map, HNL.out]] at own
      have HK := Lib.hid (And.intro own cw)
      rw [show (l.map kN).length = i by rw [List.length_map, HNL.out]]
      have H := Lib.hid (H0.out.world cw)
      clear own cw
      go_wp2_with (first
        | (go_at_call 80
           refine (k_behind H.out o ho).mono ?_
           rintro e' w5 ⟨rfl, g5, -⟩)
        | (go_at_call 81
           refine (HSM.out _).mono ?_
           rintro e' w6 ⟨rfl, rfl⟩)
        | fail)
      go_ret2
      exact ⟨rfl, g5⟩

set_option maxRecDepth 100000 in
set_option maxHeartbeats 1000000 in
theorem k_obj60 (h : MemK w0 w m L K) (o x : Int) (ho : In64 o) (hx : In64 x) (v : Value) (S : Nat → Prop) (hv : IntS w S v [x]) :
    Calls Tryd.prog 47 #[.iface 27 (.pointer (some ⟨m, 0, none⟩)), .int .i64 60, .int .i64 o, v] w fun e w' => e = .returned (.tuple #[.int .i64 (getV' L o x), .int .i64 (getE' L o x)]) ∧ MemK w0 w' m L K := by
  obtain ⟨l, hl'⟩ : ∃ l, [x] = l := ⟨_, rfl⟩
  have hl : l.length ≤ 1000 := by rw [← hl']; simp
  have hl1 : l.length = 1 := by rw [← hl']; rfl
  rw [hl'] at hv
  have HLX := Lib.hid hl'
  have HL1 := Lib.hid hl1
  clear hl' hl1
  have H0 := Lib.hid h
  obtain ⟨A, c, rfl, hlc, hcm, -⟩ := hv.form
  have HV := Lib.hid hv
  generalize hnl : l.length = nl at *
  have HNL := Lib.hid hnl
  clear h hv hnl
  go_enter Tryd.func47, Tryd.ntmps47
  go_wp2_with fail
  go_loopg [10, 25] nl (fun j v10 v25 wr => ∃ i : Nat, v25 = .int .i64 (i : Int) ∧ i ≤ nl ∧ nl - i ≤ j ∧ OwnInts wr w.heap.size v10 ((l.take i).map kN) ∧ Chg No w wr)
  case atStart => exact ⟨0, rfl, by omega, by omega, World.ownsRow_nil _ _ _ _, Chg.refl _ _⟩
  case round =>
    obtain ⟨i, rfl, i1, i2, own, cw⟩ := hrel
    obtain ⟨A3, c3, rfl⟩ := own.form
    have hlen : ((l.take i).map kN).length ≤ i := by simp; omega
    by_cases hi : i < nl
    · have t1 : decide ((i : Int) < (nl : Int)) = true := decide_eq_true (by omega)
      have t0 : (i : Int) < (nl : Int) := by omega
      obtain ⟨g, off, rfl, hg, hc, x64, -⟩ := (HV.out.keep cw (fun _ _ f => f)).at (i := i) (by rw [HNL.out]; exact hi)
      have hsn := kN_snoc (l := l) (i := i) (by rw [HNL.out]; exact hi)
      generalize l[i]?.getD 0 = x at *
      obtain ⟨A5, c5, w5, hr5, ho5, cg5⟩ := app_one own (by omega) cw.size (kN x) 36
      have cw5 : Chg No w w5 := cw.then cg5 (fun k hk hle => by omega)
      have HR := Lib.hid hr5
      have HC := Lib.hid (And.intro ho5 (And.intro cw5 hsn))
      clear own cw hr5 ho5 cg5 cw5 hsn
      generalize ((l.take i).map kN).length = q at *
      cases hb : numOk x with
      | true =>
        have hk : kN x = numV x := by unfold kN; rw [if_pos hb]
        rw [hk] at HR
        go_wp2_with (first
          | (go_at_call 35
             refine (Number_any x x64.1 x64.2 _).mono ?_
             rw [hb]
             rintro e' w2 ⟨rfl, rfl⟩)
          | (at_builtin; refine wpList_append_run rfl _ _ _ rfl rfl rfl HR.out ?_)
          | fail)
        go_roundg (nl - (i + 1))
        case measure => omega
        case rel => exact ⟨i + 1, by go_num, by omega, by omega, by rw [HC.out.2.2, hk]; rw [hk] at HC; exact HC.out.1, HC.out.2.1⟩
      | false =>
        have hk : kN x = -1 := by unfold kN; rw [if_neg (by simp [hb])]
        rw [hk] at HR
        go_wp2_with (first
          | (go_at_call 35
             refine (Number_any x x64.1 x64.2 _).mono ?_
             rw [hb]
             rintro e' w2 ⟨rfl, rfl⟩)
          | (at_builtin; refine wpList_append_run rfl _ _ _ rfl rfl rfl HR.out ?_)
          | fail)
        go_roundg (nl - (i + 1))
        case measure => omega
        case rel => exact ⟨i + 1, by go_num, by omega, by omega, by rw [HC.out.2.2, hk]; rw [hk] at HC; exact HC.out.1, HC.out.2.1⟩
    · obtain rfl : i = nl := by omega
      have t1 : decide ((i : Int) < (i : Int)) = false := decide_eq_false (by omega)
      rw [List.take_of_length_le (by rw [HNL.out]; exact Nat.le_refl _)] at own hlen ⊢
      clear hlen
      rw [show (l.map kN).length = i by rw [List.length_map, HNL.out]] at own
      have HK := Lib.hid (And.intro own cw)
      rw [show (l.map kN).length = i by rw [List.length_map, HNL.out]]
      have H := Lib.hid (H0.out.world cw)
      clear own cw
      obtain ⟨g, off, rfl, hg, hc, x64, -⟩ := (HV.out.keep HK.out.2 (fun _ _ f => f)).at (i := 0) (by rw [HNL.out, HL1.out]; omega)
      rw [← HLX.out] at hc
      simp only [List.getElem?_cons_zero, Option.getD_some, Nat.add_zero] at hc
      obtain rfl := HL1.out
      go_wp2_with (first
        | (go_at_call 78
           refine (k_get H.out o x ho hx).mono ?_
           rintro e' w5 ⟨rfl, g5⟩)
        | fail)
      go_ret2
      exact ⟨rfl, g5⟩

set_option maxRecDepth 100000 in
set_option maxHeartbeats 1000000 in
theorem k_obj61 (h : MemK w0 w m L K) (o x y : Int) (ho : In64 o) (hx : In64 x) (hy : In64 y) (v : Value) (S : Nat → Prop) (hv : IntS w S v [x, y]) :
    Calls Tryd.prog 47 #[.iface 27 (.pointer (some ⟨m, 0, none⟩)), .int .i64 61, .int .i64 o, v] w fun e w' => e = .returned (.tuple #[.int .i64 (putV' L o x y), .int .i64 (putE' L o x y)]) ∧ MemK w0 w' m (putL' L o x y) K := by
  obtain ⟨l, hl'⟩ : ∃ l, [x, y] = l := ⟨_, rfl⟩
  have hl : l.length ≤ 1000 := by rw [← hl']; simp
  have hl1 : l.length = 2 := by rw [← hl']; rfl
  rw [hl'] at hv
  have HLX := Lib.hid hl'
  have HL1 := Lib.hid hl1
  clear hl' hl1
  have H0 := Lib.hid h
  obtain ⟨A, c, rfl, hlc, hcm, -⟩ := hv.form
  have HV := Lib.hid hv
  generalize hnl : l.length = nl at *
  have HNL := Lib.hid hnl
  clear h hv hnl
  go_enter Tryd.func47, Tryd.ntmps47
  go_wp2_with fail
  go_loopg [10, 25] nl (fun j v10 v25 wr => ∃ i : Nat, v25 = .int .i64 (i : Int) ∧ i ≤ nl ∧ nl - i ≤ j ∧ OwnInts wr w.heap.size v10 ((l.take i).map kN) ∧ Chg No w wr)
  case atStart => exact ⟨0, rfl, by omega, by omega, World.ownsRow_nil _ _ _ _, Chg.refl _ _⟩
  case round =>
    obtain ⟨i, rfl, i1, i2, own, cw⟩ := hrel
    obtain ⟨A3, c3, rfl⟩ := own.form
    have hlen : ((l.take i).map kN).length ≤ i := by simp; omega
    by_cases hi : i < nl
    · have t1 : decide ((i : Int) < (nl : Int)) = true := decide_eq_true (by omega)
      have t0 : (i : Int) < (nl : Int) := by omega
      obtain ⟨g, off, rfl, hg, hc, x64, -⟩ := (HV.out.keep cw (fun _ _ f => f)).at (i := i) (by rw [HNL.out]; exact hi)
      have hsn := kN_snoc (l := l) (i := i) (by rw [HNL.out]; exact hi)
      generalize l[i]?.getD 0 = x at *
      obtain ⟨A5, c5, w5, hr5, ho5, cg5⟩ := app_one own (by omega) cw.size (kN x) 36
      have cw5 : Chg No w w5 := cw.then cg5 (fun k hk hle => by omega)
      have HR := Lib.hid hr5
      have HC := Lib.hid (And.intro ho5 (And.intro cw5 hsn))
      clear own cw hr5 ho5 cg5 cw5 hsn
      generalize ((l.take i).map kN).length = q at *
      cases hb : numOk x with
      | true =>
        have hk : kN x = numV x := by unfold kN; rw [if_pos hb]
        rw [hk] at HR
        go_wp2_with (first
          | (go_at_call 35
             refine (Number_any x x64.1 x64.2 _).mono ?_
             rw [hb]
             rintro e' w2 ⟨rfl, rfl⟩)
          | (at_builtin; refine wpList_append_run rfl _ _ _ rfl rfl rfl HR.out ?_)
          | fail)
        go_roundg (nl - (i + 1))
        case measure => omega
        case rel => exact ⟨i + 1, by go_num, by omega, by omega, by rw [HC.out.2.2, hk]; rw [hk] at HC; exact HC.out.1, HC.out.2.1⟩
      | false =>
        have hk : kN x = -1 := by unfold kN; rw [if_neg (by simp [hb])]
        rw [hk] at HR
        go_wp2_with (first
          | (go_at_call 35
             refine (Number_any x x64.1 x64.2 _).mono ?_
             rw [hb]
             rintro e' w2 ⟨rfl, rfl⟩)
          | (at_builtin; refine wpList_append_run rfl _ _ _ rfl rfl rfl HR.out ?_)
          | fail)
        go_roundg (nl - (i + 1))
        case measure => omega
        case rel => exact ⟨i + 1, by go_num, by omega, by omega, by rw [HC.out.2.2, hk]; rw [hk] at HC; exact HC.out.1, HC.out.2.1⟩
    · obtain rfl : i = nl := by omega
      have t1 : decide ((i : Int) < (i : Int)) = false := decide_eq_false (by omega)
      rw [List.take_of_length_le (by rw [HNL.out]; exact Nat.le_refl _)] at own hlen ⊢
      clear hlen
      rw [show (l.map kN).length = i by rw [List.length_map, HNL.out]] at own
      have HK := Lib.hid (And.intro own cw)
      rw [show (l.map kN).length = i by rw [List.length_map, HNL.out]]
      have H := Lib.hid (H0.out.world cw)
      clear own cw
      obtain ⟨g, off, rfl, hg, hc, x64, -⟩ := (HV.out.keep HK.out.2 (fun _ _ f => f)).at (i := 0) (by rw [HNL.out, HL1.out]; omega)
      obtain ⟨g', off', e9, hg', hc', y64, -⟩ := (HV.out.keep HK.out.2 (fun _ _ f => f)).at (i := 1) (by rw [HNL.out, HL1.out]; omega)
      obtain ⟨rfl, rfl⟩ : g = g' ∧ off = off' := by simpa using e9
      rw [← HLX.out] at hc hc'
      simp only [List.getElem?_cons_zero, List.getElem?_cons_succ, Option.getD_some, Nat.add_zero] at hc hc'
      obtain rfl := HL1.out
      go_wp2_with fail
      go_region_law (first
        | (go_simp; go_at_call 79
           refine (k_put (H.out.world ((Chg.refl _ _).drew)) o x y ho hx hy).mono ?_
           rintro e' w5 ⟨rfl, g5⟩)
        | fail)
      all_goals
        go_wp2_with fail
        go_ret2
        exact ⟨rfl, g5⟩

end

section
variable {w0 w w' : World} {m : Nat} {L L' : List O} {K : (Nat → Prop) → World → Prop} {F F' : Nat → Prop}
theorem Tab.chg {w w' : World} (h : Tab w) (c : Chg No w w') : Tab w' := h.below c.below
theorem IntS.row3 {w : World} {r : Nat} {t : TypeId} {a b c : Int} (h : Row w r t #[.int .i64 a, .int .i64 b, .int .i64 c]) (ha : In64 a) (hb : In64 b) (hc : In64 c) : IntS w (fun b => b = r) (.slice (some ⟨r, 0, none⟩) 3 3) [a, b, c] :=
  ⟨by simpa using Slc.row (S := fun k => k = r) h 3 1 rfl (by unfold maxLen; omega) rfl, by intro x hx; simp at hx; rcases hx with rfl | rfl | rfl <;> assumption⟩
set_option maxRecDepth 100000 in
set_option maxHeartbeats 1000000 in
theorem k_DoObj (h : MemK w0 w m L K) (ht : Tab w) (n o : Int) (hn : 30 ≤ n) (A : Option Addr) (nl c : Nat) (hk : knOk n = true) (hkv : knV n = nl) (V E : Int)
    (hob : ∀ w1, MemK w0 w1 m L K → Chg No w w1 → Calls Tryd.prog 47 #[.iface 27 (.pointer (some ⟨m, 0, none⟩)), .int .i64 n, .int .i64 o, .slice A nl c] w1 fun e' w' => e' = .returned (.tuple #[.int .i64 V, .int .i64 E]) ∧ MemK w0 w' m L' K) :
    Calls Tryd.prog 20 #[.iface 27 (.pointer (some ⟨m, 0, none⟩)), .int .i64 n, .int .i64 o, .slice A nl c] w fun e' w' => e' = .returned (.tuple #[.int .i64 (if E = 0 then V else 0), .bool (E == 0), .int .i64 (if E = 3 then 3 else 0)]) ∧ MemK w0 w' m L' K := by
  have HM := Lib.hid h
  have HKN := Lib.hid (And.intro hkv hk)
  have HNI := Lib.hid (show decide (n ∈ ([21, 22, 29] : List Int)) = false from decide_eq_false (by simp; omega))
  have t1 : decide (n < 16) = false := decide_eq_false (by omega)
  have t2 : ((nl : Int) != (nl : Int)) = false := by simp
  clear h hk hkv
  by_cases h0 : E = 0
  · subst h0
    rw [if_pos rfl, if_neg (by simp)]
    go_enter Tryd.func20, Tryd.ntmps20
    go_wp2_with (first
                  | (go_at_call 23
                     refine (Known_any n _ ht).mono ?_
                     rw [HKN.out.1, HKN.out.2]
                     rintro e' w1 ⟨rfl, hb⟩
                     have c1 := Chg.of_below (F := No) hb
                     obtain ⟨W2, hW2⟩ : ∃ W, w1.alloc (.cells #[.int .i64 0, .int .i64 0, .int .i64 1, .int .i64 2, .int .i64 3, .int .i64 4, .int .i64 5, .int .i64 6, .int .i64 7, .int .i64 8, .int .i64 9, .int .i64 10, .int .i64 13, .int .i64 0, .int .i64 14, .int .i64 15] 3) = W := ⟨_, rfl⟩
                     obtain ⟨W3, hW3⟩ : ∃ W, W2.alloc (.cells #[.int .i64 21, .int .i64 22, .int .i64 29] 3) = W := ⟨_, rfl⟩
                     have c2 : Chg No w1 W2 := by rw [← hW2]; exact (Chg.refl _ _).alloc _
                     have c3 : Chg No W2 W3 := by rw [← hW3]; exact (Chg.refl _ _).alloc _
                     have r3 : Row W3 W2.heap.size 3 #[.int .i64 21, .int .i64 22, .int .i64 29] := by rw [← hW3]; exact Row.new _ _ _
                     have H3 := Lib.hid (And.intro (c1.trans (c2.trans c3)) (IntS.row3 r3 (by unfold In64; omega) (by unfold In64; omega) (by unfold In64; omega)))
                     have HW2 := Lib.hid hW2
                     have HW3 := Lib.hid hW3
                     clear c1 c2 c3 r3 hW2 hW3 hb)
                  | (rw [HW2.out])
                  | (rw [HW3.out])
                  | (go_at_call 45
                     refine (ContainsI2_any _ [21, 22, 29] _ n _ H3.out.2).mono ?_
                     rw [HNI.out]
                     rintro e' w4 ⟨rfl, c4⟩
                     have HOB := Lib.hid (hob w4 (HM.out.world (H3.out.1.trans c4)) (H3.out.1.trans c4))
                     clear c4)
                  | (go_at_call 47
                     refine HOB.out.mono ?_
                     rintro e' w5 ⟨rfl, g5⟩
                     have H5 := Lib.hid g5
                     clear g5)
                  | fail)
    exact bodyPost_ret (v := .tuple #[.int .i64 V, .bool true, .int .i64 0]) (by simp [results, Tryd.results20, go_sem]) rfl ⟨rfl, H5.out⟩
  · have t3 : (E == 0) = false := beq_eq_false_iff_ne.2 h0
    rw [if_neg h0, t3]
    by_cases h3 : E = 3
    · subst h3
      rw [if_pos rfl]
      go_enter Tryd.func20, Tryd.ntmps20
      go_wp2_with (first
                    | (go_at_call 23
                       refine (Known_any n _ ht).mono ?_
                       rw [HKN.out.1, HKN.out.2]
                       rintro e' w1 ⟨rfl, hb⟩
                       have c1 := Chg.of_below (F := No) hb
                       obtain ⟨W2, hW2⟩ : ∃ W, w1.alloc (.cells #[.int .i64 0, .int .i64 0, .int .i64 1, .int .i64 2, .int .i64 3, .int .i64 4, .int .i64 5, .int .i64 6, .int .i64 7, .int .i64 8, .int .i64 9, .int .i64 10, .int .i64 13, .int .i64 0, .int .i64 14, .int .i64 15] 3) = W := ⟨_, rfl⟩
                       obtain ⟨W3, hW3⟩ : ∃ W, W2.alloc (.cells #[.int .i64 21, .int .i64 22, .int .i64 29] 3) = W := ⟨_, rfl⟩
                       have c2 : Chg No w1 W2 := by rw [← hW2]; exact (Chg.refl _ _).alloc _
                       have c3 : Chg No W2 W3 := by rw [← hW3]; exact (Chg.refl _ _).alloc _
                       have r3 : Row W3 W2.heap.size 3 #[.int .i64 21, .int .i64 22, .int .i64 29] := by rw [← hW3]; exact Row.new _ _ _
                       have H3 := Lib.hid (And.intro (c1.trans (c2.trans c3)) (IntS.row3 r3 (by unfold In64; omega) (by unfold In64; omega) (by unfold In64; omega)))
                       have HW2 := Lib.hid hW2
                       have HW3 := Lib.hid hW3
                       clear c1 c2 c3 r3 hW2 hW3 hb)
                    | (rw [HW2.out])
                    | (rw [HW3.out])
                    | (go_at_call 45
                       refine (ContainsI2_any _ [21, 22, 29] _ n _ H3.out.2).mono ?_
                       rw [HNI.out]
                       rintro e' w4 ⟨rfl, c4⟩
                       have HOB := Lib.hid (hob w4 (HM.out.world (H3.out.1.trans c4)) (H3.out.1.trans c4))
                       clear c4)
                    | (go_at_call 47
                       refine HOB.out.mono ?_
                       rintro e' w5 ⟨rfl, g5⟩
                       have H5 := Lib.hid g5
                       clear g5)
                    | fail)
      exact bodyPost_ret (v := .tuple #[.int .i64 0, .bool false, .int .i64 3]) (by simp [results, Tryd.results20, go_sem]) rfl ⟨rfl, H5.out⟩
    · have t4 : (E == 3) = false := beq_eq_false_iff_ne.2 h3
      rw [if_neg h3]
      go_enter Tryd.func20, Tryd.ntmps20
      go_wp2_with (first
                    | (go_at_call 23
                       refine (Known_any n _ ht).mono ?_
                       rw [HKN.out.1, HKN.out.2]
                       rintro e' w1 ⟨rfl, hb⟩
                       have c1 := Chg.of_below (F := No) hb
                       obtain ⟨W2, hW2⟩ : ∃ W, w1.alloc (.cells #[.int .i64 0, .int .i64 0, .int .i64 1, .int .i64 2, .int .i64 3, .int .i64 4, .int .i64 5, .int .i64 6, .int .i64 7, .int .i64 8, .int .i64 9, .int .i64 10, .int .i64 13, .int .i64 0, .int .i64 14, .int .i64 15] 3) = W := ⟨_, rfl⟩
                       obtain ⟨W3, hW3⟩ : ∃ W, W2.alloc (.cells #[.int .i64 21, .int .i64 22, .int .i64 29] 3) = W := ⟨_, rfl⟩
                       have c2 : Chg No w1 W2 := by rw [← hW2]; exact (Chg.refl _ _).alloc _
                       have c3 : Chg No W2 W3 := by rw [← hW3]; exact (Chg.refl _ _).alloc _
                       have r3 : Row W3 W2.heap.size 3 #[.int .i64 21, .int .i64 22, .int .i64 29] := by rw [← hW3]; exact Row.new _ _ _
                       have H3 := Lib.hid (And.intro (c1.trans (c2.trans c3)) (IntS.row3 r3 (by unfold In64; omega) (by unfold In64; omega) (by unfold In64; omega)))
                       have HW2 := Lib.hid hW2
                       have HW3 := Lib.hid hW3
                       clear c1 c2 c3 r3 hW2 hW3 hb)
                    | (rw [HW2.out])
                    | (rw [HW3.out])
                    | (go_at_call 45
                       refine (ContainsI2_any _ [21, 22, 29] _ n _ H3.out.2).mono ?_
                       rw [HNI.out]
                       rintro e' w4 ⟨rfl, c4⟩
                       have HOB := Lib.hid (hob w4 (HM.out.world (H3.out.1.trans c4)) (H3.out.1.trans c4))
                       clear c4)
                    | (go_at_call 47
                       refine HOB.out.mono ?_
                       rintro e' w5 ⟨rfl, g5⟩
                       have H5 := Lib.hid g5
                       clear g5)
                    | fail)
      exact bodyPost_ret (v := .tuple #[.int .i64 0, .bool false, .int .i64 0]) (by simp [results, Tryd.results20, go_sem]) rfl ⟨rfl, H5.out⟩
end

end Go.Proofs.YtncoanmgifgcbaaDoor
