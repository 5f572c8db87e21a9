/- image.near, over a flat memory: the walk. -/
import Derived.Test.YtncoanmgifgcbaaDoorNearA
import Derived.Test.YtncoanmgifgcbaaDoorSortS
import Derived.WalkMore
namespace Go.Proofs.YtncoanmgifgcbaaDoor
set_option linter.unusedVariables false
set_option linter.unusedSimpArgs false
open Go.RowKit
open Go.ChangeMaps (setBlock)

/-- the search under way -/
structure NearI (L : List O) (R : List Int) (v w wr : World) (v1 v6 : Value) (td : List Int) (sl : List (Int × Value)) (sb : Int → Bool) (os ids : List Int) : Prop where
  todo : OwnInts wr v.heap.size v1 td
  td64 : ∀ x ∈ td, In64 x
  out : OwnInts wr (w.heap.size + 1) v6 os
  apart : ∀ k, v1.ownBlock = some k → k ≠ w.heap.size ∧ ¬ v6.ownBlock = some k
  map : IMap wr w.heap.size sl
  get : ∀ k, (mget k sl).getD (.bool false) = .bool (sb k)
  dinv : DInv L R ids (fun k => sb k = true)
  nodup : os.Nodup
  mem : ∀ x, x ∈ os ↔ sb x = true
  chg : Chg No v wr
  size : w.heap.size + 1 ≤ wr.heap.size
section
variable {L : List O} {R : List Int} {v w wr w' : World} {v1 v6 : Value} {td os ids : List Int} {sl : List (Int × Value)} {sb : Int → Bool} {o : Int}
theorem numsOf_snoc : numsOf (td ++ [o]) = numsOf td ++ [namedV o] := by simp [numsOf]
/-- one less -/
theorem NearI.skip {A : Option Addr} {k c : Nat} (h : NearI L R v w wr (.slice A (k + 1) c) v6 (td ++ [o]) sl sb os (numsOf (td ++ [o]))) (hk : td.length = k) (c1 : Chg No wr w') (hs : ¬ live L (namedV o) ∨ sb (namedV o) = true) : NearI L R v w w' (.slice A k c) v6 td sl sb os (numsOf td) where
  todo := own_keep (own_short h.todo hk) c1 (fun _ _ f => f)
  td64 := fun x hx => h.td64 x (List.mem_append_left _ hx)
  out := own_keep h.out c1 (fun _ _ f => f)
  apart := fun j hj => h.apart j (by cases A with
    | none => simp [Value.ownBlock] at hj
    | some a => simpa [Value.ownBlock] using hj)
  map := h.map.keep c1 (fun f => f)
  get := h.get
  dinv := by have h1 := h.dinv; rw [numsOf_snoc] at h1; exact h1.skip hs
  nodup := h.nodup
  mem := h.mem
  chg := h.chg.trans c1
  size := Nat.le_trans h.size c1.size
theorem NearI.perm (h : NearI L R v w wr v1 v6 [] sl sb os []) : os.Perm (nearI L R) := by
  refine (List.perm_ext_iff_of_nodup h.nodup ((nearI_rising L R).imp fun {a b} hab => by omega)).2 fun x => ?_
  rw [h.mem, mem_nearI]
  exact (h.dinv.done x).symm
theorem NearI.len (h : NearI L R v w wr v1 v6 td sl sb os ids) : os.length ≤ L.length ∧ ∀ x ∈ os, 1 ≤ x ∧ x ≤ L.length := by
  have key : ∀ x ∈ os, 1 ≤ x ∧ x ≤ L.length := fun x hx => by
    have hr := h.dinv.seen x ((h.mem x).1 hx)
    exact nearI_bd (mem_nearI.2 hr)
  refine ⟨?_, key⟩
  have h1 := nodup_len_le (l := os) (m := (List.range L.length).map fun i : Nat => (i : Int) + 1) h.nodup fun x hx => by
    have := key x hx
    exact List.mem_map.2 ⟨(x - 1).toNat, List.mem_range.2 (by omega), by omega⟩
  simpa using h1
theorem NearI.keep (h : NearI L R v w wr v1 v6 td sl sb os ids) (c1 : Chg No wr w') : NearI L R v w w' v1 v6 td sl sb os ids where
  todo := own_keep h.todo c1 (fun _ _ f => f)
  td64 := h.td64
  out := own_keep h.out c1 (fun _ _ f => f)
  apart := h.apart
  map := h.map.keep c1 (fun f => f)
  get := h.get
  dinv := h.dinv
  nodup := h.nodup
  mem := h.mem
  chg := h.chg.trans c1
  size := Nat.le_trans h.size c1.size
/-- a reference more -/
theorem NearI.push (h : NearI L R v w wr v1 v6 td sl sb os ids) (y : Int) (hy : In64 y) (hl : td.length < 5000000000000) :
    ∃ A c w', (Builtin.append_ #[36, 36] 36 #[v1, .slice (some ⟨wr.heap.size, 0, none⟩) 1 1]).run Tryd.prog (wr.alloc (.cells #[.int .i64 y] 3)) = .ok (.slice A (td.length + 1) c) w' ∧ NearI L R v w w' (.slice A (td.length + 1) c) v6 (td ++ [y]) sl sb os ids ∧ Chg (fun b => v1.ownBlock = some b) wr w' ∧ ∀ b, (Value.slice A (td.length + 1) c).ownBlock = some b → v1.ownBlock = some b ∨ wr.heap.size ≤ b := by
  have ca : Chg No wr (wr.alloc (.cells #[.int .i64 y] 3)) := (Chg.refl _ _).alloc _
  have hcs := h.chg.size
  have hsz := h.size
  obtain ⟨A, c, w', hr, ho, cg, hn⟩ := app_own (r := [y]) (own_keep h.todo ca (fun _ _ f => f)) (Slc.row (S := fun _ => True) (Row.new wr 3 #[.int .i64 y]) 1 1 rfl (by unfold maxLen; omega) trivial) (by simp; omega) (by simp; omega) 36
  simp only [List.length_cons, List.length_nil, Nat.zero_add] at hr ho hn
  have cw : Chg (fun b => v1.ownBlock = some b) wr w' := ca.no.then cg (fun _ _ e => e)
  have hn2 : ∀ b, (Value.slice A (td.length + 1) c).ownBlock = some b → v1.ownBlock = some b ∨ wr.heap.size ≤ b := fun b hb => (hn b hb).imp id (fun h => by simp at h; omega)
  refine ⟨A, c, w', hr, ?_, cw, hn2⟩
  exact
    { todo := ho
      td64 := fun x hx => (List.mem_append.1 hx).elim (h.td64 x) (fun e => by rw [List.mem_singleton.1 e]; exact hy)
      out := own_keep h.out cw (fun b hb e => (h.apart b e).2 hb)
      apart := fun b hb => by
        rcases hn2 b hb with h1 | h1
        · exact h.apart b h1
        · exact ⟨by omega, fun e => by have := (own_ltI h.out e).1; omega⟩
      map := h.map.keep cw (fun e => (h.apart _ e).1 rfl)
      get := h.get
      dinv := h.dinv
      nodup := h.nodup
      mem := h.mem
      chg := h.chg.then cw (fun b hb e => by have := (own_ltI h.todo e).2; omega)
      size := Nat.le_trans h.size cw.size }
/-- one is seen -/
theorem NearI.mark {g k q c8 c6 : Nat} {A6 : Option Addr} {x : O} {w5 : World} {A5 A7 : Option Addr} {d5 d6 : Nat} (h : NearI L R v w wr (.slice (some ⟨g, 0, none⟩) (k + 1) c8) (.slice A6 q c6) (td ++ [o]) sl sb os (numsOf (td ++ [o]))) (hk : td.length = k) (hq : os.length = q) (hl : live L (namedV o)) (hs : sb (namedV o) = false) (hx : x = ob L (namedV o - 1).toNat) (hmd : L.length < 1073741823) (hvw : v.heap.size ≤ w.heap.size) (c5 : Chg No wr w5)
    (hr5 : ObjR w5 (fun b => wr.heap.size ≤ b) (.agg #[.int .i64 x.cls, .int .i64 x.kind, .slice A5 x.W.length d5, .slice A7 x.B.length d6]) x) :
    ∃ W5 Wm A9 c9 w6, w5.alloc (.cells #[.int .i64 x.cls, .int .i64 x.kind, .slice A5 x.W.length d5, .slice A7 x.B.length d6] 41) = W5 ∧
      (Instr.lookup 107 (.map (some w.heap.size)) (.int .i64 (namedV o)) false).run Tryd.prog W5 = .ok (.bool false) W5 ∧
      (Instr.mapUpdate 107 (.map (some w.heap.size)) (.int .i64 (namedV o)) (.bool true)).run Tryd.prog W5 = .ok () Wm ∧
      (Builtin.append_ #[36, 36] 36 #[.slice A6 q c6, .slice (some ⟨Wm.heap.size, 0, none⟩) 1 1]).run Tryd.prog (Wm.alloc (.cells #[.int .i64 (namedV o)] 3)) = .ok (.slice A9 (q + 1) c9) w6 ∧
      Row w6 w5.heap.size 41 #[.int .i64 x.cls, .int .i64 x.kind, .slice A5 x.W.length d5, .slice A7 x.B.length d6] ∧
      ObjR w6 (fun b => wr.heap.size ≤ b) (.agg #[.int .i64 x.cls, .int .i64 x.kind, .slice A5 x.W.length d5, .slice A7 x.B.length d6]) x ∧
      NearI L R v w w6 (.slice (some ⟨g, 0, none⟩) k c8) (.slice A9 (q + 1) c9) td (mset (namedV o) (.bool true) sl) (fun j => if j = namedV o then true else sb j) (os ++ [namedV o]) (numsOf td ++ refsO x) := by
  obtain ⟨W5, hW5⟩ : ∃ W, w5.alloc (.cells #[.int .i64 x.cls, .int .i64 x.kind, .slice A5 x.W.length d5, .slice A7 x.B.length d6] 41) = W := ⟨_, rfl⟩
  have cW5 : Chg No w5 W5 := by rw [← hW5]; exact (Chg.refl _ _).alloc _
  have r5 : Row W5 w5.heap.size 41 #[.int .i64 x.cls, .int .i64 x.kind, .slice A5 x.W.length d5, .slice A7 x.B.length d6] := by rw [← hW5]; exact Row.new w5 _ _
  have c05 : Chg No wr W5 := c5.trans cW5
  have hlk := (h.map.keep c05 (fun f => f)).lookup (P := Tryd.prog) elem_bmap Tryd.underlying3 zero_bool (namedV o)
  rw [h.get, hs] at hlk
  obtain ⟨ob0, hupd, hmap2⟩ := (h.map.keep c05 (fun f => f)).update (P := Tryd.prog) elem_bmap Tryd.underlying3 (namedV o) (.bool true)
  obtain ⟨Wm, hWm⟩ : ∃ W, setBlock W5 w.heap.size ob0 = W := ⟨_, rfl⟩
  have cm : Chg (fun b => b = w.heap.size) W5 Wm := by rw [← hWm]; exact Chg.setBlock (F := fun b => b = w.heap.size) (Chg.refl _ _) (.inl rfl) ob0
  rw [hWm] at hupd hmap2
  have sz := h.size
  have c5s := c5.size
  have c05s := c05.size
  have cms := cm.size
  have hosl := h.len.1
  have hgb := own_ltI h.todo (b := g) (by simp [Value.ownBlock])
  have hgo := h.apart g (by simp [Value.ownBlock])
  have hvs := h.chg.size
  have ca : Chg No Wm (Wm.alloc (.cells #[.int .i64 (namedV o)] 3)) := (Chg.refl _ _).alloc _
  have o1 := own_keep (own_keep (own_keep h.out c05 (fun _ _ f => f)) cm (fun b hb e => by have := (own_ltI h.out hb).2; omega)) ca (fun _ _ f => f)
  obtain ⟨A9, c9, w6, hr6, ho6, cg6, hn6⟩ := app_own (r := [namedV o]) o1 (Slc.row (S := fun _ => True) (Row.new Wm 3 #[.int .i64 (namedV o)]) 1 1 rfl (by unfold maxLen; omega) trivial) (by simp; omega) (by simp; omega) 36
  simp only [List.length_cons, List.length_nil, Nat.zero_add] at hr6 ho6 hn6
  rw [hq] at hr6 ho6 hn6
  have c56 : Chg (fun b => b = w.heap.size ∨ (Value.slice A6 q c6).ownBlock = some b) W5 w6 := (cm.mono (fun _ _ e => .inl e)).then (ca.no.then cg6 (fun _ _ e => e)) (fun _ _ e => .inr e)
  have hnot : ∀ b, wr.heap.size ≤ b → ¬ (b = w.heap.size ∨ (Value.slice A6 q c6).ownBlock = some b) := fun b hb e => by
    rcases e with e | e
    · omega
    · have := (own_ltI h.out e).1; omega
  have h56 : w5.heap.size ≤ W5.heap.size := cW5.size
  have hag : ∀ b, (Value.slice (some ⟨g, 0, none⟩) k c8).ownBlock = some b → b = g := fun b hb => by simp [Value.ownBlock] at hb; exact hb.symm
  have c06 : Chg (fun b => b = w.heap.size ∨ (Value.slice A6 q c6).ownBlock = some b) wr w6 := c05.no.then c56 (fun _ _ e => e)
  refine ⟨W5, Wm, A9, c9, w6, hW5, hlk, hupd, hr6, r5.keep c56 (hnot _ c5s), (hr5.keep cW5 (fun _ _ f => f)).keep c56 (fun b hb => hnot b hb), ?_⟩
  exact
    { todo := own_keep (own_short h.todo hk) c06 (fun b hb e => by
        obtain rfl := hag b hb
        rcases e with e | e
        · exact hgo.1 e
        · exact hgo.2 e)
      td64 := fun y hy => h.td64 y (List.mem_append_left _ hy)
      out := ho6
      apart := fun b hb => by
        obtain rfl := hag b hb
        refine ⟨hgo.1, fun e => ?_⟩
        rcases hn6 b e with e | e
        · exact hgo.2 e
        · simp at e; omega
      map := hmap2.keep (ca.no.then cg6 (fun _ _ e => e) : Chg (fun b => (Value.slice A6 q c6).ownBlock = some b) Wm w6) (fun e => by have := (own_ltI h.out e).2; omega)
      get := fun j => by
        rw [mget_mset]
        by_cases hj : j = namedV o
        · simp [hj]
        · simp [hj, h.get j]
      dinv := by
        have h1 := h.dinv
        rw [numsOf_snoc] at h1
        rw [hx]
        exact h1.mark hl (fun j => by by_cases hj : j = namedV o <;> simp [hj])
      nodup := by
        rw [List.nodup_append]
        refine ⟨h.nodup, by simp, fun a ha b hb => ?_⟩
        rw [List.mem_singleton.1 hb]
        rintro rfl
        rw [(h.mem _).1 ha] at hs
        cases hs
      mem := fun j => by
        rw [List.mem_append, h.mem, List.mem_singleton]
        by_cases hj : j = namedV o <;> simp [hj]
      chg := h.chg.then c06 (fun b hb e => by
        rcases e with e | e
        · omega
        · have := (own_ltI h.out e).2; omega)
      size := by have := c06.size; omega }
end

theorem refsO_bd {o : O} {x : Int} (h : x ∈ refsO o) : 1 ≤ x ∧ x ≤ 1073741823 := by
  unfold refsO at h
  obtain ⟨y, -, hy⟩ := List.mem_filterMap.1 h
  unfold idOf at hy
  split at hy
  · rename_i hn
    have := namedV_of hn
    cases hy
    omega
  · cases hy
theorem numsOf_refs {td rs : List Int} (h : ∀ x ∈ rs, 1 ≤ x ∧ x ≤ 1073741823) : numsOf (td ++ rs.map (2 * ·)) = numsOf td ++ rs := by
  unfold numsOf
  rw [List.map_append, List.map_map]
  congr 1
  conv => rhs; rw [← List.map_id rs]
  refine List.map_congr_left fun x hx => ?_
  have := h x hx
  show namedV (2 * x) = x
  unfold namedV
  rw [if_pos (by omega)]
  omega
theorem refsO_len {x : O} (h : x.ok) : (refsO x).length ≤ 1001 := Nat.le_trans (fm_len _) (by have := h.2.2.1; simp; omega)
section
variable {w0 v w : World} {m : Nat} {L : List O} {K : (Nat → Prop) → World → Prop}
theorem MemK.okAt' {x : O} {k : Int} (h : MemK w0 v m L K) (hx : x = ob L (k - 1).toNat) (hl : live L k) : x.ok := by
  rw [hx]
  exact h.okAt hl.2
set_option maxRecDepth 100000 in
set_option maxHeartbeats 1000000 in
theorem near_any (h : MemK w0 v m L K) (hv : Chg No v w) (tv : Value) (td0 : List Int) (own : OwnInts w v.heap.size tv td0) (h64 : ∀ x ∈ td0, In64 x) (hl : td0.length ≤ 1000000) :
    Calls Tryd.prog 33 #[.iface 27 (.pointer (some ⟨m, 0, none⟩)), tv] w fun e w' => ∃ u, e = .returned u ∧ OwnInts w' (w.heap.size + 1) u (nearI L (numsOf td0)) ∧ Chg No v w' := by
  have hmd := h.made
  have H := Lib.hid h
  obtain ⟨At, ct, rfl⟩ := own.form
  have hmk := fun w => run_makeMap (P := Tryd.prog) 107 w
  have hI : NearI L (numsOf td0) v w (w.alloc (.map #[] 0)) (.slice At td0.length ct) (.slice none 0 0) td0 [] (fun _ => false) [] (numsOf td0) :=
    { todo := own_keep (F := No) own ((Chg.refl _ _).alloc _) (fun _ _ f => f)
      td64 := h64
      out := World.ownsRow_nil _ _ _ _
      apart := fun k hk => ⟨fun e => by have := (own_ltI own hk).1; omega, by simp [Value.ownBlock]⟩
      map := IMap.new w
      get := fun _ => rfl
      dinv := by simpa using DInv.start L (numsOf td0)
      nodup := List.nodup_nil
      mem := fun x => by simp
      chg := hv.alloc _
      size := by simp }
  have hlf := leftL_le L (fun _ => false)
  have HI := Lib.hid hI
  clear h own hI h64
  generalize hR0 : numsOf td0 = R at *
  have HR0 := Lib.hid hR0
  clear hR0
  generalize hn0 : td0.length = n0 at *
  have HN0 := Lib.hid hn0
  clear hn0
  go_enter Tryd.func33, Tryd.ntmps33
  go_wp2_with fail
  generalize hW : World.alloc w _ = W1 at *
  clear hW hmk
  go_loopg [1, 6] (n0 + 1001 * leftL L (fun _ => false)) (fun j v1 v6 wr => ∃ (td : List Int) (sl : List (Int × Value)) (sb : Int → Bool) (os : List Int), NearI L R v w wr v1 v6 td sl sb os (numsOf td) ∧ td.length + 1001 * leftL L sb ≤ j ∧ td.length + 1001 * leftL L sb ≤ n0 + 1001 * leftL L (fun _ => false))
  case atStart => exact ⟨td0, [], fun _ => false, [], by rw [HR0.out]; exact HI.out, by rw [HN0.out]; exact Nat.le_refl _, by rw [HN0.out]; exact Nat.le_refl _⟩
  case round =>
    clear HI
    obtain ⟨td, sl, sb, os, hi, m1, m2⟩ := hrel
    rcases List.eq_nil_or_concat td with rfl | ⟨td, o, rfl⟩
    · obtain ⟨A8, c8, rfl⟩ := hi.todo.form
      obtain ⟨A6, c6, rfl⟩ := hi.out.form
      have HS := Lib.hid (SortI_any hi.out (nearI_rising L R) hi.perm (by have := hi.len.1; omega))
      have HX := Lib.hid hi
      clear hi m1 m2
      rw [List.length_nil]
      generalize os.length = q at *
      go_wp2_with (first
        | (go_at_call 61
           refine HS.out.mono ?_
           rintro e w5 ⟨rfl, ho, c5⟩
           have H5 := Lib.hid (And.intro ho (HX.out.chg.then c5 (fun k hk e => by have h1 := (own_ltI HX.out.out e).2; have h2 := hv.size; omega)))
           clear ho c5)
        | fail)
      go_ret
      exact ⟨_, rfl, H5.out.1, H5.out.2⟩
    · rw [List.concat_eq_append] at hi m1 m2
      obtain ⟨A8, c8, rfl⟩ := hi.todo.form
      have hlk : (td ++ [o]).length = td.length + 1 := by simp
      obtain ⟨g, rfl, hg, hgl, -, hcx⟩ := hi.todo.at (i := td.length) (by omega)
      rw [Nat.zero_add, show (td ++ [o])[td.length]?.getD 0 = o by simp] at hcx
      obtain ⟨-, hb1, hb2⟩ := own_bounds hi.todo
      rw [hlk] at hi hb1 m1 m2 ⊢
      generalize hk : td.length = k at *
      have HK := Lib.hid hk
      have x64 : In64 o := hi.td64 o (by simp)
      have hw1 : IntKind.i64.wrap (k : Int) = (k : Int) := IntWalk.i64_in _ (by unfold maxLen at hb2; omega)
      have hk1 : (k : Int) < (k : Int) + 1 := by omega
      have hk2 : (k : Int) ≤ c8 := by omega
      have hk3 : k ≤ c8 := by omega
      have hk4 : (0 : Int) ≤ k := by omega
      have hk5 : decide (0 < (k : Int) + 1) = true := decide_eq_true (by omega)
      clear hk hlk hb1 hb2
      obtain ⟨A6, c6, rfl⟩ := hi.out.form
      obtain ⟨id, hid⟩ : ∃ i, namedV o = i := ⟨_, rfl⟩
      have HID := Lib.hid hid
      have hM : ∀ w, Calls Tryd.prog 29 #[.int .i64 o] w fun e w' => e = .returned (.tuple #[.int .i64 id, .bool (namedOk o)]) ∧ w = w' := fun w => by rw [← hid]; exact Named_any o x64.1 x64.2 w
      have HM := Lib.hid hM
      clear hid hM
      by_cases hl : live L id
      · obtain ⟨e0, ev⟩ := objE_live (by rw [HID.out]; exact hl : live L (namedV o))
        rw [HID.out] at ev
        obtain ⟨x, hx⟩ : ∃ x, objV L o = x := ⟨_, rfl⟩
        rw [hx] at ev
        have HE := Lib.hid (And.intro e0 (And.intro hx ev))
        have hlk := fun W (c : Chg No wr W) => (hi.map.keep c (fun f => f)).lookup (P := Tryd.prog) elem_bmap Tryd.underlying3 zero_bool id
        clear e0 ev hx
        cases hsb : sb id with
        | true =>
          simp only [hi.get id, hsb] at hlk
          have HLK := Lib.hid hlk
          have HX := Lib.hid hi
          clear hi hlk
          generalize os.length = q at *
          go_wp2_with (first
            | (go_at_call 29
               refine (HM.out _).mono ?_
               rintro e' w4 ⟨rfl, rfl⟩)
            | (go_at_call 156
               refine (k_ObjC (H.out.world HX.out.chg) o x64).mono ?_
               rw [HE.out.1, HE.out.2.1]
               rintro e' w5 ⟨r, rfl, -, hr5, c5⟩
               obtain ⟨A5, d5, A7, d6, rfl⟩ := hr5.shape
               obtain ⟨W5, hW5⟩ : ∃ W, w5.alloc (.cells #[.int .i64 x.cls, .int .i64 x.kind, .slice A5 x.W.length d5, .slice A7 x.B.length d6] 41) = W := ⟨_, rfl⟩
               have c05 : Chg No wr W5 := by rw [← hW5]; exact c5.alloc _
               have hl5 := HLK.out W5 c05
               have H5 := Lib.hid c05
               have HW5 := Lib.hid hW5
               clear hr5 c5 c05 hW5)
            | (rw [HW5.out])
            | fail)
          go_roundg (k + 1001 * leftL L sb)
          case measure => omega
          case rel => exact ⟨td, sl, sb, os, HX.out.skip HK.out H5.out (.inr (by rw [HID.out]; exact hsb)), by rw [HK.out]; exact Nat.le_refl _, by rw [HK.out]; omega⟩
        | false =>
          simp only [hi.get id, hsb] at hlk
          have HLK := Lib.hid hlk
          have HX := Lib.hid hi
          clear hi hlk
          generalize hq : os.length = q at *
          have HQ := Lib.hid hq
          clear hq
          have hrl : (refsO x).length ≤ 1001 := refsO_len (H.out.okAt' HE.out.2.2 hl)
          have hWl : x.W.length ≤ 1000000 := by have := (H.out.okAt' HE.out.2.2 hl).2.2.1; omega
          have HRL := Lib.hid (And.intro hrl hWl)
          clear hrl hWl
          go_wp2_with (first
            | (go_at_call 29
               refine (HM.out _).mono ?_
               rintro e' w4 ⟨rfl, rfl⟩)
            | (go_at_call 156
               refine (k_ObjC (H.out.world HX.out.chg) o x64).mono ?_
               rw [HE.out.1, HE.out.2.1]
               rintro e' w5 ⟨r, rfl, -, hr5, c5⟩
               obtain ⟨A5, d5, A7, d6, rfl⟩ := hr5.shape
               obtain ⟨W5, Wm, A9, c9, w6, hW5, hlk5, hupd, hr6, r6, ob6, n6⟩ := HX.out.mark HK.out HQ.out (by rw [HID.out]; exact hl) (by rw [HID.out]; exact hsb) (by rw [HID.out]; exact HE.out.2.2) hmd hv.size c5 hr5
               rw [HID.out] at hlk5 hupd hr6
               obtain ⟨z0, z1, z2, z3, -⟩ := r6.four
               have H6 := Lib.hid (And.intro ob6 n6)
               have HR6 := Lib.hid hr6
               have HW5 := Lib.hid hW5
               clear hr5 c5 hW5 r6 ob6 n6 hr6)
            | (rw [HW5.out])
            | (at_builtin; refine wpList_append_run rfl _ _ _ rfl rfl rfl HR6.out ?_)
            | (go_at_call 57
               refine (Refs_any _ x _ _ H6.out.1 HRL.out.2).mono ?_
               rintro e' w7 ⟨u, rfl, ho7, c7⟩
               obtain ⟨A10, c10, rfl⟩ := ho7.form
               have H7 := Lib.hid (And.intro ho7 c7)
               clear ho7 c7)
            | fail)
          have HLM := Lib.hid (leftL_mark hl hsb)
          have n7 := H6.out.2.keep H7.out.2
          have o7 := H7.out.1
          have hdj : ∀ b, (Value.slice (some ⟨g, 0, none⟩) k c8).ownBlock = some b → ¬ (Value.slice A10 (refsO x).length c10).ownBlock = some b := fun b hb e => by
            have h1 := (own_ltI o7 e).2
            have h2 := (own_ltI H6.out.2.todo hb).1
            omega
          obtain ⟨rl, hrlx⟩ : ∃ l, refsO x = l := ⟨_, rfl⟩
          have hbd : ∀ y ∈ rl, 1 ≤ y ∧ y ≤ 1073741823 := fun y hy => refsO_bd (by rw [hrlx]; exact hy)
          have hrl := HRL.out.1
          rw [hrlx] at n7 o7 hdj hrl ⊢
          generalize hnr : rl.length = nr at *
          have HNR := Lib.hid (And.intro hnr hbd)
          have HN7 := Lib.hid (And.intro n7 (And.intro o7 hdj))
          clear hrlx hnr hbd n7 o7 hdj H6 H7 HR6 HX z0 z1 z2 z3 hlk5 hupd HLK
          go_loopg [1, 56] nr (fun j v1 v56 wr2 => ∃ i : Nat, v56 = .int .i64 (i : Int) ∧ i ≤ nr ∧ nr - i ≤ j ∧ NearI L R v w wr2 v1 (.slice A9 (q + 1) c9) (td ++ (rl.take i).map (2 * ·)) (mset id (.bool true) sl) (fun j => if j = id then true else sb j) (os ++ [id]) (numsOf td ++ rl) ∧ OwnInts wr2 w6.heap.size (.slice A10 nr c10) rl ∧ ∀ b, v1.ownBlock = some b → ¬ (Value.slice A10 nr c10).ownBlock = some b)
          case atStart => exact ⟨0, rfl, by omega, by omega, by rw [HID.out] at HN7; simpa using HN7.out.1, HN7.out.2.1, HN7.out.2.2⟩
          case round =>
            clear HN7
            obtain ⟨i, rfl, i1, i2, ni, oi, hdj⟩ := hrel
            by_cases hi : i < nr
            · have t1 : decide ((i : Int) < (nr : Int)) = true := decide_eq_true (by omega)
              have l1 : (i : Int) < (nr : Int) := by omega
              have wi : IntKind.i64.wrap ((i : Int) + 1) = ((i + 1 : Nat) : Int) := (IntWalk.i64_in _ (by omega)).trans (by omega)
              obtain ⟨gr, rfl, hgr, hgrl, -, hcy⟩ := oi.at (i := i) (by rw [HNR.out.1]; exact hi)
              obtain ⟨y, hy⟩ : ∃ y, rl[i]? = some y := ⟨_, List.getElem?_eq_getElem (by rw [HNR.out.1]; exact hi)⟩
              rw [hy, Option.getD_some, Nat.zero_add] at hcy
              have hyb := HNR.out.2 y (List.mem_of_getElem? hy)
              have htl : (td ++ (rl.take i).map (2 * ·)).length = k + i := by have h1 := HK.out; have h2 := HNR.out.1; simp; omega
              obtain ⟨A12, c12, w9, hr9, n9, cg9, hn9⟩ := ni.push (2 * y) (by unfold In64; omega) (by rw [htl]; omega)
              obtain ⟨A11, c11, rfl⟩ := ni.todo.form
              rw [htl] at hr9 n9 hn9 cg9 hdj ⊢
              have hts : td ++ (rl.take (i + 1)).map (2 * ·) = (td ++ (rl.take i).map (2 * ·)) ++ [2 * y] := by rw [List.take_add_one, hy]; simp
              have o9 := own_keep oi cg9 (fun b hb e => hdj b e hb)
              have hd9 : ∀ b, (Value.slice A12 (k + i + 1) c12).ownBlock = some b → ¬ (Value.slice (some ⟨gr, 0, none⟩) nr c10).ownBlock = some b := fun b hb e => by
                rcases hn9 b hb with h1 | h1
                · exact hdj b h1 e
                · have := (own_ltI oi e).1; omega
              rw [← hts] at n9
              have hoop : ∀ w, Calls Tryd.prog 32 #[.int .i64 y] w fun e w' => e = .returned (.int .i64 (2 * y)) ∧ w = w' := fun w => by
                have h1 := Oop_any y (by unfold In64; omega) w
                rw [if_pos hyb] at h1
                exact h1
              have HR9 := Lib.hid hr9
              have HOO := Lib.hid hoop
              have H9 := Lib.hid (And.intro n9 (And.intro o9 hd9))
              clear ni oi hdj hr9 n9 cg9 hn9 hts o9 hd9 hoop htl hy
              generalize k + i = kk at *
              go_wp2_with (first
                | (go_at_call 32
                   refine (HOO.out _).mono ?_
                   rintro e' w8 ⟨rfl, rfl⟩)
                | (at_builtin; refine wpList_append_run rfl _ _ _ rfl rfl rfl HR9.out ?_)
                | fail)
              go_roundg (nr - (i + 1))
              case measure => omega
              case rel => exact ⟨i + 1, by go_num, by omega, by omega, H9.out.1, H9.out.2.1, H9.out.2.2⟩
            · obtain rfl : i = nr := by omega
              have t1 : decide ((i : Int) < (i : Int)) = false := decide_eq_false (by omega)
              rw [List.take_of_length_le (by rw [HNR.out.1]; exact Nat.le_refl _)] at ni
              have hln : (td ++ rl.map (2 * ·)).length = k + i := by have h1 := HK.out; have h2 := HNR.out.1; simp; omega
              obtain ⟨A11, c11, rfl⟩ := ni.todo.form
              rw [hln] at ni ⊢
              have HX := Lib.hid (And.intro ni hln)
              clear ni oi hdj hln
              go_wp2_with fail
              go_roundg (k + i + 1001 * leftL L (fun j => if j = id then true else sb j))
              case measure => have h1 := HLM.out; omega
              case rel => exact ⟨td ++ rl.map (2 * ·), _, _, _, by rw [numsOf_refs HNR.out.2]; exact HX.out.1, by rw [HX.out.2]; exact Nat.le_refl _, by rw [HX.out.2]; have h1 := HLM.out; omega⟩
      · have hE : objE L o = 4 := objE_gone (by rw [HID.out]; exact hl)
        have HE := Lib.hid hE
        have HX := Lib.hid hi
        clear hi hE
        generalize os.length = q at *
        go_wp2_with (first
          | (go_at_call 29
             refine (HM.out _).mono ?_
             rintro e' w4 ⟨rfl, rfl⟩)
          | (go_at_call 156
             refine (k_ObjC (H.out.world HX.out.chg) o x64).mono ?_
             rw [HE.out]
             rintro e' w5 ⟨r, rfl, -, hr5, c5⟩
             obtain ⟨A5, d5, A7, d6, rfl⟩ := hr5.shape
             have H5 := Lib.hid c5
             clear hr5 c5)
          | fail)
        go_roundg (k + 1001 * leftL L sb)
        case measure => omega
        case rel => exact ⟨td, sl, sb, os, HX.out.skip HK.out (H5.out.alloc _) (.inl (by rw [HID.out]; exact hl)), by rw [HK.out]; exact Nat.le_refl _, by rw [HK.out]; omega⟩
end

end Go.Proofs.YtncoanmgifgcbaaDoor
