/- Objects on a disk: second.Space.Near: what one comes to from some. · Objects on a disk: Make, Store and Fetch told at once: what comes, by plain definition. No walk here. -/
import Derived.Test.YtdpmmafkomchaaaGreatSecU
import Derived.Test.YtdpmmafkomchaaaGreatSecV
namespace Go.Proofs.YtdpmmafkomchaaaGreat
set_option linter.unusedVariables false
set_option linter.unusedSimpArgs false
open Go.RowKit
open Go.ChangeMaps (setBlock)

/-! the search, plainly: 'there' tells what there is, 'refs' what each names -/
inductive Comes (there : Int → Prop) (refs : Int → List Int) (R : List Int) : Int → Prop where
  | root {k : Int} : k ∈ R → there k → Comes there refs R k
  | step {j k : Int} : Comes there refs R j → k ∈ refs j → there k → Comes there refs R k
section
variable {there : Int → Prop} {refs : Int → List Int} {R td : List Int} {V V' : Int → Prop} {k : Int}
theorem Comes.isThere (h : Comes there refs R k) : there k := by cases h <;> assumption
theorem Comes.mono {R' : List Int} (hR : ∀ k ∈ R, there k → k ∈ R') (h : Comes there refs R k) : Comes there refs R' k := by
  induction h with
  | root h1 h2 => exact .root (hR _ h1 h2) h2
  | step _ h2 h3 ih => exact .step ih h2 h3
/-- the search under way: td is to be looked at, V has been -/
structure CInv (there : Int → Prop) (refs : Int → List Int) (R td : List Int) (V : Int → Prop) : Prop where
  seen : ∀ k, V k → Comes there refs R k
  todo : ∀ k ∈ td, there k → Comes there refs R k
  clos : ∀ k, V k → ∀ j ∈ refs k, there j → V j ∨ j ∈ td
  root : ∀ k ∈ R, there k → V k ∨ k ∈ td
theorem CInv.start (there : Int → Prop) (refs : Int → List Int) (R : List Int) : CInv there refs R R (fun _ => False) := ⟨fun _ h => h.elim, fun _ h1 h2 => .root h1 h2, fun _ h => h.elim, fun _ h _ => .inr h⟩
theorem CInv.skip (h : CInv there refs R (td ++ [k]) V) (hk : ¬ there k ∨ V k) : CInv there refs R td V := by
  have out : ∀ j, there j → V j ∨ j ∈ td ++ [k] → V j ∨ j ∈ td := fun j hj h => by
    rcases h with h | h
    · exact .inl h
    · rcases List.mem_append.1 h with h | h
      · exact .inr h
      · obtain rfl : j = k := by simpa using h
        exact .inl (hk.resolve_left (fun hn => hn hj))
  exact ⟨h.seen, fun j hj => h.todo j (List.mem_append_left _ hj), fun j hj i hi hl => out i hl (h.clos j hj i hi hl), fun j hj hl => out j hl (h.root j hj hl)⟩
theorem CInv.mark (h : CInv there refs R (td ++ [k]) V) (hk : there k) (hV : ∀ j, V' j ↔ V j ∨ j = k) : CInv there refs R (td ++ refs k) V' := by
  have hR : Comes there refs R k := h.todo k (by simp) hk
  have out : ∀ j, V j ∨ j ∈ td ++ [k] → V' j ∨ j ∈ td ++ refs k := fun j h => by
    rcases h with h | h
    · exact .inl ((hV j).2 (.inl h))
    · rcases List.mem_append.1 h with h | h
      · exact .inr (List.mem_append_left _ h)
      · exact .inl ((hV j).2 (.inr (by simpa using h)))
  refine ⟨fun j hj => ?_, fun j hj hl => ?_, fun j hj i hi hl => ?_, fun j hj hl => out j (h.root j hj hl)⟩
  · rcases (hV j).1 hj with hj | rfl
    · exact h.seen j hj
    · exact hR
  · rcases List.mem_append.1 hj with hj | hj
    · exact h.todo j (List.mem_append_left _ hj) hl
    · exact .step hR hj hl
  · rcases (hV j).1 hj with hj | rfl
    · exact out i (h.clos j hj i hi hl)
    · exact .inr (List.mem_append_right _ hi)
theorem CInv.done (h : CInv there refs R [] V) (k : Int) : Comes there refs R k ↔ V k := by
  constructor
  · intro hr
    induction hr with
    | root h1 h2 => exact (h.root _ h1 h2).resolve_right (by simp)
    | step _ h2 h3 ih => exact (h.clos _ ih _ h2 h3).resolve_right (by simp)
  · exact h.seen k
end

/-- there is a row of this number; what its object names -/
def thereR (L : List Rw) (k : Int) : Prop := (lk L k).isSome = true
def refsR (L : List Rw) (k : Int) : List Int := match lk L k with | some r => refsO r.o | none => []
abbrev NearR (L : List Rw) (R : List Int) (k : Int) : Prop := Comes (thereR L) (refsR L) R k
open Classical in
/-- the numbers of what one comes to, rising -/
noncomputable def nearL (L : List Rw) (R : List Int) : List Int := (L.map Rw.id).filter fun k => decide (NearR L R k)
theorem mem_nearL {L : List Rw} {R : List Int} (h : Rising L) (k : Int) : k ∈ nearL L R ↔ NearR L R k := by
  classical
  unfold nearL
  rw [List.mem_filter]
  simp only [decide_eq_true_eq]
  refine ⟨fun h => h.2, fun hk => ⟨?_, hk⟩⟩
  obtain ⟨r, hr⟩ := Option.isSome_iff_exists.1 hk.isThere
  obtain ⟨h1, h2⟩ := lk_mem hr
  exact List.mem_map.2 ⟨r, h1, h2⟩
theorem near_rise {L : List Rw} {R : List Int} (h : Rising L) : (nearL L R).Pairwise (· < ·) := List.Pairwise.filter _ (rising_iff.1 h)

/-- how many are not seen yet -/
def unseen (L : List Rw) (sb : Int → Bool) : Nat := (L.filter fun r => !sb r.id).length
theorem unseen_le (L : List Rw) (sb : Int → Bool) : unseen L sb ≤ L.length := List.length_filter_le _ _
theorem unseen_lt {L : List Rw} {sb : Int → Bool} {k : Int} {r : Rw} (hr : r ∈ L) (hk : r.id = k) (hs : sb k = false) : unseen L (fun x => if x = k then true else sb x) < unseen L sb := by
  unfold unseen
  have hle : ∀ t : List Rw, (t.filter fun r => !(if r.id = k then true else sb r.id)).length ≤ (t.filter fun r => !sb r.id).length := by
    intro t
    induction t with
    | nil => simp
    | cons c t ih =>
      by_cases h2 : c.id = k
      · simp [List.filter_cons, h2, hs]
        simp at ih
        omega
      · by_cases h1 : sb c.id = true
        · simpa [List.filter_cons, h1, h2] using ih
        · have h1' : sb c.id = false := by simpa using h1
          simpa [List.filter_cons, h1', h2] using ih
  induction L with
  | nil => cases hr
  | cons a t ih =>
    rcases List.mem_cons.1 hr with rfl | h
    · have := hle t
      simp [List.filter_cons, hk, hs] at this ⊢
      omega
    · have ih := ih h
      by_cases h2 : a.id = k
      · have := hle t
        simp [List.filter_cons, h2, hs] at this ⊢
        omega
      · by_cases h1 : sb a.id = true
        · simpa [List.filter_cons, h1, h2] using ih
        · have h1' : sb a.id = false := by simpa using h1
          simpa [List.filter_cons, h1', h2] using ih

/-- a set of numbers in block q -/
def SeenM (w : World) (q : Nat) (sb : Int → Bool) : Prop := ∃ sl, IMap w q sl ∧ ∀ k, mget k sl = if sb k = true then some (.bool true) else none
theorem SeenM.keep {w w' : World} {q : Nat} {sb : Int → Bool} {F : Nat → Prop} (h : SeenM w q sb) (c : Chg F w w') (hq : ¬ F q) : SeenM w' q sb := by
  obtain ⟨sl, h1, h2⟩ := h
  exact ⟨sl, h1.keep c hq, h2⟩
theorem SeenM.lt {w : World} {q : Nat} {sb : Int → Bool} (h : SeenM w q sb) : q < w.heap.size := by
  obtain ⟨sl, h1, h2⟩ := h
  exact h1.lt
theorem elem_seen : Tryz.prog.underlying 95 = some (.map 3 4) := Tryz.underlying95

theorem own_short2 {w : World} {base : Nat} {A : Option Addr} {k c : Nat} {l : List Int} {x : Int} (h : OwnInts w base (.slice A (k + 1) c) (l ++ [x])) (hk : l.length = k) : OwnInts w base (.slice A k c) l := by
  obtain ⟨h1, h2 | ⟨g, cap, cur, e, hb, hg, hn, hm, hs, ht⟩⟩ := h
  · simp at h2
  · simp only [Value.slice.injEq] at e
    obtain ⟨rfl, e2, rfl⟩ := e
    have e3 : (l ++ [x]).length = k + 1 := e2.symm
    refine ⟨by simp, .inr ⟨g, c, cur, by rw [hk], hb, hg, by rw [hk]; omega, hm, hs, ?_⟩⟩
    have h4 := congrArg (List.take (l.length * 1)) ht
    rw [List.take_take, List.map_append, List.take_append_of_le_length (by simp)] at h4
    simp only [Nat.mul_one, List.length_append, List.length_cons, List.length_nil] at h4 ⊢
    rw [Nat.min_eq_left (by omega)] at h4
    rw [h4]
    exact List.take_of_length_le (by simp)
/-- append a slice of the call's own -/
theorem app_many2 {w : World} {base base' : Nat} {v u : Value} {l r : List Int} (h : OwnInts w base v l) (hr : OwnInts w base' u r) (hl : l.length + r.length < 10000000000000) (hB : base ≤ w.heap.size) (ty : TypeId) :
    ∃ A c w', (Builtin.append_ #[23, 23] ty #[v, u]).run Tryz.prog w = .ok (.slice A (l.length + r.length) c) w' ∧ OwnInts w' base (.slice A (l.length + r.length) c) (l ++ r) ∧ Chg (fun k => base ≤ k) w w' := by
  obtain ⟨v', w4, hrun, ho, hg⟩ := run_app elem_int (by decide) h (Slc.of_own hr) (by intro x hx; simp at hx; obtain ⟨y, _, rfl⟩ := hx; rfl) (by unfold maxLen; omega) (by omega) hB ty
  obtain ⟨A, c, rfl⟩ := own_form ho
  exact ⟨A, c, w4, hrun, by simpa [OwnInts] using ho, (Chg.refl _ _).grown hg (fun k hk => .inl (own_ge h hk))⟩
theorem own_bounds2 {w : World} {base : Nat} {A : Option Addr} {n c : Nat} {l : List Int} (h : OwnInts w base (.slice A n c) l) : n = l.length ∧ n ≤ c ∧ c ≤ maxLen := by
  obtain ⟨A', c', e, -, h3, h4, -⟩ := Slc.of_own h
  obtain ⟨rfl, rfl, rfl⟩ := Value.slice.inj e
  exact ⟨rfl, h3, h4⟩

/-- what Near gives -/
def Neard (w : World) (Q : SB) (N : Nat) (L : List Rw) (made : Nat) (R : List Int) (v : Value) (w' : World) : Prop := OwnInts w' w.heap.size v (nearL L R) ∧ SecS w' Q N L made ∧ Chg (fun k => k = Q.B.d) w w'

set_option maxRecDepth 100000 in
set_option maxHeartbeats 2000000 in
theorem secNear_any {w : World} {Q : SB} {N made : Nat} {L : List Rw} (H : SecS w Q N L made) (v : Value) (R : List Int) (S : Nat → Prop) (hv : IntS w S v R) (hl : R.length ≤ 1000000000) :
    Calls Tryz.prog 23 #[.pointer (some ⟨Q.s, 0, none⟩), v] w (Ret (Neard w Q N L made R)) := by
  have hmk := fun w => run_makeMap (P := Tryz.prog) 95 w
  have HLT := Lib.hid (fun k (hk : Q.has k) => H.lt hk)
  obtain ⟨W1, hW1⟩ : ∃ W, w.alloc (.map #[] 0) = W := ⟨_, rfl⟩
  have c1 : Chg No w W1 := by rw [← hW1]; exact (Chg.refl _ _).alloc _
  have hs1 : W1.heap.size = w.heap.size + 1 := by rw [← hW1]; simp
  have hm1 : SeenM W1 w.heap.size (fun _ => false) := by rw [← hW1]; exact ⟨[], IMap.new w, fun k => rfl⟩
  have HCL := Lib.hid (CloneI_any v R S W1 (hv.keep c1 (fun _ _ f => f)) hl)
  have HW := Lib.hid hW1
  have HI := Lib.hid (And.intro H (And.intro c1 hm1))
  have hLl : L.length ≤ 1048576 := by obtain ⟨es, h⟩ := H; exact h.len
  have HRI := Lib.hid (show Rising L by obtain ⟨es, h⟩ := H; exact h.rise)
  have HOK := Lib.hid (show ∀ r ∈ L, okB r.o = true by obtain ⟨es, h⟩ := H; exact fun r hr => (h.ok r hr).1)
  have hBd : Q.B.d < w.heap.size := HLT.out _ (.inr (.inr (.inr (.inl rfl))))
  obtain ⟨A, c, rfl, -⟩ := hv.form
  clear H c1 hm1 hv hW1
  generalize hn : R.length = n at *
  have HN := Lib.hid hn
  clear hn
  go_enter Tryz.func23, Tryz.ntmps23
  go_wp2_with (first
    | (rw [HW.out])
    | (go_at_call 44
       refine HCL.out.mono ?_
       rintro e w2 ⟨v2, rfl, c2, ho2⟩
       have H2 := Lib.hid (And.intro c2 (show OwnInts w2 W1.heap.size v2 R by show World.ownsRow _ _ _ _ _ R.length _; rw [HN.out]; exact ho2))
       clear c2 ho2)
    | fail)
  go_step3
  go_wp2_with (first
    | (rw [HW.out])
    | (go_at_call 44
       refine HCL.out.mono ?_
       rintro e w2 ⟨v2, rfl, c2, ho2⟩
       have H2 := Lib.hid (And.intro c2 (show OwnInts w2 W1.heap.size v2 R by show World.ownsRow _ _ _ _ _ R.length _; rw [HN.out]; exact ho2))
       clear c2 ho2)
    | fail)
  go_step3
  go_wp2_with fail
  go_loopg [6] (n + 1002 * L.length) (fun j v6 wr => ∃ (td : List Int) (sb : Int → Bool), OwnInts wr W1.heap.size v6 td ∧ SeenM wr w.heap.size sb ∧ CInv (thereR L) (refsR L) R td (fun k => sb k = true) ∧
    td.length + 1002 * unseen L sb ≤ j ∧ td.length + 1002 * unseen L sb ≤ n + 1002 * L.length ∧ SecS wr Q N L made ∧ Chg (fun k => k = Q.B.d) w wr ∧ W1.heap.size ≤ wr.heap.size)
  case atStart =>
    have hu := unseen_le L (fun _ => false)
    have hc := H2.out.1.size
    refine ⟨R, fun _ => false, H2.out.2, HI.out.2.2.keep H2.out.1 (fun f => f), by simpa using CInv.start (thereR L) (refsR L) R, by rw [HN.out]; omega, by rw [HN.out]; omega, HI.out.1.keep (HI.out.2.1.trans H2.out.1) (fun _ _ f => f), (HI.out.2.1.trans H2.out.1).no, hc⟩
  case round =>
    obtain ⟨td, sb, own, hset, hd, m1, m2, hsec, cw, hsz⟩ := hrel
    rcases List.eq_nil_or_concat td with rfl | ⟨td, id, rfl⟩
    · obtain ⟨A8, c8, rfl⟩ := own.form
      have hdone := hd.done
      obtain ⟨sl, hm, hget⟩ := hset
      have hkeys : (nearL L R).Perm (sl.map (·.1)) := by
        refine (List.perm_ext_iff_of_nodup ((near_rise HRI.out).imp fun {a b} h => by omega) hm.nodup).2 fun k => ?_
        rw [mem_nearL HRI.out]
        show Comes (thereR L) (refsR L) R k ↔ _
        rw [hdone k]
        constructor
        · intro hk
          have := hget k
          rw [if_pos hk] at this
          exact List.mem_map.2 ⟨_, mget_some_mem this, rfl⟩
        · intro hk
          cases e : sb k
          · have := hget k
            rw [e] at this
            exact absurd hk (mget_none.1 this)
          · rfl
      obtain ⟨es, hE⟩ := hsec
      have h64 : ∀ k ∈ nearL L R, In64 k := fun k hk => hE.ids64 k (List.mem_filter.1 hk).1
      have hle : sl.length ≤ 1000000000 := by
        have h1 := hkeys.length_eq
        rw [List.length_map] at h1
        have h2 : (nearL L R).length ≤ (L.map Rw.id).length := List.length_filter_le _ _
        rw [List.length_map] at h2
        omega
      have HS := Lib.hid (SortedB_any hm (near_rise HRI.out) hkeys h64 hle)
      have HF := Lib.hid (And.intro (show SecS wr Q N L made from ⟨es, hE⟩) (And.intro cw hsz))
      clear hdone hm hget hkeys hE h64 hle hd own m1 m2 cw
      go_wp2_with (first
        | (go_at_call 46; refine (KeysB_any _ _).mono ?_; rintro e w' ⟨rfl, rfl⟩)
        | (go_at_call 42; refine HS.out.mono ?_; rintro e w5 ⟨v5, rfl, h5⟩; have H5 := Lib.hid h5; clear h5)
        | fail)
      try rw [Exit.noGoto_ret]
      go_ret
      exact Ret.mk ⟨own_base H5.out.1 HF.out.2.1.size, HF.out.1.keep H5.out.2 (fun _ _ f => f), HF.out.2.1.trans H5.out.2.no⟩
    · rw [List.concat_eq_append] at own hd m1 m2
      obtain ⟨A8, c8, rfl⟩ := own.form
      have hlk : (td ++ [id]).length = td.length + 1 := by simp
      obtain ⟨g, rfl, hg, hgl, -, hcx⟩ := own.at (i := td.length) (by omega)
      rw [Nat.zero_add, show (td ++ [id])[td.length]?.getD 0 = id by simp] at hcx
      obtain ⟨-, hb1, hb2⟩ := own_bounds2 own
      rw [hlk] at own hb1 m1 m2 ⊢
      have hsh := own_short2 own rfl
      generalize hk : td.length = k at *
      have HK := Lib.hid hk
      have hw1 : IntKind.i64.wrap (k : Int) = (k : Int) := IntWalk.i64_in _ (by omega)
      have hk1 : (k : Int) < (k : Int) + 1 := by omega
      have hk2 : (k : Int) ≤ c8 := by omega
      have hk3 : k ≤ c8 := by omega
      have hk4 : (0 : Int) ≤ k := by omega
      have hc8 : c8 ≤ 9223372036854775807 := by unfold maxLen at hb2; simp at hb2; omega
      clear hk hlk own hb1 hb2
      obtain ⟨sl, hm, hget⟩ := hset
      have hl2 := hm.lookup (P := Tryz.prog) elem_seen Tryz.underlying3 zero_bool id
      rw [hget] at hl2
      cases hsb : sb id
      · rw [hsb] at hl2
        simp only [Bool.false_eq_true, if_false, Option.getD_none] at hl2
        have HSM := Lib.hid (show SeenM wr w.heap.size sb from ⟨sl, hm, hget⟩)
        cases hr : lk L id with
        | none =>
          have HH := secHas_any hsec id
          rw [hr] at HH
          have HQ := Lib.hid HH
          have HX := Lib.hid (And.intro hsh (And.intro (hd.skip (.inl (fun h => by unfold thereR at h; rw [hr] at h; cases h))) (And.intro cw hsec)))
          clear HH hsh hd cw hsec hm hget hsb hr
          go_wp2_with (first
            | (go_at_call 18
               refine HQ.out.mono ?_
               rintro e w3 ⟨rfl, c3⟩
               have H3 := Lib.hid c3
               clear c3)
            | fail)
          go_roundg (k + 1002 * unseen L sb)
          case measure => omega
          case rel =>
            exact ⟨td, sb, HX.out.1.keep H3.out (fun _ _ f => f), HSM.out.keep H3.out (fun f => f), HX.out.2.1, by rw [HK.out]; exact Nat.le_refl _, by rw [HK.out]; omega, HX.out.2.2.2.keep H3.out (fun _ _ f => f), HX.out.2.2.1.trans H3.out.no, Nat.le_trans hsz H3.out.size⟩
        | some r =>
          have HH := secHas_any hsec id
          rw [hr] at HH
          have HQ := Lib.hid HH
          have hrm := lk_mem hr
          have hlt := unseen_lt (k := id) hrm.1 hrm.2 hsb
          have hVV : ∀ x, (if x = id then true else sb x) = true ↔ sb x = true ∨ x = id := fun x => by
            by_cases hx : x = id <;> simp [hx]
          have hdm := hd.mark (V' := fun x => (if x = id then true else sb x) = true) (show thereR L id by unfold thereR; rw [hr]; rfl) hVV
          have hrf : refsR L id = refsO r.o := by unfold refsR; rw [hr]
          rw [hrf] at hdm
          have hok := okB_cases (HOK.out r hrm.1)
          have hrl : (refsO r.o).length ≤ 1001 := Nat.le_trans (fm_len _) (by simp; omega)
          have HX := Lib.hid (And.intro hsh (And.intro hdm (And.intro cw (And.intro hsec (And.intro hr (And.intro hrl (And.intro hlt (show r.o.W.length ≤ 1000000 by omega))))))))
          clear HH hsh hd cw hsec hm hget hsb hr hrm hVV hdm hrf hok
          go_wp2_with (first
            | (go_at_call 18
               refine HQ.out.mono ?_
               rintro e w3 ⟨rfl, c3⟩
               obtain ⟨sl, hm, hget⟩ := HSM.out.keep c3 (fun f => f)
               obtain ⟨ob0, hupd, hmap2⟩ := hm.update (P := Tryz.prog) elem_seen Tryz.underlying3 id (.bool true)
               have cm : Chg (fun b => b = w.heap.size) w3 (setBlock w3 w.heap.size ob0) := Chg.setBlock (F := fun b => b = w.heap.size) (Chg.refl _ _) (.inl rfl) ob0
               have hsm : SeenM (setBlock w3 w.heap.size ob0) w.heap.size (fun x => if x = id then true else sb x) := ⟨_, hmap2, fun x => by
                 rw [mget_mset]
                 by_cases hx : x = id
                 · simp [hx]
                 · simp [hx, hget x]⟩
               generalize setBlock w3 w.heap.size ob0 = W4 at *
               have hqn : ∀ q, Q.has q → ¬ q = w.heap.size := fun q hq e => by have := HLT.out q hq; omega
               have hf4 := secFetch_some ((HX.out.2.2.2.1.keep c3 (fun _ _ f => f)).keep cm hqn) HX.out.2.2.2.2.1
               have HFE := Lib.hid hf4
               have H4 := Lib.hid (And.intro hsm (And.intro ((HX.out.1.keep c3 (fun _ _ f => f)).keep cm (fun b hb e => by omega)) (And.intro ((HX.out.2.2.1.trans c3.no).then cm (fun q hq e => by omega)) (show W1.heap.size ≤ W4.heap.size from Nat.le_trans hsz (Nat.le_trans c3.size cm.size)))))
               clear c3 hm hget hmap2 cm hsm hqn hf4)
            | (go_at_call 9
               refine HFE.out.mono ?_
               rintro e w5 ⟨v5, rfl, u5, rfl, ho5, hs5, c5⟩
               obtain ⟨wv5, bv5, rfl, hI5, hB5, i5, k5⟩ := ho5
               obtain ⟨A5, d5, rfl, -⟩ := hI5.form
               obtain ⟨A6, d6, rfl, -⟩ := hB5.form
               obtain ⟨W6, hW6⟩ : ∃ W, w5.alloc (.cells #[.int .i64 r.o.cls, .int .i64 r.o.kind, .slice A5 r.o.W.length d5, .slice A6 r.o.B.length d6] 35) = W := ⟨_, rfl⟩
               have c6 : Chg No w5 W6 := by rw [← hW6]; exact (Chg.refl _ _).alloc _
               have y := (show Row W6 w5.heap.size 35 #[.int .i64 r.o.cls, .int .i64 r.o.kind, .slice A5 r.o.W.length d5, .slice A6 r.o.B.length d6] by rw [← hW6]; exact Row.new _ _ _).four
               have H6 := Lib.hid (And.intro (show ObjR W6 _ (.agg #[.int .i64 r.o.cls, .int .i64 r.o.kind, .slice A5 r.o.W.length d5, .slice A6 r.o.B.length d6]) r.o from ⟨_, _, rfl, hI5.keep c6 (fun _ _ f => f), hB5.keep c6 (fun _ _ f => f), i5, k5⟩) (And.intro (hs5.keep c6 (fun _ _ f => f)) (show Chg (fun q => q = Q.B.d) W4 W6 from c5.trans c6.no)))
               have HW6 := Lib.hid hW6
               simp only [cells2]
               clear hI5 hB5 i5 k5 hs5 c5 c6 hW6)
            | (rw [HW6.out])
            | (go_at_call 45
               refine (Refs_any _ r.o _ _ H6.out.1 HX.out.2.2.2.2.2.2.2).mono ?_
               rintro e w7 ⟨u7, rfl, ho7, c7⟩
               obtain ⟨A7, c7', rfl⟩ := ho7.form
               have c67 : Chg (fun q => q = Q.B.d) W4 w7 := H6.out.2.2.trans c7.no
               obtain ⟨A8', c8', w8, hr8, ho8, cg8⟩ := app_many2 (H4.out.2.1.keep c67 (fun b hb e => by omega)) ho7 (by have h1 := HX.out.2.2.2.2.2.1; have h2 := HK.out; omega) (Nat.le_trans H4.out.2.2.2 c67.size) 23
               rw [HK.out] at hr8 ho8
               have HR8 := Lib.hid hr8
               have H8 := Lib.hid (And.intro ho8 (And.intro (((H4.out.1.keep c67 (by omega)).keep cg8 (by omega))) (And.intro ((H6.out.2.1.keep c7 (fun _ _ f => f)).keep cg8 (fun q hq e => by have := HLT.out q hq; omega)) (And.intro (((H4.out.2.2.1).trans c67).then cg8 (fun q hq e => by omega)) (Nat.le_trans H4.out.2.2.2 (Nat.le_trans c67.size cg8.size))))))
               clear ho7 c7 c67 hr8 ho8 cg8)
            | (at_builtin; refine wpList_append_run rfl _ _ _ rfl rfl rfl HR8.out ?_)
            | fail)
          go_roundg (k + (refsO r.o).length + 1002 * unseen L (fun x => if x = id then true else sb x))
          case measure =>
            have h1 := HX.out.2.2.2.2.2.1
            have h2 := HX.out.2.2.2.2.2.2.1
            omega
          case rel =>
            have h1 := HX.out.2.2.2.2.2.1
            have h2 := HX.out.2.2.2.2.2.2.1
            refine ⟨td ++ refsO r.o, fun x => if x = id then true else sb x, H8.out.1, H8.out.2.1, HX.out.2.1, ?_, ?_, H8.out.2.2⟩
            · rw [List.length_append, HK.out]; exact Nat.le_refl _
            · rw [List.length_append, HK.out]; omega
      · rw [hsb] at hl2
        simp only [if_true, Option.getD_some] at hl2
        have HX := Lib.hid (And.intro hsh (And.intro (show SeenM wr w.heap.size sb from ⟨sl, hm, hget⟩) (And.intro (hd.skip (.inr hsb)) (And.intro hsec (And.intro cw hsz)))))
        clear hsh hd cw hsec hm hget hsb
        go_wp2_with fail
        go_roundg (k + 1002 * unseen L sb)
        case measure => omega
        case rel => exact ⟨td, sb, HX.out.1, HX.out.2.1, HX.out.2.2.1, by rw [HK.out]; exact Nat.le_refl _, by rw [HK.out]; omega, HX.out.2.2.2⟩

def mkF (N : Nat) (L : List Rw) (made : Nat) (o : O) : Option Nat := if okB o = true ∧ made ≠ 1048576 then placeX (L.map Rw.xt) N (secN (encB o).length) else none
def mkE (N : Nat) (L : List Rw) (made : Nat) (o : O) : Int := if okB o = true then (if (mkF N L made o).isSome then 0 else 3) else 2
def mkL (N : Nat) (L : List Rw) (made : Nat) (o : O) : List Rw := match mkF N L made o with | some f => L ++ [⟨((made + 1 : Nat) : Int), o, f⟩] | none => L
def mkM (N : Nat) (L : List Rw) (made : Nat) (o : O) : Nat := match mkF N L made o with | some _ => made + 1 | none => made
def mkI (N : Nat) (L : List Rw) (made : Nat) (o : O) : Int := match mkF N L made o with | some _ => ((made + 1 : Nat) : Int) | none => 0
def stF (N : Nat) (L : List Rw) (k : Int) (o : O) : Option Nat := match lk L k with | some r => if okB o = true then setF ((delR L k).map Rw.xt) N r.xt (encB o) else none | none => none
def stE (N : Nat) (L : List Rw) (k : Int) (o : O) : Int := if (lk L k).isSome then (if okB o = true then (if (stF N L k o).isSome then 0 else 3) else 2) else 4
def stL (N : Nat) (L : List Rw) (k : Int) (o : O) : List Rw := match stF N L k o with | some f => setR L k ⟨k, o, f⟩ | none => L

section
variable {w : World} {Q : SB} {N made : Nat} {L : List Rw}
theorem secMake_any (H : SecS w Q N L made) (v : Value) (o : O) (S : Nat → Prop) (ho : ObjR w S v o) :
    Calls Tryz.prog 7 #[.pointer (some ⟨Q.s, 0, none⟩), v] w fun e w' => e = .returned (.tuple #[.int .i64 (mkI N L made o), .int .i64 (mkE N L made o)]) ∧ SecS w' Q N (mkL N L made o) (mkM N L made o) ∧ Chg Q.has w w' := by
  cases hk : okB o with
  | false =>
    have e : mkF N L made o = none := by unfold mkF; rw [if_neg (by simp [hk])]
    unfold mkI mkL mkM mkE
    rw [e, hk]
    exact (secMake_bad Q.s v o S ho hk).mono fun _ _ h => ⟨h.1, H.keep h.2 (fun _ _ f => f), h.2.no⟩
  | true =>
    by_cases hm : made = 1048576
    · have e : mkF N L made o = none := by unfold mkF; rw [if_neg (by simp [hm])]
      unfold mkI mkL mkM mkE
      rw [e, hk]
      exact (secMake_max H v o S ho hk hm).mono fun _ _ h => ⟨h.1, H.keep h.2 (fun _ _ f => f), h.2.no⟩
    · have e : mkF N L made o = placeX (L.map Rw.xt) N (secN (encB o).length) := by unfold mkF; rw [if_pos ⟨hk, hm⟩]
      unfold mkI mkL mkM mkE
      rw [e, hk]
      cases hp : placeX (L.map Rw.xt) N (secN (encB o).length) with
      | none => exact (secMake_full H v o S ho hk hm hp).mono fun _ _ h => ⟨h.1, H.keep h.2 (fun _ _ f => f), h.2.no⟩
      | some f =>
        refine (secMake_ok H v o S ho hk hm hp).mono ?_
        rintro e w' ⟨u, rfl, rfl, h2, h3⟩
        exact ⟨rfl, h2, h3⟩
theorem secStore_any (H : SecS w Q N L made) (k : Int) (v : Value) (o : O) (S : Nat → Prop) (ho : ObjR w S v o) :
    Calls Tryz.prog 12 #[.pointer (some ⟨Q.s, 0, none⟩), .int .i64 k, v] w fun e w' => e = .returned (.int .i64 (stE N L k o)) ∧ SecS w' Q N (stL N L k o) made ∧ Chg Q.has w w' := by
  cases hr : lk L k with
  | none =>
    have e : stF N L k o = none := by unfold stF; rw [hr]
    unfold stE stL
    rw [e, hr]
    exact (secStore_none H k v o S ho hr).mono fun _ _ h => ⟨h.1, H.keep h.2 (fun _ _ f => f), h.2.no⟩
  | some r =>
    cases hk : okB o with
    | false =>
      have e : stF N L k o = none := by unfold stF; rw [hr]; simp [hk]
      unfold stE stL
      rw [e, hr, hk]
      exact (secStore_bad H k v o S ho hr hk).mono fun _ _ h => ⟨h.1, H.keep h.2 (fun _ _ f => f), h.2.no⟩
    | true =>
      have e : stF N L k o = setF ((delR L k).map Rw.xt) N r.xt (encB o) := by unfold stF; rw [hr]; simp [hk]
      unfold stE stL
      rw [e, hr, hk]
      cases hs : setF ((delR L k).map Rw.xt) N r.xt (encB o) with
      | none => exact secStore_full H k v o S ho hr hk hs
      | some f => exact secStore_ok H k v o S ho hr hk hs
end

/-! what is told, plainly -/
section
variable {N made : Nat} {L : List Rw} {k : Int} {o : O}
theorem mkE_ok (h : mkE N L made o = 0) : ∃ f, mkF N L made o = some f ∧ okB o = true := by
  unfold mkE at h
  split at h
  · split at h
    · next h1 h2 =>
      obtain ⟨f, hf⟩ := Option.isSome_iff_exists.1 h2
      exact ⟨f, hf, h1⟩
    · omega
  · omega
theorem mkL_some {f : Nat} (h : mkF N L made o = some f) : mkL N L made o = L ++ [⟨((made + 1 : Nat) : Int), o, f⟩] ∧ mkM N L made o = made + 1 ∧ mkI N L made o = ((made + 1 : Nat) : Int) := by
  unfold mkL mkM mkI
  rw [h]
  exact ⟨rfl, rfl, rfl⟩
theorem mkL_none (h : mkF N L made o = none) : mkL N L made o = L ∧ mkM N L made o = made ∧ mkI N L made o = 0 := by
  unfold mkL mkM mkI
  rw [h]
  exact ⟨rfl, rfl, rfl⟩
theorem mkE_some {f : Nat} (h : mkF N L made o = some f) : mkE N L made o = 0 ∧ okB o = true := by
  have hk : okB o = true := by
    unfold mkF at h
    split at h
    · next h1 => exact h1.1
    · cases h
  refine ⟨?_, hk⟩
  unfold mkE
  rw [h, hk]
  rfl
theorem mkE_none (h : mkF N L made o = none) : mkE N L made o ≠ 0 := by
  unfold mkE
  rw [h]
  split <;> simp
theorem stE_ok : stE N L k o = 0 ↔ ∃ f, stF N L k o = some f := by
  constructor
  · intro h
    unfold stE at h
    split at h
    · split at h
      · split at h
        · next h3 => exact Option.isSome_iff_exists.1 h3
        · omega
      · omega
    · omega
  · rintro ⟨f, hf⟩
    have h1 : (lk L k).isSome = true ∧ okB o = true := by
      unfold stF at hf
      split at hf
      · next r hr =>
        split at hf
        · next hk => exact ⟨by rw [hr]; rfl, hk⟩
        · cases hf
      · cases hf
    unfold stE
    rw [hf, if_pos h1.1, if_pos h1.2]
    rfl
theorem stL_some {f : Nat} (h : stF N L k o = some f) : stL N L k o = setR L k ⟨k, o, f⟩ ∧ okB o = true ∧ ∃ r, lk L k = some r := by
  unfold stL
  rw [h]
  refine ⟨rfl, ?_⟩
  unfold stF at h
  split at h
  · next r hr =>
    split at h
    · next hk => exact ⟨hk, r, hr⟩
    · cases h
  · cases h
theorem stL_none (h : stF N L k o = none) : stL N L k o = L := by unfold stL; rw [h]

/-- one run in the way of no more than n sectors: there is room for n -/
theorem place_one (x : Xt) {n : Nat} (h1 : x.f + x.n ≤ N) (h2 : x.n + 2 * n ≤ N) : ∃ f, placeX [x] N n = some f := by
  cases hc : placeX [x] N n with
  | some f => exact ⟨f, rfl⟩
  | none =>
    exfalso
    have hn := firstB_none (t := tX [x]) (all := N) (n := n) hc
    by_cases h : n ≤ x.f
    · exact hn 0 ⟨by omega, freeB_iff.2 fun i hi => by simp [tX]; try omega⟩
    · exact hn (x.f + x.n) ⟨by omega, freeB_iff.2 fun i hi => by simp [tX]; try omega⟩
theorem place_fits {X : List Xt} {n f : Nat} (h : placeX X N n = some f) : f + n ≤ N := (firstB_some h).1
end

end Go.Proofs.YtdpmmafkomchaaaGreat
