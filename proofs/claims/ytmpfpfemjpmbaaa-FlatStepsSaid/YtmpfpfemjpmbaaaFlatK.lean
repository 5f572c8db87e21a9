/- A flat memory's collection: the walks. -/
import Derived.Test.YtmpfpfemjpmbaaaCol
import Derived.Maps.OwnSet
namespace Go.Proofs.Ytmpfpfemjpmbaaa
set_option linter.unusedVariables false
set_option linter.unusedSimpArgs false
open Go.RowKit
open Go.ChangeMaps (setBlock)

theorem elem_bmap : Try.prog.underlying 89 = some (.map 3 4) := Try.underlying89
theorem zero_bool (w : World) : (zeroValue 4).run Try.prog w = .ok (.bool false) w := by kernel_rfl

/-- 'delete(m, k)' at the operation, by an equation on its run -/
theorem wpList_delete_run {P : Program} {ops : Array Oper} {rest : List Oper} {o : Oper} {a : Act} {w w' : World} {Q : Exit → Act → World → Prop} (hgd : o.guard = none) (m x : Operand) (t k : TypeId)
    (ho : o.op = .call { callee := .builtin .delete, args := #[m, x], argTypes := #[t, k] }) {vm vx : Value} (hm : a.eval m = vm) (hx : a.eval x = vx)
    (hrun : (Builtin.delete_ #[t, k] o.type #[vm, vx]).run P w = .ok (.tuple #[]) w') (h : wpList P ops Q rest (a.put o.dst (.tuple #[])) w') : wpList P ops Q (o :: rest) a w := by
  refine wpList_plain hgd fun K hK => ?_
  unfold Oper.wp execOp
  simp only [ho, resolve, invoke, builtin, Sem.run_bind, Sem.run_pure, Result.andThen_ok, List.map_toArray, List.map_cons, List.map_nil, hm, hx, hrun]
  exact hK _ _ h

/-- a set of numbers: at block bs a variable that holds the map at block s, which reads as sb -/
structure SetV (w : World) (bs s : Nat) (sl : List (Int × Value)) (sb : Int → Bool) : Prop where
  row : Row w bs 89 #[.map (some s)]
  map : IMap w s sl
  get : ∀ k, (mget k sl).getD (.bool false) = .bool (sb k)
theorem SetV.keep {w w' : World} {bs s : Nat} {sl : List (Int × Value)} {sb : Int → Bool} {F : Nat → Prop} (h : SetV w bs s sl sb) (c : Chg F w w') (h1 : ¬ F bs) (h2 : ¬ F s) : SetV w' bs s sl sb := ⟨h.row.keep c h1, h.map.keep c h2, h.get⟩

set_option maxRecDepth 100000 in
theorem unseen_any {w : World} {bs s : Nat} {sl : List (Int × Value)} {sb : Int → Bool} (h : SetV w bs s sl sb) (k : Int) (u : Value) :
    Calls Try.prog 56 #[.int .i64 k, u, .pointer (some ⟨bs, 0, none⟩)] w fun e w' => e = .returned (.bool (!sb k)) ∧ w = w' := by
  have c0 : w.cell? ⟨bs, 0, none⟩ = some (.map (some s)) := h.row.cell 0
  have hlk := h.map.lookup (P := Try.prog) elem_bmap Try.underlying3 zero_bool k
  rw [h.get k] at hlk
  clear h
  go_enter Try.func56, Try.ntmps56
  go_wp2
  go_ret
  exact ⟨rfl, rfl⟩

/-- what DeleteFunc leaves -/
def Deleted (w : World) (q : Nat) (es : List (Int × Value)) (sb : Int → Bool) (e : Ending) (w' : World) : Prop :=
  e = .returned (.tuple #[]) ∧ ∃ es', IMap w' q es' ∧ (∀ k, mget k es' = if sb k = true then mget k es else none) ∧ Chg (fun b => b = q) w w'

set_option maxRecDepth 100000 in
set_option maxHeartbeats 1000000 in
theorem DeleteFunc_any {w : World} {q bs s : Nat} {es sl : List (Int × Value)} {sb : Int → Bool} (hq : IMap w q es) (hs : SetV w bs s sl sb) (hsq : s ≠ q) (hptr : ∀ k u, (k, u) ∈ es → ∃ a, u = .pointer a) :
    Calls Try.prog 55 #[.map (some q), .func (.func 56) #[] #[.pointer (some ⟨bs, 0, none⟩)]] w (Deleted w q es sb) := by
  obtain ⟨w1, hrun, hit, hc1, -⟩ := hq.range (P := Try.prog) elem_map
  have hbq : bs ≠ q := fun e => hq.ne_row hs.row e.symm
  have hrq : w.heap.size ≠ q := fun e => by have := hq.lt; omega
  have hql := hq.lt
  have HS := Lib.hid (And.intro hs (And.intro hptr hq.nodup))
  clear hq hs hptr
  go_enter Try.func55, Try.ntmps55
  go_wp2_with fail
  go_loopg [8] (leftN es (fun _ => False)) (fun j v8 wr => ∃ (V : Int → Prop) (cur : List (Int × Value)), Iter wr q w.heap.size cur V ∧ leftN es V ≤ j ∧ Chg (fun b => b = q) w wr ∧ ∀ k, (V k ∧ sb k = false → mget k cur = none) ∧ (¬ (V k ∧ sb k = false) → mget k cur = mget k es))
  case atStart => exact ⟨fun _ => False, es, hit, Nat.le_refl _, hc1.no, fun k => ⟨fun h => h.1.elim, fun _ => rfl⟩⟩
  case round =>
    clear hrun hit hc1
    obtain ⟨V, cur, hit, hj, hcw, hcur⟩ := hrel
    rcases hit.next (P := Try.prog) 0 with ⟨hall, hn⟩ | ⟨k, u, w2, hk, hV, hn, hit2, hc2, -, hen⟩
    · have hfin : ∀ k, mget k cur = if sb k = true then mget k es else none := fun k => by
        by_cases hV : V k
        · cases hsb : sb k
          · rw [(hcur k).1 ⟨hV, hsb⟩]; rfl
          · rw [(hcur k).2 (fun h => by rw [hsb] at h; cases h.2), if_pos rfl]
        · have h1 := (hcur k).2 (fun h => hV h.1)
          cases hm : mget k es with
          | none => rw [h1, hm]; split <;> rfl
          | some u =>
            rw [hm] at h1
            exact absurd (hall k (List.mem_map.2 ⟨_, mget_some_mem h1, rfl⟩)) hV
      have HF := Lib.hid (And.intro hit.imap (And.intro hfin hcw))
      clear hall hcur hfin hit hcw
      go_wp2_with fail
      refine bodyPost_ret (v := .tuple #[]) (by simp [results, Try.results55, go_sem]) rfl ⟨rfl, cur, HF.out.1, HF.out.2.1, HF.out.2.2⟩
    · have hg : mget k es = some u := by
        have h1 := mget_mem hit.imap.nodup hk
        rw [← (hcur k).2 (fun h => hV h.1)]
        exact h1
      obtain ⟨a, rfl⟩ := HS.out.2.1 k u (mget_some_mem hg)
      have hm := leftN_lt (mget_some_mem hg) hV
      have cw2 : Chg (fun b => b = q) w w2 := hcw.then hc2 (fun i hi e => by omega)
      have hset := HS.out.1.keep cw2 (by omega) (by omega)
      cases hsb : sb k
      · obtain ⟨o, hdel, hit3⟩ := hit2.delete (P := Try.prog) elem_map Try.underlying3 k 0 3
        have cw3 : Chg (fun b => b = q) w (setBlock w2 q o) := Chg.setBlock (F := fun b => b = q) cw2 (.inl rfl) o
        have HX := Lib.hid (And.intro hset (And.intro hdel (And.intro hit3 (And.intro hm (And.intro cw3 (And.intro hcur hit2.imap.nodup))))))
        clear hset hdel hit3 hm cw3 hcur hit hcw hk hV hg hit2 hc2 cw2
        go_wp2_with (first
          | (go_at_call 56; refine (unseen_any HX.out.1 k _).mono ?_; rw [hsb]; rintro e w' ⟨rfl, rfl⟩)
          | (at_delete; refine wpList_delete_run rfl _ _ _ _ rfl rfl rfl HX.out.2.1 ?_))
        go_roundg (leftN es (fun x => V x ∨ x = k))
        case measure => have := HX.out.2.2.2.1; omega
        case rel =>
          obtain ⟨hset, hdel, hit3, hm, cw3, hcur, hnd⟩ := HX.out
          refine ⟨_, _, hit3, Nat.le_refl _, cw3, fun x => ?_⟩
          rw [mget_mdel k x hnd]
          by_cases hx : x = k
          · subst hx
            rw [if_pos (beq_self_eq_true _)]
            exact ⟨fun _ => rfl, fun h => absurd ⟨.inr rfl, hsb⟩ h⟩
          · rw [if_neg (by simpa using hx)]
            refine ⟨fun h => ?_, fun h => ?_⟩
            · exact (hcur x).1 ⟨h.1.resolve_right hx, h.2⟩
            · exact (hcur x).2 (fun h2 => h ⟨.inl h2.1, h2.2⟩)
      · have HX := Lib.hid (And.intro hset (And.intro hm (And.intro cw2 (And.intro hcur hit2))))
        clear hset hm cw2 hcur hit hcw hk hV hg hit2 hc2
        go_wp2_with (go_at_call 56; refine (unseen_any HX.out.1 k _).mono ?_; rw [hsb]; rintro e w' ⟨rfl, rfl⟩)
        go_roundg (leftN es (fun x => V x ∨ x = k))
        case measure => have := HX.out.2.1; omega
        case rel =>
          obtain ⟨hset, hm, cw2, hcur, hit2⟩ := HX.out
          refine ⟨_, cur, hit2, Nat.le_refl _, cw2, fun x => ⟨fun h => ?_, fun h => ?_⟩⟩
          · rcases h.1 with hv | rfl
            · exact (hcur x).1 ⟨hv, h.2⟩
            · rw [hsb] at h; cases h.2
          · exact (hcur x).2 (fun h2 => h ⟨.inl h2.1, h2.2⟩)

end Go.Proofs.Ytmpfpfemjpmbaaa
