/- The document's memory (websterref10): next, set; websterref05.Copy. -/
import Derived.Test.YtjanojignaonfaaRef10b
import Derived.Test.YtjanojignaonfaaTold
import Derived.Test.YtjanojignaonfaaFlatH
namespace Go.Proofs.Ytjanojignaonfaa
set_option linter.unusedVariables false
set_option linter.unusedSimpArgs false
open Go.RowKit

/-- v is what is told -/
def ToldR (w : World) (S : Nat → Prop) (v : Value) (t : TD) : Prop := ∃ wv bv, v = .agg (t.cells wv bv) ∧ IntS w S wv t.o.W ∧ ByteS w S bv t.o.B ∧ In64 t.o.cls ∧ In64 t.o.kind
theorem ToldR.keep {w w' : World} {S F : Nat → Prop} {v : Value} {t : TD} (h : ToldR w S v t) (c : Chg F w w') (hS : ∀ b, S b → ¬ F b) : ToldR w' S v t := by
  obtain ⟨wv, bv, hv, h1, h2, h3⟩ := h
  exact ⟨wv, bv, hv, h1.keep c hS, h2.keep c hS, h3⟩
theorem ToldR.more {w : World} {S S' : Nat → Prop} {v : Value} {t : TD} (h : ToldR w S v t) (hS : ∀ b, b < w.heap.size → S b → S' b) : ToldR w S' v t := by
  obtain ⟨wv, bv, hv, h1, h2, h3⟩ := h
  exact ⟨wv, bv, hv, h1.more hS, h2.more hS, h3⟩
theorem ToldR.flat (w : World) (S : Nat → Prop) (n : Int) (ok : Bool) (e : Int) : ToldR w S (.agg #[.int .i64 n, .int .i64 0, .int .i64 0, .slice none 0 0, .slice none 0 0, .bool ok, .int .i64 e]) ⟨n, O.zero, ok, e⟩ :=
  ⟨_, _, rfl, IntS.nil _ _, ByteS.nil _ _, (show In64 0 by unfold In64; omega), (show In64 0 by unfold In64; omega)⟩
theorem nxtI_none' {L : List O} {id : Nat} (h : ∀ k, id ≤ k → (ob L k).kind = 0) : nxtI L id = none := by
  unfold nxtI
  rw [List.find?_eq_none]
  intro k hk
  by_cases h1 : id ≤ k
  · simp [h k h1]
  · simp [h1]

set_option maxRecDepth 100000 in
set_option maxHeartbeats 2000000 in
theorem next10_any (v : Value) (S : Nat → Prop) (L : List O) (w : World) (hv : RefM w S v L) (hL : L.length < 1073741823) (o : Int) (o64 : In64 o) :
    Calls Try.prog 94 #[v, .int .i64 o] w (Ret fun r w' => ToldR w' (fun b => w.heap.size ≤ b) r ⟨nextN L o, O.zero, nextOK L o, 0⟩ ∧ Chg No w w') := by
  obtain ⟨lv, rfl, hl⟩ := hv
  obtain ⟨A, c, rfl, hm⟩ := hl.form
  obtain ⟨id, hid, hid2⟩ : ∃ id : Nat, namedV o = (id : Int) ∧ id ≤ 1073741823 := by
    cases hn : namedOk o
    · exact ⟨0, namedV_no hn, by omega⟩
    · obtain ⟨i, -, h1, h2⟩ := namedV_nat hn
      exact ⟨i + 1, by omega, by omega⟩
  have hS : ∀ q, nxtI L id = some q → nextN L o = 2 * ((q : Int) + 1) ∧ nextOK L o = true := fun q h => by
    unfold nextN nextOK
    rw [hid, Int.toNat_natCast, h]
    exact ⟨rfl, rfl⟩
  have hO : nxtI L id = none → nextN L o = 0 ∧ nextOK L o = false := fun h => by
    unfold nextN nextOK
    rw [hid, Int.toNat_natCast, h]
    exact ⟨rfl, rfl⟩
  obtain ⟨N, hN⟩ : ∃ N, nextN L o = N := ⟨_, rfl⟩
  obtain ⟨B, hB⟩ : ∃ B, nextOK L o = B := ⟨_, rfl⟩
  rw [hN, hB] at hO ⊢
  rw [hN, hB] at hS
  have HS := Lib.hid hS
  have HO := Lib.hid hO
  have w1 : IntKind.i64.wrap ((id : Int) + 1) = (id : Int) + 1 := IntWalk.i64_in _ (by omega)
  have HL := Lib.hid hl
  have HM := fun w => Named01_any o o64 w
  rw [hid] at HM
  clear hl hN hO hid hS hB
  generalize hn : L.length = n at *
  have HN := Lib.hid hn
  clear hn
  unfold maxLen at hm
  go_enter Try.func94, Try.ntmps94
  go_wp2_with (go_at_call 75; refine (HM _).mono ?_; rintro e w' ⟨rfl, rfl⟩)
  clear HM w1
  go_loopg [7] (n + 1) (fun j v7 wr => ∃ q : Nat, v7 = .int .i64 ((q : Int) + 1) ∧ id ≤ q ∧ (q ≤ n ∨ q = id) ∧ (∀ j, id ≤ j → j < q → (ob L j).kind = 0) ∧ n - q ≤ j ∧ Row wr w.heap.size 33 #[.slice A n c] ∧ Row wr (w.heap.size + 1) 102 #[.int .i64 0, .int .i64 0, .int .i64 0, .slice none 0 0, .slice none 0 0, .bool false, .int .i64 0] ∧ Chg No w wr)
  case atStart => exact ⟨id, rfl, by omega, .inr rfl, fun j h1 h2 => by omega, by omega, (Row.new w _ _).alloc _, by simpa using Row.new (w.alloc _) 102 #[.int .i64 0, .int .i64 0, .int .i64 0, .slice none 0 0, .slice none 0 0, .bool false, .int .i64 0], ((Chg.refl _ _).alloc _).alloc _⟩
  case round =>
    obtain ⟨q, rfl, q1, q2, hz, q3, r0, r1, cw⟩ := hrel
    have x0 : wr.cell? ⟨w.heap.size, 0, none⟩ = some (.slice A n c) := r0.cell 0
    have f1 := r1.seven
    have ww : IntKind.i64.wrap ((q : Int) + 1 - 1) = (q : Int) := (IntWalk.i64_in _ (by omega)).trans (by omega)
    have ww2 : IntKind.i64.wrap (q : Int) = (q : Int) := IntWalk.i64_in _ (by omega)
    have ww3 : IntKind.i64.wrap (2 * ((q : Int) + 1)) = 2 * ((q : Int) + 1) := IntWalk.i64_in _ (by omega)
    by_cases hq : q < n
    · obtain ⟨b, off, c', wv, bv, e, -, hc, -⟩ := (HL.out.keep cw (fun _ _ f => f)).cells (i := q) (by rw [HN.out]; exact hq)
      rw [HN.out] at e
      obtain ⟨rfl, -, rfl⟩ := Value.slice.inj e
      obtain ⟨-, y1, -, -⟩ := hc wr (Chg.refl _ _)
      have t1 : decide ((q : Int) + 1 ≤ (n : Int)) = true := decide_eq_true (by omega)
      have HR := Lib.hid (And.intro r0 (And.intro r1 cw))
      have HZ := Lib.hid hz
      by_cases hk : (ob L q).kind = 0
      · rw [hk] at y1
        have HK := Lib.hid hk
        clear hc e hk r0 r1 cw hz
        go_wp2_with fail
        go_roundg (n - (q + 1))
        case measure => omega
        case rel => exact ⟨q + 1, by go_num, by omega, by omega, fun j h1 h2 => (by
          rcases Nat.lt_or_ge j q with h3 | h3
          · exact HZ.out j h1 h3
          · obtain rfl : j = q := by omega
            exact HK.out), by omega, HR.out⟩
      · have hx : nxtI L id = some q := nxtI_some q1 hk fun j h1 h2 => Decidable.byContradiction fun h3 => h2 (hz j h1 (by omega))
        have t2 : ((ob L q).kind != 0) = true := by simpa using hk
        obtain ⟨rfl, rfl⟩ := HS.out q hx
        clear hc e hk r0 r1 cw hz hx
        generalize (ob L q).kind = kd at *
        go_wp2_with fail
        refine bodyPost_ret (v := .agg #[.int .i64 (2 * ((q : Int) + 1)), .int .i64 0, .int .i64 0, .slice none 0 0, .slice none 0 0, .bool true, .int .i64 0]) (by simp [results, Try.results94, go_sem, f1]) rfl (Ret.mk ⟨ToldR.flat _ _ _ _ _, ?_⟩)
        repeat (with_reducible first | exact HR.out.2.2 | refine Chg.setCell ?_ (.inr (by simp)) _)
    · have t1 : decide ((q : Int) + 1 ≤ (n : Int)) = false := decide_eq_false (by omega)
      have hx : nxtI L id = none := nxtI_none' fun k h1 => (by
        rcases Nat.lt_or_ge k q with h3 | h3
        · exact hz k h1 h3
        · rw [ob_out (by rw [HN.out]; omega)]; rfl)
      have HR := Lib.hid (And.intro r0 (And.intro r1 cw))
      obtain ⟨rfl, rfl⟩ := HO.out hx
      clear r0 r1 cw hz hx
      go_wp2_with fail
      refine bodyPost_ret (v := .agg #[.int .i64 0, .int .i64 0, .int .i64 0, .slice none 0 0, .slice none 0 0, .bool false, .int .i64 0]) (by simp [results, Try.results94, go_sem, f1]) rfl (Ret.mk ⟨ToldR.flat _ _ _ _ _, ?_⟩)
      repeat (with_reducible first | exact HR.out.2.2 | refine Chg.setCell ?_ (.inr (by simp)) _)

end Go.Proofs.Ytjanojignaonfaa
