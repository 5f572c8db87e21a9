/- The document on words' bytes: websterref01.Put, Get, All. -/
import Derived.Test.YtdpmmafkomchaaaGreatImgB
namespace Go.Proofs.YtdpmmafkomchaaaGreat
set_option linter.unusedVariables false
set_option linter.unusedSimpArgs false
open Go.RowKit

set_option maxRecDepth 100000 in
set_option maxHeartbeats 1000000 in
theorem Put01_any (o : Int) (o64 : In64 o) (w : World) : Calls Tryz.prog 60 #[.int .i64 o] w (Ret (Puts w o)) := by
  have e0 : o % 4294967296 / 16777216 = o / 16777216 % 256 := by omega
  have e1 : o % 4294967296 / 65536 % 256 = o / 65536 % 256 := by omega
  have e2 : o % 4294967296 / 256 % 256 = o / 256 % 256 := by omega
  have HE := Lib.hid (And.intro e0 (And.intro e1 e2))
  clear e0 e1 e2
  go_enter Tryz.func60, Tryz.ntmps60
  go_wp2_with fail
  go_ret
  rw [HE.out.1, HE.out.2.1, HE.out.2.2]
  have r := Row.new w 5 #[.int .u8 (o / 16777216 % 256), .int .u8 (o / 65536 % 256), .int .u8 (o / 256 % 256), .int .u8 (o % 256)]
  exact Ret.mk ⟨rfl, own_of_row (cs := (putB o).map (.int .u8)) r rfl (Nat.le_refl _) (by unfold maxLen; simp [putB]), (Chg.refl _ _).alloc _⟩

set_option maxRecDepth 100000 in
set_option maxHeartbeats 1000000 in
/-- a copy of bytes -/
theorem CopyU_any (v : Value) (l : List Int) (S : Nat → Prop) (w : World) (h : ByteS w S v l) (hl : l.length ≤ 1000000000) : Calls Tryz.prog 64 #[v] w (Ret fun u w' => OwnB w' w.heap.size u l ∧ Chg No w w') := by
  obtain ⟨A, c, w', hr, ho, hc⟩ := app_bytes (OwnB.nil w w.heap.size) h (by simpa using hl) (Nat.le_refl _) 33
  have hc' : Chg No w w' := hc.mono fun k hk e => by omega
  rw [List.nil_append] at hr ho
  obtain ⟨B, n, d, rfl⟩ : ∃ B n d, v = .slice B n d := by
    obtain ⟨B, d, e, -⟩ := h.form
    exact ⟨B, _, d, e⟩
  have HR := Lib.hid hr
  have H := Lib.hid (And.intro ho hc')
  clear hr ho hc hc' h
  go_enter Tryz.func64, Tryz.ntmps64
  go_wp2_with (first
    | (at_builtin; refine wpList_append_run rfl _ _ _ rfl rfl rfl HR.out ?_)
    | fail)
  go_ret
  exact Ret.mk H.out

end Go.Proofs.YtdpmmafkomchaaaGreat
