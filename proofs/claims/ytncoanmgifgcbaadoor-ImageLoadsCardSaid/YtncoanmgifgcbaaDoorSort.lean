/-
  DERIVED: THE SHELF's CONTRACTS AT THIS DUMP, IN PLAIN WORDS (tools/lay-plain.mjs out of 'YtncoanmgifgcbaaDoorSortRaw.lean', which tools/lay-shelf.mjs wrote): THE SAME DECLARATIONS UNDER THE SAME NAMES: 'import', 'namespace', 'open', 'def', 'theorem' AND NOTHING ELSE: no command of the shelf's: FOR A HAND-IN. Each laying: the table of numbers ('.._ren') and one theorem, a field a fact of the dump's own or the kernel's comparison; each contract: ONE APPLICATION.
-/
import Derived.Shelf.SortM.Plain
import Derived.Shelf.SortM.SortNone
import Derived.Ground.SlgmProg
import Derived.Test.YtncoanmgifgcbaaDoorProg
namespace Go.Proofs
open Go.Shelf
def Tryd.sortA_ren : Go.Shelf.Ren := ⟨fun | 5 => 61 | 8 => 94 | 7 => 93 | 19 => 122 | 20 => 123 | 10 => 113 | 11 => 114 | 12 => 115 | 13 => 116 | 14 => 117 | 15 => 118 | 16 => 119 | 17 => 120 | 18 => 121 | 30 => 129 | 31 => 130 | 32 => 131 | 33 => 132 | 34 => 133 | 35 => 134 | 40 => 136 | n => n, fun | 23 => 36 | 25 => 3 | 3 => 3 | 32 => 109 | 22 => 36 | 0 => 0 | 44 => 49 | 46 => 171 | 4 => 4 | 36 => 163 | 35 => 162 | 41 => 51 | 5 => 5 | 9 => 9 | 53 => 177 | 57 => 181 | 63 => 188 | 64 => 141 | n => n, fun | n => n⟩
theorem Tryd.sortA : Go.Proofs.SlLaysM.n5 Tryd.prog Tryd.sortA_ren := {
  mixed := by kernel_rfl
  f5 := ⟨Tryd.f61.name, by decide, Tryd.func61.trans (congrArg some (by kernel_rfl))⟩
  f7 := ⟨Tryd.f93.name, by decide, Tryd.func93.trans (congrArg some (by kernel_rfl))⟩
  f8 := Tryd.func94.trans (congrArg some (by kernel_rfl))
  f10 := ⟨Tryd.f113.name, by decide, Tryd.func113.trans (congrArg some (by kernel_rfl))⟩
  f11 := ⟨Tryd.f114.name, by decide, Tryd.func114.trans (congrArg some (by kernel_rfl))⟩
  f12 := ⟨Tryd.f115.name, by decide, Tryd.func115.trans (congrArg some (by kernel_rfl))⟩
  f13 := ⟨Tryd.f116.name, by decide, Tryd.func116.trans (congrArg some (by kernel_rfl))⟩
  f14 := ⟨Tryd.f117.name, by decide, Tryd.func117.trans (congrArg some (by kernel_rfl))⟩
  f15 := ⟨Tryd.f118.name, by decide, Tryd.func118.trans (congrArg some (by kernel_rfl))⟩
  f16 := ⟨Tryd.f119.name, by decide, Tryd.func119.trans (congrArg some (by kernel_rfl))⟩
  f17 := ⟨Tryd.f120.name, by decide, Tryd.func120.trans (congrArg some (by kernel_rfl))⟩
  f18 := ⟨Tryd.f121.name, by decide, Tryd.func121.trans (congrArg some (by kernel_rfl))⟩
  f19 := Tryd.func122.trans (congrArg some (by kernel_rfl))
  f20 := Tryd.func123.trans (congrArg some (by kernel_rfl))
  f30 := ⟨Tryd.f129.name, by decide, Tryd.func129.trans (congrArg some (by kernel_rfl))⟩
  f31 := Tryd.func130.trans (congrArg some (by kernel_rfl))
  f32 := Tryd.func131.trans (congrArg some (by kernel_rfl))
  f33 := ⟨Tryd.f132.name, by decide, Tryd.func132.trans (congrArg some (by kernel_rfl))⟩
  f34 := ⟨Tryd.f133.name, by decide, Tryd.func133.trans (congrArg some (by kernel_rfl))⟩
  f35 := ⟨Tryd.f134.name, by decide, Tryd.func134.trans (congrArg some (by kernel_rfl))⟩
  f40 := ⟨Tryd.f136.name, by decide, Tryd.func136.trans (congrArg some (by kernel_rfl))⟩
  t0 := Tryd.underlying0
  a0 := Tryd.isAgg0
  z0 := Tryd.sizeOf0
  v0 := Tryd.zeroValue0
  t3 := Tryd.underlying3
  a3 := Tryd.isAgg3
  z3 := Tryd.sizeOf3
  v3 := Tryd.zeroValue3
  t4 := Tryd.underlying4
  a4 := Tryd.isAgg4
  z4 := Tryd.sizeOf4
  v4 := Tryd.zeroValue4
  t5 := Tryd.underlying5
  a5 := Tryd.isAgg5
  z5 := Tryd.sizeOf5
  v5 := Tryd.zeroValue5
  t9 := Tryd.underlying9
  a9 := Tryd.isAgg9
  z9 := Tryd.sizeOf9
  v9 := Tryd.zeroValue9
  t22 := Tryd.underlying36
  a22 := Tryd.isAgg36
  z22 := Tryd.sizeOf36
  v22 := Tryd.zeroValue36
  t23 := Tryd.underlying36
  a23 := Tryd.isAgg36
  z23 := Tryd.sizeOf36
  v23 := Tryd.zeroValue36
  t25 := Tryd.underlying3
  a25 := Tryd.isAgg3
  z25 := Tryd.sizeOf3
  v25 := Tryd.zeroValue3
  t32 := Tryd.underlying109
  a32 := Tryd.isAgg109
  z32 := Tryd.sizeOf109
  v32 := Tryd.zeroValue109
  t35 := Tryd.underlying162
  a35 := Tryd.isAgg162
  z35 := Tryd.sizeOf162
  v35 := Tryd.zeroValue162
  t36 := Tryd.underlying163
  a36 := Tryd.isAgg163
  z36 := Tryd.sizeOf163
  v36 := Tryd.zeroValue163
  t41 := Tryd.underlying51
  a41 := Tryd.isAgg51
  z41 := Tryd.sizeOf51
  v41 := Tryd.zeroValue51
  t44 := Tryd.underlying49
  a44 := Tryd.isAgg49
  z44 := Tryd.sizeOf49
  v44 := Tryd.zeroValue49
  t46 := Tryd.underlying171
  a46 := Tryd.isAgg171
  z46 := Tryd.sizeOf171
  v46 := Tryd.zeroValue171
  t53 := Tryd.underlying177
  a53 := Tryd.isAgg177
  z53 := Tryd.sizeOf177
  v53 := Tryd.zeroValue177
  t57 := Tryd.underlying181
  a57 := Tryd.isAgg181
  z57 := Tryd.sizeOf181
  v57 := Tryd.zeroValue181
  t63 := Tryd.underlying188
  a63 := Tryd.isAgg188
  z63 := Tryd.sizeOf188
  v63 := Tryd.zeroValue188
  t64 := Tryd.underlying141
  a64 := Tryd.isAgg141
  z64 := Tryd.sizeOf141
  v64 := Tryd.zeroValue141 }
end Go.Proofs
