/-
  DERIVED: THE SHELF's CONTRACTS AT THIS DUMP, IN PLAIN WORDS (tools/lay-plain.mjs out of 'YtkefciacdmbidaaIter.lean', which tools/lay-shelf.mjs wrote): THE SAME DECLARATIONS UNDER THE SAME NAMES: 'import', 'namespace', 'open', 'def', 'theorem' AND NOTHING ELSE: no command of the shelf's: FOR A HAND-IN. Each laying: the table of numbers ('.._ren') and one theorem, a field a fact of the dump's own or the kernel's comparison; each contract: ONE APPLICATION.
-/
import Derived.Shelf.SlIter.Nil
import Derived.Shelf.SortM.Plain
import Derived.Shelf.SortM.SortNone
import Derived.Ground.GgzProg
import Derived.Ground.SlgmProg
import Derived.Shelf.SlGeneric
import Derived.Test.YtkefciacdmbidaaProg
namespace Go.Proofs
open Go.Shelf
def Try.keys58_ren : Go.Shelf.Ren := ⟨fun | 7 => 58 | 10 => 81 | n => n, fun | 23 => 85 | 26 => 9 | 3 => 101 | 28 => 99 | 0 => 0 | 27 => 98 | 33 => 119 | 4 => 4 | n => n, fun | n => n⟩
theorem Try.keys58 : Go.Proofs.SlLaysZ.n7 Try.prog Try.keys58_ren := {
  mixed := by kernel_rfl
  f7 := ⟨Try.f58.name, by decide, Try.func58.trans (congrArg some (by kernel_rfl))⟩
  f10 := ⟨Try.f81.name, by decide, Try.func81.trans (congrArg some (by kernel_rfl))⟩
  t0 := Try.underlying0
  a0 := Try.isAgg0
  z0 := Try.sizeOf0
  v0 := Try.zeroValue0
  t4 := Try.underlying4
  a4 := Try.isAgg4
  z4 := Try.sizeOf4
  v4 := Try.zeroValue4
  t23 := Try.underlying85
  a23 := Try.isAgg85
  z23 := Try.sizeOf85
  v23 := Try.zeroValue85
  t26 := Try.underlying9
  a26 := Try.isAgg9
  z26 := Try.sizeOf9
  v26 := Try.zeroValue9
  t27 := Try.underlying98
  a27 := Try.isAgg98
  z27 := Try.sizeOf98
  v27 := Try.zeroValue98
  t28 := Try.underlying99
  a28 := Try.isAgg99
  z28 := Try.sizeOf99
  v28 := Try.zeroValue99
  t33 := Try.underlying119
  a33 := Try.isAgg119
  z33 := Try.sizeOf119
  v33 := Try.zeroValue119 }
def Try.sorted57_ren : Go.Shelf.Ren := ⟨fun | 6 => 57 | 8 => 79 | 9 => 80 | 11 => 92 | 13 => 86 | 12 => 93 | 23 => 107 | 24 => 108 | 14 => 111 | 15 => 112 | 16 => 113 | 17 => 114 | 18 => 115 | 19 => 116 | 20 => 117 | 21 => 118 | 22 => 119 | 25 => 130 | 26 => 124 | 27 => 125 | 28 => 131 | 29 => 132 | 30 => 133 | 31 => 136 | n => n, fun | 26 => 9 | 28 => 99 | 24 => 42 | 0 => 0 | 3 => 3 | 37 => 77 | 48 => 141 | 50 => 143 | 4 => 4 | 40 => 134 | 39 => 133 | 45 => 89 | 5 => 5 | 9 => 9 | 51 => 154 | 55 => 158 | 57 => 165 | 58 => 166 | 33 => 119 | n => n, fun | n => n⟩
theorem Try.sorted57 : Go.Proofs.SlLaysZ.n6 Try.prog Try.sorted57_ren := {
  mixed := by kernel_rfl
  f6 := ⟨Try.f57.name, by decide, Try.func57.trans (congrArg some (by kernel_rfl))⟩
  f8 := ⟨Try.f79.name, by decide, Try.func79.trans (congrArg some (by kernel_rfl))⟩
  f11 := ⟨Try.f92.name, by decide, Try.func92.trans (congrArg some (by kernel_rfl))⟩
  t0 := Try.underlying0
  a0 := Try.isAgg0
  z0 := Try.sizeOf0
  v0 := Try.zeroValue0
  t24 := Try.underlying42
  a24 := Try.isAgg42
  z24 := Try.sizeOf42
  v24 := Try.zeroValue42
  t26 := Try.underlying9
  a26 := Try.isAgg9
  z26 := Try.sizeOf9
  v26 := Try.zeroValue9
  t28 := Try.underlying99
  a28 := Try.isAgg99
  z28 := Try.sizeOf99
  v28 := Try.zeroValue99
  i26 := by kernel_rfl }
def Try.sort80_ren : Go.Shelf.Ren := ⟨fun | 6 => 80 | 8 => 86 | 9 => 93 | 19 => 107 | 20 => 108 | 21 => 111 | 22 => 112 | 23 => 113 | 24 => 114 | 25 => 115 | 26 => 116 | 27 => 117 | 28 => 118 | 29 => 119 | 36 => 130 | 31 => 124 | 32 => 125 | 37 => 131 | 38 => 132 | 39 => 133 | 41 => 136 | n => n, fun | 27 => 42 | 29 => 9 | 3 => 3 | 32 => 77 | 26 => 42 | 0 => 0 | 44 => 141 | 46 => 143 | 4 => 4 | 36 => 134 | 35 => 133 | 41 => 89 | 5 => 5 | 9 => 9 | 53 => 154 | 57 => 158 | 63 => 165 | 64 => 166 | n => n, fun | n => n⟩
theorem Try.sort80 : Go.Proofs.SlLaysM.n6 Try.prog Try.sort80_ren := {
  mixed := by kernel_rfl
  f6 := ⟨Try.f80.name, by decide, Try.func80.trans (congrArg some (by kernel_rfl))⟩
  f8 := Try.func86.trans (congrArg some (by kernel_rfl))
  f9 := ⟨Try.f93.name, by decide, Try.func93.trans (congrArg some (by kernel_rfl))⟩
  f19 := Try.func107.trans (congrArg some (by kernel_rfl))
  f20 := Try.func108.trans (congrArg some (by kernel_rfl))
  f21 := ⟨Try.f111.name, by decide, Try.func111.trans (congrArg some (by kernel_rfl))⟩
  f22 := ⟨Try.f112.name, by decide, Try.func112.trans (congrArg some (by kernel_rfl))⟩
  f23 := ⟨Try.f113.name, by decide, Try.func113.trans (congrArg some (by kernel_rfl))⟩
  f24 := ⟨Try.f114.name, by decide, Try.func114.trans (congrArg some (by kernel_rfl))⟩
  f25 := ⟨Try.f115.name, by decide, Try.func115.trans (congrArg some (by kernel_rfl))⟩
  f26 := ⟨Try.f116.name, by decide, Try.func116.trans (congrArg some (by kernel_rfl))⟩
  f27 := ⟨Try.f117.name, by decide, Try.func117.trans (congrArg some (by kernel_rfl))⟩
  f28 := ⟨Try.f118.name, by decide, Try.func118.trans (congrArg some (by kernel_rfl))⟩
  f29 := ⟨Try.f119.name, by decide, Try.func119.trans (congrArg some (by kernel_rfl))⟩
  f31 := Try.func124.trans (congrArg some (by kernel_rfl))
  f32 := Try.func125.trans (congrArg some (by kernel_rfl))
  f36 := ⟨Try.f130.name, by decide, Try.func130.trans (congrArg some (by kernel_rfl))⟩
  f37 := ⟨Try.f131.name, by decide, Try.func131.trans (congrArg some (by kernel_rfl))⟩
  f38 := ⟨Try.f132.name, by decide, Try.func132.trans (congrArg some (by kernel_rfl))⟩
  f39 := ⟨Try.f133.name, by decide, Try.func133.trans (congrArg some (by kernel_rfl))⟩
  f41 := ⟨Try.f136.name, by decide, Try.func136.trans (congrArg some (by kernel_rfl))⟩
  t0 := Try.underlying0
  a0 := Try.isAgg0
  z0 := Try.sizeOf0
  v0 := Try.zeroValue0
  t3 := Try.underlying3
  a3 := Try.isAgg3
  z3 := Try.sizeOf3
  v3 := Try.zeroValue3
  t4 := Try.underlying4
  a4 := Try.isAgg4
  z4 := Try.sizeOf4
  v4 := Try.zeroValue4
  t5 := Try.underlying5
  a5 := Try.isAgg5
  z5 := Try.sizeOf5
  v5 := Try.zeroValue5
  t9 := Try.underlying9
  a9 := Try.isAgg9
  z9 := Try.sizeOf9
  v9 := Try.zeroValue9
  t26 := Try.underlying42
  a26 := Try.isAgg42
  z26 := Try.sizeOf42
  v26 := Try.zeroValue42
  t27 := Try.underlying42
  a27 := Try.isAgg42
  z27 := Try.sizeOf42
  v27 := Try.zeroValue42
  t29 := Try.underlying9
  a29 := Try.isAgg9
  z29 := Try.sizeOf9
  v29 := Try.zeroValue9
  t32 := Try.underlying77
  a32 := Try.isAgg77
  z32 := Try.sizeOf77
  v32 := Try.zeroValue77
  t35 := Try.underlying133
  a35 := Try.isAgg133
  z35 := Try.sizeOf133
  v35 := Try.zeroValue133
  t36 := Try.underlying134
  a36 := Try.isAgg134
  z36 := Try.sizeOf134
  v36 := Try.zeroValue134
  t41 := Try.underlying89
  a41 := Try.isAgg89
  z41 := Try.sizeOf89
  v41 := Try.zeroValue89
  t44 := Try.underlying141
  a44 := Try.isAgg141
  z44 := Try.sizeOf141
  v44 := Try.zeroValue141
  t46 := Try.underlying143
  a46 := Try.isAgg143
  z46 := Try.sizeOf143
  v46 := Try.zeroValue143
  t53 := Try.underlying154
  a53 := Try.isAgg154
  z53 := Try.sizeOf154
  v53 := Try.zeroValue154
  t57 := Try.underlying158
  a57 := Try.isAgg158
  z57 := Try.sizeOf158
  v57 := Try.zeroValue158
  t63 := Try.underlying165
  a63 := Try.isAgg165
  z63 := Try.sizeOf165
  v63 := Try.zeroValue165
  t64 := Try.underlying166
  a64 := Try.isAgg166
  z64 := Try.sizeOf166
  v64 := Try.zeroValue166 }
end Go.Proofs
