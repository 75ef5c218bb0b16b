/-
  DERIVED: THE SHELF's CONTRACTS AT THIS DUMP, IN PLAIN WORDS (tools/lay-plain.mjs out of 'YtaecngdabgnamaaShelfSSrc.lean', which tools/lay-shelf.mjs wrote): THE SAME DECLARATIONS UNDER THE SAME NAMES: 'import', 'namespace', 'open', 'def', 'theorem' AND NOTHING ELSE: no command of the shelf's: FOR A HAND-IN. Each laying: the table of numbers ('.._ren') and one theorem, a field a fact of the dump's own or the kernel's comparison; each contract: ONE APPLICATION.
-/
import Derived.Shelf.SlGeneric
import Derived.Shelf.SlIter.Nil
import Derived.Shelf.SortM.Plain
import Derived.Shelf.SortM.SortNone
import Derived.Ground.GgzProg
import Derived.Ground.SlgmProg
import Derived.Test.YtaecngdabgnamaaProg
namespace Go.Proofs
open Go.Shelf
def Try.keysS_ren : Go.Shelf.Ren := ⟨fun | 7 => 75 | 10 => 88 | n => n, fun | 23 => 127 | 26 => 9 | 3 => 3 | 28 => 133 | 0 => 0 | 27 => 132 | 33 => 148 | 4 => 4 | n => n, fun | n => n⟩
theorem Try.keysS : Go.Proofs.SlLaysZ.n7 Try.prog Try.keysS_ren := {
  mixed := by kernel_rfl
  f7 := ⟨Try.f75.name, by decide, Try.func75.trans (congrArg some (by kernel_rfl))⟩
  f10 := ⟨Try.f88.name, by decide, Try.func88.trans (congrArg some (by kernel_rfl))⟩
  t0 := Try.underlying0
  a0 := Try.isAgg0
  z0 := Try.sizeOf0
  v0 := Try.zeroValue0
  t4 := Try.underlying4
  a4 := Try.isAgg4
  z4 := Try.sizeOf4
  v4 := Try.zeroValue4
  t23 := Try.underlying127
  a23 := Try.isAgg127
  z23 := Try.sizeOf127
  v23 := Try.zeroValue127
  t26 := Try.underlying9
  a26 := Try.isAgg9
  z26 := Try.sizeOf9
  v26 := Try.zeroValue9
  t27 := Try.underlying132
  a27 := Try.isAgg132
  z27 := Try.sizeOf132
  v27 := Try.zeroValue132
  t28 := Try.underlying133
  a28 := Try.isAgg133
  z28 := Try.sizeOf133
  v28 := Try.zeroValue133
  t33 := Try.underlying148
  a33 := Try.isAgg148
  z33 := Try.sizeOf148
  v33 := Try.zeroValue148 }
def Try.sortedS_ren : Go.Shelf.Ren := ⟨fun | 6 => 74 | 8 => 86 | 9 => 87 | 11 => 107 | 13 => 79 | 12 => 108 | 23 => 97 | 24 => 98 | 14 => 117 | 15 => 118 | 16 => 119 | 17 => 120 | 18 => 121 | 19 => 122 | 20 => 123 | 21 => 124 | 22 => 125 | 25 => 128 | 26 => 110 | 27 => 111 | 28 => 129 | 29 => 130 | 30 => 131 | 31 => 132 | n => n, fun | 26 => 9 | 28 => 133 | 24 => 71 | 0 => 0 | 3 => 3 | 37 => 139 | 48 => 157 | 50 => 141 | 4 => 4 | 40 => 151 | 39 => 150 | 45 => 96 | 5 => 5 | 9 => 9 | 51 => 166 | 55 => 170 | 57 => 179 | 58 => 180 | 33 => 148 | n => n, fun | n => n⟩
theorem Try.sortedS : Go.Proofs.SlLaysZ.n6 Try.prog Try.sortedS_ren := {
  mixed := by kernel_rfl
  f6 := ⟨Try.f74.name, by decide, Try.func74.trans (congrArg some (by kernel_rfl))⟩
  f8 := ⟨Try.f86.name, by decide, Try.func86.trans (congrArg some (by kernel_rfl))⟩
  f11 := ⟨Try.f107.name, by decide, Try.func107.trans (congrArg some (by kernel_rfl))⟩
  t0 := Try.underlying0
  a0 := Try.isAgg0
  z0 := Try.sizeOf0
  v0 := Try.zeroValue0
  t24 := Try.underlying71
  a24 := Try.isAgg71
  z24 := Try.sizeOf71
  v24 := Try.zeroValue71
  t26 := Try.underlying9
  a26 := Try.isAgg9
  z26 := Try.sizeOf9
  v26 := Try.zeroValue9
  t28 := Try.underlying133
  a28 := Try.isAgg133
  z28 := Try.sizeOf133
  v28 := Try.zeroValue133
  i26 := by kernel_rfl }
def Try.sortS_ren : Go.Shelf.Ren := ⟨fun | 6 => 87 | 8 => 79 | 9 => 108 | 19 => 97 | 20 => 98 | 21 => 117 | 22 => 118 | 23 => 119 | 24 => 120 | 25 => 121 | 26 => 122 | 27 => 123 | 28 => 124 | 29 => 125 | 36 => 128 | 31 => 110 | 32 => 111 | 37 => 129 | 38 => 130 | 39 => 131 | 41 => 132 | n => n, fun | 27 => 71 | 29 => 9 | 3 => 3 | 32 => 139 | 26 => 71 | 0 => 0 | 44 => 157 | 46 => 141 | 4 => 4 | 36 => 151 | 35 => 150 | 41 => 96 | 5 => 5 | 9 => 9 | 53 => 166 | 57 => 170 | 63 => 179 | 64 => 180 | n => n, fun | n => n⟩
theorem Try.sortS : Go.Proofs.SlLaysM.n6 Try.prog Try.sortS_ren := {
  mixed := by kernel_rfl
  f6 := ⟨Try.f87.name, by decide, Try.func87.trans (congrArg some (by kernel_rfl))⟩
  f8 := Try.func79.trans (congrArg some (by kernel_rfl))
  f9 := ⟨Try.f108.name, by decide, Try.func108.trans (congrArg some (by kernel_rfl))⟩
  f19 := Try.func97.trans (congrArg some (by kernel_rfl))
  f20 := Try.func98.trans (congrArg some (by kernel_rfl))
  f21 := ⟨Try.f117.name, by decide, Try.func117.trans (congrArg some (by kernel_rfl))⟩
  f22 := ⟨Try.f118.name, by decide, Try.func118.trans (congrArg some (by kernel_rfl))⟩
  f23 := ⟨Try.f119.name, by decide, Try.func119.trans (congrArg some (by kernel_rfl))⟩
  f24 := ⟨Try.f120.name, by decide, Try.func120.trans (congrArg some (by kernel_rfl))⟩
  f25 := ⟨Try.f121.name, by decide, Try.func121.trans (congrArg some (by kernel_rfl))⟩
  f26 := ⟨Try.f122.name, by decide, Try.func122.trans (congrArg some (by kernel_rfl))⟩
  f27 := ⟨Try.f123.name, by decide, Try.func123.trans (congrArg some (by kernel_rfl))⟩
  f28 := ⟨Try.f124.name, by decide, Try.func124.trans (congrArg some (by kernel_rfl))⟩
  f29 := ⟨Try.f125.name, by decide, Try.func125.trans (congrArg some (by kernel_rfl))⟩
  f31 := Try.func110.trans (congrArg some (by kernel_rfl))
  f32 := Try.func111.trans (congrArg some (by kernel_rfl))
  f36 := ⟨Try.f128.name, by decide, Try.func128.trans (congrArg some (by kernel_rfl))⟩
  f37 := ⟨Try.f129.name, by decide, Try.func129.trans (congrArg some (by kernel_rfl))⟩
  f38 := ⟨Try.f130.name, by decide, Try.func130.trans (congrArg some (by kernel_rfl))⟩
  f39 := ⟨Try.f131.name, by decide, Try.func131.trans (congrArg some (by kernel_rfl))⟩
  f41 := ⟨Try.f132.name, by decide, Try.func132.trans (congrArg some (by kernel_rfl))⟩
  t0 := Try.underlying0
  a0 := Try.isAgg0
  z0 := Try.sizeOf0
  v0 := Try.zeroValue0
  t3 := Try.underlying3
  a3 := Try.isAgg3
  z3 := Try.sizeOf3
  v3 := Try.zeroValue3
  t4 := Try.underlying4
  a4 := Try.isAgg4
  z4 := Try.sizeOf4
  v4 := Try.zeroValue4
  t5 := Try.underlying5
  a5 := Try.isAgg5
  z5 := Try.sizeOf5
  v5 := Try.zeroValue5
  t9 := Try.underlying9
  a9 := Try.isAgg9
  z9 := Try.sizeOf9
  v9 := Try.zeroValue9
  t26 := Try.underlying71
  a26 := Try.isAgg71
  z26 := Try.sizeOf71
  v26 := Try.zeroValue71
  t27 := Try.underlying71
  a27 := Try.isAgg71
  z27 := Try.sizeOf71
  v27 := Try.zeroValue71
  t29 := Try.underlying9
  a29 := Try.isAgg9
  z29 := Try.sizeOf9
  v29 := Try.zeroValue9
  t32 := Try.underlying139
  a32 := Try.isAgg139
  z32 := Try.sizeOf139
  v32 := Try.zeroValue139
  t35 := Try.underlying150
  a35 := Try.isAgg150
  z35 := Try.sizeOf150
  v35 := Try.zeroValue150
  t36 := Try.underlying151
  a36 := Try.isAgg151
  z36 := Try.sizeOf151
  v36 := Try.zeroValue151
  t41 := Try.underlying96
  a41 := Try.isAgg96
  z41 := Try.sizeOf96
  v41 := Try.zeroValue96
  t44 := Try.underlying157
  a44 := Try.isAgg157
  z44 := Try.sizeOf157
  v44 := Try.zeroValue157
  t46 := Try.underlying141
  a46 := Try.isAgg141
  z46 := Try.sizeOf141
  v46 := Try.zeroValue141
  t53 := Try.underlying166
  a53 := Try.isAgg166
  z53 := Try.sizeOf166
  v53 := Try.zeroValue166
  t57 := Try.underlying170
  a57 := Try.isAgg170
  z57 := Try.sizeOf170
  v57 := Try.zeroValue170
  t63 := Try.underlying179
  a63 := Try.isAgg179
  z63 := Try.sizeOf179
  v63 := Try.zeroValue179
  t64 := Try.underlying180
  a64 := Try.isAgg180
  z64 := Try.sizeOf180
  v64 := Try.zeroValue180 }
end Go.Proofs
