/-
  DERIVED: THE SHELF's CONTRACTS AT THIS DUMP, IN PLAIN WORDS (tools/lay-plain.mjs out of 'YthinomhjhkhidaaShelfSSrc.lean', which tools/lay-shelf.mjs wrote): THE SAME DECLARATIONS UNDER THE SAME NAMES: 'import', 'namespace', 'open', 'def', 'theorem' AND NOTHING ELSE: no command of the shelf's: FOR A HAND-IN. Each laying: the table of numbers ('.._ren') and one theorem, a field a fact of the dump's own or the kernel's comparison; each contract: ONE APPLICATION.
-/
import Derived.Shelf.SlGeneric
import Derived.Shelf.SlIter.Nil
import Derived.Shelf.SortM.Plain
import Derived.Shelf.SortM.SortNone
import Derived.Ground.GgzProg
import Derived.Ground.SlgmProg
import Derived.Test.YthinomhjhkhidaaProg
namespace Go.Proofs
open Go.Shelf
def Try.keysS_ren : Go.Shelf.Ren := ⟨fun | 7 => 47 | 10 => 70 | n => n, fun | 23 => 73 | 26 => 9 | 3 => 3 | 28 => 42 | 0 => 0 | 27 => 41 | 33 => 31 | 4 => 4 | n => n, fun | n => n⟩
theorem Try.keysS : Go.Proofs.SlLaysZ.n7 Try.prog Try.keysS_ren := {
  mixed := by kernel_rfl
  f7 := ⟨Try.f47.name, by decide, Try.func47.trans (congrArg some (by kernel_rfl))⟩
  f10 := ⟨Try.f70.name, by decide, Try.func70.trans (congrArg some (by kernel_rfl))⟩
  t0 := Try.underlying0
  a0 := Try.isAgg0
  z0 := Try.sizeOf0
  v0 := Try.zeroValue0
  t4 := Try.underlying4
  a4 := Try.isAgg4
  z4 := Try.sizeOf4
  v4 := Try.zeroValue4
  t23 := Try.underlying73
  a23 := Try.isAgg73
  z23 := Try.sizeOf73
  v23 := Try.zeroValue73
  t26 := Try.underlying9
  a26 := Try.isAgg9
  z26 := Try.sizeOf9
  v26 := Try.zeroValue9
  t27 := Try.underlying41
  a27 := Try.isAgg41
  z27 := Try.sizeOf41
  v27 := Try.zeroValue41
  t28 := Try.underlying42
  a28 := Try.isAgg42
  z28 := Try.sizeOf42
  v28 := Try.zeroValue42
  t33 := Try.underlying31
  a33 := Try.isAgg31
  z33 := Try.sizeOf31
  v33 := Try.zeroValue31 }
def Try.sortedS_ren : Go.Shelf.Ren := ⟨fun | 6 => 46 | 8 => 68 | 9 => 69 | 11 => 82 | 13 => 84 | 12 => 83 | 23 => 103 | 24 => 104 | 14 => 94 | 15 => 95 | 16 => 96 | 17 => 97 | 18 => 98 | 19 => 99 | 20 => 100 | 21 => 101 | 22 => 102 | 25 => 108 | 26 => 109 | 27 => 110 | 28 => 111 | 29 => 112 | 30 => 113 | 31 => 122 | n => n, fun | 26 => 9 | 28 => 42 | 24 => 37 | 0 => 0 | 3 => 3 | 37 => 139 | 48 => 158 | 50 => 143 | 4 => 4 | 40 => 152 | 39 => 151 | 45 => 62 | 5 => 5 | 9 => 9 | 51 => 162 | 55 => 166 | 57 => 173 | 58 => 29 | 33 => 31 | n => n, fun | n => n⟩
theorem Try.sortedS : Go.Proofs.SlLaysZ.n6 Try.prog Try.sortedS_ren := {
  mixed := by kernel_rfl
  f6 := ⟨Try.f46.name, by decide, Try.func46.trans (congrArg some (by kernel_rfl))⟩
  f8 := ⟨Try.f68.name, by decide, Try.func68.trans (congrArg some (by kernel_rfl))⟩
  f11 := ⟨Try.f82.name, by decide, Try.func82.trans (congrArg some (by kernel_rfl))⟩
  t0 := Try.underlying0
  a0 := Try.isAgg0
  z0 := Try.sizeOf0
  v0 := Try.zeroValue0
  t24 := Try.underlying37
  a24 := Try.isAgg37
  z24 := Try.sizeOf37
  v24 := Try.zeroValue37
  t26 := Try.underlying9
  a26 := Try.isAgg9
  z26 := Try.sizeOf9
  v26 := Try.zeroValue9
  t28 := Try.underlying42
  a28 := Try.isAgg42
  z28 := Try.sizeOf42
  v28 := Try.zeroValue42
  i26 := by kernel_rfl }
def Try.sortS_ren : Go.Shelf.Ren := ⟨fun | 6 => 69 | 8 => 84 | 9 => 83 | 19 => 103 | 20 => 104 | 21 => 94 | 22 => 95 | 23 => 96 | 24 => 97 | 25 => 98 | 26 => 99 | 27 => 100 | 28 => 101 | 29 => 102 | 36 => 108 | 31 => 109 | 32 => 110 | 37 => 111 | 38 => 112 | 39 => 113 | 41 => 122 | n => n, fun | 27 => 37 | 29 => 9 | 3 => 3 | 32 => 139 | 26 => 37 | 0 => 0 | 44 => 158 | 46 => 143 | 4 => 4 | 36 => 152 | 35 => 151 | 41 => 62 | 5 => 5 | 9 => 9 | 53 => 162 | 57 => 166 | 63 => 173 | 64 => 29 | n => n, fun | n => n⟩
theorem Try.sortS : Go.Proofs.SlLaysM.n6 Try.prog Try.sortS_ren := {
  mixed := by kernel_rfl
  f6 := ⟨Try.f69.name, by decide, Try.func69.trans (congrArg some (by kernel_rfl))⟩
  f8 := Try.func84.trans (congrArg some (by kernel_rfl))
  f9 := ⟨Try.f83.name, by decide, Try.func83.trans (congrArg some (by kernel_rfl))⟩
  f19 := Try.func103.trans (congrArg some (by kernel_rfl))
  f20 := Try.func104.trans (congrArg some (by kernel_rfl))
  f21 := ⟨Try.f94.name, by decide, Try.func94.trans (congrArg some (by kernel_rfl))⟩
  f22 := ⟨Try.f95.name, by decide, Try.func95.trans (congrArg some (by kernel_rfl))⟩
  f23 := ⟨Try.f96.name, by decide, Try.func96.trans (congrArg some (by kernel_rfl))⟩
  f24 := ⟨Try.f97.name, by decide, Try.func97.trans (congrArg some (by kernel_rfl))⟩
  f25 := ⟨Try.f98.name, by decide, Try.func98.trans (congrArg some (by kernel_rfl))⟩
  f26 := ⟨Try.f99.name, by decide, Try.func99.trans (congrArg some (by kernel_rfl))⟩
  f27 := ⟨Try.f100.name, by decide, Try.func100.trans (congrArg some (by kernel_rfl))⟩
  f28 := ⟨Try.f101.name, by decide, Try.func101.trans (congrArg some (by kernel_rfl))⟩
  f29 := ⟨Try.f102.name, by decide, Try.func102.trans (congrArg some (by kernel_rfl))⟩
  f31 := Try.func109.trans (congrArg some (by kernel_rfl))
  f32 := Try.func110.trans (congrArg some (by kernel_rfl))
  f36 := ⟨Try.f108.name, by decide, Try.func108.trans (congrArg some (by kernel_rfl))⟩
  f37 := ⟨Try.f111.name, by decide, Try.func111.trans (congrArg some (by kernel_rfl))⟩
  f38 := ⟨Try.f112.name, by decide, Try.func112.trans (congrArg some (by kernel_rfl))⟩
  f39 := ⟨Try.f113.name, by decide, Try.func113.trans (congrArg some (by kernel_rfl))⟩
  f41 := ⟨Try.f122.name, by decide, Try.func122.trans (congrArg some (by kernel_rfl))⟩
  t0 := Try.underlying0
  a0 := Try.isAgg0
  z0 := Try.sizeOf0
  v0 := Try.zeroValue0
  t3 := Try.underlying3
  a3 := Try.isAgg3
  z3 := Try.sizeOf3
  v3 := Try.zeroValue3
  t4 := Try.underlying4
  a4 := Try.isAgg4
  z4 := Try.sizeOf4
  v4 := Try.zeroValue4
  t5 := Try.underlying5
  a5 := Try.isAgg5
  z5 := Try.sizeOf5
  v5 := Try.zeroValue5
  t9 := Try.underlying9
  a9 := Try.isAgg9
  z9 := Try.sizeOf9
  v9 := Try.zeroValue9
  t26 := Try.underlying37
  a26 := Try.isAgg37
  z26 := Try.sizeOf37
  v26 := Try.zeroValue37
  t27 := Try.underlying37
  a27 := Try.isAgg37
  z27 := Try.sizeOf37
  v27 := Try.zeroValue37
  t29 := Try.underlying9
  a29 := Try.isAgg9
  z29 := Try.sizeOf9
  v29 := Try.zeroValue9
  t32 := Try.underlying139
  a32 := Try.isAgg139
  z32 := Try.sizeOf139
  v32 := Try.zeroValue139
  t35 := Try.underlying151
  a35 := Try.isAgg151
  z35 := Try.sizeOf151
  v35 := Try.zeroValue151
  t36 := Try.underlying152
  a36 := Try.isAgg152
  z36 := Try.sizeOf152
  v36 := Try.zeroValue152
  t41 := Try.underlying62
  a41 := Try.isAgg62
  z41 := Try.sizeOf62
  v41 := Try.zeroValue62
  t44 := Try.underlying158
  a44 := Try.isAgg158
  z44 := Try.sizeOf158
  v44 := Try.zeroValue158
  t46 := Try.underlying143
  a46 := Try.isAgg143
  z46 := Try.sizeOf143
  v46 := Try.zeroValue143
  t53 := Try.underlying162
  a53 := Try.isAgg162
  z53 := Try.sizeOf162
  v53 := Try.zeroValue162
  t57 := Try.underlying166
  a57 := Try.isAgg166
  z57 := Try.sizeOf166
  v57 := Try.zeroValue166
  t63 := Try.underlying173
  a63 := Try.isAgg173
  z63 := Try.sizeOf173
  v63 := Try.zeroValue173
  t64 := Try.underlying29
  a64 := Try.isAgg29
  z64 := Try.sizeOf29
  v64 := Try.zeroValue29 }
end Go.Proofs
