/-
  DERIVED: THE SHELF's CONTRACTS AT THIS DUMP, IN PLAIN WORDS (tools/lay-plain.mjs out of 'YtimkbpcdbbdjlaaLay.lean', which tools/lay-shelf.mjs wrote): THE SAME DECLARATIONS UNDER THE SAME NAMES: 'import', 'namespace', 'open', 'def', 'theorem' AND NOTHING ELSE: no command of the shelf's: FOR A HAND-IN. Each laying: the table of numbers ('.._ren') and one theorem, a field a fact of the dump's own or the kernel's comparison; each contract: ONE APPLICATION.
-/
import Derived.Shelf.SlGeneric
import Derived.Shelf.SlIterI.Nil
import Derived.Shelf.SortM.Plain
import Derived.Shelf.SortM.SortNone
import Derived.Ground.GgzProg
import Derived.Ground.SlgmProg
import Derived.Test.YtimkbpcdbbdjlaaProg
namespace Go.Proofs
open Go.Shelf
def Try.keys50_ren : Go.Shelf.Ren := ⟨fun | 7 => 50 | 10 => 87 | n => n, fun | 23 => 64 | 26 => 3 | 3 => 67 | 28 => 83 | 0 => 0 | 27 => 82 | 33 => 40 | 4 => 4 | n => n, fun | n => n⟩
theorem Try.keys50 : Go.Proofs.SlLaysZI.n7 Try.prog Try.keys50_ren := {
  mixed := by kernel_rfl
  f7 := ⟨Try.f50.name, by decide, Try.func50.trans (congrArg some (by kernel_rfl))⟩
  f10 := ⟨Try.f87.name, by decide, Try.func87.trans (congrArg some (by kernel_rfl))⟩
  t0 := Try.underlying0
  a0 := Try.isAgg0
  z0 := Try.sizeOf0
  v0 := Try.zeroValue0
  t4 := Try.underlying4
  a4 := Try.isAgg4
  z4 := Try.sizeOf4
  v4 := Try.zeroValue4
  t23 := Try.underlying64
  a23 := Try.isAgg64
  z23 := Try.sizeOf64
  v23 := Try.zeroValue64
  t26 := Try.underlying3
  a26 := Try.isAgg3
  z26 := Try.sizeOf3
  v26 := Try.zeroValue3
  t27 := Try.underlying82
  a27 := Try.isAgg82
  z27 := Try.sizeOf82
  v27 := Try.zeroValue82
  t28 := Try.underlying83
  a28 := Try.isAgg83
  z28 := Try.sizeOf83
  v28 := Try.zeroValue83
  t33 := Try.underlying40
  a33 := Try.isAgg40
  z33 := Try.sizeOf40
  v33 := Try.zeroValue40 }
def Try.sorted49_ren : Go.Shelf.Ren := ⟨fun | 6 => 49 | 8 => 85 | 9 => 86 | 11 => 92 | 13 => 94 | 12 => 93 | 23 => 104 | 24 => 105 | 14 => 95 | 15 => 96 | 16 => 97 | 17 => 98 | 18 => 99 | 19 => 100 | 20 => 101 | 21 => 102 | 22 => 103 | 25 => 106 | 26 => 107 | 27 => 108 | 28 => 109 | 29 => 110 | 30 => 111 | 31 => 112 | n => n, fun | 26 => 3 | 28 => 83 | 24 => 41 | 0 => 0 | 3 => 3 | 37 => 108 | 48 => 29 | 50 => 119 | 4 => 4 | 40 => 111 | 39 => 110 | 45 => 115 | 5 => 5 | 9 => 9 | 51 => 120 | 55 => 124 | 57 => 126 | 58 => 127 | 33 => 40 | n => n, fun | n => n⟩
theorem Try.sorted49 : Go.Proofs.SlLaysZI.n6 Try.prog Try.sorted49_ren := {
  mixed := by kernel_rfl
  f6 := ⟨Try.f49.name, by decide, Try.func49.trans (congrArg some (by kernel_rfl))⟩
  f8 := ⟨Try.f85.name, by decide, Try.func85.trans (congrArg some (by kernel_rfl))⟩
  f11 := ⟨Try.f92.name, by decide, Try.func92.trans (congrArg some (by kernel_rfl))⟩
  t0 := Try.underlying0
  a0 := Try.isAgg0
  z0 := Try.sizeOf0
  v0 := Try.zeroValue0
  t24 := Try.underlying41
  a24 := Try.isAgg41
  z24 := Try.sizeOf41
  v24 := Try.zeroValue41
  t26 := Try.underlying3
  a26 := Try.isAgg3
  z26 := Try.sizeOf3
  v26 := Try.zeroValue3
  t28 := Try.underlying83
  a28 := Try.isAgg83
  z28 := Try.sizeOf83
  v28 := Try.zeroValue83
  i26 := by kernel_rfl }
def Try.sort86_ren : Go.Shelf.Ren := ⟨fun | 5 => 86 | 8 => 94 | 7 => 93 | 19 => 104 | 20 => 105 | 10 => 95 | 11 => 96 | 12 => 97 | 13 => 98 | 14 => 99 | 15 => 100 | 16 => 101 | 17 => 102 | 18 => 103 | 30 => 106 | 31 => 107 | 32 => 108 | 33 => 109 | 34 => 110 | 35 => 111 | 40 => 112 | n => n, fun | 23 => 41 | 25 => 3 | 3 => 3 | 32 => 108 | 22 => 41 | 0 => 0 | 44 => 29 | 46 => 119 | 4 => 4 | 36 => 111 | 35 => 110 | 41 => 115 | 5 => 5 | 9 => 9 | 53 => 120 | 57 => 124 | 63 => 126 | 64 => 127 | n => n, fun | n => n⟩
theorem Try.sort86 : Go.Proofs.SlLaysM.n5 Try.prog Try.sort86_ren := {
  mixed := by kernel_rfl
  f5 := ⟨Try.f86.name, by decide, Try.func86.trans (congrArg some (by kernel_rfl))⟩
  f7 := ⟨Try.f93.name, by decide, Try.func93.trans (congrArg some (by kernel_rfl))⟩
  f8 := Try.func94.trans (congrArg some (by kernel_rfl))
  f10 := ⟨Try.f95.name, by decide, Try.func95.trans (congrArg some (by kernel_rfl))⟩
  f11 := ⟨Try.f96.name, by decide, Try.func96.trans (congrArg some (by kernel_rfl))⟩
  f12 := ⟨Try.f97.name, by decide, Try.func97.trans (congrArg some (by kernel_rfl))⟩
  f13 := ⟨Try.f98.name, by decide, Try.func98.trans (congrArg some (by kernel_rfl))⟩
  f14 := ⟨Try.f99.name, by decide, Try.func99.trans (congrArg some (by kernel_rfl))⟩
  f15 := ⟨Try.f100.name, by decide, Try.func100.trans (congrArg some (by kernel_rfl))⟩
  f16 := ⟨Try.f101.name, by decide, Try.func101.trans (congrArg some (by kernel_rfl))⟩
  f17 := ⟨Try.f102.name, by decide, Try.func102.trans (congrArg some (by kernel_rfl))⟩
  f18 := ⟨Try.f103.name, by decide, Try.func103.trans (congrArg some (by kernel_rfl))⟩
  f19 := Try.func104.trans (congrArg some (by kernel_rfl))
  f20 := Try.func105.trans (congrArg some (by kernel_rfl))
  f30 := ⟨Try.f106.name, by decide, Try.func106.trans (congrArg some (by kernel_rfl))⟩
  f31 := Try.func107.trans (congrArg some (by kernel_rfl))
  f32 := Try.func108.trans (congrArg some (by kernel_rfl))
  f33 := ⟨Try.f109.name, by decide, Try.func109.trans (congrArg some (by kernel_rfl))⟩
  f34 := ⟨Try.f110.name, by decide, Try.func110.trans (congrArg some (by kernel_rfl))⟩
  f35 := ⟨Try.f111.name, by decide, Try.func111.trans (congrArg some (by kernel_rfl))⟩
  f40 := ⟨Try.f112.name, by decide, Try.func112.trans (congrArg some (by kernel_rfl))⟩
  t0 := Try.underlying0
  a0 := Try.isAgg0
  z0 := Try.sizeOf0
  v0 := Try.zeroValue0
  t3 := Try.underlying3
  a3 := Try.isAgg3
  z3 := Try.sizeOf3
  v3 := Try.zeroValue3
  t4 := Try.underlying4
  a4 := Try.isAgg4
  z4 := Try.sizeOf4
  v4 := Try.zeroValue4
  t5 := Try.underlying5
  a5 := Try.isAgg5
  z5 := Try.sizeOf5
  v5 := Try.zeroValue5
  t9 := Try.underlying9
  a9 := Try.isAgg9
  z9 := Try.sizeOf9
  v9 := Try.zeroValue9
  t22 := Try.underlying41
  a22 := Try.isAgg41
  z22 := Try.sizeOf41
  v22 := Try.zeroValue41
  t23 := Try.underlying41
  a23 := Try.isAgg41
  z23 := Try.sizeOf41
  v23 := Try.zeroValue41
  t25 := Try.underlying3
  a25 := Try.isAgg3
  z25 := Try.sizeOf3
  v25 := Try.zeroValue3
  t32 := Try.underlying108
  a32 := Try.isAgg108
  z32 := Try.sizeOf108
  v32 := Try.zeroValue108
  t35 := Try.underlying110
  a35 := Try.isAgg110
  z35 := Try.sizeOf110
  v35 := Try.zeroValue110
  t36 := Try.underlying111
  a36 := Try.isAgg111
  z36 := Try.sizeOf111
  v36 := Try.zeroValue111
  t41 := Try.underlying115
  a41 := Try.isAgg115
  z41 := Try.sizeOf115
  v41 := Try.zeroValue115
  t44 := Try.underlying29
  a44 := Try.isAgg29
  z44 := Try.sizeOf29
  v44 := Try.zeroValue29
  t46 := Try.underlying119
  a46 := Try.isAgg119
  z46 := Try.sizeOf119
  v46 := Try.zeroValue119
  t53 := Try.underlying120
  a53 := Try.isAgg120
  z53 := Try.sizeOf120
  v53 := Try.zeroValue120
  t57 := Try.underlying124
  a57 := Try.isAgg124
  z57 := Try.sizeOf124
  v57 := Try.zeroValue124
  t63 := Try.underlying126
  a63 := Try.isAgg126
  z63 := Try.sizeOf126
  v63 := Try.zeroValue126
  t64 := Try.underlying127
  a64 := Try.isAgg127
  z64 := Try.sizeOf127
  v64 := Try.zeroValue127 }
end Go.Proofs
