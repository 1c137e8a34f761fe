/- The shelf contracts of maps.Keys, slices.Sorted and slices.Sort, laid at this program (written by lay-plain). -/
import Derived.Shelf.SlIterI.Sorted
import Derived.Shelf.SlIterI.Collect
import Derived.Shelf.SortM.Plain
import Derived.Shelf.SortM.SortNone
import Derived.Ground.GgzProg
import Derived.Ground.SlgmProg
import Derived.Test.YtkimijmiphkddaaProg
namespace Go.Proofs
open Go.Shelf
set_option linter.unusedSimpArgs false
set_option linter.unusedVariables false
set_option linter.unusedSectionVars false
def Try.keys83_ren : Go.Shelf.Ren := ⟨fun | 7 => 83 | 10 => 91 | n => n, fun | 23 => 103 | 26 => 3 | 3 => 3 | 28 => 122 | 0 => 0 | 27 => 121 | 33 => 89 | 4 => 4 | n => n, fun | n => n⟩
theorem Try.keys83 : Go.Proofs.SlLaysZI.n7 Try.prog Try.keys83_ren := {
  mixed := by kernel_rfl
  f7 := ⟨Try.f83.name, by decide, Try.func83.trans (congrArg some (by kernel_rfl))⟩
  f10 := ⟨Try.f91.name, by decide, Try.func91.trans (congrArg some (by kernel_rfl))⟩
  t0 := Try.underlying0
  a0 := Try.isAgg0
  z0 := Try.sizeOf0
  v0 := Try.zeroValue0
  t4 := Try.underlying4
  a4 := Try.isAgg4
  z4 := Try.sizeOf4
  v4 := Try.zeroValue4
  t23 := Try.underlying103
  a23 := Try.isAgg103
  z23 := Try.sizeOf103
  v23 := Try.zeroValue103
  t26 := Try.underlying3
  a26 := Try.isAgg3
  z26 := Try.sizeOf3
  v26 := Try.zeroValue3
  t27 := Try.underlying121
  a27 := Try.isAgg121
  z27 := Try.sizeOf121
  v27 := Try.zeroValue121
  t28 := Try.underlying122
  a28 := Try.isAgg122
  z28 := Try.sizeOf122
  v28 := Try.zeroValue122
  t33 := Try.underlying89
  a33 := Try.isAgg89
  z33 := Try.sizeOf89
  v33 := Try.zeroValue89 }
def Try.sorted82_ren : Go.Shelf.Ren := ⟨fun | 6 => 82 | 8 => 89 | 9 => 90 | 11 => 92 | 13 => 94 | 12 => 93 | 23 => 104 | 24 => 105 | 14 => 95 | 15 => 96 | 16 => 97 | 17 => 98 | 18 => 99 | 19 => 100 | 20 => 101 | 21 => 102 | 22 => 103 | 25 => 106 | 26 => 107 | 27 => 108 | 28 => 109 | 29 => 110 | 30 => 111 | 31 => 112 | n => n, fun | 26 => 3 | 28 => 122 | 24 => 66 | 0 => 0 | 3 => 3 | 37 => 132 | 48 => 142 | 50 => 144 | 4 => 4 | 40 => 135 | 39 => 134 | 45 => 119 | 5 => 5 | 9 => 9 | 51 => 145 | 55 => 149 | 57 => 151 | 58 => 28 | 33 => 89 | n => n, fun | n => n⟩
theorem Try.sorted82 : Go.Proofs.SlLaysZI.n6 Try.prog Try.sorted82_ren := {
  mixed := by kernel_rfl
  f6 := ⟨Try.f82.name, by decide, Try.func82.trans (congrArg some (by kernel_rfl))⟩
  f8 := ⟨Try.f89.name, by decide, Try.func89.trans (congrArg some (by kernel_rfl))⟩
  f11 := ⟨Try.f92.name, by decide, Try.func92.trans (congrArg some (by kernel_rfl))⟩
  t0 := Try.underlying0
  a0 := Try.isAgg0
  z0 := Try.sizeOf0
  v0 := Try.zeroValue0
  t24 := Try.underlying66
  a24 := Try.isAgg66
  z24 := Try.sizeOf66
  v24 := Try.zeroValue66
  t26 := Try.underlying3
  a26 := Try.isAgg3
  z26 := Try.sizeOf3
  v26 := Try.zeroValue3
  t28 := Try.underlying122
  a28 := Try.isAgg122
  z28 := Try.sizeOf122
  v28 := Try.zeroValue122
  i26 := by kernel_rfl }
def Try.sort90_ren : Go.Shelf.Ren := ⟨fun | 5 => 90 | 8 => 94 | 7 => 93 | 19 => 104 | 20 => 105 | 10 => 95 | 11 => 96 | 12 => 97 | 13 => 98 | 14 => 99 | 15 => 100 | 16 => 101 | 17 => 102 | 18 => 103 | 30 => 106 | 31 => 107 | 32 => 108 | 33 => 109 | 34 => 110 | 35 => 111 | 40 => 112 | n => n, fun | 23 => 66 | 25 => 3 | 3 => 3 | 32 => 132 | 22 => 66 | 0 => 0 | 44 => 142 | 46 => 144 | 4 => 4 | 36 => 135 | 35 => 134 | 41 => 119 | 5 => 5 | 9 => 9 | 53 => 145 | 57 => 149 | 63 => 151 | 64 => 28 | n => n, fun | n => n⟩
theorem Try.sort90 : Go.Proofs.SlLaysM.n5 Try.prog Try.sort90_ren := {
  mixed := by kernel_rfl
  f5 := ⟨Try.f90.name, by decide, Try.func90.trans (congrArg some (by kernel_rfl))⟩
  f7 := ⟨Try.f93.name, by decide, Try.func93.trans (congrArg some (by kernel_rfl))⟩
  f8 := Try.func94.trans (congrArg some (by kernel_rfl))
  f10 := ⟨Try.f95.name, by decide, Try.func95.trans (congrArg some (by kernel_rfl))⟩
  f11 := ⟨Try.f96.name, by decide, Try.func96.trans (congrArg some (by kernel_rfl))⟩
  f12 := ⟨Try.f97.name, by decide, Try.func97.trans (congrArg some (by kernel_rfl))⟩
  f13 := ⟨Try.f98.name, by decide, Try.func98.trans (congrArg some (by kernel_rfl))⟩
  f14 := ⟨Try.f99.name, by decide, Try.func99.trans (congrArg some (by kernel_rfl))⟩
  f15 := ⟨Try.f100.name, by decide, Try.func100.trans (congrArg some (by kernel_rfl))⟩
  f16 := ⟨Try.f101.name, by decide, Try.func101.trans (congrArg some (by kernel_rfl))⟩
  f17 := ⟨Try.f102.name, by decide, Try.func102.trans (congrArg some (by kernel_rfl))⟩
  f18 := ⟨Try.f103.name, by decide, Try.func103.trans (congrArg some (by kernel_rfl))⟩
  f19 := Try.func104.trans (congrArg some (by kernel_rfl))
  f20 := Try.func105.trans (congrArg some (by kernel_rfl))
  f30 := ⟨Try.f106.name, by decide, Try.func106.trans (congrArg some (by kernel_rfl))⟩
  f31 := Try.func107.trans (congrArg some (by kernel_rfl))
  f32 := Try.func108.trans (congrArg some (by kernel_rfl))
  f33 := ⟨Try.f109.name, by decide, Try.func109.trans (congrArg some (by kernel_rfl))⟩
  f34 := ⟨Try.f110.name, by decide, Try.func110.trans (congrArg some (by kernel_rfl))⟩
  f35 := ⟨Try.f111.name, by decide, Try.func111.trans (congrArg some (by kernel_rfl))⟩
  f40 := ⟨Try.f112.name, by decide, Try.func112.trans (congrArg some (by kernel_rfl))⟩
  t0 := Try.underlying0
  a0 := Try.isAgg0
  z0 := Try.sizeOf0
  v0 := Try.zeroValue0
  t3 := Try.underlying3
  a3 := Try.isAgg3
  z3 := Try.sizeOf3
  v3 := Try.zeroValue3
  t4 := Try.underlying4
  a4 := Try.isAgg4
  z4 := Try.sizeOf4
  v4 := Try.zeroValue4
  t5 := Try.underlying5
  a5 := Try.isAgg5
  z5 := Try.sizeOf5
  v5 := Try.zeroValue5
  t9 := Try.underlying9
  a9 := Try.isAgg9
  z9 := Try.sizeOf9
  v9 := Try.zeroValue9
  t22 := Try.underlying66
  a22 := Try.isAgg66
  z22 := Try.sizeOf66
  v22 := Try.zeroValue66
  t23 := Try.underlying66
  a23 := Try.isAgg66
  z23 := Try.sizeOf66
  v23 := Try.zeroValue66
  t25 := Try.underlying3
  a25 := Try.isAgg3
  z25 := Try.sizeOf3
  v25 := Try.zeroValue3
  t32 := Try.underlying132
  a32 := Try.isAgg132
  z32 := Try.sizeOf132
  v32 := Try.zeroValue132
  t35 := Try.underlying134
  a35 := Try.isAgg134
  z35 := Try.sizeOf134
  v35 := Try.zeroValue134
  t36 := Try.underlying135
  a36 := Try.isAgg135
  z36 := Try.sizeOf135
  v36 := Try.zeroValue135
  t41 := Try.underlying119
  a41 := Try.isAgg119
  z41 := Try.sizeOf119
  v41 := Try.zeroValue119
  t44 := Try.underlying142
  a44 := Try.isAgg142
  z44 := Try.sizeOf142
  v44 := Try.zeroValue142
  t46 := Try.underlying144
  a46 := Try.isAgg144
  z46 := Try.sizeOf144
  v46 := Try.zeroValue144
  t53 := Try.underlying145
  a53 := Try.isAgg145
  z53 := Try.sizeOf145
  v53 := Try.zeroValue145
  t57 := Try.underlying149
  a57 := Try.isAgg149
  z57 := Try.sizeOf149
  v57 := Try.zeroValue149
  t63 := Try.underlying151
  a63 := Try.isAgg151
  z63 := Try.sizeOf151
  v63 := Try.zeroValue151
  t64 := Try.underlying28
  a64 := Try.isAgg28
  z64 := Try.sizeOf28
  v64 := Try.zeroValue28 }
/-- slices.Sort's two contracts. -/
theorem Try.sorts82 (m : Nat) : AnyZI.SortsIn Try.prog Try.sorted82_ren Fence.wide m :=
  ⟨fun blk off cap ss W hH hblk hsz => callsIn_wide.2 (AnyM.slices_Sort_int Try.sort90 blk off cap ss W hH hblk hsz),
   fun p cap W => callsIn_wide.2 (AnyM.slices_Sort_int_none Try.sort90 p cap W)⟩
end Go.Proofs
