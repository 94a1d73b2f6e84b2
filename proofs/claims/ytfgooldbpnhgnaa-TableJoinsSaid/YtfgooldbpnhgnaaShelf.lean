/- The library contracts that this seat uses, laid in plain words by lay-plain.mjs (then turned by unname.py into marks). -/
import Derived.Shelf.SlGeneric
import Derived.Shelf.SlSortCmp.WholeK
import Derived.Shelf.SlSortCmp.NoneTotal
import Derived.Shelf.SlicesE.Clone
import Derived.Shelf.SlicesQ.IndexFunc
import Derived.Ground.SlsfProg
import Derived.Ground.SlgnProg
import Derived.Ground.SlgfProg
import Derived.Test.YtfgooldbpnhgnaaProg
namespace Go.Proofs
open Go.Shelf
def Try.sortW_ren : Go.Shelf.Ren := ⟨fun | 6 => 33 | 15 => 74 | 14 => 73 | 28 => 100 | 29 => 101 | 20 => 92 | 21 => 93 | 22 => 94 | 23 => 95 | 24 => 96 | 25 => 97 | 26 => 98 | 27 => 99 | 46 => 106 | 47 => 107 | 48 => 108 | 49 => 109 | 50 => 110 | 57 => 112 | n => n, fun | 22 => 22 | 24 => 44 | 25 => 74 | 3 => 3 | 39 => 122 | 0 => 0 | 53 => 123 | 55 => 23 | 4 => 4 | 46 => 140 | 45 => 139 | 50 => 86 | 5 => 5 | 9 => 9 | 66 => 150 | 70 => 153 | 76 => 156 | 77 => 157 | n => n, fun | n => n⟩
theorem Try.sortW : Go.Proofs.SlLaysF0.n6 Try.prog Try.sortW_ren := {
  mixed := by kernel_rfl
  f6 := ⟨Try.f33.name, by decide, Try.func33.trans (congrArg some (by kernel_rfl))⟩
  f14 := ⟨Try.f73.name, by decide, Try.func73.trans (congrArg some (by kernel_rfl))⟩
  f15 := Try.func74.trans (congrArg some (by kernel_rfl))
  f20 := ⟨Try.f92.name, by decide, Try.func92.trans (congrArg some (by kernel_rfl))⟩
  f21 := ⟨Try.f93.name, by decide, Try.func93.trans (congrArg some (by kernel_rfl))⟩
  f22 := ⟨Try.f94.name, by decide, Try.func94.trans (congrArg some (by kernel_rfl))⟩
  f23 := ⟨Try.f95.name, by decide, Try.func95.trans (congrArg some (by kernel_rfl))⟩
  f24 := ⟨Try.f96.name, by decide, Try.func96.trans (congrArg some (by kernel_rfl))⟩
  f25 := ⟨Try.f97.name, by decide, Try.func97.trans (congrArg some (by kernel_rfl))⟩
  f26 := ⟨Try.f98.name, by decide, Try.func98.trans (congrArg some (by kernel_rfl))⟩
  f27 := ⟨Try.f99.name, by decide, Try.func99.trans (congrArg some (by kernel_rfl))⟩
  f28 := Try.func100.trans (congrArg some (by kernel_rfl))
  f29 := Try.func101.trans (congrArg some (by kernel_rfl))
  f46 := ⟨Try.f106.name, by decide, Try.func106.trans (congrArg some (by kernel_rfl))⟩
  f47 := Try.func107.trans (congrArg some (by kernel_rfl))
  f48 := Try.func108.trans (congrArg some (by kernel_rfl))
  f49 := ⟨Try.f109.name, by decide, Try.func109.trans (congrArg some (by kernel_rfl))⟩
  f50 := ⟨Try.f110.name, by decide, Try.func110.trans (congrArg some (by kernel_rfl))⟩
  f57 := ⟨Try.f112.name, by decide, Try.func112.trans (congrArg some (by kernel_rfl))⟩
  t0 := Try.underlying0
  a0 := Try.isAgg0
  z0 := Try.sizeOf0
  v0 := Try.zeroValue0
  t3 := Try.underlying3
  a3 := Try.isAgg3
  z3 := Try.sizeOf3
  v3 := Try.zeroValue3
  t4 := Try.underlying4
  a4 := Try.isAgg4
  z4 := Try.sizeOf4
  v4 := Try.zeroValue4
  t5 := Try.underlying5
  a5 := Try.isAgg5
  z5 := Try.sizeOf5
  v5 := Try.zeroValue5
  t9 := Try.underlying9
  a9 := Try.isAgg9
  z9 := Try.sizeOf9
  v9 := Try.zeroValue9
  t22 := Try.underlying22
  a22 := Try.isAgg22
  z22 := Try.sizeOf22
  v22 := Try.zeroValue22
  t25 := Try.underlying74
  a25 := Try.isAgg74
  z25 := Try.sizeOf74
  v25 := Try.zeroValue74
  t39 := Try.underlying122
  a39 := Try.isAgg122
  z39 := Try.sizeOf122
  v39 := Try.zeroValue122
  t45 := Try.underlying139
  a45 := Try.isAgg139
  z45 := Try.sizeOf139
  v45 := Try.zeroValue139
  t46 := Try.underlying140
  a46 := Try.isAgg140
  z46 := Try.sizeOf140
  v46 := Try.zeroValue140
  t50 := Try.underlying86
  a50 := Try.isAgg86
  z50 := Try.sizeOf86
  v50 := Try.zeroValue86
  t53 := Try.underlying123
  a53 := Try.isAgg123
  z53 := Try.sizeOf123
  v53 := Try.zeroValue123
  t55 := Try.underlying23
  a55 := Try.isAgg23
  z55 := Try.sizeOf23
  v55 := Try.zeroValue23
  t66 := Try.underlying150
  a66 := Try.isAgg150
  z66 := Try.sizeOf150
  v66 := Try.zeroValue150
  t70 := Try.underlying153
  a70 := Try.isAgg153
  z70 := Try.sizeOf153
  v70 := Try.zeroValue153
  t76 := Try.underlying156
  a76 := Try.isAgg156
  z76 := Try.sizeOf156
  v76 := Try.zeroValue156
  t77 := Try.underlying157
  a77 := Try.isAgg157
  z77 := Try.sizeOf157
  v77 := Try.zeroValue157 }
def Try.cloneW_ren : Go.Shelf.Ren := ⟨fun | 41 => 49 | n => n, fun | 22 => 22 | 23 => 44 | 4 => 4 | n => n, fun | n => n⟩
theorem Try.cloneW : Go.Proofs.SlLaysE0.n41 Try.prog Try.cloneW_ren := {
  mixed := by kernel_rfl
  f41 := ⟨Try.f49.name, by decide, Try.func49.trans (congrArg some (by kernel_rfl))⟩
  t4 := Try.underlying4
  a4 := Try.isAgg4
  z4 := Try.sizeOf4
  v4 := Try.zeroValue4
  t22 := Try.underlying22
  a22 := Try.isAgg22
  z22 := Try.sizeOf22
  v22 := Try.zeroValue22 }
def Try.indexW_ren : Go.Shelf.Ren := ⟨fun | 6 => 83 | n => n, fun | 22 => 22 | 23 => 44 | 25 => 98 | 3 => 3 | 0 => 0 | 4 => 4 | n => n, fun | n => n⟩
theorem Try.indexW : Go.Proofs.SlLaysH0.n6 Try.prog Try.indexW_ren := {
  mixed := by kernel_rfl
  f6 := ⟨Try.f83.name, by decide, Try.func83.trans (congrArg some (by kernel_rfl))⟩
  t0 := Try.underlying0
  a0 := Try.isAgg0
  z0 := Try.sizeOf0
  v0 := Try.zeroValue0
  t3 := Try.underlying3
  a3 := Try.isAgg3
  z3 := Try.sizeOf3
  v3 := Try.zeroValue3
  t4 := Try.underlying4
  a4 := Try.isAgg4
  z4 := Try.sizeOf4
  v4 := Try.zeroValue4
  t22 := Try.underlying22
  a22 := Try.isAgg22
  z22 := Try.sizeOf22
  v22 := Try.zeroValue22
  t25 := Try.underlying98
  a25 := Try.isAgg98
  z25 := Try.sizeOf98
  v25 := Try.zeroValue98 }
end Go.Proofs
