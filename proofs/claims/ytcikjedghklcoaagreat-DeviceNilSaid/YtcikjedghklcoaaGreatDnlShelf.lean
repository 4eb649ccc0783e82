/- A part of a law's proof: DnlShelf. -/
import Derived.Ground.GgzProg
import Derived.Ground.SlgmProg
import Derived.Shelf.SlGeneric
import Derived.Shelf.SlIterI.Nil
import Derived.Shelf.SortM.Plain
import Derived.Shelf.SortM.SortNone
import Derived.Test.YtcikjedghklcoaaGreatProg
set_option linter.unusedVariables false
set_option linter.unusedSimpArgs false
set_option linter.constructorNameAsVariable false
/-
  DERIVED: THE SHELF's CONTRACTS AT THIS DUMP, IN PLAIN WORDS (tools/lay-plain.mjs out of 'DnlShelf0.lean', which tools/lay-shelf.mjs wrote): THE SAME DECLARATIONS UNDER THE SAME NAMES: 'import', 'namespace', 'open', 'def', 'theorem' AND NOTHING ELSE: no command of the shelf's: FOR A HAND-IN. Each laying: the table of numbers ('.._ren') and one theorem, a field a fact of the dump's own or the kernel's comparison; each contract: ONE APPLICATION.
-/
namespace Go.Proofs
open Go.Shelf
def Tryz.keysA_ren : Go.Shelf.Ren := ⟨fun | 7 => 43 | 10 => 97 | n => n, fun | 23 => 121 | 26 => 3 | 3 => 51 | 28 => 119 | 0 => 0 | 27 => 118 | 33 => 66 | 4 => 4 | n => n, fun | n => n⟩
theorem Tryz.keysA : Go.Proofs.SlLaysZI.n7 Tryz.prog Tryz.keysA_ren := {
  mixed := by kernel_rfl
  f7 := ⟨Tryz.f43.name, by decide, Tryz.func43.trans (congrArg some (by kernel_rfl))⟩
  f10 := ⟨Tryz.f97.name, by decide, Tryz.func97.trans (congrArg some (by kernel_rfl))⟩
  t0 := Tryz.underlying0
  a0 := Tryz.isAgg0
  z0 := Tryz.sizeOf0
  v0 := Tryz.zeroValue0
  t4 := Tryz.underlying4
  a4 := Tryz.isAgg4
  z4 := Tryz.sizeOf4
  v4 := Tryz.zeroValue4
  t23 := Tryz.underlying121
  a23 := Tryz.isAgg121
  z23 := Tryz.sizeOf121
  v23 := Tryz.zeroValue121
  t26 := Tryz.underlying3
  a26 := Tryz.isAgg3
  z26 := Tryz.sizeOf3
  v26 := Tryz.zeroValue3
  t27 := Tryz.underlying118
  a27 := Tryz.isAgg118
  z27 := Tryz.sizeOf118
  v27 := Tryz.zeroValue118
  t28 := Tryz.underlying119
  a28 := Tryz.isAgg119
  z28 := Tryz.sizeOf119
  v28 := Tryz.zeroValue119
  t33 := Tryz.underlying66
  a33 := Tryz.isAgg66
  z33 := Tryz.sizeOf66
  v33 := Tryz.zeroValue66 }
def Tryz.sortedA_ren : Go.Shelf.Ren := ⟨fun | 6 => 42 | 8 => 95 | 9 => 96 | 11 => 151 | 13 => 153 | 12 => 152 | 23 => 212 | 24 => 213 | 14 => 203 | 15 => 204 | 16 => 205 | 17 => 206 | 18 => 207 | 19 => 208 | 20 => 209 | 21 => 210 | 22 => 211 | 25 => 225 | 26 => 226 | 27 => 227 | 28 => 228 | 29 => 229 | 30 => 202 | 31 => 233 | n => n, fun | 26 => 3 | 28 => 119 | 24 => 116 | 0 => 0 | 3 => 3 | 37 => 61 | 48 => 67 | 50 => 46 | 4 => 4 | 40 => 274 | 39 => 273 | 45 => 279 | 5 => 5 | 9 => 9 | 51 => 285 | 55 => 289 | 57 => 293 | 58 => 294 | 33 => 66 | n => n, fun | n => n⟩
theorem Tryz.sortedA : Go.Proofs.SlLaysZI.n6 Tryz.prog Tryz.sortedA_ren := {
  mixed := by kernel_rfl
  f6 := ⟨Tryz.f42.name, by decide, Tryz.func42.trans (congrArg some (by kernel_rfl))⟩
  f8 := ⟨Tryz.f95.name, by decide, Tryz.func95.trans (congrArg some (by kernel_rfl))⟩
  f11 := ⟨Tryz.f151.name, by decide, Tryz.func151.trans (congrArg some (by kernel_rfl))⟩
  t0 := Tryz.underlying0
  a0 := Tryz.isAgg0
  z0 := Tryz.sizeOf0
  v0 := Tryz.zeroValue0
  t24 := Tryz.underlying116
  a24 := Tryz.isAgg116
  z24 := Tryz.sizeOf116
  v24 := Tryz.zeroValue116
  t26 := Tryz.underlying3
  a26 := Tryz.isAgg3
  z26 := Tryz.sizeOf3
  v26 := Tryz.zeroValue3
  t28 := Tryz.underlying119
  a28 := Tryz.isAgg119
  z28 := Tryz.sizeOf119
  v28 := Tryz.zeroValue119
  i26 := by kernel_rfl }
def Tryz.sortA_ren : Go.Shelf.Ren := ⟨fun | 5 => 96 | 8 => 153 | 7 => 152 | 19 => 212 | 20 => 213 | 10 => 203 | 11 => 204 | 12 => 205 | 13 => 206 | 14 => 207 | 15 => 208 | 16 => 209 | 17 => 210 | 18 => 211 | 30 => 225 | 31 => 226 | 32 => 227 | 33 => 228 | 34 => 229 | 35 => 202 | 40 => 233 | n => n, fun | 23 => 116 | 25 => 3 | 3 => 3 | 32 => 61 | 22 => 116 | 0 => 0 | 44 => 67 | 46 => 46 | 4 => 4 | 36 => 274 | 35 => 273 | 41 => 279 | 5 => 5 | 9 => 9 | 53 => 285 | 57 => 289 | 63 => 293 | 64 => 294 | n => n, fun | n => n⟩
theorem Tryz.sortA : Go.Proofs.SlLaysM.n5 Tryz.prog Tryz.sortA_ren := {
  mixed := by kernel_rfl
  f5 := ⟨Tryz.f96.name, by decide, Tryz.func96.trans (congrArg some (by kernel_rfl))⟩
  f7 := ⟨Tryz.f152.name, by decide, Tryz.func152.trans (congrArg some (by kernel_rfl))⟩
  f8 := Tryz.func153.trans (congrArg some (by kernel_rfl))
  f10 := ⟨Tryz.f203.name, by decide, Tryz.func203.trans (congrArg some (by kernel_rfl))⟩
  f11 := ⟨Tryz.f204.name, by decide, Tryz.func204.trans (congrArg some (by kernel_rfl))⟩
  f12 := ⟨Tryz.f205.name, by decide, Tryz.func205.trans (congrArg some (by kernel_rfl))⟩
  f13 := ⟨Tryz.f206.name, by decide, Tryz.func206.trans (congrArg some (by kernel_rfl))⟩
  f14 := ⟨Tryz.f207.name, by decide, Tryz.func207.trans (congrArg some (by kernel_rfl))⟩
  f15 := ⟨Tryz.f208.name, by decide, Tryz.func208.trans (congrArg some (by kernel_rfl))⟩
  f16 := ⟨Tryz.f209.name, by decide, Tryz.func209.trans (congrArg some (by kernel_rfl))⟩
  f17 := ⟨Tryz.f210.name, by decide, Tryz.func210.trans (congrArg some (by kernel_rfl))⟩
  f18 := ⟨Tryz.f211.name, by decide, Tryz.func211.trans (congrArg some (by kernel_rfl))⟩
  f19 := Tryz.func212.trans (congrArg some (by kernel_rfl))
  f20 := Tryz.func213.trans (congrArg some (by kernel_rfl))
  f30 := ⟨Tryz.f225.name, by decide, Tryz.func225.trans (congrArg some (by kernel_rfl))⟩
  f31 := Tryz.func226.trans (congrArg some (by kernel_rfl))
  f32 := Tryz.func227.trans (congrArg some (by kernel_rfl))
  f33 := ⟨Tryz.f228.name, by decide, Tryz.func228.trans (congrArg some (by kernel_rfl))⟩
  f34 := ⟨Tryz.f229.name, by decide, Tryz.func229.trans (congrArg some (by kernel_rfl))⟩
  f35 := ⟨Tryz.f202.name, by decide, Tryz.func202.trans (congrArg some (by kernel_rfl))⟩
  f40 := ⟨Tryz.f233.name, by decide, Tryz.func233.trans (congrArg some (by kernel_rfl))⟩
  t0 := Tryz.underlying0
  a0 := Tryz.isAgg0
  z0 := Tryz.sizeOf0
  v0 := Tryz.zeroValue0
  t3 := Tryz.underlying3
  a3 := Tryz.isAgg3
  z3 := Tryz.sizeOf3
  v3 := Tryz.zeroValue3
  t4 := Tryz.underlying4
  a4 := Tryz.isAgg4
  z4 := Tryz.sizeOf4
  v4 := Tryz.zeroValue4
  t5 := Tryz.underlying5
  a5 := Tryz.isAgg5
  z5 := Tryz.sizeOf5
  v5 := Tryz.zeroValue5
  t9 := Tryz.underlying9
  a9 := Tryz.isAgg9
  z9 := Tryz.sizeOf9
  v9 := Tryz.zeroValue9
  t22 := Tryz.underlying116
  a22 := Tryz.isAgg116
  z22 := Tryz.sizeOf116
  v22 := Tryz.zeroValue116
  t23 := Tryz.underlying116
  a23 := Tryz.isAgg116
  z23 := Tryz.sizeOf116
  v23 := Tryz.zeroValue116
  t25 := Tryz.underlying3
  a25 := Tryz.isAgg3
  z25 := Tryz.sizeOf3
  v25 := Tryz.zeroValue3
  t32 := Tryz.underlying61
  a32 := Tryz.isAgg61
  z32 := Tryz.sizeOf61
  v32 := Tryz.zeroValue61
  t35 := Tryz.underlying273
  a35 := Tryz.isAgg273
  z35 := Tryz.sizeOf273
  v35 := Tryz.zeroValue273
  t36 := Tryz.underlying274
  a36 := Tryz.isAgg274
  z36 := Tryz.sizeOf274
  v36 := Tryz.zeroValue274
  t41 := Tryz.underlying279
  a41 := Tryz.isAgg279
  z41 := Tryz.sizeOf279
  v41 := Tryz.zeroValue279
  t44 := Tryz.underlying67
  a44 := Tryz.isAgg67
  z44 := Tryz.sizeOf67
  v44 := Tryz.zeroValue67
  t46 := Tryz.underlying46
  a46 := Tryz.isAgg46
  z46 := Tryz.sizeOf46
  v46 := Tryz.zeroValue46
  t53 := Tryz.underlying285
  a53 := Tryz.isAgg285
  z53 := Tryz.sizeOf285
  v53 := Tryz.zeroValue285
  t57 := Tryz.underlying289
  a57 := Tryz.isAgg289
  z57 := Tryz.sizeOf289
  v57 := Tryz.zeroValue289
  t63 := Tryz.underlying293
  a63 := Tryz.isAgg293
  z63 := Tryz.sizeOf293
  v63 := Tryz.zeroValue293
  t64 := Tryz.underlying294
  a64 := Tryz.isAgg294
  z64 := Tryz.sizeOf294
  v64 := Tryz.zeroValue294 }
end Go.Proofs
