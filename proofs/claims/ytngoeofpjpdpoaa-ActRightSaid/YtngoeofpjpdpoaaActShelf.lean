/- A part of a law's proof: ActShelf. -/
import Derived.Shelf.Strings.Repeat
import Derived.Test.YtngoeofpjpdpoaaProg
set_option linter.unusedVariables false
set_option linter.unusedSimpArgs false
set_option linter.constructorNameAsVariable false
/-
  DERIVED: THE SHELF's CONTRACTS AT THIS DUMP, IN PLAIN WORDS (tools/lay-plain.mjs out of 'ActShelf.lean', which tools/lay-shelf.mjs wrote): THE SAME DECLARATIONS UNDER THE SAME NAMES: 'import', 'namespace', 'open', 'def', 'theorem' AND NOTHING ELSE: no command of the shelf's: FOR A HAND-IN. Each laying: the table of numbers ('.._ren') and one theorem, a field a fact of the dump's own or the kernel's comparison; each contract: ONE APPLICATION.
-/
namespace Go.Proofs
open Go.Shelf
def Try.laysRepeat_ren : Go.Shelf.Ren := ⟨fun | 105 => 58 | 212 => 82 | 99 => 83 | 165 => 84 | 166 => 28 | 170 => 85 | 169 => 30 | 263 => 91 | 264 => 92 | 206 => 93 | 240 => 56 | 241 => 94 | 276 => 80 | 277 => 96 | n => n, fun | 9 => 9 | 3 => 3 | 4 => 4 | 20 => 20 | 0 => 0 | 46 => 65 | 109 => 113 | 5 => 5 | 72 => 58 | 76 => 61 | 51 => 37 | 146 => 125 | 53 => 29 | 148 => 127 | 70 => 55 | 37 => 56 | 75 => 60 | 127 => 93 | 164 => 110 | 80 => 64 | n => n, fun | n => n⟩
theorem Try.laysRepeat : Go.Proofs.Lays.n105 Try.prog Try.laysRepeat_ren := {
  mixed := by kernel_rfl
  f99 := Try.func83.trans (congrArg some (by kernel_rfl))
  f105 := Try.func58.trans (congrArg some (by kernel_rfl))
  f165 := Try.func84.trans (congrArg some (by kernel_rfl))
  f166 := Try.func28.trans (congrArg some (by kernel_rfl))
  f169 := Try.func30.trans (congrArg some (by kernel_rfl))
  f170 := Try.func85.trans (congrArg some (by kernel_rfl))
  f206 := Try.func93.trans (congrArg some (by kernel_rfl))
  f212 := Try.func82.trans (congrArg some (by kernel_rfl))
  f240 := Try.func56.trans (congrArg some (by kernel_rfl))
  f241 := Try.func94.trans (congrArg some (by kernel_rfl))
  f263 := Try.func91.trans (congrArg some (by kernel_rfl))
  f264 := Try.func92.trans (congrArg some (by kernel_rfl))
  f276 := Try.func80.trans (congrArg some (by kernel_rfl))
  f277 := Try.func96.trans (congrArg some (by kernel_rfl))
  t0 := Try.underlying0
  a0 := Try.isAgg0
  z0 := Try.sizeOf0
  v0 := Try.zeroValue0
  t3 := Try.underlying3
  a3 := Try.isAgg3
  z3 := Try.sizeOf3
  v3 := Try.zeroValue3
  t4 := Try.underlying4
  a4 := Try.isAgg4
  z4 := Try.sizeOf4
  v4 := Try.zeroValue4
  t5 := Try.underlying5
  a5 := Try.isAgg5
  z5 := Try.sizeOf5
  v5 := Try.zeroValue5
  t9 := Try.underlying9
  a9 := Try.isAgg9
  z9 := Try.sizeOf9
  v9 := Try.zeroValue9
  t20 := Try.underlying20
  a20 := Try.isAgg20
  z20 := Try.sizeOf20
  v20 := Try.zeroValue20
  t37 := Try.underlying56
  a37 := Try.isAgg56
  z37 := Try.sizeOf56
  v37 := Try.zeroValue56
  t46 := Try.underlying65
  a46 := Try.isAgg65
  z46 := Try.sizeOf65
  v46 := Try.zeroValue65
  t51 := Try.underlying37
  a51 := Try.isAgg37
  z51 := Try.sizeOf37
  v51 := Try.zeroValue37
  t53 := Try.underlying29
  a53 := Try.isAgg29
  z53 := Try.sizeOf29
  v53 := Try.zeroValue29
  t70 := Try.underlying55
  a70 := Try.isAgg55
  z70 := Try.sizeOf55
  v70 := Try.zeroValue55
  t72 := Try.underlying58
  a72 := Try.isAgg58
  z72 := Try.sizeOf58
  v72 := Try.zeroValue58
  t75 := Try.underlying60
  a75 := Try.isAgg60
  z75 := Try.sizeOf60
  v75 := Try.zeroValue60
  t76 := Try.underlying61
  a76 := Try.isAgg61
  z76 := Try.sizeOf61
  v76 := Try.zeroValue61
  t109 := Try.underlying113
  a109 := Try.isAgg113
  z109 := Try.sizeOf113
  v109 := Try.zeroValue113
  t127 := Try.underlying93
  a127 := Try.isAgg93
  z127 := Try.sizeOf93
  v127 := Try.zeroValue93
  t146 := Try.underlying125
  a146 := Try.isAgg125
  z146 := Try.sizeOf125
  v146 := Try.zeroValue125
  t148 := Try.underlying127
  a148 := Try.isAgg127
  z148 := Try.sizeOf127
  v148 := Try.zeroValue127
  t164 := Try.underlying110
  a164 := Try.isAgg110
  z164 := Try.sizeOf110
  v164 := Try.zeroValue110 }
end Go.Proofs
