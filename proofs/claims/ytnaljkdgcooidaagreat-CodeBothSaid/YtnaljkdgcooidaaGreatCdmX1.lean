/- A part of a law's proof: CdmX1. -/
import Derived.KernelRfl
import Derived.Test.YtnaljkdgcooidaaGreatCdmX0
import Derived.Test.YtnaljkdgcooidaaGreatProg
import Derived.Test.YtnaljkdgcooidaaGreatSvCod
set_option linter.unusedSimpArgs false
set_option linter.constructorNameAsVariable false
namespace Go.Proofs.Cdm
open Go Go.Ab Go.Proofs
set_option linter.unusedVariables false
-- 35 slices.ContainsFunc[[]drover/plan.Hop,drover/plan.Hop] []
def c35_0 : List AOper := [
  ⟨(some 8), .p (.bin .geq (.s 7) (.c (.v (.int .i64 0)))), none, 0⟩,
  ⟨(some 4), .p (.mov (.s 8)), none, 0⟩]
def c35_1 : ACode := (.seq (.ops (⟨(some 5), .p (.mov (.s 0)), none, 0⟩ ::
  ⟨(some 6), .p (.mov (.s 1)), none, 0⟩ ::
  ⟨(some 7), .call (.c (.fn 50 [])) [(.s 5), (.s 6)], none, 102⟩ :: c35_0)) .ret)
def c35 : ACode := (.seq (.ops [
  ⟨(some 4), .p (.mov (.c (.v (.bool false)))), none, 0⟩]) c35_1)
theorem t35 : trC Tryz.prog Tryz.f35.ntmps (bodyOf Tryz.f35) = some c35 := by kernel_rfl
theorem r35 : Tryz.f35.results.toList.mapM (trR Tryz.prog) = some [.tmp 4] := by kernel_rfl
def i35 : FI := ⟨9, c35, [.tmp 4]⟩
theorem k35 : Knows Tryz.prog 35 i35 := ⟨Tryz.f35, bodyOf Tryz.f35, Tryz.func35, by kernel_rfl, by kernel_rfl, t35, r35, by kernel_rfl⟩
-- 36 drover/code.isNode$1 []
def c36_0 : ACode := (.seq (.ops [
  ⟨(some 5), .p (.fieldAddr 0 none (.s 3)), none, 0⟩,
  ⟨(some 6), .m (.load none (.s 5)), none, 0⟩,
  ⟨(some 7), .p (.bin .lss (.s 6) (.c (.v (.int .i64 1)))), none, 0⟩,
  ⟨(some 8), .p (.mov (.s 7)), none, 0⟩,
  ⟨(some 9), .p (.fieldAddr 0 none (.s 3)), (some (8, false)), 0⟩,
  ⟨(some 10), .m (.load none (.s 9)), (some (8, false)), 0⟩,
  ⟨(some 11), .p (.bin .gtr (.s 10) (.c (.v (.int .i64 16)))), (some (8, false)), 0⟩,
  ⟨(some 12), .p (.pick (.s 8) (.c (.v (.bool true))) (.s 11)), none, 0⟩,
  ⟨(some 13), .p (.mov (.s 12)), none, 0⟩,
  ⟨(some 14), .p (.fieldAddr 1 none (.s 3)), (some (13, false)), 0⟩,
  ⟨(some 15), .m (.load none (.s 14)), (some (13, false)), 0⟩,
  ⟨(some 16), .p (.fieldAddr 0 none (.s 1)), (some (13, false)), 0⟩,
  ⟨(some 17), .m (.load none (.s 16)), (some (13, false)), 0⟩,
  ⟨(some 18), .p (.len false (.s 17)), (some (13, false)), 98⟩,
  ⟨(some 19), .p (.bin .geq (.s 15) (.s 18)), (some (13, false)), 0⟩,
  ⟨(some 20), .p (.pick (.s 13) (.c (.v (.bool true))) (.s 19)), none, 0⟩,
  ⟨(some 21), .p (.mov (.s 20)), none, 0⟩,
  ⟨(some 22), .p (.fieldAddr 1 none (.s 3)), (some (21, false)), 0⟩,
  ⟨(some 23), .m (.load none (.s 22)), (some (21, false)), 0⟩,
  ⟨(some 24), .p (.bin .lss (.s 23) (.c (.v (.int .i64 (-1))))), (some (21, false)), 0⟩,
  ⟨(some 25), .p (.pick (.s 21) (.c (.v (.bool true))) (.s 24)), none, 0⟩,
  ⟨(some 26), .p (.mov (.s 25)), none, 0⟩,
  ⟨(some 27), .p (.fieldAddr 1 none (.s 3)), (some (26, false)), 0⟩,
  ⟨(some 28), .m (.load none (.s 27)), (some (26, false)), 0⟩,
  ⟨(some 29), .p (.bin .eql (.s 28) (.c (.v (.int .i64 (-1))))), (some (26, false)), 0⟩,
  ⟨(some 30), .p (.mov (.s 29)), (some (26, false)), 0⟩,
  ⟨(some 31), .m (.load none (.s 2)), (some (30, true)), 0⟩,
  ⟨(some 32), .p (.len false (.s 31)), (some (30, true)), 102⟩,
  ⟨(some 33), .p (.bin .gtr (.s 32) (.c (.v (.int .i64 1)))), (some (30, true)), 0⟩,
  ⟨(some 34), .p (.pick (.s 30) (.s 33) (.c (.v (.bool false)))), (some (26, false)), 0⟩,
  ⟨(some 35), .p (.pick (.s 26) (.c (.v (.bool true))) (.s 34)), none, 0⟩,
  ⟨(some 4), .p (.mov (.s 35)), none, 0⟩]) .ret)
def c36 : ACode := (.seq (.ops [
  ⟨(some 3), .m (.box (.s 0)), none, 0⟩,
  ⟨(some 4), .p (.mov (.c (.v (.bool false)))), none, 0⟩]) c36_0)
theorem t36 : trC Tryz.prog Tryz.f36.ntmps (bodyOf Tryz.f36) = some c36 := by kernel_rfl
theorem r36 : Tryz.f36.results.toList.mapM (trR Tryz.prog) = some [.tmp 4] := by kernel_rfl
def i36 : FI := ⟨36, c36, [.tmp 4]⟩
theorem k36 : Knows Tryz.prog 36 i36 := ⟨Tryz.f36, bodyOf Tryz.f36, Tryz.func36, by kernel_rfl, by kernel_rfl, t36, r36, by kernel_rfl⟩
-- 37 slices.IndexFunc[[]drover/plan.Start,drover/plan.Start] []
def c37_0 : ACode := (.cond (.s 16) (.seq (.ops [
  ⟨(some 17), .p (.mov (.s 5)), none, 0⟩,
  ⟨(some 4), .p (.mov (.s 17)), none, 0⟩]) .ret) .skip)
def c37_1 : ACode := (.seq (.ops [
  ⟨(some 11), .p (.mov (.s 1)), none, 0⟩,
  ⟨(some 12), .p (.mov (.s 0)), none, 0⟩,
  ⟨(some 13), .p (.mov (.s 5)), none, 0⟩,
  ⟨(some 14), .p (.adrSl 4 (.s 12) (.s 13)), none, 0⟩,
  ⟨(some 15), .m (.load (some 4) (.s 14)), none, 0⟩,
  ⟨(some 16), .call (.s 11) [(.s 15)], none, 0⟩]) c37_0)
def c37_2 : ACode := (.ops [
  ⟨(some 18), .p (.bin .add (.s 8) (.c (.v (.int .i64 1)))), none, 0⟩,
  ⟨(some 8), .p (.mov (.s 18)), none, 0⟩])
def c37_3 : ACode := (.seq (.block 1 (.seq (.ops [
  ⟨(some 10), .p (.mov (.s 8)), none, 0⟩,
  ⟨(some 5), .p (.mov (.s 10)), none, 0⟩]) c37_1)) c37_2)
def c37_4 : ACode := (.seq (.cond (.s 9) .skip (.exit 0)) c37_3)
def c37_5 : ACode := (.seq (.ops [
  ⟨(some 9), .p (.bin .lss (.s 8) (.s 7)), none, 0⟩]) c37_4)
def c37_6 : ACode := (.block 0 (.loop c37_5))
def c37_7 : ACode := (.seq (.ops [
  ⟨(some 4), .p (.mov (.c (.v (.int .i64 (-1))))), none, 0⟩]) .ret)
def c37_8 : ACode := (.seq (.seq (.ops [
  ⟨(some 6), .p (.mov (.s 0)), none, 0⟩,
  ⟨(some 7), .p (.len false (.s 6)), none, 44⟩,
  ⟨(some 8), .p (.mov (.c (.v (.int .i64 0)))), none, 0⟩]) c37_6) c37_7)
def c37 : ACode := (.seq (.ops [
  ⟨(some 4), .p (.mov (.c (.v (.int .i64 0)))), none, 0⟩]) c37_8)
theorem t37 : trC Tryz.prog Tryz.f37.ntmps (bodyOf Tryz.f37) = some c37 := by kernel_rfl
theorem r37 : Tryz.f37.results.toList.mapM (trR Tryz.prog) = some [.tmp 4] := by kernel_rfl
def i37 : FI := ⟨19, c37, [.tmp 4]⟩
theorem k37 : Knows Tryz.prog 37 i37 := ⟨Tryz.f37, bodyOf Tryz.f37, Tryz.func37, by kernel_rfl, by kernel_rfl, t37, r37, by kernel_rfl⟩
end Go.Proofs.Cdm
