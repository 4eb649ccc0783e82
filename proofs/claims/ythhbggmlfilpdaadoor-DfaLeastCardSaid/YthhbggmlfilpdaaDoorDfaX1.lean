/- A part of a law's proof: DfaX1. -/
import Derived.KernelRfl
import Derived.Test.YthhbggmlfilpdaaDoorDfaX0
import Derived.Test.YthhbggmlfilpdaaDoorProg
import Derived.Test.YthhbggmlfilpdaaDoorSvCod
set_option linter.unusedSimpArgs false
set_option linter.constructorNameAsVariable false
namespace Go.Proofs.Dfa
open Go Go.Ab Go.Proofs
set_option linter.unusedVariables false
-- 55 drover/dfa.inTurn[int] []
def c55_0 : ACode := (.cond (.s 26) .skip (.exit 0))
def c55_1 : List AOper := [
  ⟨(some 15), .p (.mov (.s 43)), none, 0⟩]
def c55_2 : ACode := (.cond (.s 54) (.seq (.ops [
  ⟨(some 6), .p (.mov (.c (.v (.slice none 0 0)))), none, 0⟩,
  ⟨(some 7), .p (.mov (.c (.v (.slice none 0 0)))), none, 0⟩,
  ⟨(some 8), .p (.mov (.c (.v (.bool false)))), none, 0⟩]) .ret) .skip)
def c55_3 : ACode := (.ops [
  ⟨(some 60), .p (.mov (.s 9)), none, 0⟩,
  ⟨(some 61), .p (.mov (.s 15)), none, 0⟩,
  ⟨(some 62), .m (.buildSlice 1 1 [(.v (.int .i64 0))] [(0, 1, (.s 61))]), none, 3⟩,
  ⟨(some 63), .m (.append 1 8 (.s 60) (.s 62)), none, 3⟩,
  ⟨(some 9), .p (.mov (.s 63)), none, 0⟩])
def c55_4 : ACode := (.seq (.ops [
  ⟨(some 57), .p (.mov (.s 10)), none, 0⟩,
  ⟨(some 58), .p (.mov (.s 15)), none, 0⟩,
  ⟨(some 59), .p (.mov (.s 16)), none, 0⟩,
  ⟨none, .m (.ext (.map (.upd [(.int .i64)] false (.s 57) (.s 58) (.s 59)))), none, 0⟩]) c55_3)
def c55_5 : ACode := (.seq (.ops [
  ⟨(some 55), .p (.mov (.s 9)), none, 0⟩,
  ⟨(some 56), .p (.len false (.s 55)), none, 3⟩,
  ⟨(some 16), .p (.mov (.s 56)), none, 0⟩]) c55_4)
def c55_6 : ACode := (.cond (.s 51) (.seq (.seq (.ops [
  ⟨(some 52), .p (.mov (.s 9)), none, 0⟩,
  ⟨(some 53), .p (.len false (.s 52)), none, 3⟩,
  ⟨(some 54), .p (.bin .eql (.s 53) (.c (.v (.int .i64 256)))), none, 0⟩]) c55_2) c55_5) .skip)
def c55_7 : ACode := (.ops [
  ⟨(some 64), .p (.mov (.s 13)), none, 0⟩,
  ⟨(some 65), .p (.mov (.s 14)), none, 0⟩,
  ⟨(some 66), .p (.mov (.s 16)), none, 0⟩,
  ⟨(some 67), .p (.adrSl 1 (.s 64) (.s 65)), none, 0⟩,
  ⟨none, .m (.store none (.s 67) (.s 66)), none, 0⟩])
def c55_8 : ACode := (.seq (.seq (.ops [
  ⟨(some 50), .p (.mov (.s 17)), none, 0⟩,
  ⟨(some 51), .p (.un .not (.s 50)), none, 0⟩]) c55_6) c55_7)
def c55_9 : ACode := (.seq (.ops [
  ⟨(some 45), .p (.mov (.s 10)), none, 0⟩,
  ⟨(some 46), .p (.mov (.s 15)), none, 0⟩,
  ⟨(some 47), .m (.ext (.map (.look [(.int .i64)] false true (.v (.int .i64 0)) (.s 45) (.s 46)))), none, 0⟩,
  ⟨(some 44), .p (.mov (.s 47)), none, 0⟩,
  ⟨(some 48), .p (.extract (.s 44) 0), none, 0⟩,
  ⟨(some 49), .p (.extract (.s 44) 1), none, 0⟩,
  ⟨(some 16), .p (.mov (.s 48)), none, 0⟩,
  ⟨(some 17), .p (.mov (.s 49)), none, 0⟩]) c55_8)
def c55_10 : ACode := (.seq (.ops (⟨(some 36), .p (.mov (.s 2)), none, 0⟩ ::
  ⟨(some 37), .p (.mov (.s 9)), none, 0⟩ ::
  ⟨(some 38), .p (.mov (.s 12)), none, 0⟩ ::
  ⟨(some 39), .p (.adrSl 1 (.s 37) (.s 38)), none, 0⟩ ::
  ⟨(some 40), .m (.load none (.s 39)), none, 0⟩ ::
  ⟨(some 41), .p (.mov (.s 14)), none, 0⟩ ::
  ⟨(some 42), .p (.bin .add (.s 41) (.c (.v (.int .i64 1)))), none, 0⟩ ::
  ⟨(some 43), .call (.s 36) [(.s 40), (.s 42)], none, 0⟩ :: c55_1)) c55_9)
def c55_11 : ACode := (.ops [
  ⟨(some 68), .p (.bin .add (.s 33) (.c (.v (.int .i64 1)))), none, 0⟩,
  ⟨(some 33), .p (.mov (.s 68)), none, 0⟩])
def c55_12 : ACode := (.seq (.block 3 (.seq (.ops [
  ⟨(some 35), .p (.mov (.s 33)), none, 0⟩,
  ⟨(some 14), .p (.mov (.s 35)), none, 0⟩]) c55_10)) c55_11)
def c55_13 : ACode := (.seq (.cond (.s 34) .skip (.exit 2)) c55_12)
def c55_14 : ACode := (.seq (.ops [
  ⟨(some 34), .p (.bin .lss (.s 33) (.s 32)), none, 0⟩]) c55_13)
def c55_15 : ACode := (.block 2 (.loop c55_14))
def c55_16 : ACode := (.ops [
  ⟨(some 69), .p (.mov (.s 11)), none, 0⟩,
  ⟨(some 70), .p (.mov (.s 13)), none, 0⟩,
  ⟨(some 71), .m (.buildSlice 1 1 [(.v (.slice none 0 0))] [(0, 1, (.s 70))]), none, 40⟩,
  ⟨(some 72), .m (.append 1 24 (.s 69) (.s 71)), none, 40⟩,
  ⟨(some 11), .p (.mov (.s 72)), none, 0⟩])
def c55_17 : ACode := (.seq (.seq (.ops [
  ⟨(some 31), .p (.mov (.s 13)), none, 0⟩,
  ⟨(some 32), .p (.len false (.s 31)), none, 3⟩,
  ⟨(some 33), .p (.mov (.c (.v (.int .i64 0)))), none, 0⟩]) c55_15) c55_16)
def c55_18 : ACode := (.ops [
  ⟨(some 27), .p (.mov (.s 12)), none, 0⟩,
  ⟨(some 28), .p (.bin .add (.s 27) (.c (.v (.int .i64 1)))), none, 0⟩,
  ⟨(some 12), .p (.mov (.s 28)), none, 0⟩])
def c55_19 : ACode := (.seq (.block 1 (.seq (.ops [
  ⟨(some 29), .p (.mov (.s 1)), none, 0⟩,
  ⟨(some 30), .m (.mkSlice 1 8 [(.v (.int .i64 0))] (.s 29) (.s 29)), none, 3⟩,
  ⟨(some 13), .p (.mov (.s 30)), none, 0⟩]) c55_17)) c55_18)
def c55_20 : ACode := (.seq (.seq (.ops [
  ⟨(some 23), .p (.mov (.s 12)), none, 0⟩,
  ⟨(some 24), .p (.mov (.s 9)), none, 0⟩,
  ⟨(some 25), .p (.len false (.s 24)), none, 3⟩,
  ⟨(some 26), .p (.bin .lss (.s 23) (.s 25)), none, 0⟩]) c55_0) c55_19)
def c55_21 : ACode := (.block 0 (.loop c55_20))
def c55_22 : ACode := (.seq (.ops [
  ⟨(some 73), .p (.mov (.s 9)), none, 0⟩,
  ⟨(some 74), .p (.mov (.s 11)), none, 0⟩,
  ⟨(some 6), .p (.mov (.s 73)), none, 0⟩,
  ⟨(some 7), .p (.mov (.s 74)), none, 0⟩,
  ⟨(some 8), .p (.mov (.c (.v (.bool true)))), none, 0⟩]) .ret)
def c55_23 : ACode := (.seq (.seq (.ops [
  ⟨(some 12), .p (.mov (.c (.v (.int .i64 0)))), none, 0⟩]) c55_21) c55_22)
def c55_24 : ACode := (.seq (.ops [
  ⟨(some 11), .p (.mov (.c (.v (.slice none 0 0)))), none, 0⟩]) c55_23)
def c55_25 : ACode := (.seq (.ops [
  ⟨(some 20), .m (.ext (.map (.mk))), none, 196611⟩,
  ⟨(some 21), .p (.mov (.s 0)), none, 0⟩,
  ⟨none, .m (.ext (.map (.upd [(.int .i64)] false (.s 20) (.s 21) (.c (.v (.int .i64 0)))))), none, 0⟩,
  ⟨(some 22), .p (.mov (.s 20)), none, 0⟩,
  ⟨(some 10), .p (.mov (.s 22)), none, 0⟩]) c55_24)
def c55_26 : ACode := (.seq (.ops [
  ⟨(some 18), .p (.mov (.s 0)), none, 0⟩,
  ⟨(some 19), .m (.buildSlice 1 1 [(.v (.int .i64 0))] [(0, 1, (.s 18))]), none, 3⟩,
  ⟨(some 9), .p (.mov (.s 19)), none, 0⟩]) c55_25)
def c55 : ACode := (.seq (.ops [
  ⟨(some 6), .p (.mov (.c (.v (.slice none 0 0)))), none, 0⟩,
  ⟨(some 7), .p (.mov (.c (.v (.slice none 0 0)))), none, 0⟩,
  ⟨(some 8), .p (.mov (.c (.v (.bool false)))), none, 0⟩]) c55_26)
theorem t55 : trC Tryd.prog Tryd.f55.ntmps (bodyOf Tryd.f55) = some c55 := by kernel_rfl
theorem r55 : Tryd.f55.results.toList.mapM (trR Tryd.prog) = some [.tmp 6, .tmp 7, .tmp 8] := by kernel_rfl
def i55 : FI := ⟨75, c55, [.tmp 6, .tmp 7, .tmp 8]⟩
theorem k55 : Knows Tryd.prog 55 i55 := ⟨Tryd.f55, bodyOf Tryd.f55, Tryd.func55, by kernel_rfl, by kernel_rfl, t55, r55, by kernel_rfl⟩
-- 56 drover/dfa.Small$1 []
def c56_0 : ACode := (.seq (.draw [
  ⟨(some 8), .m (.load none (.s 2)), none, 0⟩,
  ⟨(some 9), .p (.fieldAddr 1 none (.s 3)), none, 0⟩,
  ⟨(some 10), .m (.load none (.s 9)), none, 0⟩,
  ⟨(some 11), .m (.load none (.s 4)), none, 0⟩,
  ⟨(some 12), .p (.mov (.s 0)), none, 0⟩,
  ⟨(some 13), .m (.ext (.map (.look [(.int .i64)] false false (.v (.int .i64 0)) (.s 11) (.s 12)))), none, 0⟩,
  ⟨(some 14), .p (.adrSl 1 (.s 10) (.s 13)), none, 0⟩,
  ⟨(some 15), .m (.load none (.s 14)), none, 0⟩,
  ⟨(some 16), .p (.mov (.s 1)), none, 0⟩,
  ⟨(some 17), .p (.bin .sub (.s 16) (.c (.v (.int .i64 1)))), none, 0⟩,
  ⟨(some 18), .p (.adrSl 1 (.s 15) (.s 17)), none, 0⟩,
  ⟨(some 19), .m (.load none (.s 18)), none, 0⟩,
  ⟨(some 20), .p (.adrSl 1 (.s 8) (.s 19)), none, 0⟩,
  ⟨(some 21), .m (.load none (.s 20)), none, 0⟩,
  ⟨(some 7), .p (.mov (.s 21)), none, 0⟩]) .ret)
def c56 : ACode := (.seq (.ops [
  ⟨(some 7), .p (.mov (.c (.v (.int .i64 0)))), none, 0⟩]) c56_0)
theorem t56 : trC Tryd.prog Tryd.f56.ntmps (bodyOf Tryd.f56) = some c56 := by kernel_rfl
theorem r56 : Tryd.f56.results.toList.mapM (trR Tryd.prog) = some [.tmp 7] := by kernel_rfl
def i56 : FI := ⟨22, c56, [.tmp 7]⟩
theorem k56 : Knows Tryd.prog 56 i56 := ⟨Tryd.f56, bodyOf Tryd.f56, Tryd.func56, by kernel_rfl, by kernel_rfl, t56, r56, by kernel_rfl⟩
-- 57 drover/droverref19.reached []
def c57_0 : ACode := (.cond (.s 17) .skip (.exit 0))
def c57_1 : ACode := (.cond (.s 24) .skip (.exit 2))
def c57_2 : ACode := (.cond (.s 41) .skip (.exit 4))
def c57_3 : ACode := (.ops [
  ⟨(some 42), .p (.mov (.s 6)), none, 0⟩,
  ⟨(some 43), .p (.bin .add (.s 42) (.c (.v (.int .i64 1)))), none, 0⟩,
  ⟨(some 6), .p (.mov (.s 43)), none, 0⟩])
def c57_4 : ACode := (.seq (.block 5 (.ops [
  ⟨(some 44), .p (.mov (.s 3)), none, 0⟩,
  ⟨(some 45), .p (.fieldAddr 1 none (.s 1)), none, 0⟩,
  ⟨(some 46), .m (.load none (.s 45)), none, 0⟩,
  ⟨(some 47), .p (.mov (.s 5)), none, 0⟩,
  ⟨(some 48), .p (.adrSl 1 (.s 46) (.s 47)), none, 0⟩,
  ⟨(some 49), .m (.load none (.s 48)), none, 0⟩,
  ⟨(some 50), .p (.mov (.s 6)), none, 0⟩,
  ⟨(some 51), .p (.adrSl 1 (.s 49) (.s 50)), none, 0⟩,
  ⟨(some 52), .m (.load none (.s 51)), none, 0⟩,
  ⟨(some 53), .p (.adrSl 1 (.s 44) (.s 52)), none, 0⟩,
  ⟨none, .m (.store none (.s 53) (.c (.v (.int .i64 1)))), none, 0⟩])) c57_3)
def c57_5 : ACode := (.seq (.seq (.ops [
  ⟨(some 27), .p (.mov (.s 6)), none, 0⟩,
  ⟨(some 28), .p (.fieldAddr 1 none (.s 1)), none, 0⟩,
  ⟨(some 29), .m (.load none (.s 28)), none, 0⟩,
  ⟨(some 30), .p (.mov (.s 5)), none, 0⟩,
  ⟨(some 31), .p (.adrSl 1 (.s 29) (.s 30)), none, 0⟩,
  ⟨(some 32), .m (.load none (.s 31)), none, 0⟩,
  ⟨(some 33), .p (.len false (.s 32)), none, 3⟩,
  ⟨(some 34), .p (.bin .lss (.s 27) (.s 33)), none, 0⟩,
  ⟨(some 35), .p (.mov (.s 34)), none, 0⟩,
  ⟨(some 36), .p (.mov (.s 3)), (some (35, true)), 0⟩,
  ⟨(some 37), .p (.mov (.s 5)), (some (35, true)), 0⟩,
  ⟨(some 38), .p (.adrSl 1 (.s 36) (.s 37)), (some (35, true)), 0⟩,
  ⟨(some 39), .m (.load none (.s 38)), (some (35, true)), 0⟩,
  ⟨(some 40), .p (.bin .eql (.s 39) (.c (.v (.int .i64 1)))), (some (35, true)), 0⟩,
  ⟨(some 41), .p (.pick (.s 35) (.s 40) (.c (.v (.bool false)))), none, 0⟩]) c57_2) c57_4)
def c57_6 : ACode := (.block 4 (.loop c57_5))
def c57_7 : ACode := (.ops [
  ⟨(some 25), .p (.mov (.s 5)), none, 0⟩,
  ⟨(some 26), .p (.bin .add (.s 25) (.c (.v (.int .i64 1)))), none, 0⟩,
  ⟨(some 5), .p (.mov (.s 26)), none, 0⟩])
def c57_8 : ACode := (.seq (.block 3 (.seq (.ops [
  ⟨(some 6), .p (.mov (.c (.v (.int .i64 0)))), none, 0⟩]) c57_6)) c57_7)
def c57_9 : ACode := (.seq (.seq (.ops [
  ⟨(some 20), .p (.mov (.s 5)), none, 0⟩,
  ⟨(some 21), .p (.fieldAddr 1 none (.s 1)), none, 0⟩,
  ⟨(some 22), .m (.load none (.s 21)), none, 0⟩,
  ⟨(some 23), .p (.len false (.s 22)), none, 40⟩,
  ⟨(some 24), .p (.bin .lss (.s 20) (.s 23)), none, 0⟩]) c57_1) c57_8)
def c57_10 : ACode := (.block 2 (.loop c57_9))
def c57_11 : ACode := (.ops [
  ⟨(some 18), .p (.mov (.s 4)), none, 0⟩,
  ⟨(some 19), .p (.bin .add (.s 18) (.c (.v (.int .i64 1)))), none, 0⟩,
  ⟨(some 4), .p (.mov (.s 19)), none, 0⟩])
def c57_12 : ACode := (.seq (.block 1 (.seq (.ops [
  ⟨(some 5), .p (.mov (.c (.v (.int .i64 0)))), none, 0⟩]) c57_10)) c57_11)
def c57_13 : ACode := (.seq (.seq (.ops [
  ⟨(some 13), .p (.mov (.s 4)), none, 0⟩,
  ⟨(some 14), .p (.fieldAddr 1 none (.s 1)), none, 0⟩,
  ⟨(some 15), .m (.load none (.s 14)), none, 0⟩,
  ⟨(some 16), .p (.len false (.s 15)), none, 40⟩,
  ⟨(some 17), .p (.bin .lss (.s 13) (.s 16)), none, 0⟩]) c57_0) c57_12)
def c57_14 : ACode := (.block 0 (.loop c57_13))
def c57_15 : ACode := (.seq (.ops [
  ⟨(some 54), .p (.mov (.s 3)), none, 0⟩,
  ⟨(some 2), .p (.mov (.s 54)), none, 0⟩]) .ret)
def c57_16 : ACode := (.seq (.seq (.ops [
  ⟨(some 4), .p (.mov (.c (.v (.int .i64 0)))), none, 0⟩]) c57_14) c57_15)
def c57_17 : ACode := (.seq (.ops [
  ⟨(some 11), .p (.mov (.s 3)), none, 0⟩,
  ⟨(some 12), .p (.adrSl 1 (.s 11) (.c (.v (.int .i64 0)))), none, 0⟩,
  ⟨none, .m (.store none (.s 12) (.c (.v (.int .i64 1)))), none, 0⟩]) c57_16)
def c57_18 : ACode := (.seq (.ops [
  ⟨(some 7), .p (.fieldAddr 1 none (.s 1)), none, 0⟩,
  ⟨(some 8), .m (.load none (.s 7)), none, 0⟩,
  ⟨(some 9), .p (.len false (.s 8)), none, 40⟩,
  ⟨(some 10), .m (.mkSlice 1 8 [(.v (.int .i64 0))] (.s 9) (.s 9)), none, 3⟩,
  ⟨(some 3), .p (.mov (.s 10)), none, 0⟩]) c57_17)
def c57 : ACode := (.seq (.ops [
  ⟨(some 1), .m (.box (.s 0)), none, 0⟩,
  ⟨(some 2), .p (.mov (.c (.v (.slice none 0 0)))), none, 0⟩]) c57_18)
theorem t57 : trC Tryd.prog Tryd.f57.ntmps (bodyOf Tryd.f57) = some c57 := by kernel_rfl
theorem r57 : Tryd.f57.results.toList.mapM (trR Tryd.prog) = some [.tmp 2] := by kernel_rfl
def i57 : FI := ⟨55, c57, [.tmp 2]⟩
theorem k57 : Knows Tryd.prog 57 i57 := ⟨Tryd.f57, bodyOf Tryd.f57, Tryd.func57, by kernel_rfl, by kernel_rfl, t57, r57, by kernel_rfl⟩
-- 69 drover/droverref19.alike []
def c69_0 : ACode := (.cond (.s 18) (.seq (.ops [
  ⟨(some 8), .p (.mov (.c (.v (.bool false)))), none, 0⟩]) .ret) .skip)
def c69_1 : ACode := (.cond (.s 22) .skip (.exit 0))
def c69_2 : ACode := (.cond (.s 47) (.seq (.ops [
  ⟨(some 8), .p (.mov (.c (.v (.bool false)))), none, 0⟩]) .ret) .skip)
def c69_3 : ACode := (.ops [
  ⟨(some 23), .p (.mov (.s 9)), none, 0⟩,
  ⟨(some 24), .p (.bin .add (.s 23) (.c (.v (.int .i64 1)))), none, 0⟩,
  ⟨(some 9), .p (.mov (.s 24)), none, 0⟩])
def c69_4 : ACode := (.seq (.block 1 (.seq (.draw [
  ⟨(some 25), .p (.mov (.s 1)), none, 0⟩,
  ⟨(some 26), .p (.fieldAddr 1 none (.s 4)), none, 0⟩,
  ⟨(some 27), .m (.load none (.s 26)), none, 0⟩,
  ⟨(some 28), .p (.mov (.s 2)), none, 0⟩,
  ⟨(some 29), .p (.adrSl 1 (.s 27) (.s 28)), none, 0⟩,
  ⟨(some 30), .m (.load none (.s 29)), none, 0⟩,
  ⟨(some 31), .p (.mov (.s 9)), none, 0⟩,
  ⟨(some 32), .p (.adrSl 1 (.s 30) (.s 31)), none, 0⟩,
  ⟨(some 33), .m (.load none (.s 32)), none, 0⟩,
  ⟨(some 34), .p (.adrSl 1 (.s 25) (.s 33)), none, 0⟩,
  ⟨(some 35), .m (.load none (.s 34)), none, 0⟩,
  ⟨(some 36), .p (.mov (.s 1)), none, 0⟩,
  ⟨(some 37), .p (.fieldAddr 1 none (.s 4)), none, 0⟩,
  ⟨(some 38), .m (.load none (.s 37)), none, 0⟩,
  ⟨(some 39), .p (.mov (.s 3)), none, 0⟩,
  ⟨(some 40), .p (.adrSl 1 (.s 38) (.s 39)), none, 0⟩,
  ⟨(some 41), .m (.load none (.s 40)), none, 0⟩,
  ⟨(some 42), .p (.mov (.s 9)), none, 0⟩,
  ⟨(some 43), .p (.adrSl 1 (.s 41) (.s 42)), none, 0⟩,
  ⟨(some 44), .m (.load none (.s 43)), none, 0⟩,
  ⟨(some 45), .p (.adrSl 1 (.s 36) (.s 44)), none, 0⟩,
  ⟨(some 46), .m (.load none (.s 45)), none, 0⟩,
  ⟨(some 47), .p (.bin .neq (.s 35) (.s 46)), none, 0⟩]) c69_2)) c69_3)
def c69_5 : ACode := (.seq (.seq (.ops [
  ⟨(some 19), .p (.mov (.s 9)), none, 0⟩,
  ⟨(some 20), .p (.fieldAddr 0 none (.s 4)), none, 0⟩,
  ⟨(some 21), .m (.load none (.s 20)), none, 0⟩,
  ⟨(some 22), .p (.bin .lss (.s 19) (.s 21)), none, 0⟩]) c69_1) c69_4)
def c69_6 : ACode := (.block 0 (.loop c69_5))
def c69_7 : ACode := (.seq (.ops [
  ⟨(some 8), .p (.mov (.c (.v (.bool true)))), none, 0⟩]) .ret)
def c69_8 : ACode := (.seq (.seq (.ops [
  ⟨(some 9), .p (.mov (.c (.v (.int .i64 0)))), none, 0⟩]) c69_6) c69_7)
def c69_9 : ACode := (.seq (.seq (.draw [
  ⟨(some 10), .p (.mov (.s 1)), none, 0⟩,
  ⟨(some 11), .p (.mov (.s 2)), none, 0⟩,
  ⟨(some 12), .p (.adrSl 1 (.s 10) (.s 11)), none, 0⟩,
  ⟨(some 13), .m (.load none (.s 12)), none, 0⟩,
  ⟨(some 14), .p (.mov (.s 1)), none, 0⟩,
  ⟨(some 15), .p (.mov (.s 3)), none, 0⟩,
  ⟨(some 16), .p (.adrSl 1 (.s 14) (.s 15)), none, 0⟩,
  ⟨(some 17), .m (.load none (.s 16)), none, 0⟩,
  ⟨(some 18), .p (.bin .neq (.s 13) (.s 17)), none, 0⟩]) c69_0) c69_8)
def c69 : ACode := (.seq (.ops [
  ⟨(some 4), .m (.box (.s 0)), none, 0⟩,
  ⟨(some 8), .p (.mov (.c (.v (.bool false)))), none, 0⟩]) c69_9)
theorem t69 : trC Tryd.prog Tryd.f69.ntmps (bodyOf Tryd.f69) = some c69 := by kernel_rfl
theorem r69 : Tryd.f69.results.toList.mapM (trR Tryd.prog) = some [.tmp 8] := by kernel_rfl
def i69 : FI := ⟨48, c69, [.tmp 8]⟩
theorem k69 : Knows Tryd.prog 69 i69 := ⟨Tryd.f69, bodyOf Tryd.f69, Tryd.func69, by kernel_rfl, by kernel_rfl, t69, r69, by kernel_rfl⟩
end Go.Proofs.Dfa
