/- A part of a law's proof: NnlX0. -/
import Derived.KernelRfl
import Derived.Test.YtdeenejbgfmchaaGreatProg
import Derived.Test.YtdeenejbgfmchaaGreatSvCod
set_option linter.unusedSimpArgs false
set_option linter.constructorNameAsVariable false
namespace Go.Proofs.Nnl
open Go Go.Ab Go.Proofs
set_option linter.unusedVariables false
def bodyOf (fn : Func) : Code := fn.body.getD .skip
-- 3 drover/droverlaw24.NetNil []
def c3_0 : List AOper := [
  ⟨(some 8), .p (.mov (.s 11)), none, 0⟩,
  ⟨(some 12), .p (.extract (.s 8) 0), none, 0⟩,
  ⟨(some 13), .p (.extract (.s 8) 1), none, 0⟩,
  ⟨(some 6), .p (.mov (.s 12)), none, 0⟩,
  ⟨(some 7), .p (.mov (.s 13)), none, 0⟩]
def c3_1 : List AOper := [
  ⟨(some 55), .p (.pick (.s 53) (.s 54) (.c (.v (.bool false)))), none, 0⟩,
  ⟨(some 4), .p (.mov (.s 55)), none, 0⟩]
def c3_2 : List AOper := (⟨(some 51), .p (.bin .eql (.s 50) (.c (.v (.string ⟨#[]⟩)))), (some (47, true)), 0⟩ ::
  ⟨(some 52), .p (.pick (.s 47) (.s 51) (.c (.v (.bool false)))), none, 0⟩ ::
  ⟨(some 53), .p (.mov (.s 52)), none, 0⟩ ::
  ⟨(some 54), .call (.c (.fn 12 [])) [], (some (53, true)), 0⟩ :: c3_1)
def c3_3 : List AOper := (⟨(some 46), .p (.pick (.s 37) (.s 45) (.c (.v (.bool false)))), none, 0⟩ ::
  ⟨(some 47), .p (.mov (.s 46)), none, 0⟩ ::
  ⟨(some 48), .p (.mov (.s 5)), (some (47, true)), 0⟩ ::
  ⟨(some 49), .p (.mov (.s 1)), (some (47, true)), 0⟩ ::
  ⟨(some 50), .call (.c (.fn 11 [])) [(.s 48), (.s 49)], (some (47, true)), 47⟩ :: c3_2)
def c3_4 : List AOper := (⟨(some 44), .p (.build [(.v (.slice none 0 0)), (.v (.int .i64 0)), (.v (.int .i64 0)), (.v (.bool false))] []), (some (37, true)), 0⟩ ::
  ⟨(some 45), .call (.c (.fn 8 [])) [(.s 43), (.s 44)], (some (37, true)), 0⟩ :: c3_3)
def c3_5 : List AOper := (⟨(some 43), .call (.c (.fn 9 [])) [(.s 42)], (some (37, true)), 0⟩ :: c3_4)
def c3_6 : List AOper := (⟨(some 35), .p (.bin .eql (.s 34) (.c (.v (.int .i64 2)))), (some (31, true)), 0⟩ ::
  ⟨(some 36), .p (.pick (.s 31) (.s 35) (.c (.v (.bool false)))), none, 0⟩ ::
  ⟨(some 37), .p (.mov (.s 36)), none, 0⟩ ::
  ⟨(some 38), .p (.mov (.s 5)), (some (37, true)), 0⟩ ::
  ⟨(some 39), .p (.mov (.s 1)), (some (37, true)), 0⟩ ::
  ⟨(some 40), .p (.mov (.s 0)), (some (37, true)), 0⟩ ::
  ⟨(some 41), .p (.mov (.s 1)), (some (37, true)), 0⟩ ::
  ⟨(some 42), .call (.c (.fn 10 [])) [(.s 38), (.s 39), (.s 40), (.s 41), (.c (.v (.slice none 0 0)))], (some (37, true)), 47⟩ :: c3_5)
def c3_7 : List AOper := (⟨(some 28), .p (.len false (.s 27)), (some (23, true)), 9⟩ ::
  ⟨(some 29), .p (.bin .eql (.s 28) (.c (.v (.int .i64 0)))), (some (23, true)), 0⟩ ::
  ⟨(some 30), .p (.pick (.s 23) (.s 29) (.c (.v (.bool false)))), none, 0⟩ ::
  ⟨(some 31), .p (.mov (.s 30)), none, 0⟩ ::
  ⟨(some 32), .p (.mov (.s 5)), (some (31, true)), 0⟩ ::
  ⟨(some 33), .p (.mov (.s 1)), (some (31, true)), 0⟩ ::
  ⟨(some 34), .call (.c (.fn 7 [])) [(.s 32), (.s 33), (.c (.v (.bool true)))], (some (31, true)), 47⟩ :: c3_6)
def c3_8 : ACode := (.seq (.ops (⟨(some 17), .p (.mov (.s 6)), none, 0⟩ ::
  ⟨(some 18), .p (.eqn false (.pointer 47) (.s 17)), none, 0⟩ ::
  ⟨(some 19), .p (.mov (.s 18)), none, 0⟩ ::
  ⟨(some 20), .p (.mov (.s 7)), (some (19, true)), 0⟩ ::
  ⟨(some 21), .p (.bin .eql (.s 20) (.c (.v (.int .i64 2)))), (some (19, true)), 0⟩ ::
  ⟨(some 22), .p (.pick (.s 19) (.s 21) (.c (.v (.bool false)))), none, 0⟩ ::
  ⟨(some 23), .p (.mov (.s 22)), none, 0⟩ ::
  ⟨(some 24), .p (.mov (.s 5)), (some (23, true)), 0⟩ ::
  ⟨(some 25), .p (.mov (.s 1)), (some (23, true)), 0⟩ ::
  ⟨(some 26), .p (.mov (.s 0)), (some (23, true)), 0⟩ ::
  ⟨(some 27), .call (.c (.fn 6 [])) [(.s 24), (.s 25), (.s 26)], (some (23, true)), 47⟩ :: c3_7)) .ret)
def c3_9 : ACode := (.seq (.ops [
  ⟨(some 14), .p (.mov (.s 5)), none, 0⟩,
  ⟨(some 15), .p (.mov (.s 1)), none, 0⟩,
  ⟨(some 16), .call (.c (.fn 5 [])) [(.s 14), (.s 15)], none, 47⟩]) c3_8)
def c3_10 : ACode := (.seq (.ops (⟨(some 9), .p (.mov (.s 1)), none, 0⟩ ::
  ⟨(some 10), .p (.mov (.s 1)), none, 0⟩ ::
  ⟨(some 11), .call (.c (.fn 4 [])) [(.c (.v (.pointer none))), (.s 9), (.s 10)], none, 109⟩ :: c3_0)) c3_9)
def c3_11 : ACode := (.seq (.ops [
  ⟨(some 5), .p (.mov (.c (.v (.pointer none)))), none, 0⟩]) c3_10)
def c3 : ACode := (.seq (.ops [
  ⟨(some 4), .p (.mov (.c (.v (.bool false)))), none, 0⟩]) c3_11)
theorem t3 : trC Tryz.prog Tryz.f3.ntmps (bodyOf Tryz.f3) = some c3 := by kernel_rfl
theorem r3 : Tryz.f3.results.toList.mapM (trR Tryz.prog) = some [.tmp 4] := by kernel_rfl
def i3 : FI := ⟨56, c3, [.tmp 4]⟩
theorem k3 : Knows Tryz.prog 3 i3 := ⟨Tryz.f3, bodyOf Tryz.f3, Tryz.func3, by kernel_rfl, by kernel_rfl, t3, r3, by kernel_rfl⟩
-- 4 drover/net.New []
def c4_0 : ACode := (.cond (.s 18) (.seq (.ops [
  ⟨(some 6), .p (.mov (.c (.v (.pointer none)))), none, 0⟩,
  ⟨(some 7), .p (.mov (.c (.v (.int .i64 2)))), none, 0⟩]) .ret) .skip)
def c4_1 : List AOper := [
  ⟨(some 27), .p (.mov (.c (.v (.int .i64 0)))), none, 0⟩]
def c4_2 : List AOper := [
  ⟨(some 30), .p (.mov (.s 33)), none, 0⟩,
  ⟨(some 34), .p (.extract (.s 30) 0), none, 0⟩,
  ⟨(some 35), .p (.extract (.s 30) 1), none, 0⟩,
  ⟨(some 10), .p (.mov (.s 34)), none, 0⟩,
  ⟨(some 11), .p (.mov (.s 35)), none, 0⟩]
def c4_3 : ACode := (.cond (.s 37) (.seq (.ops [
  ⟨(some 38), .p (.mov (.s 11)), none, 0⟩,
  ⟨(some 6), .p (.mov (.c (.v (.pointer none)))), none, 0⟩,
  ⟨(some 7), .p (.mov (.s 38)), none, 0⟩]) .ret) .skip)
def c4_4 : List AOper := [
  ⟨(some 53), .p (.len false (.s 52)), none, 3⟩,
  ⟨(some 54), .p (.mov (.c (.v (.int .i64 0)))), none, 0⟩]
def c4_5 : List AOper := [
  ⟨(some 58), .p (.mov (.s 63)), none, 0⟩,
  ⟨(some 64), .p (.extract (.s 58) 0), none, 0⟩,
  ⟨(some 65), .p (.extract (.s 58) 1), none, 0⟩,
  ⟨(some 66), .p (.extract (.s 58) 2), none, 0⟩,
  ⟨(some 14), .p (.mov (.s 64)), none, 0⟩,
  ⟨(some 15), .p (.mov (.s 65)), none, 0⟩,
  ⟨(some 16), .p (.mov (.s 66)), none, 0⟩]
def c4_6 : ACode := (.cond (.s 68) (.drawk [
  ⟨(some 69), .p (.mov (.s 8)), none, 0⟩,
  ⟨(some 70), .p (.nilCheck (.s 69)), none, 0⟩,
  ⟨(some 71), .p (.fieldAddr 2 none (.s 70)), none, 0⟩,
  ⟨(some 72), .m (.load none (.s 71)), none, 0⟩,
  ⟨(some 73), .p (.mov (.s 16)), none, 0⟩,
  ⟨(some 74), .p (.mov (.s 8)), none, 0⟩,
  ⟨(some 75), .p (.nilCheck (.s 74)), none, 0⟩,
  ⟨(some 76), .p (.fieldAddr 2 none (.s 75)), none, 0⟩,
  ⟨(some 77), .m (.load none (.s 76)), none, 0⟩,
  ⟨(some 78), .p (.mov (.s 16)), none, 0⟩,
  ⟨(some 79), .m (.ext (.map (.look [(.int .i64)] false false (.v (.slice none 0 0)) (.s 77) (.s 78)))), none, 0⟩,
  ⟨(some 80), .p (.mov (.s 9)), none, 0⟩,
  ⟨(some 81), .p (.bin .add (.s 80) (.c (.v (.int .i64 1)))), none, 0⟩,
  ⟨(some 82), .p (.mov (.s 13)), none, 0⟩,
  ⟨(some 83), .p (.build [(.v (.int .i64 0)), (.v (.int .i64 0))] [(0, 1, (.s 81)), (1, 1, (.s 82))]), none, 0⟩,
  ⟨(some 84), .m (.buildSlice 2 1 [(.v (.int .i64 0)), (.v (.int .i64 0))] [(0, 2, (.s 83))]), none, 58⟩,
  ⟨(some 85), .m (.append 2 16 (.s 79) (.s 84)), none, 58⟩,
  ⟨none, .m (.ext (.map (.upd [(.int .i64)] false (.s 72) (.s 73) (.s 85)))), none, 0⟩] [false, false, false, true, false, false, false, false, false, false, false, false, false, false, false, false, true, false]) .skip)
def c4_7 : ACode := (.seq (.ops [
  ⟨(some 67), .p (.mov (.s 14)), none, 0⟩,
  ⟨(some 68), .p (.bin .gtr (.s 67) (.c (.v (.int .i64 0)))), none, 0⟩]) c4_6)
def c4_8 : ACode := (.seq (.ops (⟨(some 59), .p (.mov (.s 0)), none, 0⟩ ::
  ⟨(some 60), .p (.mov (.s 9)), none, 0⟩ ::
  ⟨(some 61), .p (.bin .add (.s 60) (.c (.v (.int .i64 1)))), none, 0⟩ ::
  ⟨(some 62), .p (.mov (.s 13)), none, 0⟩ ::
  ⟨(some 63), .call (.c (.fn 16 [])) [(.s 59), (.s 61), (.s 62)], none, 109⟩ :: c4_5)) c4_7)
def c4_9 : ACode := (.ops [
  ⟨(some 86), .p (.bin .add (.s 54) (.c (.v (.int .i64 1)))), none, 0⟩,
  ⟨(some 54), .p (.mov (.s 86)), none, 0⟩])
def c4_10 : ACode := (.seq (.block 3 (.seq (.ops [
  ⟨(some 56), .p (.adrSl 1 (.s 52) (.s 54)), none, 0⟩,
  ⟨(some 57), .m (.load none (.s 56)), none, 0⟩,
  ⟨(some 13), .p (.mov (.s 57)), none, 0⟩]) c4_8)) c4_9)
def c4_11 : ACode := (.seq (.cond (.s 55) .skip (.exit 2)) c4_10)
def c4_12 : ACode := (.seq (.ops [
  ⟨(some 55), .p (.bin .lss (.s 54) (.s 53)), none, 0⟩]) c4_11)
def c4_13 : ACode := (.block 2 (.loop c4_12))
def c4_14 : ACode := (.seq (.ops (⟨(some 49), .p (.mov (.s 0)), none, 0⟩ ::
  ⟨(some 50), .p (.mov (.s 9)), none, 0⟩ ::
  ⟨(some 51), .p (.bin .add (.s 50) (.c (.v (.int .i64 1)))), none, 0⟩ ::
  ⟨(some 52), .call (.c (.fn 15 [])) [(.s 49), (.s 51)], none, 109⟩ :: c4_4)) c4_13)
def c4_15 : ACode := (.seq (.ops [
  ⟨(some 39), .p (.mov (.s 8)), none, 0⟩,
  ⟨(some 40), .p (.mov (.s 8)), none, 0⟩,
  ⟨(some 41), .p (.nilCheck (.s 40)), none, 0⟩,
  ⟨(some 42), .p (.fieldAddr 1 none (.s 41)), none, 0⟩,
  ⟨(some 43), .m (.load none (.s 42)), none, 0⟩,
  ⟨(some 44), .p (.mov (.s 10)), none, 0⟩,
  ⟨(some 45), .m (.buildSlice 1 1 [(.v (.pointer none))] [(0, 1, (.s 44))]), none, 49⟩,
  ⟨(some 46), .m (.append 1 8 (.s 43) (.s 45)), none, 49⟩,
  ⟨(some 47), .p (.nilCheck (.s 39)), none, 0⟩,
  ⟨(some 48), .p (.fieldAddr 1 none (.s 47)), none, 0⟩,
  ⟨none, .m (.store none (.s 48) (.s 46)), none, 0⟩]) c4_14)
def c4_16 : ACode := (.seq (.seq (.ops [
  ⟨(some 36), .p (.mov (.s 11)), none, 0⟩,
  ⟨(some 37), .p (.bin .neq (.s 36) (.c (.v (.int .i64 0)))), none, 0⟩]) c4_3) c4_15)
def c4_17 : ACode := (.seq (.ops (⟨(some 31), .p (.mov (.s 1)), none, 0⟩ ::
  ⟨(some 32), .p (.mov (.s 2)), none, 0⟩ ::
  ⟨(some 33), .call (.c (.fn 14 [])) [(.c (.v (.int .i64 16))), (.s 31), (.s 32)], none, 0⟩ :: c4_2)) c4_16)
def c4_18 : ACode := (.ops [
  ⟨(some 87), .p (.bin .add (.s 27) (.c (.v (.int .i64 1)))), none, 0⟩,
  ⟨(some 27), .p (.mov (.s 87)), none, 0⟩])
def c4_19 : ACode := (.seq (.block 1 (.seq (.ops [
  ⟨(some 29), .p (.mov (.s 27)), none, 0⟩,
  ⟨(some 9), .p (.mov (.s 29)), none, 0⟩]) c4_17)) c4_18)
def c4_20 : ACode := (.seq (.cond (.s 28) .skip (.exit 0)) c4_19)
def c4_21 : ACode := (.seq (.ops [
  ⟨(some 28), .p (.bin .lss (.s 27) (.s 26)), none, 0⟩]) c4_20)
def c4_22 : ACode := (.block 0 (.loop c4_21))
def c4_23 : ACode := (.seq (.ops [
  ⟨(some 88), .p (.mov (.s 8)), none, 0⟩,
  ⟨(some 6), .p (.mov (.s 88)), none, 0⟩,
  ⟨(some 7), .p (.mov (.c (.v (.int .i64 0)))), none, 0⟩]) .ret)
def c4_24 : ACode := (.seq (.seq (.ops (⟨(some 25), .p (.mov (.s 0)), none, 0⟩ ::
  ⟨(some 26), .call (.c (.fn 13 [])) [(.s 25)], none, 109⟩ :: c4_1)) c4_22) c4_23)
def c4_25 : ACode := (.seq (.ops [
  ⟨(some 19), .p (.mov (.s 0)), none, 0⟩,
  ⟨(some 20), .m (.mkSlice 1 8 [(.v (.pointer none))] (.c (.v (.int .i64 1))) (.c (.v (.int .i64 1)))), none, 49⟩,
  ⟨(some 21), .m (.ext (.map (.mk))), none, 196664⟩,
  ⟨(some 22), .m (.ext (.map (.mk))), none, 196612⟩,
  ⟨(some 23), .p (.build [(.v (.pointer none)), (.v (.slice none 0 0)), (.v (.map none)), (.v (.map none))] [(0, 1, (.s 19)), (1, 1, (.s 20)), (2, 1, (.s 21)), (3, 1, (.s 22))]), none, 0⟩,
  ⟨(some 24), .m (.box (.s 23)), none, 0⟩,
  ⟨(some 8), .p (.mov (.s 24)), none, 0⟩]) c4_24)
def c4_26 : ACode := (.seq (.seq (.ops [
  ⟨(some 17), .p (.mov (.s 0)), none, 0⟩,
  ⟨(some 18), .p (.eqn false (.pointer 109) (.s 17)), none, 0⟩]) c4_0) c4_25)
def c4 : ACode := (.seq (.ops [
  ⟨(some 6), .p (.mov (.c (.v (.pointer none)))), none, 0⟩,
  ⟨(some 7), .p (.mov (.c (.v (.int .i64 0)))), none, 0⟩]) c4_26)
theorem t4 : trC Tryz.prog Tryz.f4.ntmps (bodyOf Tryz.f4) = some c4 := by kernel_rfl
theorem r4 : Tryz.f4.results.toList.mapM (trR Tryz.prog) = some [.tmp 6, .tmp 7] := by kernel_rfl
def i4 : FI := ⟨89, c4, [.tmp 6, .tmp 7]⟩
theorem k4 : Knows Tryz.prog 4 i4 := ⟨Tryz.f4, bodyOf Tryz.f4, Tryz.func4, by kernel_rfl, by kernel_rfl, t4, r4, by kernel_rfl⟩
-- 5 (*drover/net.Net).Tick []
def c5_0 : ACode := (.cond (.s 7) .ret .skip)
def c5_1 : ACode := (.ops [
  ⟨(some 17), .p (.mov (.s 5)), none, 0⟩,
  ⟨(some 18), .p (.mov (.s 1)), none, 0⟩,
  ⟨(some 19), .call (.c (.fn 17 [])) [(.s 17), (.s 18)], none, 122⟩])
def c5_2 : ACode := (.ops [
  ⟨(some 20), .p (.bin .add (.s 13) (.c (.v (.int .i64 1)))), none, 0⟩,
  ⟨(some 13), .p (.mov (.s 20)), none, 0⟩])
def c5_3 : ACode := (.seq (.block 1 (.seq (.ops [
  ⟨(some 15), .p (.adrSl 1 (.s 11) (.s 13)), none, 0⟩,
  ⟨(some 16), .m (.load none (.s 15)), none, 0⟩,
  ⟨(some 5), .p (.mov (.s 16)), none, 0⟩]) c5_1)) c5_2)
def c5_4 : ACode := (.seq (.cond (.s 14) .skip (.exit 0)) c5_3)
def c5_5 : ACode := (.seq (.ops [
  ⟨(some 14), .p (.bin .lss (.s 13) (.s 12)), none, 0⟩]) c5_4)
def c5_6 : ACode := (.block 0 (.loop c5_5))
def c5_7 : ACode := (.seq (.ops [
  ⟨(some 8), .p (.mov (.s 0)), none, 0⟩,
  ⟨(some 9), .p (.nilCheck (.s 8)), none, 0⟩,
  ⟨(some 10), .p (.fieldAddr 1 none (.s 9)), none, 0⟩,
  ⟨(some 11), .m (.load none (.s 10)), none, 0⟩,
  ⟨(some 12), .p (.len false (.s 11)), none, 49⟩,
  ⟨(some 13), .p (.mov (.c (.v (.int .i64 0)))), none, 0⟩]) c5_6)
def c5 : ACode := (.seq (.seq (.ops [
  ⟨(some 6), .p (.mov (.s 0)), none, 0⟩,
  ⟨(some 7), .p (.eqn false (.pointer 47) (.s 6)), none, 0⟩]) c5_0) c5_7)
theorem t5 : trC Tryz.prog Tryz.f5.ntmps (bodyOf Tryz.f5) = some c5 := by kernel_rfl
theorem r5 : Tryz.f5.results.toList.mapM (trR Tryz.prog) = some [] := by kernel_rfl
def i5 : FI := ⟨21, c5, []⟩
theorem k5 : Knows Tryz.prog 5 i5 := ⟨Tryz.f5, bodyOf Tryz.f5, Tryz.func5, by kernel_rfl, by kernel_rfl, t5, r5, by kernel_rfl⟩
-- 6 (*drover/net.Net).Tell []
def c6_0 : List AOper := [
  ⟨(some 9), .p (.mov (.s 14)), none, 0⟩,
  ⟨(some 15), .p (.extract (.s 9) 0), none, 0⟩,
  ⟨(some 16), .p (.extract (.s 9) 1), none, 0⟩,
  ⟨(some 7), .p (.mov (.s 15)), none, 0⟩,
  ⟨(some 8), .p (.mov (.s 16)), none, 0⟩]
def c6_1 : List AOper := (⟨(some 13), .p (.mov (.s 2)), none, 0⟩ ::
  ⟨(some 14), .call (.c (.fn 19 [])) [(.s 12), (.s 13)], none, 122⟩ :: c6_0)
def c6_2 : ACode := (.seq (.ops [
  ⟨(some 17), .p (.mov (.s 7)), none, 0⟩,
  ⟨(some 6), .p (.mov (.s 17)), none, 0⟩]) .ret)
def c6_3 : ACode := (.seq (.ops (⟨(some 10), .p (.mov (.s 0)), none, 0⟩ ::
  ⟨(some 11), .p (.mov (.s 1)), none, 0⟩ ::
  ⟨(some 12), .call (.c (.fn 18 [])) [(.s 10), (.s 11)], none, 47⟩ :: c6_1)) c6_2)
def c6 : ACode := (.seq (.ops [
  ⟨(some 6), .p (.mov (.c (.v (.slice none 0 0)))), none, 0⟩]) c6_3)
theorem t6 : trC Tryz.prog Tryz.f6.ntmps (bodyOf Tryz.f6) = some c6 := by kernel_rfl
theorem r6 : Tryz.f6.results.toList.mapM (trR Tryz.prog) = some [.tmp 6] := by kernel_rfl
def i6 : FI := ⟨18, c6, [.tmp 6]⟩
theorem k6 : Knows Tryz.prog 6 i6 := ⟨Tryz.f6, bodyOf Tryz.f6, Tryz.func6, by kernel_rfl, by kernel_rfl, t6, r6, by kernel_rfl⟩
-- 7 (*drover/net.Net).Fail []
def c7_0 : ACode := (.cond (.s 12) (.seq (.ops [
  ⟨(some 6), .p (.mov (.c (.v (.int .i64 31)))), none, 0⟩]) .ret) .skip)
def c7_1 : ACode := (.cond (.s 9) (.seq (.ops [
  ⟨(some 6), .p (.mov (.c (.v (.int .i64 2)))), none, 0⟩]) .ret) (.seq (.ops [
  ⟨(some 13), .p (.mov (.s 0)), none, 0⟩,
  ⟨(some 14), .p (.nilCheck (.s 13)), none, 0⟩,
  ⟨(some 15), .p (.fieldAddr 2 none (.s 14)), none, 0⟩,
  ⟨(some 16), .m (.load none (.s 15)), none, 0⟩,
  ⟨(some 17), .p (.mov (.s 1)), none, 0⟩,
  ⟨(some 18), .m (.ext (.map (.look [(.int .i64)] false false (.v (.slice none 0 0)) (.s 16) (.s 17)))), none, 0⟩,
  ⟨(some 19), .p (.len false (.s 18)), none, 58⟩,
  ⟨(some 20), .p (.bin .eql (.s 19) (.c (.v (.int .i64 0)))), none, 0⟩,
  ⟨(some 12), .p (.mov (.s 20)), none, 0⟩]) c7_0))
def c7_2 : ACode := (.ops [
  ⟨(some 50), .call (.c (.fn 20 [])) [(.s 45), (.s 47), (.s 49)], none, 122⟩])
def c7_3 : ACode := (.seq (.draw [
  ⟨(some 38), .p (.mov (.s 0)), none, 0⟩,
  ⟨(some 39), .p (.nilCheck (.s 38)), none, 0⟩,
  ⟨(some 40), .p (.fieldAddr 1 none (.s 39)), none, 0⟩,
  ⟨(some 41), .m (.load none (.s 40)), none, 0⟩,
  ⟨(some 42), .p (.fieldAddr 0 none (.s 8)), none, 0⟩,
  ⟨(some 43), .m (.load none (.s 42)), none, 0⟩,
  ⟨(some 44), .p (.adrSl 1 (.s 41) (.s 43)), none, 0⟩,
  ⟨(some 45), .m (.load none (.s 44)), none, 0⟩,
  ⟨(some 46), .p (.fieldAddr 1 none (.s 8)), none, 0⟩,
  ⟨(some 47), .m (.load none (.s 46)), none, 0⟩,
  ⟨(some 48), .p (.mov (.s 2)), none, 0⟩,
  ⟨(some 49), .p (.un .not (.s 48)), none, 0⟩]) c7_2)
def c7_4 : ACode := (.ops [
  ⟨(some 51), .p (.bin .add (.s 34) (.c (.v (.int .i64 1)))), none, 0⟩,
  ⟨(some 34), .p (.mov (.s 51)), none, 0⟩])
def c7_5 : ACode := (.seq (.block 2 (.seq (.ops [
  ⟨(some 36), .p (.adrSl 2 (.s 32) (.s 34)), none, 0⟩,
  ⟨(some 37), .m (.load (some 2) (.s 36)), none, 0⟩,
  ⟨(some 8), .m (.alloc [(.v (.int .i64 0)), (.v (.int .i64 0))]), none, 0⟩,
  ⟨none, .m (.store (some 2) (.s 8) (.s 37)), none, 0⟩]) c7_3)) c7_4)
def c7_6 : ACode := (.seq (.cond (.s 35) .skip (.exit 1)) c7_5)
def c7_7 : ACode := (.seq (.ops [
  ⟨(some 35), .p (.bin .lss (.s 34) (.s 33)), none, 0⟩]) c7_6)
def c7_8 : ACode := (.block 1 (.loop c7_7))
def c7_9 : ACode := (.seq (.ops [
  ⟨(some 6), .p (.mov (.c (.v (.int .i64 0)))), none, 0⟩]) .ret)
def c7_10 : ACode := (.seq (.seq (.ops [
  ⟨(some 27), .p (.mov (.s 0)), none, 0⟩,
  ⟨(some 28), .p (.nilCheck (.s 27)), none, 0⟩,
  ⟨(some 29), .p (.fieldAddr 2 none (.s 28)), none, 0⟩,
  ⟨(some 30), .m (.load none (.s 29)), none, 0⟩,
  ⟨(some 31), .p (.mov (.s 1)), none, 0⟩,
  ⟨(some 32), .m (.ext (.map (.look [(.int .i64)] false false (.v (.slice none 0 0)) (.s 30) (.s 31)))), none, 0⟩,
  ⟨(some 33), .p (.len false (.s 32)), none, 58⟩,
  ⟨(some 34), .p (.mov (.c (.v (.int .i64 0)))), none, 0⟩]) c7_8) c7_9)
def c7_11 : ACode := (.seq (.ops [
  ⟨(some 21), .p (.mov (.s 0)), none, 0⟩,
  ⟨(some 22), .p (.nilCheck (.s 21)), none, 0⟩,
  ⟨(some 23), .p (.fieldAddr 3 none (.s 22)), none, 0⟩,
  ⟨(some 24), .m (.load none (.s 23)), none, 0⟩,
  ⟨(some 25), .p (.mov (.s 1)), none, 0⟩,
  ⟨(some 26), .p (.mov (.s 2)), none, 0⟩,
  ⟨none, .m (.ext (.map (.upd [(.int .i64)] false (.s 24) (.s 25) (.s 26)))), none, 0⟩]) c7_10)
def c7_12 : ACode := (.seq (.block 0 (.seq (.ops [
  ⟨(some 10), .p (.mov (.s 0)), none, 0⟩,
  ⟨(some 11), .p (.eqn false (.pointer 47) (.s 10)), none, 0⟩,
  ⟨(some 9), .p (.mov (.s 11)), none, 0⟩]) c7_1)) c7_11)
def c7 : ACode := (.seq (.ops [
  ⟨(some 6), .p (.mov (.c (.v (.int .i64 0)))), none, 0⟩]) c7_12)
theorem t7 : trC Tryz.prog Tryz.f7.ntmps (bodyOf Tryz.f7) = some c7 := by kernel_rfl
theorem r7 : Tryz.f7.results.toList.mapM (trR Tryz.prog) = some [.tmp 6] := by kernel_rfl
def i7 : FI := ⟨52, c7, [.tmp 6]⟩
theorem k7 : Knows Tryz.prog 7 i7 := ⟨Tryz.f7, bodyOf Tryz.f7, Tryz.func7, by kernel_rfl, by kernel_rfl, t7, r7, by kernel_rfl⟩
-- 8 drover/droverref24.Same []
def c8_0 : ACode := (.cond (.s 36) (.seq (.ops [
  ⟨(some 4), .p (.mov (.c (.v (.bool false)))), none, 0⟩]) .ret) .skip)
def c8_1 : ACode := (.cond (.s 41) .skip (.exit 0))
def c8_2 : ACode := (.cond (.s 74) (.seq (.ops [
  ⟨(some 4), .p (.mov (.c (.v (.bool false)))), none, 0⟩]) .ret) .skip)
def c8_3 : ACode := (.cond (.s 79) .skip (.exit 2))
def c8_4 : ACode := (.cond (.s 92) (.seq (.ops [
  ⟨(some 4), .p (.mov (.c (.v (.bool false)))), none, 0⟩]) .ret) .skip)
def c8_5 : ACode := (.ops [
  ⟨(some 80), .p (.mov (.s 8)), none, 0⟩,
  ⟨(some 81), .p (.bin .add (.s 80) (.c (.v (.int .i64 1)))), none, 0⟩,
  ⟨(some 8), .p (.mov (.s 81)), none, 0⟩])
def c8_6 : ACode := (.seq (.block 3 (.seq (.draw [
  ⟨(some 82), .p (.fieldAddr 2 none (.s 6)), none, 0⟩,
  ⟨(some 83), .m (.load none (.s 82)), none, 0⟩,
  ⟨(some 84), .p (.mov (.s 8)), none, 0⟩,
  ⟨(some 85), .p (.adrSl 1 (.s 83) (.s 84)), none, 0⟩,
  ⟨(some 86), .m (.load none (.s 85)), none, 0⟩,
  ⟨(some 87), .p (.fieldAddr 2 none (.s 7)), none, 0⟩,
  ⟨(some 88), .m (.load none (.s 87)), none, 0⟩,
  ⟨(some 89), .p (.mov (.s 8)), none, 0⟩,
  ⟨(some 90), .p (.adrSl 1 (.s 88) (.s 89)), none, 0⟩,
  ⟨(some 91), .m (.load none (.s 90)), none, 0⟩,
  ⟨(some 92), .p (.bin .neq (.s 86) (.s 91)), none, 0⟩]) c8_4)) c8_5)
def c8_7 : ACode := (.seq (.seq (.ops [
  ⟨(some 75), .p (.mov (.s 8)), none, 0⟩,
  ⟨(some 76), .p (.fieldAddr 2 none (.s 6)), none, 0⟩,
  ⟨(some 77), .m (.load none (.s 76)), none, 0⟩,
  ⟨(some 78), .p (.len false (.s 77)), none, 3⟩,
  ⟨(some 79), .p (.bin .lss (.s 75) (.s 78)), none, 0⟩]) c8_3) c8_6)
def c8_8 : ACode := (.block 2 (.loop c8_7))
def c8_9 : ACode := (.seq (.ops [
  ⟨(some 8), .p (.mov (.c (.v (.int .i64 0)))), none, 0⟩]) c8_8)
def c8_10 : ACode := (.seq (.seq (.ops [
  ⟨(some 54), .p (.fieldAddr 0 none (.s 6)), none, 0⟩,
  ⟨(some 55), .m (.load none (.s 54)), none, 0⟩,
  ⟨(some 56), .p (.fieldAddr 0 none (.s 7)), none, 0⟩,
  ⟨(some 57), .m (.load none (.s 56)), none, 0⟩,
  ⟨(some 58), .p (.bin .neq (.s 55) (.s 57)), none, 0⟩,
  ⟨(some 59), .p (.mov (.s 58)), none, 0⟩,
  ⟨(some 60), .p (.fieldAddr 1 none (.s 6)), (some (59, false)), 0⟩,
  ⟨(some 61), .m (.load none (.s 60)), (some (59, false)), 0⟩,
  ⟨(some 62), .p (.fieldAddr 1 none (.s 7)), (some (59, false)), 0⟩,
  ⟨(some 63), .m (.load none (.s 62)), (some (59, false)), 0⟩,
  ⟨(some 64), .p (.bin .neq (.s 61) (.s 63)), (some (59, false)), 0⟩,
  ⟨(some 65), .p (.pick (.s 59) (.c (.v (.bool true))) (.s 64)), none, 0⟩,
  ⟨(some 66), .p (.mov (.s 65)), none, 0⟩,
  ⟨(some 67), .p (.fieldAddr 2 none (.s 6)), (some (66, false)), 0⟩,
  ⟨(some 68), .m (.load none (.s 67)), (some (66, false)), 0⟩,
  ⟨(some 69), .p (.len false (.s 68)), (some (66, false)), 3⟩,
  ⟨(some 70), .p (.fieldAddr 2 none (.s 7)), (some (66, false)), 0⟩,
  ⟨(some 71), .m (.load none (.s 70)), (some (66, false)), 0⟩,
  ⟨(some 72), .p (.len false (.s 71)), (some (66, false)), 3⟩,
  ⟨(some 73), .p (.bin .neq (.s 69) (.s 72)), (some (66, false)), 0⟩,
  ⟨(some 74), .p (.pick (.s 66) (.c (.v (.bool true))) (.s 73)), none, 0⟩]) c8_2) c8_9)
def c8_11 : ACode := (.seq (.ops [
  ⟨(some 49), .p (.fieldAddr 0 none (.s 3)), none, 0⟩,
  ⟨(some 50), .m (.load none (.s 49)), none, 0⟩,
  ⟨(some 51), .p (.mov (.s 5)), none, 0⟩,
  ⟨(some 52), .p (.adrSl 3 (.s 50) (.s 51)), none, 0⟩,
  ⟨(some 53), .m (.load (some 3) (.s 52)), none, 0⟩,
  ⟨(some 7), .m (.alloc [(.v (.int .i64 0)), (.v (.string ⟨#[]⟩)), (.v (.slice none 0 0))]), none, 3⟩,
  ⟨none, .m (.store (some 3) (.s 7) (.s 53)), none, 0⟩]) c8_10)
def c8_12 : ACode := (.ops [
  ⟨(some 42), .p (.mov (.s 5)), none, 0⟩,
  ⟨(some 43), .p (.bin .add (.s 42) (.c (.v (.int .i64 1)))), none, 0⟩,
  ⟨(some 5), .p (.mov (.s 43)), none, 0⟩])
def c8_13 : ACode := (.seq (.block 1 (.seq (.ops [
  ⟨(some 44), .p (.fieldAddr 0 none (.s 2)), none, 0⟩,
  ⟨(some 45), .m (.load none (.s 44)), none, 0⟩,
  ⟨(some 46), .p (.mov (.s 5)), none, 0⟩,
  ⟨(some 47), .p (.adrSl 3 (.s 45) (.s 46)), none, 0⟩,
  ⟨(some 48), .m (.load (some 3) (.s 47)), none, 0⟩,
  ⟨(some 6), .m (.alloc [(.v (.int .i64 0)), (.v (.string ⟨#[]⟩)), (.v (.slice none 0 0))]), none, 3⟩,
  ⟨none, .m (.store (some 3) (.s 6) (.s 48)), none, 0⟩]) c8_11)) c8_12)
def c8_14 : ACode := (.seq (.seq (.ops [
  ⟨(some 37), .p (.mov (.s 5)), none, 0⟩,
  ⟨(some 38), .p (.fieldAddr 0 none (.s 2)), none, 0⟩,
  ⟨(some 39), .m (.load none (.s 38)), none, 0⟩,
  ⟨(some 40), .p (.len false (.s 39)), none, 65⟩,
  ⟨(some 41), .p (.bin .lss (.s 37) (.s 40)), none, 0⟩]) c8_1) c8_13)
def c8_15 : ACode := (.block 0 (.loop c8_14))
def c8_16 : ACode := (.seq (.ops [
  ⟨(some 4), .p (.mov (.c (.v (.bool true)))), none, 0⟩]) .ret)
def c8_17 : ACode := (.seq (.seq (.ops [
  ⟨(some 5), .p (.mov (.c (.v (.int .i64 0)))), none, 0⟩]) c8_15) c8_16)
def c8_18 : ACode := (.seq (.seq (.ops [
  ⟨(some 9), .p (.fieldAddr 0 none (.s 2)), none, 0⟩,
  ⟨(some 10), .m (.load none (.s 9)), none, 0⟩,
  ⟨(some 11), .p (.len false (.s 10)), none, 65⟩,
  ⟨(some 12), .p (.fieldAddr 0 none (.s 3)), none, 0⟩,
  ⟨(some 13), .m (.load none (.s 12)), none, 0⟩,
  ⟨(some 14), .p (.len false (.s 13)), none, 65⟩,
  ⟨(some 15), .p (.bin .neq (.s 11) (.s 14)), none, 0⟩,
  ⟨(some 16), .p (.mov (.s 15)), none, 0⟩,
  ⟨(some 17), .p (.fieldAddr 1 none (.s 2)), (some (16, false)), 0⟩,
  ⟨(some 18), .m (.load none (.s 17)), (some (16, false)), 0⟩,
  ⟨(some 19), .p (.fieldAddr 1 none (.s 3)), (some (16, false)), 0⟩,
  ⟨(some 20), .m (.load none (.s 19)), (some (16, false)), 0⟩,
  ⟨(some 21), .p (.bin .neq (.s 18) (.s 20)), (some (16, false)), 0⟩,
  ⟨(some 22), .p (.pick (.s 16) (.c (.v (.bool true))) (.s 21)), none, 0⟩,
  ⟨(some 23), .p (.mov (.s 22)), none, 0⟩,
  ⟨(some 24), .p (.fieldAddr 2 none (.s 2)), (some (23, false)), 0⟩,
  ⟨(some 25), .m (.load none (.s 24)), (some (23, false)), 0⟩,
  ⟨(some 26), .p (.fieldAddr 2 none (.s 3)), (some (23, false)), 0⟩,
  ⟨(some 27), .m (.load none (.s 26)), (some (23, false)), 0⟩,
  ⟨(some 28), .p (.bin .neq (.s 25) (.s 27)), (some (23, false)), 0⟩,
  ⟨(some 29), .p (.pick (.s 23) (.c (.v (.bool true))) (.s 28)), none, 0⟩,
  ⟨(some 30), .p (.mov (.s 29)), none, 0⟩,
  ⟨(some 31), .p (.fieldAddr 3 none (.s 2)), (some (30, false)), 0⟩,
  ⟨(some 32), .m (.load none (.s 31)), (some (30, false)), 0⟩,
  ⟨(some 33), .p (.fieldAddr 3 none (.s 3)), (some (30, false)), 0⟩,
  ⟨(some 34), .m (.load none (.s 33)), (some (30, false)), 0⟩,
  ⟨(some 35), .p (.eqa true [.bool] false (.s 32) (.s 34)), (some (30, false)), 0⟩,
  ⟨(some 36), .p (.pick (.s 30) (.c (.v (.bool true))) (.s 35)), none, 0⟩]) c8_0) c8_17)
def c8 : ACode := (.seq (.ops [
  ⟨(some 2), .m (.box (.s 0)), none, 0⟩,
  ⟨(some 3), .m (.box (.s 1)), none, 0⟩,
  ⟨(some 4), .p (.mov (.c (.v (.bool false)))), none, 0⟩]) c8_18)
theorem t8 : trC Tryz.prog Tryz.f8.ntmps (bodyOf Tryz.f8) = some c8 := by kernel_rfl
theorem r8 : Tryz.f8.results.toList.mapM (trR Tryz.prog) = some [.tmp 4] := by kernel_rfl
def i8 : FI := ⟨93, c8, [.tmp 4]⟩
theorem k8 : Knows Tryz.prog 8 i8 := ⟨Tryz.f8, bodyOf Tryz.f8, Tryz.func8, by kernel_rfl, by kernel_rfl, t8, r8, by kernel_rfl⟩
-- 9 drover/droverlaw24.Plain []
def c9_0 : ACode := (.cond (.s 16) .skip (.exit 0))
def c9_1 : ACode := (.ops [
  ⟨(some 17), .p (.mov (.s 4)), none, 0⟩,
  ⟨(some 18), .p (.bin .add (.s 17) (.c (.v (.int .i64 1)))), none, 0⟩,
  ⟨(some 4), .p (.mov (.s 18)), none, 0⟩])
def c9_2 : ACode := (.seq (.block 1 (.draw [
  ⟨(some 19), .p (.fieldAddr 0 none (.s 3)), none, 0⟩,
  ⟨(some 20), .m (.load none (.s 19)), none, 0⟩,
  ⟨(some 21), .p (.fieldAddr 0 none (.s 1)), none, 0⟩,
  ⟨(some 22), .m (.load none (.s 21)), none, 0⟩,
  ⟨(some 23), .p (.mov (.s 4)), none, 0⟩,
  ⟨(some 24), .p (.adrSl 3 (.s 22) (.s 23)), none, 0⟩,
  ⟨(some 25), .p (.fieldAddr 0 none (.s 24)), none, 0⟩,
  ⟨(some 26), .m (.load none (.s 25)), none, 0⟩,
  ⟨(some 27), .p (.fieldAddr 0 none (.s 1)), none, 0⟩,
  ⟨(some 28), .m (.load none (.s 27)), none, 0⟩,
  ⟨(some 29), .p (.mov (.s 4)), none, 0⟩,
  ⟨(some 30), .p (.adrSl 3 (.s 28) (.s 29)), none, 0⟩,
  ⟨(some 31), .p (.fieldAddr 1 none (.s 30)), none, 0⟩,
  ⟨(some 32), .m (.load none (.s 31)), none, 0⟩,
  ⟨(some 33), .p (.fieldAddr 0 none (.s 1)), none, 0⟩,
  ⟨(some 34), .m (.load none (.s 33)), none, 0⟩,
  ⟨(some 35), .p (.mov (.s 4)), none, 0⟩,
  ⟨(some 36), .p (.adrSl 3 (.s 34) (.s 35)), none, 0⟩,
  ⟨(some 37), .p (.fieldAddr 2 none (.s 36)), none, 0⟩,
  ⟨(some 38), .m (.load none (.s 37)), none, 0⟩,
  ⟨(some 39), .p (.build [(.v (.int .i64 0)), (.v (.string ⟨#[]⟩)), (.v (.slice none 0 0))] [(0, 1, (.s 26)), (1, 1, (.s 32)), (2, 1, (.s 38))]), none, 0⟩,
  ⟨(some 40), .m (.buildSlice 3 1 [(.v (.int .i64 0)), (.v (.string ⟨#[]⟩)), (.v (.slice none 0 0))] [(0, 3, (.s 39))]), none, 65⟩,
  ⟨(some 41), .m (.append 3 48 (.s 20) (.s 40)), none, 65⟩,
  ⟨(some 42), .p (.fieldAddr 0 none (.s 3)), none, 0⟩,
  ⟨none, .m (.store none (.s 42) (.s 41)), none, 0⟩])) c9_1)
def c9_3 : ACode := (.seq (.seq (.ops [
  ⟨(some 12), .p (.mov (.s 4)), none, 0⟩,
  ⟨(some 13), .p (.fieldAddr 0 none (.s 1)), none, 0⟩,
  ⟨(some 14), .m (.load none (.s 13)), none, 0⟩,
  ⟨(some 15), .p (.len false (.s 14)), none, 66⟩,
  ⟨(some 16), .p (.bin .lss (.s 12) (.s 15)), none, 0⟩]) c9_0) c9_2)
def c9_4 : ACode := (.block 0 (.loop c9_3))
def c9_5 : ACode := (.seq (.ops [
  ⟨(some 43), .m (.load (some 4) (.s 3)), none, 0⟩,
  ⟨none, .m (.store (some 4) (.s 2) (.s 43)), none, 0⟩]) .ret)
def c9_6 : ACode := (.seq (.seq (.ops [
  ⟨(some 4), .p (.mov (.c (.v (.int .i64 0)))), none, 0⟩]) c9_4) c9_5)
def c9_7 : ACode := (.seq (.ops [
  ⟨(some 5), .p (.fieldAddr 1 none (.s 1)), none, 0⟩,
  ⟨(some 6), .m (.load none (.s 5)), none, 0⟩,
  ⟨(some 7), .p (.fieldAddr 2 none (.s 1)), none, 0⟩,
  ⟨(some 8), .m (.load none (.s 7)), none, 0⟩,
  ⟨(some 9), .p (.fieldAddr 3 none (.s 1)), none, 0⟩,
  ⟨(some 10), .m (.load none (.s 9)), none, 0⟩,
  ⟨(some 11), .p (.build [(.v (.slice none 0 0)), (.v (.int .i64 0)), (.v (.int .i64 0)), (.v (.bool false))] [(1, 1, (.s 6)), (2, 1, (.s 8)), (3, 1, (.s 10))]), none, 0⟩,
  ⟨(some 3), .m (.alloc [(.v (.slice none 0 0)), (.v (.int .i64 0)), (.v (.int .i64 0)), (.v (.bool false))]), none, 65⟩,
  ⟨none, .m (.store (some 4) (.s 3) (.s 11)), none, 0⟩]) c9_6)
def c9 : ACode := (.seq (.ops [
  ⟨(some 1), .m (.box (.s 0)), none, 0⟩,
  ⟨(some 2), .m (.alloc [(.v (.slice none 0 0)), (.v (.int .i64 0)), (.v (.int .i64 0)), (.v (.bool false))]), none, 65⟩]) c9_7)
theorem t9 : trC Tryz.prog Tryz.f9.ntmps (bodyOf Tryz.f9) = some c9 := by kernel_rfl
theorem r9 : Tryz.f9.results.toList.mapM (trR Tryz.prog) = some [.cell 2 (some 4)] := by kernel_rfl
def i9 : FI := ⟨44, c9, [.cell 2 (some 4)]⟩
theorem k9 : Knows Tryz.prog 9 i9 := ⟨Tryz.f9, bodyOf Tryz.f9, Tryz.func9, by kernel_rfl, by kernel_rfl, t9, r9, by kernel_rfl⟩
-- 10 (*drover/net.Net).Send []
def c10_0 : ACode := (.cond (.s 17) (.seq (.ops [
  ⟨(some 18), .p (.build [(.v (.slice none 0 0)), (.v (.int .i64 0)), (.v (.int .i64 0)), (.v (.bool false))] []), none, 0⟩,
  ⟨none, .m (.store (some 4) (.s 10) (.s 18)), none, 0⟩]) .ret) .skip)
def c10_1 : List AOper := [
  ⟨(some 19), .p (.mov (.s 25)), none, 0⟩,
  ⟨(some 26), .p (.extract (.s 19) 0), none, 0⟩,
  ⟨(some 27), .p (.extract (.s 19) 1), none, 0⟩,
  ⟨(some 11), .p (.mov (.s 26)), none, 0⟩,
  ⟨(some 12), .p (.mov (.s 27)), none, 0⟩]
def c10_2 : ACode := (.cond (.s 29) (.seq (.ops [
  ⟨(some 30), .p (.build [(.v (.slice none 0 0)), (.v (.int .i64 0)), (.v (.int .i64 0)), (.v (.bool false))] []), none, 0⟩,
  ⟨none, .m (.store (some 4) (.s 10) (.s 30)), none, 0⟩]) .ret) .skip)
def c10_3 : ACode := (.cond (.s 55) .skip (.exit 0))
def c10_4 : ACode := (.cond (.s 69) (.ops [
  ⟨(some 70), .p (.mov (.s 0)), none, 0⟩,
  ⟨(some 71), .p (.fieldAddr 1 none (.s 15)), none, 0⟩,
  ⟨(some 72), .m (.load none (.s 71)), none, 0⟩,
  ⟨(some 73), .call (.c (.fn 7 [])) [(.s 70), (.s 72), (.c (.v (.bool true)))], none, 47⟩]) .skip)
def c10_5 : ACode := (.seq (.draw [
  ⟨(some 62), .p (.fieldAddr 0 none (.s 15)), none, 0⟩,
  ⟨(some 63), .m (.load none (.s 62)), none, 0⟩,
  ⟨(some 64), .p (.mov (.s 13)), none, 0⟩,
  ⟨(some 65), .p (.nilCheck (.s 64)), none, 0⟩,
  ⟨(some 66), .p (.fieldAddr 0 (some 4) (.s 65)), none, 0⟩,
  ⟨(some 67), .p (.fieldAddr 2 none (.s 66)), none, 0⟩,
  ⟨(some 68), .m (.load none (.s 67)), none, 0⟩,
  ⟨(some 69), .p (.bin .eql (.s 63) (.s 68)), none, 0⟩]) c10_4)
def c10_6 : ACode := (.ops [
  ⟨(some 74), .p (.bin .add (.s 58) (.c (.v (.int .i64 1)))), none, 0⟩,
  ⟨(some 58), .p (.mov (.s 74)), none, 0⟩])
def c10_7 : ACode := (.seq (.block 3 (.seq (.ops [
  ⟨(some 60), .p (.adrSl 2 (.s 56) (.s 58)), none, 0⟩,
  ⟨(some 61), .m (.load (some 2) (.s 60)), none, 0⟩,
  ⟨(some 15), .m (.alloc [(.v (.int .i64 0)), (.v (.int .i64 0))]), none, 0⟩,
  ⟨none, .m (.store (some 2) (.s 15) (.s 61)), none, 0⟩]) c10_5)) c10_6)
def c10_8 : ACode := (.seq (.cond (.s 59) .skip (.exit 2)) c10_7)
def c10_9 : ACode := (.seq (.ops [
  ⟨(some 59), .p (.bin .lss (.s 58) (.s 57)), none, 0⟩]) c10_8)
def c10_10 : ACode := (.block 2 (.loop c10_9))
def c10_11 : ACode := (.ops [
  ⟨(some 75), .p (.mov (.s 13)), none, 0⟩,
  ⟨(some 76), .p (.mov (.s 3)), none, 0⟩,
  ⟨(some 77), .call (.c (.fn 22 [])) [(.s 75), (.s 76)], none, 75⟩])
def c10_12 : ACode := (.block 1 (.seq (.seq (.ops [
  ⟨(some 56), .p (.mov (.s 4)), none, 0⟩,
  ⟨(some 57), .p (.len false (.s 56)), none, 77⟩,
  ⟨(some 58), .p (.mov (.c (.v (.int .i64 0)))), none, 0⟩]) c10_10) c10_11))
def c10_13 : ACode := (.seq (.seq (.ops [
  ⟨(some 42), .p (.mov (.s 13)), none, 0⟩,
  ⟨(some 43), .p (.nilCheck (.s 42)), none, 0⟩,
  ⟨(some 44), .p (.fieldAddr 5 none (.s 43)), none, 0⟩,
  ⟨(some 45), .m (.load none (.s 44)), none, 0⟩,
  ⟨(some 46), .p (.len false (.s 45)), none, 72⟩,
  ⟨(some 47), .p (.bin .gtr (.s 46) (.c (.v (.int .i64 0)))), none, 0⟩,
  ⟨(some 48), .p (.mov (.s 47)), none, 0⟩,
  ⟨(some 49), .p (.mov (.s 13)), (some (48, true)), 0⟩,
  ⟨(some 50), .p (.nilCheck (.s 49)), (some (48, true)), 0⟩,
  ⟨(some 51), .p (.fieldAddr 0 (some 4) (.s 50)), (some (48, true)), 0⟩,
  ⟨(some 52), .p (.fieldAddr 2 none (.s 51)), (some (48, true)), 0⟩,
  ⟨(some 53), .m (.load none (.s 52)), (some (48, true)), 0⟩,
  ⟨(some 54), .p (.bin .lss (.s 53) (.c (.v (.int .i64 1000)))), (some (48, true)), 0⟩,
  ⟨(some 55), .p (.pick (.s 48) (.s 54) (.c (.v (.bool false)))), none, 0⟩]) c10_3) c10_12)
def c10_14 : ACode := (.seq (.ops [
  ⟨(some 88), .p (.mov (.s 13)), none, 0⟩,
  ⟨(some 89), .p (.nilCheck (.s 88)), none, 0⟩,
  ⟨(some 90), .p (.fieldAddr 0 (some 4) (.s 89)), none, 0⟩,
  ⟨(some 91), .m (.load (some 4) (.s 90)), none, 0⟩,
  ⟨none, .m (.store (some 4) (.s 10) (.s 91)), none, 0⟩]) .ret)
def c10_15 : ACode := (.seq (.ops [
  ⟨(some 78), .p (.mov (.s 13)), none, 0⟩,
  ⟨(some 79), .p (.mov (.s 13)), none, 0⟩,
  ⟨(some 80), .p (.nilCheck (.s 79)), none, 0⟩,
  ⟨(some 81), .p (.fieldAddr 5 none (.s 80)), none, 0⟩,
  ⟨(some 82), .m (.load none (.s 81)), none, 0⟩,
  ⟨(some 83), .p (.len false (.s 82)), none, 72⟩,
  ⟨(some 84), .p (.bin .gtr (.s 83) (.c (.v (.int .i64 0)))), none, 0⟩,
  ⟨(some 85), .p (.nilCheck (.s 78)), none, 0⟩,
  ⟨(some 86), .p (.fieldAddr 0 (some 4) (.s 85)), none, 0⟩,
  ⟨(some 87), .p (.fieldAddr 3 none (.s 86)), none, 0⟩,
  ⟨none, .m (.store none (.s 87) (.s 84)), none, 0⟩]) c10_14)
def c10_16 : ACode := (.seq (.block 0 (.loop c10_13)) c10_15)
def c10_17 : ACode := (.seq (.ops [
  ⟨(some 31), .p (.mov (.s 0)), none, 0⟩,
  ⟨(some 32), .p (.mov (.s 11)), none, 0⟩,
  ⟨(some 33), .p (.mov (.s 12)), none, 0⟩,
  ⟨(some 34), .p (.build [(.v (.int .i64 0)), (.v (.int .i64 0))] [(0, 1, (.s 32)), (1, 1, (.s 33))]), none, 0⟩,
  ⟨(some 35), .p (.mov (.s 2)), none, 0⟩,
  ⟨(some 36), .p (.mov (.s 11)), none, 0⟩,
  ⟨(some 37), .m (.buildSlice 1 1 [(.v (.int .i64 0))] [(0, 1, (.s 36))]), none, 3⟩,
  ⟨(some 38), .p (.build [(.v (.int .i64 0)), (.v (.int .i64 0)), (.v (.int .i64 0)), (.v (.string ⟨#[]⟩)), (.v (.slice none 0 0))] [(0, 2, (.s 34)), (2, 1, (.c (.v (.int .i64 0)))), (3, 1, (.s 35)), (4, 1, (.s 37))]), none, 0⟩,
  ⟨(some 39), .m (.buildSlice 5 1 [(.v (.int .i64 0)), (.v (.int .i64 0)), (.v (.int .i64 0)), (.v (.string ⟨#[]⟩)), (.v (.slice none 0 0))] [(0, 5, (.s 38))]), none, 72⟩,
  ⟨(some 40), .p (.build [(.v (.slice none 0 0)), (.v (.int .i64 0)), (.v (.int .i64 0)), (.v (.bool false)), (.v (.pointer none)), (.v (.slice none 0 0))] [(4, 1, (.s 31)), (5, 1, (.s 39))]), none, 0⟩,
  ⟨(some 41), .m (.box (.s 40)), none, 0⟩,
  ⟨(some 13), .p (.mov (.s 41)), none, 0⟩]) c10_16)
def c10_18 : ACode := (.seq (.seq (.ops [
  ⟨(some 28), .p (.mov (.s 11)), none, 0⟩,
  ⟨(some 29), .p (.bin .eql (.s 28) (.c (.v (.int .i64 0)))), none, 0⟩]) c10_2) c10_17)
def c10_19 : ACode := (.seq (.ops (⟨(some 20), .p (.mov (.s 0)), none, 0⟩ ::
  ⟨(some 21), .p (.nilCheck (.s 20)), none, 0⟩ ::
  ⟨(some 22), .p (.fieldAddr 0 none (.s 21)), none, 0⟩ ::
  ⟨(some 23), .m (.load none (.s 22)), none, 0⟩ ::
  ⟨(some 24), .p (.mov (.s 1)), none, 0⟩ ::
  ⟨(some 25), .call (.c (.fn 21 [])) [(.s 23), (.s 24)], none, 109⟩ :: c10_1)) c10_18)
def c10_20 : ACode := (.seq (.seq (.ops [
  ⟨(some 16), .p (.mov (.s 0)), none, 0⟩,
  ⟨(some 17), .p (.eqn false (.pointer 47) (.s 16)), none, 0⟩]) c10_0) c10_19)
def c10 : ACode := (.seq (.ops [
  ⟨(some 10), .m (.alloc [(.v (.slice none 0 0)), (.v (.int .i64 0)), (.v (.int .i64 0)), (.v (.bool false))]), none, 66⟩]) c10_20)
theorem t10 : trC Tryz.prog Tryz.f10.ntmps (bodyOf Tryz.f10) = some c10 := by kernel_rfl
theorem r10 : Tryz.f10.results.toList.mapM (trR Tryz.prog) = some [.cell 10 (some 4)] := by kernel_rfl
def i10 : FI := ⟨92, c10, [.cell 10 (some 4)]⟩
theorem k10 : Knows Tryz.prog 10 i10 := ⟨Tryz.f10, bodyOf Tryz.f10, Tryz.func10, by kernel_rfl, by kernel_rfl, t10, r10, by kernel_rfl⟩
-- 11 (*drover/net.Net).State []
def c11_0 : List AOper := [
  ⟨(some 4), .p (.mov (.s 8)), none, 0⟩]
def c11_1 : List AOper := (⟨(some 8), .call (.c (.fn 23 [])) [(.s 7)], none, 122⟩ :: c11_0)
def c11_2 : ACode := (.seq (.ops (⟨(some 5), .p (.mov (.s 0)), none, 0⟩ ::
  ⟨(some 6), .p (.mov (.s 1)), none, 0⟩ ::
  ⟨(some 7), .call (.c (.fn 18 [])) [(.s 5), (.s 6)], none, 47⟩ :: c11_1)) .ret)
def c11 : ACode := (.seq (.ops [
  ⟨(some 4), .p (.mov (.c (.v (.string ⟨#[]⟩)))), none, 0⟩]) c11_2)
theorem t11 : trC Tryz.prog Tryz.f11.ntmps (bodyOf Tryz.f11) = some c11 := by kernel_rfl
theorem r11 : Tryz.f11.results.toList.mapM (trR Tryz.prog) = some [.tmp 4] := by kernel_rfl
def i11 : FI := ⟨9, c11, [.tmp 4]⟩
theorem k11 : Knows Tryz.prog 11 i11 := ⟨Tryz.f11, bodyOf Tryz.f11, Tryz.func11, by kernel_rfl, by kernel_rfl, t11, r11, by kernel_rfl⟩
-- 18 (*drover/net.Net).at []
def c18_0 : ACode := (.cond (.s 19) (.seq (.ops [
  ⟨(some 4), .p (.mov (.c (.v (.pointer none)))), none, 0⟩]) .ret) .skip)
def c18_1 : ACode := (.seq (.ops [
  ⟨(some 20), .p (.mov (.s 0)), none, 0⟩,
  ⟨(some 21), .p (.nilCheck (.s 20)), none, 0⟩,
  ⟨(some 22), .p (.fieldAddr 1 none (.s 21)), none, 0⟩,
  ⟨(some 23), .m (.load none (.s 22)), none, 0⟩,
  ⟨(some 24), .p (.mov (.s 1)), none, 0⟩,
  ⟨(some 25), .p (.adrSl 1 (.s 23) (.s 24)), none, 0⟩,
  ⟨(some 26), .m (.load none (.s 25)), none, 0⟩,
  ⟨(some 4), .p (.mov (.s 26)), none, 0⟩]) .ret)
def c18_2 : ACode := (.seq (.seq (.ops [
  ⟨(some 5), .p (.mov (.s 0)), none, 0⟩,
  ⟨(some 6), .p (.eqn false (.pointer 47) (.s 5)), none, 0⟩,
  ⟨(some 7), .p (.mov (.s 6)), none, 0⟩,
  ⟨(some 8), .p (.mov (.s 1)), (some (7, false)), 0⟩,
  ⟨(some 9), .p (.bin .lss (.s 8) (.c (.v (.int .i64 1)))), (some (7, false)), 0⟩,
  ⟨(some 10), .p (.pick (.s 7) (.c (.v (.bool true))) (.s 9)), none, 0⟩,
  ⟨(some 11), .p (.mov (.s 10)), none, 0⟩,
  ⟨(some 12), .p (.mov (.s 1)), (some (11, false)), 0⟩,
  ⟨(some 13), .p (.mov (.s 0)), (some (11, false)), 0⟩,
  ⟨(some 14), .p (.nilCheck (.s 13)), (some (11, false)), 0⟩,
  ⟨(some 15), .p (.fieldAddr 1 none (.s 14)), (some (11, false)), 0⟩,
  ⟨(some 16), .m (.load none (.s 15)), (some (11, false)), 0⟩,
  ⟨(some 17), .p (.len false (.s 16)), (some (11, false)), 49⟩,
  ⟨(some 18), .p (.bin .geq (.s 12) (.s 17)), (some (11, false)), 0⟩,
  ⟨(some 19), .p (.pick (.s 11) (.c (.v (.bool true))) (.s 18)), none, 0⟩]) c18_0) c18_1)
def c18 : ACode := (.seq (.ops [
  ⟨(some 4), .p (.mov (.c (.v (.pointer none)))), none, 0⟩]) c18_2)
theorem t18 : trC Tryz.prog Tryz.f18.ntmps (bodyOf Tryz.f18) = some c18 := by kernel_rfl
theorem r18 : Tryz.f18.results.toList.mapM (trR Tryz.prog) = some [.tmp 4] := by kernel_rfl
def i18 : FI := ⟨27, c18, [.tmp 4]⟩
theorem k18 : Knows Tryz.prog 18 i18 := ⟨Tryz.f18, bodyOf Tryz.f18, Tryz.func18, by kernel_rfl, by kernel_rfl, t18, r18, by kernel_rfl⟩
-- 19 (*drover/device.Device).Handle []
def c19_0 : ACode := (.cond (.s 15) (.seq (.ops [
  ⟨(some 4), .p (.mov (.c (.v (.slice none 0 0)))), none, 0⟩,
  ⟨(some 5), .p (.mov (.c (.v (.slice none 0 0)))), none, 0⟩]) .ret) .skip)
def c19_1 : List AOper := [
  ⟨(some 24), .p (.mov (.s 29)), none, 0⟩,
  ⟨(some 30), .p (.extract (.s 24) 0), none, 0⟩,
  ⟨(some 31), .p (.extract (.s 24) 1), none, 0⟩,
  ⟨(some 32), .p (.extract (.s 24) 2), none, 0⟩,
  ⟨(some 8), .m (.alloc [(.v (.int .i64 0)), (.v (.int .i64 0)), (.v (.int .i64 0)), (.v (.bool false)), (.v (.int .i64 0)), (.v (.int .i64 0)), (.v (.slice none 0 0)), (.v (.slice none 0 0)), (.v (.slice none 0 0)), (.v (.bool false)), (.v (.int .u64 0)), (.v (.int .u64 0)), (.v (.int .i64 0)), (.v (.int .i64 0)), (.v (.int .i64 0)), (.v (.int .i64 0)), (.v (.slice none 0 0)), (.v (.int .i64 0)), (.v (.int .i64 0)), (.v (.int .i64 0)), (.v (.int .i64 0)), (.v (.int .i64 0)), (.v (.int .i64 0)), (.v (.bool false)), (.v (.slice none 0 0)), (.v (.string ⟨#[]⟩))]), none, 89⟩,
  ⟨none, .m (.store (some 26) (.s 8) (.s 30)), none, 0⟩,
  ⟨(some 9), .p (.mov (.s 31)), none, 0⟩,
  ⟨(some 10), .p (.mov (.s 32)), none, 0⟩]
def c19_2 : ACode := (.cond (.s 34) (.seq (.ops [
  ⟨(some 35), .p (.mov (.s 6)), none, 0⟩,
  ⟨(some 36), .p (.mov (.s 7)), none, 0⟩,
  ⟨(some 4), .p (.mov (.s 35)), none, 0⟩,
  ⟨(some 5), .p (.mov (.s 36)), none, 0⟩]) .ret) .skip)
def c19_3 : List AOper := [
  ⟨(some 40), .p (.mov (.s 43)), none, 0⟩,
  ⟨(some 44), .p (.extract (.s 40) 0), none, 0⟩,
  ⟨(some 45), .p (.extract (.s 40) 1), none, 0⟩,
  ⟨(some 46), .p (.extract (.s 40) 2), none, 0⟩,
  ⟨(some 11), .p (.mov (.s 44)), none, 0⟩,
  ⟨none, .m (.store (some 2) (.s 12) (.s 45)), none, 0⟩,
  ⟨(some 13), .p (.mov (.s 46)), none, 0⟩]
def c19_4 : ACode := (.seq (.ops [
  ⟨(some 74), .p (.mov (.s 6)), none, 0⟩,
  ⟨(some 75), .p (.mov (.s 7)), none, 0⟩,
  ⟨(some 4), .p (.mov (.s 74)), none, 0⟩,
  ⟨(some 5), .p (.mov (.s 75)), none, 0⟩]) .ret)
def c19_5 : ACode := (.cond (.s 70) (.seq (.ops [
  ⟨(some 71), .p (.mov (.s 0)), none, 0⟩,
  ⟨(some 72), .p (.nilCheck (.s 71)), none, 0⟩,
  ⟨(some 73), .p (.fieldAddr 55 none (.s 72)), none, 0⟩,
  ⟨none, .m (.store none (.s 73) (.c (.v (.string ⟨#[]⟩)))), none, 0⟩]) c19_4) .skip)
def c19_6 : ACode := (.seq (.ops [
  ⟨(some 61), .p (.mov (.s 0)), none, 0⟩,
  ⟨(some 62), .p (.nilCheck (.s 61)), none, 0⟩,
  ⟨(some 63), .p (.fieldAddr 55 none (.s 62)), none, 0⟩,
  ⟨(some 64), .m (.load none (.s 63)), none, 0⟩,
  ⟨(some 65), .p (.idxStr (.s 64) (.c (.v (.int .i64 0)))), none, 0⟩,
  ⟨(some 66), .p (.bin .neq (.s 65) (.c (.v (.int .u8 4)))), none, 0⟩,
  ⟨(some 67), .p (.mov (.s 66)), none, 0⟩,
  ⟨(some 68), .p (.mov (.s 9)), (some (67, false)), 0⟩,
  ⟨(some 69), .p (.bin .lss (.s 68) (.c (.v (.int .i64 8)))), (some (67, false)), 0⟩,
  ⟨(some 70), .p (.pick (.s 67) (.c (.v (.bool true))) (.s 69)), none, 0⟩]) c19_5)
def c19_7 : ACode := (.cond (.s 39) (.ops (⟨(some 41), .p (.mov (.s 0)), none, 0⟩ ::
  ⟨(some 42), .m (.load (some 26) (.s 8)), none, 0⟩ ::
  ⟨(some 43), .call (.c (.fn 31 [])) [(.s 41), (.s 42)], none, 122⟩ :: c19_3)) (.seq (.draw [
  ⟨(some 47), .p (.mov (.s 0)), none, 0⟩,
  ⟨(some 48), .p (.nilCheck (.s 47)), none, 0⟩,
  ⟨(some 49), .p (.fieldAddr 55 none (.s 48)), none, 0⟩,
  ⟨(some 50), .m (.load none (.s 49)), none, 0⟩,
  ⟨(some 51), .p (.idxStr (.s 50) (.c (.v (.int .i64 2)))), none, 0⟩,
  ⟨(some 52), .p (.cint .i64 (.s 51)), none, 0⟩,
  ⟨(some 53), .p (.bin .shl (.s 52) (.c (.v (.int .u64 8)))), none, 0⟩,
  ⟨(some 54), .p (.mov (.s 0)), none, 0⟩,
  ⟨(some 55), .p (.nilCheck (.s 54)), none, 0⟩,
  ⟨(some 56), .p (.fieldAddr 55 none (.s 55)), none, 0⟩,
  ⟨(some 57), .m (.load none (.s 56)), none, 0⟩,
  ⟨(some 58), .p (.idxStr (.s 57) (.c (.v (.int .i64 3)))), none, 0⟩,
  ⟨(some 59), .p (.cint .i64 (.s 58)), none, 0⟩,
  ⟨(some 60), .p (.bin .or (.s 53) (.s 59)), none, 0⟩,
  ⟨(some 9), .p (.mov (.s 60)), none, 0⟩]) c19_6))
def c19_8 : ACode := (.draw [
  ⟨(some 11), .p (.mov (.s 86)), none, 0⟩])
def c19_9 : ACode := (.seq (.ops [
  ⟨(some 86), .call (.c (.fn 33 [])) [(.s 84), (.s 85)], none, 0⟩]) c19_8)
def c19_10 : ACode := (.cond (.s 78) (.seq (.draw [
  ⟨(some 79), .p (.mov (.s 0)), none, 0⟩,
  ⟨(some 80), .p (.nilCheck (.s 79)), none, 0⟩,
  ⟨(some 81), .p (.fieldAddr 55 none (.s 80)), none, 0⟩,
  ⟨(some 82), .m (.load none (.s 81)), none, 0⟩,
  ⟨(some 83), .p (.mov (.s 9)), none, 0⟩,
  ⟨(some 84), .p (.slStr (.s 82) none (some (.s 83))), none, 0⟩,
  ⟨(some 85), .m (.load (some 2) (.s 12)), none, 0⟩]) c19_9) .skip)
def c19_11 : ACode := (.cond (.s 88) (.ops [
  ⟨(some 89), .p (.mov (.s 6)), none, 0⟩,
  ⟨(some 90), .p (.mov (.s 11)), none, 0⟩,
  ⟨(some 91), .m (.buildSlice 1 1 [(.v (.string ⟨#[]⟩))] [(0, 1, (.s 90))]), none, 9⟩,
  ⟨(some 92), .m (.append 1 16 (.s 89) (.s 91)), none, 9⟩,
  ⟨(some 6), .p (.mov (.s 92)), none, 0⟩]) .skip)
def c19_12 : ACode := (.drawk [
  ⟨(some 93), .p (.mov (.s 0)), none, 0⟩,
  ⟨(some 94), .p (.mov (.s 7)), none, 0⟩,
  ⟨(some 95), .p (.mov (.s 13)), none, 0⟩,
  ⟨(some 96), .m (.append 12 96 (.s 94) (.s 95)), none, 143⟩,
  ⟨(some 97), .p (.mov (.s 0)), none, 0⟩,
  ⟨(some 98), .p (.nilCheck (.s 97)), none, 0⟩,
  ⟨(some 99), .p (.fieldAddr 55 none (.s 98)), none, 0⟩,
  ⟨(some 100), .m (.load none (.s 99)), none, 0⟩,
  ⟨(some 101), .p (.mov (.s 9)), none, 0⟩,
  ⟨(some 102), .p (.slStr (.s 100) (some (.s 101)) none), none, 0⟩,
  ⟨(some 7), .p (.mov (.s 96)), none, 0⟩,
  ⟨(some 103), .p (.nilCheck (.s 93)), none, 0⟩,
  ⟨(some 104), .p (.fieldAddr 55 none (.s 103)), none, 0⟩,
  ⟨none, .m (.store none (.s 104) (.s 102)), none, 0⟩] [false, false, false, true, false, false, false, true, false, false, false, false, false, false])
def c19_13 : ACode := (.seq (.seq (.ops [
  ⟨(some 87), .p (.mov (.s 11)), none, 0⟩,
  ⟨(some 88), .p (.bin .neq (.s 87) (.c (.v (.string ⟨#[]⟩)))), none, 0⟩]) c19_11) c19_12)
def c19_14 : ACode := (.seq (.seq (.draw [
  ⟨(some 76), .m (.load (some 2) (.s 12)), none, 0⟩,
  ⟨(some 77), .qcall (.c (.fn 32 [])) [], none, 0⟩,
  ⟨(some 78), .p (.eqa true [(.int .i64), (.int .i64)] true (.s 76) (.s 77)), none, 0⟩]) c19_10) c19_13)
def c19_15 : ACode := (.seq (.seq (.ops [
  ⟨(some 38), .p (.mov (.s 10)), none, 0⟩,
  ⟨(some 39), .p (.bin .eql (.s 38) (.c (.v (.int .i64 0)))), none, 0⟩]) c19_7) c19_14)
def c19_16 : ACode := (.seq (.ops [
  ⟨(some 13), .p (.mov (.c (.v (.slice none 0 0)))), none, 0⟩]) c19_15)
def c19_17 : ACode := (.seq (.ops [
  ⟨(some 37), .p (.build [(.v (.int .i64 0)), (.v (.int .i64 0))] [(0, 1, (.c (.v (.int .i64 1)))), (1, 1, (.c (.v (.int .i64 0))))]), none, 0⟩,
  ⟨(some 12), .m (.alloc [(.v (.int .i64 0)), (.v (.int .i64 0))]), none, 0⟩,
  ⟨(some 11), .p (.mov (.c (.v (.string ⟨#[]⟩)))), none, 0⟩,
  ⟨none, .m (.store (some 2) (.s 12) (.s 37)), none, 0⟩]) c19_16)
def c19_18 : ACode := (.seq (.seq (.ops [
  ⟨(some 33), .p (.mov (.s 10)), none, 0⟩,
  ⟨(some 34), .p (.bin .eql (.s 33) (.c (.v (.int .i64 10)))), none, 0⟩]) c19_2) c19_17)
def c19_19 : ACode := (.block 1 (.seq (.ops (⟨(some 25), .p (.mov (.s 0)), none, 0⟩ ::
  ⟨(some 26), .p (.nilCheck (.s 25)), none, 0⟩ ::
  ⟨(some 27), .p (.fieldAddr 55 none (.s 26)), none, 0⟩ ::
  ⟨(some 28), .m (.load none (.s 27)), none, 0⟩ ::
  ⟨(some 29), .call (.c (.fn 30 [])) [(.s 28)], none, 0⟩ :: c19_1)) c19_18))
def c19_20 : ACode := (.block 0 (.loop c19_19))
def c19_21 : ACode := (.seq (.ops [
  ⟨(some 16), .p (.mov (.s 0)), none, 0⟩,
  ⟨(some 17), .p (.nilCheck (.s 16)), none, 0⟩,
  ⟨(some 18), .p (.fieldAddr 55 none (.s 17)), none, 0⟩,
  ⟨(some 19), .m (.load none (.s 18)), none, 0⟩,
  ⟨(some 20), .p (.mov (.s 1)), none, 0⟩,
  ⟨(some 21), .p (.bin .add (.s 19) (.s 20)), none, 0⟩,
  ⟨(some 22), .p (.nilCheck (.s 16)), none, 0⟩,
  ⟨(some 23), .p (.fieldAddr 55 none (.s 22)), none, 0⟩,
  ⟨none, .m (.store none (.s 23) (.s 21)), none, 0⟩]) c19_20)
def c19_22 : ACode := (.seq (.ops [
  ⟨(some 7), .p (.mov (.c (.v (.slice none 0 0)))), none, 0⟩]) c19_21)
def c19_23 : ACode := (.seq (.ops [
  ⟨(some 6), .p (.mov (.c (.v (.slice none 0 0)))), none, 0⟩]) c19_22)
def c19_24 : ACode := (.seq (.seq (.ops [
  ⟨(some 14), .p (.mov (.s 0)), none, 0⟩,
  ⟨(some 15), .p (.eqn false (.pointer 122) (.s 14)), none, 0⟩]) c19_0) c19_23)
def c19 : ACode := (.seq (.ops [
  ⟨(some 4), .p (.mov (.c (.v (.slice none 0 0)))), none, 0⟩,
  ⟨(some 5), .p (.mov (.c (.v (.slice none 0 0)))), none, 0⟩]) c19_24)
theorem t19 : trC Tryz.prog Tryz.f19.ntmps (bodyOf Tryz.f19) = some c19 := by kernel_rfl
theorem r19 : Tryz.f19.results.toList.mapM (trR Tryz.prog) = some [.tmp 4, .tmp 5] := by kernel_rfl
def i19 : FI := ⟨105, c19, [.tmp 4, .tmp 5]⟩
theorem k19 : Knows Tryz.prog 19 i19 := ⟨Tryz.f19, bodyOf Tryz.f19, Tryz.func19, by kernel_rfl, by kernel_rfl, t19, r19, by kernel_rfl⟩
-- 23 (*drover/device.Device).State []
def c23_0 : ACode := (.cond (.s 14) (.seq (.ops [
  ⟨(some 2), .p (.mov (.c (.v (.string ⟨#[]⟩)))), none, 0⟩]) .ret) .skip)
def c23_1 : List AOper := [
  ⟨(some 36), .call (.c (.fn 38 [])) [(.s 3), (.s 35)], none, 0⟩]
def c23_2 : ACode := (.cond (.s 27) (.ops (⟨(some 28), .p (.mov (.s 0)), none, 0⟩ ::
  ⟨(some 29), .p (.mov (.s 4)), none, 0⟩ ::
  ⟨(some 30), .p (.nilCheck (.s 28)), none, 0⟩ ::
  ⟨(some 31), .p (.fieldAddr 4 (some 51) (.s 30)), none, 0⟩ ::
  ⟨(some 32), .p (.adrArr 17 (some 3) (.s 31) (.s 29)), none, 0⟩ ::
  ⟨(some 33), .m (.load (some 3) (.s 32)), none, 0⟩ ::
  ⟨(some 34), .p (.build [(.v (.int .i64 0)), (.v (.int .i64 0)), (.v (.int .i64 0)), (.v (.bool false)), (.v (.int .i64 0)), (.v (.int .i64 0)), (.v (.slice none 0 0)), (.v (.slice none 0 0)), (.v (.slice none 0 0)), (.v (.bool false)), (.v (.int .u64 0)), (.v (.int .u64 0)), (.v (.int .i64 0)), (.v (.int .i64 0)), (.v (.int .i64 0)), (.v (.int .i64 0)), (.v (.slice none 0 0)), (.v (.int .i64 0)), (.v (.int .i64 0)), (.v (.int .i64 0)), (.v (.int .i64 0)), (.v (.int .i64 0)), (.v (.int .i64 0)), (.v (.bool false)), (.v (.slice none 0 0)), (.v (.string ⟨#[]⟩))] [(0, 1, (.c (.v (.int .i64 29)))), (17, 3, (.s 33))]), none, 0⟩ ::
  ⟨(some 35), .call (.c (.fn 35 [])) [(.s 34)], none, 0⟩ :: c23_1)) .skip)
def c23_3 : ACode := (.seq (.ops [
  ⟨(some 26), .p (.mov (.s 5)), none, 0⟩,
  ⟨(some 27), .p (.eqn true (.pointer 174) (.s 26)), none, 0⟩]) c23_2)
def c23_4 : ACode := (.ops [
  ⟨(some 37), .p (.bin .add (.s 21) (.c (.v (.int .i64 1)))), none, 0⟩,
  ⟨(some 21), .p (.mov (.s 37)), none, 0⟩])
def c23_5 : ACode := (.seq (.block 1 (.seq (.ops [
  ⟨(some 23), .p (.mov (.s 21)), none, 0⟩,
  ⟨(some 24), .p (.adrSl 1 (.s 19) (.s 21)), none, 0⟩,
  ⟨(some 25), .m (.load none (.s 24)), none, 0⟩,
  ⟨(some 4), .p (.mov (.s 23)), none, 0⟩,
  ⟨(some 5), .p (.mov (.s 25)), none, 0⟩]) c23_3)) c23_4)
def c23_6 : ACode := (.seq (.cond (.s 22) .skip (.exit 0)) c23_5)
def c23_7 : ACode := (.seq (.ops [
  ⟨(some 22), .p (.bin .lss (.s 21) (.s 20)), none, 0⟩]) c23_6)
def c23_8 : ACode := (.block 0 (.loop c23_7))
def c23_9 : List AOper := [
  ⟨(some 44), .p (.len false (.s 43)), none, 96⟩,
  ⟨(some 45), .p (.mov (.c (.v (.int .i64 0)))), none, 0⟩]
def c23_10 : List AOper := [
  ⟨(some 52), .call (.c (.fn 38 [])) [(.s 3), (.s 51)], none, 0⟩]
def c23_11 : ACode := (.ops (⟨(some 49), .m (.load (some 3) (.s 7)), none, 0⟩ ::
  ⟨(some 50), .p (.build [(.v (.int .i64 0)), (.v (.int .i64 0)), (.v (.int .i64 0)), (.v (.bool false)), (.v (.int .i64 0)), (.v (.int .i64 0)), (.v (.slice none 0 0)), (.v (.slice none 0 0)), (.v (.slice none 0 0)), (.v (.bool false)), (.v (.int .u64 0)), (.v (.int .u64 0)), (.v (.int .i64 0)), (.v (.int .i64 0)), (.v (.int .i64 0)), (.v (.int .i64 0)), (.v (.slice none 0 0)), (.v (.int .i64 0)), (.v (.int .i64 0)), (.v (.int .i64 0)), (.v (.int .i64 0)), (.v (.int .i64 0)), (.v (.int .i64 0)), (.v (.bool false)), (.v (.slice none 0 0)), (.v (.string ⟨#[]⟩))] [(0, 1, (.c (.v (.int .i64 15)))), (14, 3, (.s 49))]), none, 0⟩ ::
  ⟨(some 51), .call (.c (.fn 35 [])) [(.s 50)], none, 0⟩ :: c23_10))
def c23_12 : ACode := (.ops [
  ⟨(some 53), .p (.bin .add (.s 45) (.c (.v (.int .i64 1)))), none, 0⟩,
  ⟨(some 45), .p (.mov (.s 53)), none, 0⟩])
def c23_13 : ACode := (.seq (.block 3 (.seq (.ops [
  ⟨(some 47), .p (.adrSl 3 (.s 43) (.s 45)), none, 0⟩,
  ⟨(some 48), .m (.load (some 3) (.s 47)), none, 0⟩,
  ⟨(some 7), .m (.alloc [(.v (.int .i64 0)), (.v (.int .i64 0)), (.v (.slice none 0 0))]), none, 204⟩,
  ⟨none, .m (.store (some 3) (.s 7) (.s 48)), none, 0⟩]) c23_11)) c23_12)
def c23_14 : ACode := (.seq (.cond (.s 46) .skip (.exit 2)) c23_13)
def c23_15 : ACode := (.seq (.ops [
  ⟨(some 46), .p (.bin .lss (.s 45) (.s 44)), none, 0⟩]) c23_14)
def c23_16 : ACode := (.block 2 (.loop c23_15))
def c23_17 : List AOper := [
  ⟨(some 64), .p (.len false (.s 63)), none, 93⟩,
  ⟨(some 65), .p (.mov (.c (.v (.int .i64 0)))), none, 0⟩]
def c23_18 : List AOper := [
  ⟨(some 72), .call (.c (.fn 38 [])) [(.s 3), (.s 71)], none, 0⟩]
def c23_19 : ACode := (.ops (⟨(some 69), .m (.load (some 10) (.s 10)), none, 0⟩ ::
  ⟨(some 70), .p (.build [(.v (.int .i64 0)), (.v (.int .i64 0)), (.v (.int .i64 0)), (.v (.bool false)), (.v (.int .i64 0)), (.v (.int .i64 0)), (.v (.slice none 0 0)), (.v (.slice none 0 0)), (.v (.slice none 0 0)), (.v (.bool false)), (.v (.int .u64 0)), (.v (.int .u64 0)), (.v (.int .i64 0)), (.v (.int .i64 0)), (.v (.int .i64 0)), (.v (.int .i64 0)), (.v (.slice none 0 0)), (.v (.int .i64 0)), (.v (.int .i64 0)), (.v (.int .i64 0)), (.v (.int .i64 0)), (.v (.int .i64 0)), (.v (.int .i64 0)), (.v (.bool false)), (.v (.slice none 0 0)), (.v (.string ⟨#[]⟩))] [(0, 1, (.c (.v (.int .i64 14)))), (4, 10, (.s 69))]), none, 0⟩ ::
  ⟨(some 71), .call (.c (.fn 35 [])) [(.s 70)], none, 0⟩ :: c23_18))
def c23_20 : ACode := (.ops [
  ⟨(some 73), .p (.bin .add (.s 65) (.c (.v (.int .i64 1)))), none, 0⟩,
  ⟨(some 65), .p (.mov (.s 73)), none, 0⟩])
def c23_21 : ACode := (.seq (.block 7 (.seq (.ops [
  ⟨(some 67), .p (.adrSl 10 (.s 63) (.s 65)), none, 0⟩,
  ⟨(some 68), .m (.load (some 10) (.s 67)), none, 0⟩,
  ⟨(some 10), .m (.alloc [(.v (.int .i64 0)), (.v (.int .i64 0)), (.v (.slice none 0 0)), (.v (.slice none 0 0)), (.v (.slice none 0 0)), (.v (.bool false)), (.v (.int .u64 0)), (.v (.int .u64 0)), (.v (.int .i64 0)), (.v (.int .i64 0))]), none, 248⟩,
  ⟨none, .m (.store (some 10) (.s 10) (.s 68)), none, 0⟩]) c23_19)) c23_20)
def c23_22 : ACode := (.seq (.cond (.s 66) .skip (.exit 6)) c23_21)
def c23_23 : ACode := (.seq (.ops [
  ⟨(some 66), .p (.bin .lss (.s 65) (.s 64)), none, 0⟩]) c23_22)
def c23_24 : ACode := (.block 6 (.loop c23_23))
def c23_25 : ACode := (.seq (.ops (⟨(some 57), .p (.mov (.s 0)), none, 0⟩ ::
  ⟨(some 58), .p (.nilCheck (.s 57)), none, 0⟩ ::
  ⟨(some 59), .p (.fieldAddr 0 (some 4) (.s 58)), none, 0⟩ ::
  ⟨(some 60), .p (.fieldAddr 0 none (.s 59)), none, 0⟩ ::
  ⟨(some 61), .m (.load none (.s 60)), none, 0⟩ ::
  ⟨(some 62), .p (.mov (.s 8)), none, 0⟩ ::
  ⟨(some 63), .call (.c (.fn 40 [])) [(.s 61), (.s 62)], none, 167⟩ :: c23_17)) c23_24)
def c23_26 : ACode := (.ops [
  ⟨(some 74), .p (.bin .add (.s 54) (.c (.v (.int .i64 1)))), none, 0⟩,
  ⟨(some 54), .p (.mov (.s 74)), none, 0⟩])
def c23_27 : ACode := (.seq (.block 5 (.seq (.ops [
  ⟨(some 56), .p (.mov (.s 54)), none, 0⟩,
  ⟨(some 8), .p (.mov (.s 56)), none, 0⟩]) c23_25)) c23_26)
def c23_28 : ACode := (.seq (.cond (.s 55) .skip (.exit 4)) c23_27)
def c23_29 : ACode := (.seq (.ops [
  ⟨(some 55), .p (.bin .lss (.s 54) (.c (.v (.int .i64 8)))), none, 0⟩]) c23_28)
def c23_30 : ACode := (.block 4 (.loop c23_29))
def c23_31 : List AOper := [
  ⟨(some 95), .call (.c (.fn 38 [])) [(.s 3), (.s 94)], none, 0⟩]
def c23_32 : ACode := (.cond (.s 91) (.ops (⟨(some 92), .p (.mov (.s 11)), none, 0⟩ ::
  ⟨(some 93), .p (.build [(.v (.int .i64 0)), (.v (.int .i64 0)), (.v (.int .i64 0)), (.v (.bool false)), (.v (.int .i64 0)), (.v (.int .i64 0)), (.v (.slice none 0 0)), (.v (.slice none 0 0)), (.v (.slice none 0 0)), (.v (.bool false)), (.v (.int .u64 0)), (.v (.int .u64 0)), (.v (.int .i64 0)), (.v (.int .i64 0)), (.v (.int .i64 0)), (.v (.int .i64 0)), (.v (.slice none 0 0)), (.v (.int .i64 0)), (.v (.int .i64 0)), (.v (.int .i64 0)), (.v (.int .i64 0)), (.v (.int .i64 0)), (.v (.int .i64 0)), (.v (.bool false)), (.v (.slice none 0 0)), (.v (.string ⟨#[]⟩))] [(0, 1, (.c (.v (.int .i64 12)))), (22, 1, (.s 92))]), none, 0⟩ ::
  ⟨(some 94), .call (.c (.fn 35 [])) [(.s 93)], none, 0⟩ :: c23_31)) .skip)
def c23_33 : ACode := (.seq (.ops [
  ⟨(some 86), .p (.mov (.s 11)), none, 0⟩,
  ⟨(some 87), .p (.bin .gtr (.s 86) (.c (.v (.int .i64 0)))), none, 0⟩,
  ⟨(some 88), .p (.mov (.s 87)), none, 0⟩,
  ⟨(some 89), .p (.mov (.s 12)), (some (88, true)), 0⟩,
  ⟨(some 90), .p (.un .not (.s 89)), (some (88, true)), 0⟩,
  ⟨(some 91), .p (.pick (.s 88) (.s 90) (.c (.v (.bool false)))), none, 0⟩]) c23_32)
def c23_34 : ACode := (.ops [
  ⟨(some 96), .p (.bin .add (.s 81) (.c (.v (.int .i64 1)))), none, 0⟩,
  ⟨(some 81), .p (.mov (.s 96)), none, 0⟩])
def c23_35 : ACode := (.seq (.block 9 (.seq (.ops [
  ⟨(some 83), .p (.mov (.s 81)), none, 0⟩,
  ⟨(some 84), .p (.adrSl 1 (.s 79) (.s 81)), none, 0⟩,
  ⟨(some 85), .m (.load none (.s 84)), none, 0⟩,
  ⟨(some 11), .p (.mov (.s 83)), none, 0⟩,
  ⟨(some 12), .p (.mov (.s 85)), none, 0⟩]) c23_33)) c23_34)
def c23_36 : ACode := (.seq (.cond (.s 82) .skip (.exit 8)) c23_35)
def c23_37 : ACode := (.seq (.ops [
  ⟨(some 82), .p (.bin .lss (.s 81) (.s 80)), none, 0⟩]) c23_36)
def c23_38 : ACode := (.block 8 (.loop c23_37))
def c23_39 : List AOper := [
  ⟨(some 2), .p (.mov (.s 97)), none, 0⟩]
def c23_40 : ACode := (.seq (.ops (⟨(some 97), .call (.c (.fn 41 [])) [(.s 3)], none, 0⟩ :: c23_39)) .ret)
def c23_41 : ACode := (.seq (.seq (.ops [
  ⟨(some 75), .p (.mov (.s 0)), none, 0⟩,
  ⟨(some 76), .p (.nilCheck (.s 75)), none, 0⟩,
  ⟨(some 77), .p (.fieldAddr 0 (some 4) (.s 76)), none, 0⟩,
  ⟨(some 78), .p (.fieldAddr 3 none (.s 77)), none, 0⟩,
  ⟨(some 79), .m (.load none (.s 78)), none, 0⟩,
  ⟨(some 80), .p (.len false (.s 79)), none, 4⟩,
  ⟨(some 81), .p (.mov (.c (.v (.int .i64 0)))), none, 0⟩]) c23_38) c23_40)
def c23_42 : ACode := (.seq (.seq (.ops [
  ⟨(some 54), .p (.mov (.c (.v (.int .i64 0)))), none, 0⟩]) c23_30) c23_41)
def c23_43 : ACode := (.seq (.seq (.ops (⟨(some 38), .p (.mov (.s 0)), none, 0⟩ ::
  ⟨(some 39), .p (.nilCheck (.s 38)), none, 0⟩ ::
  ⟨(some 40), .p (.fieldAddr 0 (some 4) (.s 39)), none, 0⟩ ::
  ⟨(some 41), .p (.fieldAddr 1 none (.s 40)), none, 0⟩ ::
  ⟨(some 42), .m (.load none (.s 41)), none, 0⟩ ::
  ⟨(some 43), .call (.c (.fn 39 [])) [(.s 42)], none, 170⟩ :: c23_9)) c23_16) c23_42)
def c23_44 : ACode := (.seq (.seq (.ops [
  ⟨(some 15), .p (.mov (.s 0)), none, 0⟩,
  ⟨(some 16), .p (.nilCheck (.s 15)), none, 0⟩,
  ⟨(some 17), .p (.fieldAddr 0 (some 4) (.s 16)), none, 0⟩,
  ⟨(some 18), .p (.fieldAddr 2 none (.s 17)), none, 0⟩,
  ⟨(some 19), .m (.load none (.s 18)), none, 0⟩,
  ⟨(some 20), .p (.len false (.s 19)), none, 128⟩,
  ⟨(some 21), .p (.mov (.c (.v (.int .i64 0)))), none, 0⟩]) c23_8) c23_43)
def c23_45 : ACode := (.seq (.ops [
  ⟨(some 3), .m (.ext (.allocT 148 [(.v (.pointer none)), (.v (.slice none 0 0))])), none, 5⟩]) c23_44)
def c23_46 : ACode := (.seq (.seq (.ops [
  ⟨(some 13), .p (.mov (.s 0)), none, 0⟩,
  ⟨(some 14), .p (.eqn false (.pointer 122) (.s 13)), none, 0⟩]) c23_0) c23_45)
def c23 : ACode := (.seq (.ops [
  ⟨(some 2), .p (.mov (.c (.v (.string ⟨#[]⟩)))), none, 0⟩]) c23_46)
theorem t23 : trC Tryz.prog Tryz.f23.ntmps (bodyOf Tryz.f23) = some c23 := by kernel_rfl
theorem r23 : Tryz.f23.results.toList.mapM (trR Tryz.prog) = some [.tmp 2] := by kernel_rfl
def i23 : FI := ⟨98, c23, [.tmp 2]⟩
theorem k23 : Knows Tryz.prog 23 i23 := ⟨Tryz.f23, bodyOf Tryz.f23, Tryz.func23, by kernel_rfl, by kernel_rfl, t23, r23, by kernel_rfl⟩
end Go.Proofs.Nnl
