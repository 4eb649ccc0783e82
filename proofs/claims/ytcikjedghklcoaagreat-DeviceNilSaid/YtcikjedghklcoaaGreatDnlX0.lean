/- A part of a law's proof: DnlX0. -/
import Derived.KernelRfl
import Derived.Test.YtcikjedghklcoaaGreatProg
import Derived.Test.YtcikjedghklcoaaGreatSvCod
set_option linter.unusedSimpArgs false
set_option linter.constructorNameAsVariable false
namespace Go.Proofs.Dnl
open Go Go.Ab Go.Proofs
set_option linter.unusedVariables false
def bodyOf (fn : Func) : Code := fn.body.getD .skip
-- 3 drover/droverlaw13.DeviceNil []
def c3_0 : List AOper := [
  ⟨(some 8), .p (.mov (.s 11)), none, 0⟩,
  ⟨(some 12), .p (.extract (.s 8) 0), none, 0⟩,
  ⟨(some 13), .p (.extract (.s 8) 1), none, 0⟩,
  ⟨(some 6), .p (.mov (.s 12)), none, 0⟩,
  ⟨(some 7), .p (.mov (.s 13)), none, 0⟩]
def c3_1 : List AOper := [
  ⟨(some 47), .p (.pick (.s 45) (.s 46) (.c (.v (.bool false)))), none, 0⟩,
  ⟨(some 4), .p (.mov (.s 47)), none, 0⟩]
def c3_2 : List AOper := (⟨(some 43), .p (.bin .eql (.s 42) (.c (.v (.string ⟨#[]⟩)))), (some (40, true)), 0⟩ ::
  ⟨(some 44), .p (.pick (.s 40) (.s 43) (.c (.v (.bool false)))), none, 0⟩ ::
  ⟨(some 45), .p (.mov (.s 44)), none, 0⟩ ::
  ⟨(some 46), .call (.c (.fn 9 [])) [], (some (45, true)), 0⟩ :: c3_1)
def c3_3 : List AOper := (⟨(some 38), .p (.bin .eql (.s 37) (.c (.v (.string ⟨#[]⟩)))), (some (34, true)), 0⟩ ::
  ⟨(some 39), .p (.pick (.s 34) (.s 38) (.c (.v (.bool false)))), none, 0⟩ ::
  ⟨(some 40), .p (.mov (.s 39)), none, 0⟩ ::
  ⟨(some 41), .p (.mov (.s 5)), (some (40, true)), 0⟩ ::
  ⟨(some 42), .call (.c (.fn 8 [])) [(.s 41)], (some (40, true)), 43⟩ :: c3_2)
def c3_4 : List AOper := (⟨(some 31), .p (.len false (.s 30)), (some (25, true)), 226⟩ ::
  ⟨(some 32), .p (.bin .eql (.s 31) (.c (.v (.int .i64 0)))), (some (25, true)), 0⟩ ::
  ⟨(some 33), .p (.pick (.s 25) (.s 32) (.c (.v (.bool false)))), none, 0⟩ ::
  ⟨(some 34), .p (.mov (.s 33)), none, 0⟩ ::
  ⟨(some 35), .p (.mov (.s 5)), (some (34, true)), 0⟩ ::
  ⟨(some 36), .p (.mov (.s 1)), (some (34, true)), 0⟩ ::
  ⟨(some 37), .call (.c (.fn 7 [])) [(.s 35), (.s 36), (.c (.v (.bool true)))], (some (34, true)), 43⟩ :: c3_3)
def c3_5 : ACode := (.seq (.ops (⟨(some 17), .p (.mov (.s 6)), none, 0⟩ ::
  ⟨(some 18), .p (.len false (.s 17)), none, 9⟩ ::
  ⟨(some 19), .p (.bin .eql (.s 18) (.c (.v (.int .i64 0)))), none, 0⟩ ::
  ⟨(some 20), .p (.mov (.s 19)), none, 0⟩ ::
  ⟨(some 21), .p (.mov (.s 7)), (some (20, true)), 0⟩ ::
  ⟨(some 22), .p (.len false (.s 21)), (some (20, true)), 226⟩ ::
  ⟨(some 23), .p (.bin .eql (.s 22) (.c (.v (.int .i64 0)))), (some (20, true)), 0⟩ ::
  ⟨(some 24), .p (.pick (.s 20) (.s 23) (.c (.v (.bool false)))), none, 0⟩ ::
  ⟨(some 25), .p (.mov (.s 24)), none, 0⟩ ::
  ⟨(some 26), .p (.mov (.s 5)), (some (25, true)), 0⟩ ::
  ⟨(some 27), .p (.mov (.s 1)), (some (25, true)), 0⟩ ::
  ⟨(some 28), .p (.mov (.s 0)), (some (25, true)), 0⟩ ::
  ⟨(some 29), .p (.mov (.s 1)), (some (25, true)), 0⟩ ::
  ⟨(some 30), .call (.c (.fn 6 [])) [(.s 26), (.s 27), (.s 28), (.s 29)], (some (25, true)), 43⟩ :: c3_4)) .ret)
def c3_6 : ACode := (.seq (.ops [
  ⟨(some 14), .p (.mov (.s 5)), none, 0⟩,
  ⟨(some 15), .p (.mov (.s 1)), none, 0⟩,
  ⟨(some 16), .call (.c (.fn 5 [])) [(.s 14), (.s 15)], none, 43⟩]) c3_5)
def c3_7 : ACode := (.seq (.ops (⟨(some 9), .p (.mov (.s 5)), none, 0⟩ ::
  ⟨(some 10), .p (.mov (.s 0)), none, 0⟩ ::
  ⟨(some 11), .call (.c (.fn 4 [])) [(.s 9), (.s 10)], none, 43⟩ :: c3_0)) c3_6)
def c3_8 : ACode := (.seq (.ops [
  ⟨(some 5), .p (.mov (.c (.v (.pointer none)))), none, 0⟩]) c3_7)
def c3 : ACode := (.seq (.ops [
  ⟨(some 4), .p (.mov (.c (.v (.bool false)))), none, 0⟩]) c3_8)
theorem t3 : trC Tryz.prog Tryz.f3.ntmps (bodyOf Tryz.f3) = some c3 := by kernel_rfl
theorem r3 : Tryz.f3.results.toList.mapM (trR Tryz.prog) = some [.tmp 4] := by kernel_rfl
def i3 : FI := ⟨48, c3, [.tmp 4]⟩
theorem k3 : Knows Tryz.prog 3 i3 := ⟨Tryz.f3, bodyOf Tryz.f3, Tryz.func3, by kernel_rfl, by kernel_rfl, t3, r3, by kernel_rfl⟩
-- 4 (*drover/device.Device).Handle []
def c4_0 : ACode := (.cond (.s 15) (.seq (.ops [
  ⟨(some 4), .p (.mov (.c (.v (.slice none 0 0)))), none, 0⟩,
  ⟨(some 5), .p (.mov (.c (.v (.slice none 0 0)))), none, 0⟩]) .ret) .skip)
def c4_1 : List AOper := [
  ⟨(some 24), .p (.mov (.s 29)), none, 0⟩,
  ⟨(some 30), .p (.extract (.s 24) 0), none, 0⟩,
  ⟨(some 31), .p (.extract (.s 24) 1), none, 0⟩,
  ⟨(some 32), .p (.extract (.s 24) 2), none, 0⟩,
  ⟨(some 8), .m (.alloc [(.v (.int .i64 0)), (.v (.int .i64 0)), (.v (.int .i64 0)), (.v (.bool false)), (.v (.int .i64 0)), (.v (.int .i64 0)), (.v (.slice none 0 0)), (.v (.slice none 0 0)), (.v (.slice none 0 0)), (.v (.bool false)), (.v (.int .u64 0)), (.v (.int .u64 0)), (.v (.int .i64 0)), (.v (.int .i64 0)), (.v (.int .i64 0)), (.v (.int .i64 0)), (.v (.slice none 0 0)), (.v (.int .i64 0)), (.v (.int .i64 0)), (.v (.int .i64 0)), (.v (.int .i64 0)), (.v (.int .i64 0)), (.v (.int .i64 0)), (.v (.bool false)), (.v (.slice none 0 0)), (.v (.string ⟨#[]⟩))]), none, 170⟩,
  ⟨none, .m (.store (some 26) (.s 8) (.s 30)), none, 0⟩,
  ⟨(some 9), .p (.mov (.s 31)), none, 0⟩,
  ⟨(some 10), .p (.mov (.s 32)), none, 0⟩]
def c4_2 : ACode := (.cond (.s 34) (.seq (.ops [
  ⟨(some 35), .p (.mov (.s 6)), none, 0⟩,
  ⟨(some 36), .p (.mov (.s 7)), none, 0⟩,
  ⟨(some 4), .p (.mov (.s 35)), none, 0⟩,
  ⟨(some 5), .p (.mov (.s 36)), none, 0⟩]) .ret) .skip)
def c4_3 : List AOper := [
  ⟨(some 40), .p (.mov (.s 43)), none, 0⟩,
  ⟨(some 44), .p (.extract (.s 40) 0), none, 0⟩,
  ⟨(some 45), .p (.extract (.s 40) 1), none, 0⟩,
  ⟨(some 46), .p (.extract (.s 40) 2), none, 0⟩,
  ⟨(some 11), .p (.mov (.s 44)), none, 0⟩,
  ⟨none, .m (.store (some 2) (.s 12) (.s 45)), none, 0⟩,
  ⟨(some 13), .p (.mov (.s 46)), none, 0⟩]
def c4_4 : ACode := (.seq (.ops [
  ⟨(some 74), .p (.mov (.s 6)), none, 0⟩,
  ⟨(some 75), .p (.mov (.s 7)), none, 0⟩,
  ⟨(some 4), .p (.mov (.s 74)), none, 0⟩,
  ⟨(some 5), .p (.mov (.s 75)), none, 0⟩]) .ret)
def c4_5 : ACode := (.cond (.s 70) (.seq (.ops [
  ⟨(some 71), .p (.mov (.s 0)), none, 0⟩,
  ⟨(some 72), .p (.nilCheck (.s 71)), none, 0⟩,
  ⟨(some 73), .p (.fieldAddr 55 none (.s 72)), none, 0⟩,
  ⟨none, .m (.store none (.s 73) (.c (.v (.string ⟨#[]⟩)))), none, 0⟩]) c4_4) .skip)
def c4_6 : ACode := (.seq (.ops [
  ⟨(some 61), .p (.mov (.s 0)), none, 0⟩,
  ⟨(some 62), .p (.nilCheck (.s 61)), none, 0⟩,
  ⟨(some 63), .p (.fieldAddr 55 none (.s 62)), none, 0⟩,
  ⟨(some 64), .m (.load none (.s 63)), none, 0⟩,
  ⟨(some 65), .p (.idxStr (.s 64) (.c (.v (.int .i64 0)))), none, 0⟩,
  ⟨(some 66), .p (.bin .neq (.s 65) (.c (.v (.int .u8 4)))), none, 0⟩,
  ⟨(some 67), .p (.mov (.s 66)), none, 0⟩,
  ⟨(some 68), .p (.mov (.s 9)), (some (67, false)), 0⟩,
  ⟨(some 69), .p (.bin .lss (.s 68) (.c (.v (.int .i64 8)))), (some (67, false)), 0⟩,
  ⟨(some 70), .p (.pick (.s 67) (.c (.v (.bool true))) (.s 69)), none, 0⟩]) c4_5)
def c4_7 : ACode := (.cond (.s 39) (.ops (⟨(some 41), .p (.mov (.s 0)), none, 0⟩ ::
  ⟨(some 42), .m (.load (some 26) (.s 8)), none, 0⟩ ::
  ⟨(some 43), .call (.c (.fn 11 [])) [(.s 41), (.s 42)], none, 43⟩ :: c4_3)) (.seq (.draw [
  ⟨(some 47), .p (.mov (.s 0)), none, 0⟩,
  ⟨(some 48), .p (.nilCheck (.s 47)), none, 0⟩,
  ⟨(some 49), .p (.fieldAddr 55 none (.s 48)), none, 0⟩,
  ⟨(some 50), .m (.load none (.s 49)), none, 0⟩,
  ⟨(some 51), .p (.idxStr (.s 50) (.c (.v (.int .i64 2)))), none, 0⟩,
  ⟨(some 52), .p (.cint .i64 (.s 51)), none, 0⟩,
  ⟨(some 53), .p (.bin .shl (.s 52) (.c (.v (.int .u64 8)))), none, 0⟩,
  ⟨(some 54), .p (.mov (.s 0)), none, 0⟩,
  ⟨(some 55), .p (.nilCheck (.s 54)), none, 0⟩,
  ⟨(some 56), .p (.fieldAddr 55 none (.s 55)), none, 0⟩,
  ⟨(some 57), .m (.load none (.s 56)), none, 0⟩,
  ⟨(some 58), .p (.idxStr (.s 57) (.c (.v (.int .i64 3)))), none, 0⟩,
  ⟨(some 59), .p (.cint .i64 (.s 58)), none, 0⟩,
  ⟨(some 60), .p (.bin .or (.s 53) (.s 59)), none, 0⟩,
  ⟨(some 9), .p (.mov (.s 60)), none, 0⟩]) c4_6))
def c4_8 : ACode := (.draw [
  ⟨(some 11), .p (.mov (.s 86)), none, 0⟩])
def c4_9 : ACode := (.seq (.ops [
  ⟨(some 86), .call (.c (.fn 13 [])) [(.s 84), (.s 85)], none, 0⟩]) c4_8)
def c4_10 : ACode := (.cond (.s 78) (.seq (.draw [
  ⟨(some 79), .p (.mov (.s 0)), none, 0⟩,
  ⟨(some 80), .p (.nilCheck (.s 79)), none, 0⟩,
  ⟨(some 81), .p (.fieldAddr 55 none (.s 80)), none, 0⟩,
  ⟨(some 82), .m (.load none (.s 81)), none, 0⟩,
  ⟨(some 83), .p (.mov (.s 9)), none, 0⟩,
  ⟨(some 84), .p (.slStr (.s 82) none (some (.s 83))), none, 0⟩,
  ⟨(some 85), .m (.load (some 2) (.s 12)), none, 0⟩]) c4_9) .skip)
def c4_11 : ACode := (.cond (.s 88) (.ops [
  ⟨(some 89), .p (.mov (.s 6)), none, 0⟩,
  ⟨(some 90), .p (.mov (.s 11)), none, 0⟩,
  ⟨(some 91), .m (.buildSlice 1 1 [(.v (.string ⟨#[]⟩))] [(0, 1, (.s 90))]), none, 9⟩,
  ⟨(some 92), .m (.append 1 16 (.s 89) (.s 91)), none, 9⟩,
  ⟨(some 6), .p (.mov (.s 92)), none, 0⟩]) .skip)
def c4_12 : ACode := (.drawk [
  ⟨(some 93), .p (.mov (.s 0)), none, 0⟩,
  ⟨(some 94), .p (.mov (.s 7)), none, 0⟩,
  ⟨(some 95), .p (.mov (.s 13)), none, 0⟩,
  ⟨(some 96), .m (.append 12 96 (.s 94) (.s 95)), none, 226⟩,
  ⟨(some 97), .p (.mov (.s 0)), none, 0⟩,
  ⟨(some 98), .p (.nilCheck (.s 97)), none, 0⟩,
  ⟨(some 99), .p (.fieldAddr 55 none (.s 98)), none, 0⟩,
  ⟨(some 100), .m (.load none (.s 99)), none, 0⟩,
  ⟨(some 101), .p (.mov (.s 9)), none, 0⟩,
  ⟨(some 102), .p (.slStr (.s 100) (some (.s 101)) none), none, 0⟩,
  ⟨(some 7), .p (.mov (.s 96)), none, 0⟩,
  ⟨(some 103), .p (.nilCheck (.s 93)), none, 0⟩,
  ⟨(some 104), .p (.fieldAddr 55 none (.s 103)), none, 0⟩,
  ⟨none, .m (.store none (.s 104) (.s 102)), none, 0⟩] [false, false, false, true, false, false, false, true, false, false, false, false, false, false])
def c4_13 : ACode := (.seq (.seq (.ops [
  ⟨(some 87), .p (.mov (.s 11)), none, 0⟩,
  ⟨(some 88), .p (.bin .neq (.s 87) (.c (.v (.string ⟨#[]⟩)))), none, 0⟩]) c4_11) c4_12)
def c4_14 : ACode := (.seq (.seq (.draw [
  ⟨(some 76), .m (.load (some 2) (.s 12)), none, 0⟩,
  ⟨(some 77), .qcall (.c (.fn 12 [])) [], none, 0⟩,
  ⟨(some 78), .p (.eqa true [(.int .i64), (.int .i64)] true (.s 76) (.s 77)), none, 0⟩]) c4_10) c4_13)
def c4_15 : ACode := (.seq (.seq (.ops [
  ⟨(some 38), .p (.mov (.s 10)), none, 0⟩,
  ⟨(some 39), .p (.bin .eql (.s 38) (.c (.v (.int .i64 0)))), none, 0⟩]) c4_7) c4_14)
def c4_16 : ACode := (.seq (.ops [
  ⟨(some 13), .p (.mov (.c (.v (.slice none 0 0)))), none, 0⟩]) c4_15)
def c4_17 : ACode := (.seq (.ops [
  ⟨(some 37), .p (.build [(.v (.int .i64 0)), (.v (.int .i64 0))] [(0, 1, (.c (.v (.int .i64 1)))), (1, 1, (.c (.v (.int .i64 0))))]), none, 0⟩,
  ⟨(some 12), .m (.alloc [(.v (.int .i64 0)), (.v (.int .i64 0))]), none, 0⟩,
  ⟨(some 11), .p (.mov (.c (.v (.string ⟨#[]⟩)))), none, 0⟩,
  ⟨none, .m (.store (some 2) (.s 12) (.s 37)), none, 0⟩]) c4_16)
def c4_18 : ACode := (.seq (.seq (.ops [
  ⟨(some 33), .p (.mov (.s 10)), none, 0⟩,
  ⟨(some 34), .p (.bin .eql (.s 33) (.c (.v (.int .i64 10)))), none, 0⟩]) c4_2) c4_17)
def c4_19 : ACode := (.block 1 (.seq (.ops (⟨(some 25), .p (.mov (.s 0)), none, 0⟩ ::
  ⟨(some 26), .p (.nilCheck (.s 25)), none, 0⟩ ::
  ⟨(some 27), .p (.fieldAddr 55 none (.s 26)), none, 0⟩ ::
  ⟨(some 28), .m (.load none (.s 27)), none, 0⟩ ::
  ⟨(some 29), .call (.c (.fn 10 [])) [(.s 28)], none, 0⟩ :: c4_1)) c4_18))
def c4_20 : ACode := (.block 0 (.loop c4_19))
def c4_21 : ACode := (.seq (.ops [
  ⟨(some 16), .p (.mov (.s 0)), none, 0⟩,
  ⟨(some 17), .p (.nilCheck (.s 16)), none, 0⟩,
  ⟨(some 18), .p (.fieldAddr 55 none (.s 17)), none, 0⟩,
  ⟨(some 19), .m (.load none (.s 18)), none, 0⟩,
  ⟨(some 20), .p (.mov (.s 1)), none, 0⟩,
  ⟨(some 21), .p (.bin .add (.s 19) (.s 20)), none, 0⟩,
  ⟨(some 22), .p (.nilCheck (.s 16)), none, 0⟩,
  ⟨(some 23), .p (.fieldAddr 55 none (.s 22)), none, 0⟩,
  ⟨none, .m (.store none (.s 23) (.s 21)), none, 0⟩]) c4_20)
def c4_22 : ACode := (.seq (.ops [
  ⟨(some 7), .p (.mov (.c (.v (.slice none 0 0)))), none, 0⟩]) c4_21)
def c4_23 : ACode := (.seq (.ops [
  ⟨(some 6), .p (.mov (.c (.v (.slice none 0 0)))), none, 0⟩]) c4_22)
def c4_24 : ACode := (.seq (.seq (.ops [
  ⟨(some 14), .p (.mov (.s 0)), none, 0⟩,
  ⟨(some 15), .p (.eqn false (.pointer 43) (.s 14)), none, 0⟩]) c4_0) c4_23)
def c4 : ACode := (.seq (.ops [
  ⟨(some 4), .p (.mov (.c (.v (.slice none 0 0)))), none, 0⟩,
  ⟨(some 5), .p (.mov (.c (.v (.slice none 0 0)))), none, 0⟩]) c4_24)
theorem t4 : trC Tryz.prog Tryz.f4.ntmps (bodyOf Tryz.f4) = some c4 := by kernel_rfl
theorem r4 : Tryz.f4.results.toList.mapM (trR Tryz.prog) = some [.tmp 4, .tmp 5] := by kernel_rfl
def i4 : FI := ⟨105, c4, [.tmp 4, .tmp 5]⟩
theorem k4 : Knows Tryz.prog 4 i4 := ⟨Tryz.f4, bodyOf Tryz.f4, Tryz.func4, by kernel_rfl, by kernel_rfl, t4, r4, by kernel_rfl⟩
-- 5 (*drover/device.Device).Tick []
def c5_0 : ACode := (.cond (.s 7) .ret .skip)
def c5_1 : ACode := (.ops [
  ⟨(some 18), .p (.mov (.s 5)), none, 0⟩,
  ⟨(some 19), .p (.mov (.s 1)), none, 0⟩,
  ⟨(some 20), .call (.c (.fn 14 [])) [(.s 18), (.s 19)], none, 99⟩])
def c5_2 : ACode := (.ops [
  ⟨(some 21), .p (.bin .add (.s 14) (.c (.v (.int .i64 1)))), none, 0⟩,
  ⟨(some 14), .p (.mov (.s 21)), none, 0⟩])
def c5_3 : ACode := (.seq (.block 1 (.seq (.ops [
  ⟨(some 16), .p (.adrSl 1 (.s 12) (.s 14)), none, 0⟩,
  ⟨(some 17), .m (.load none (.s 16)), none, 0⟩,
  ⟨(some 5), .p (.mov (.s 17)), none, 0⟩]) c5_1)) c5_2)
def c5_4 : ACode := (.seq (.cond (.s 15) .skip (.exit 0)) c5_3)
def c5_5 : ACode := (.seq (.ops [
  ⟨(some 15), .p (.bin .lss (.s 14) (.s 13)), none, 0⟩]) c5_4)
def c5_6 : ACode := (.block 0 (.loop c5_5))
def c5_7 : ACode := (.seq (.ops [
  ⟨(some 8), .p (.mov (.s 0)), none, 0⟩,
  ⟨(some 9), .p (.nilCheck (.s 8)), none, 0⟩,
  ⟨(some 10), .p (.fieldAddr 0 (some 4) (.s 9)), none, 0⟩,
  ⟨(some 11), .p (.fieldAddr 2 none (.s 10)), none, 0⟩,
  ⟨(some 12), .m (.load none (.s 11)), none, 0⟩,
  ⟨(some 13), .p (.len false (.s 12)), none, 64⟩,
  ⟨(some 14), .p (.mov (.c (.v (.int .i64 0)))), none, 0⟩]) c5_6)
def c5 : ACode := (.seq (.seq (.ops [
  ⟨(some 6), .p (.mov (.s 0)), none, 0⟩,
  ⟨(some 7), .p (.eqn false (.pointer 43) (.s 6)), none, 0⟩]) c5_0) c5_7)
theorem t5 : trC Tryz.prog Tryz.f5.ntmps (bodyOf Tryz.f5) = some c5 := by kernel_rfl
theorem r5 : Tryz.f5.results.toList.mapM (trR Tryz.prog) = some [] := by kernel_rfl
def i5 : FI := ⟨22, c5, []⟩
theorem k5 : Knows Tryz.prog 5 i5 := ⟨Tryz.f5, bodyOf Tryz.f5, Tryz.func5, by kernel_rfl, by kernel_rfl, t5, r5, by kernel_rfl⟩
-- 6 (*drover/device.Device).Receive []
def c6_0 : List AOper := [
  ⟨(some 14), .p (.un .not (.s 13)), none, 0⟩,
  ⟨(some 15), .p (.mov (.s 14)), none, 0⟩,
  ⟨(some 16), .p (.mov (.s 0)), (some (15, false)), 0⟩,
  ⟨(some 17), .p (.nilCheck (.s 16)), (some (15, false)), 0⟩,
  ⟨(some 18), .p (.fieldAddr 0 (some 4) (.s 17)), (some (15, false)), 0⟩,
  ⟨(some 19), .p (.fieldAddr 3 none (.s 18)), (some (15, false)), 0⟩,
  ⟨(some 20), .m (.load none (.s 19)), (some (15, false)), 0⟩,
  ⟨(some 21), .p (.mov (.s 1)), (some (15, false)), 0⟩,
  ⟨(some 22), .p (.adrSl 1 (.s 20) (.s 21)), (some (15, false)), 0⟩,
  ⟨(some 23), .m (.load none (.s 22)), (some (15, false)), 0⟩,
  ⟨(some 24), .p (.un .not (.s 23)), (some (15, false)), 0⟩,
  ⟨(some 25), .p (.pick (.s 15) (.c (.v (.bool true))) (.s 24)), none, 0⟩]
def c6_1 : ACode := (.cond (.s 25) (.seq (.ops [
  ⟨(some 8), .p (.mov (.c (.v (.slice none 0 0)))), none, 0⟩]) .ret) .skip)
def c6_2 : List AOper := [
  ⟨(some 26), .p (.mov (.s 28)), none, 0⟩,
  ⟨(some 29), .p (.extract (.s 26) 0), none, 0⟩,
  ⟨(some 30), .p (.extract (.s 26) 1), none, 0⟩,
  ⟨(some 9), .m (.alloc [(.v (.int .u64 0)), (.v (.int .u64 0)), (.v (.int .i64 0)), (.v (.int .i64 0)), (.v (.int .u32 0)), (.v (.int .u32 0)), (.v (.int .i64 0)), (.v (.int .i64 0)), (.v (.int .i64 0)), (.v (.int .i64 0)), (.v (.string ⟨#[]⟩))]), none, 0⟩,
  ⟨none, .m (.store (some 11) (.s 9) (.s 29)), none, 0⟩,
  ⟨(some 10), .p (.mov (.s 30)), none, 0⟩]
def c6_3 : ACode := (.cond (.s 32) (.seq (.ops [
  ⟨(some 8), .p (.mov (.c (.v (.slice none 0 0)))), none, 0⟩]) .ret) .skip)
def c6_4 : ACode := (.draw [
  ⟨(some 8), .p (.mov (.s 41)), none, 0⟩])
def c6_5 : ACode := (.seq (.ops [
  ⟨(some 41), .call (.c (.fn 17 [])) [(.s 36), (.s 39), (.s 40)], none, 0⟩]) c6_4)
def c6_6 : ACode := (.seq (.seq (.draw [
  ⟨(some 33), .p (.mov (.s 0)), none, 0⟩,
  ⟨(some 34), .p (.nilCheck (.s 33)), none, 0⟩,
  ⟨(some 35), .p (.fieldAddr 0 (some 4) (.s 34)), none, 0⟩,
  ⟨(some 36), .m (.load (some 4) (.s 35)), none, 0⟩,
  ⟨(some 37), .p (.mov (.s 1)), none, 0⟩,
  ⟨(some 38), .m (.load (some 11) (.s 9)), none, 0⟩,
  ⟨(some 39), .p (.build [(.v (.int .i64 0)), (.v (.int .u64 0)), (.v (.int .u64 0)), (.v (.int .u64 0)), (.v (.int .i64 0)), (.v (.int .i64 0)), (.v (.int .u32 0)), (.v (.int .u32 0)), (.v (.int .i64 0)), (.v (.int .i64 0)), (.v (.int .i64 0)), (.v (.int .i64 0)), (.v (.string ⟨#[]⟩))] [(0, 1, (.s 37)), (2, 11, (.s 38))]), none, 0⟩,
  ⟨(some 40), .p (.mov (.s 3)), none, 0⟩]) c6_5) .ret)
def c6_7 : ACode := (.seq (.seq (.ops [
  ⟨(some 31), .p (.mov (.s 10)), none, 0⟩,
  ⟨(some 32), .p (.bin .neq (.s 31) (.c (.v (.int .i64 0)))), none, 0⟩]) c6_3) c6_6)
def c6_8 : ACode := (.seq (.ops (⟨(some 27), .p (.mov (.s 2)), none, 0⟩ ::
  ⟨(some 28), .call (.c (.fn 16 [])) [(.s 27)], none, 0⟩ :: c6_2)) c6_7)
def c6_9 : ACode := (.seq (.seq (.ops (⟨(some 11), .p (.mov (.s 0)), none, 0⟩ ::
  ⟨(some 12), .p (.mov (.s 1)), none, 0⟩ ::
  ⟨(some 13), .call (.c (.fn 15 [])) [(.s 11), (.s 12)], none, 43⟩ :: c6_0)) c6_1) c6_8)
def c6 : ACode := (.seq (.ops [
  ⟨(some 8), .p (.mov (.c (.v (.slice none 0 0)))), none, 0⟩]) c6_9)
theorem t6 : trC Tryz.prog Tryz.f6.ntmps (bodyOf Tryz.f6) = some c6 := by kernel_rfl
theorem r6 : Tryz.f6.results.toList.mapM (trR Tryz.prog) = some [.tmp 8] := by kernel_rfl
def i6 : FI := ⟨42, c6, [.tmp 8]⟩
theorem k6 : Knows Tryz.prog 6 i6 := ⟨Tryz.f6, bodyOf Tryz.f6, Tryz.func6, by kernel_rfl, by kernel_rfl, t6, r6, by kernel_rfl⟩
-- 7 (*drover/device.Device).Port []
def c7_0 : List AOper := [
  ⟨(some 10), .p (.un .not (.s 9)), none, 0⟩,
  ⟨(some 11), .p (.mov (.s 10)), none, 0⟩,
  ⟨(some 12), .p (.mov (.s 0)), (some (11, false)), 0⟩,
  ⟨(some 13), .p (.nilCheck (.s 12)), (some (11, false)), 0⟩,
  ⟨(some 14), .p (.fieldAddr 0 (some 4) (.s 13)), (some (11, false)), 0⟩,
  ⟨(some 15), .p (.fieldAddr 3 none (.s 14)), (some (11, false)), 0⟩,
  ⟨(some 16), .m (.load none (.s 15)), (some (11, false)), 0⟩,
  ⟨(some 17), .p (.mov (.s 1)), (some (11, false)), 0⟩,
  ⟨(some 18), .p (.adrSl 1 (.s 16) (.s 17)), (some (11, false)), 0⟩,
  ⟨(some 19), .m (.load none (.s 18)), (some (11, false)), 0⟩,
  ⟨(some 20), .p (.mov (.s 2)), (some (11, false)), 0⟩,
  ⟨(some 21), .p (.eqa false [.bool] false (.s 19) (.s 20)), (some (11, false)), 0⟩,
  ⟨(some 22), .p (.pick (.s 11) (.c (.v (.bool true))) (.s 21)), none, 0⟩]
def c7_1 : ACode := (.cond (.s 22) (.seq (.ops [
  ⟨(some 6), .p (.mov (.c (.v (.string ⟨#[]⟩)))), none, 0⟩]) .ret) .skip)
def c7_2 : List AOper := [
  ⟨(some 6), .p (.mov (.s 34)), none, 0⟩]
def c7_3 : ACode := (.seq (.ops (⟨(some 31), .p (.mov (.s 1)), none, 0⟩ ::
  ⟨(some 32), .p (.mov (.s 2)), none, 0⟩ ::
  ⟨(some 33), .p (.build [(.v (.int .i64 0)), (.v (.int .i64 0)), (.v (.int .i64 0)), (.v (.bool false)), (.v (.int .i64 0)), (.v (.int .i64 0)), (.v (.slice none 0 0)), (.v (.slice none 0 0)), (.v (.slice none 0 0)), (.v (.bool false)), (.v (.int .u64 0)), (.v (.int .u64 0)), (.v (.int .i64 0)), (.v (.int .i64 0)), (.v (.int .i64 0)), (.v (.int .i64 0)), (.v (.slice none 0 0)), (.v (.int .i64 0)), (.v (.int .i64 0)), (.v (.int .i64 0)), (.v (.int .i64 0)), (.v (.int .i64 0)), (.v (.int .i64 0)), (.v (.bool false)), (.v (.slice none 0 0)), (.v (.string ⟨#[]⟩))] [(0, 1, (.c (.v (.int .i64 12)))), (22, 1, (.s 31)), (23, 1, (.s 32))]), none, 0⟩ ::
  ⟨(some 34), .call (.c (.fn 18 [])) [(.s 33)], none, 0⟩ :: c7_2)) .ret)
def c7_4 : ACode := (.seq (.ops [
  ⟨(some 23), .p (.mov (.s 0)), none, 0⟩,
  ⟨(some 24), .p (.nilCheck (.s 23)), none, 0⟩,
  ⟨(some 25), .p (.fieldAddr 0 (some 4) (.s 24)), none, 0⟩,
  ⟨(some 26), .p (.fieldAddr 3 none (.s 25)), none, 0⟩,
  ⟨(some 27), .m (.load none (.s 26)), none, 0⟩,
  ⟨(some 28), .p (.mov (.s 1)), none, 0⟩,
  ⟨(some 29), .p (.mov (.s 2)), none, 0⟩,
  ⟨(some 30), .p (.adrSl 1 (.s 27) (.s 28)), none, 0⟩,
  ⟨none, .m (.store none (.s 30) (.s 29)), none, 0⟩]) c7_3)
def c7_5 : ACode := (.seq (.seq (.ops (⟨(some 7), .p (.mov (.s 0)), none, 0⟩ ::
  ⟨(some 8), .p (.mov (.s 1)), none, 0⟩ ::
  ⟨(some 9), .call (.c (.fn 15 [])) [(.s 7), (.s 8)], none, 43⟩ :: c7_0)) c7_1) c7_4)
def c7 : ACode := (.seq (.ops [
  ⟨(some 6), .p (.mov (.c (.v (.string ⟨#[]⟩)))), none, 0⟩]) c7_5)
theorem t7 : trC Tryz.prog Tryz.f7.ntmps (bodyOf Tryz.f7) = some c7 := by kernel_rfl
theorem r7 : Tryz.f7.results.toList.mapM (trR Tryz.prog) = some [.tmp 6] := by kernel_rfl
def i7 : FI := ⟨35, c7, [.tmp 6]⟩
theorem k7 : Knows Tryz.prog 7 i7 := ⟨Tryz.f7, bodyOf Tryz.f7, Tryz.func7, by kernel_rfl, by kernel_rfl, t7, r7, by kernel_rfl⟩
-- 8 (*drover/device.Device).State []
def c8_0 : ACode := (.cond (.s 14) (.seq (.ops [
  ⟨(some 2), .p (.mov (.c (.v (.string ⟨#[]⟩)))), none, 0⟩]) .ret) .skip)
def c8_1 : List AOper := [
  ⟨(some 36), .call (.c (.fn 19 [])) [(.s 3), (.s 35)], none, 0⟩]
def c8_2 : ACode := (.cond (.s 27) (.ops (⟨(some 28), .p (.mov (.s 0)), none, 0⟩ ::
  ⟨(some 29), .p (.mov (.s 4)), none, 0⟩ ::
  ⟨(some 30), .p (.nilCheck (.s 28)), none, 0⟩ ::
  ⟨(some 31), .p (.fieldAddr 4 (some 51) (.s 30)), none, 0⟩ ::
  ⟨(some 32), .p (.adrArr 17 (some 3) (.s 31) (.s 29)), none, 0⟩ ::
  ⟨(some 33), .m (.load (some 3) (.s 32)), none, 0⟩ ::
  ⟨(some 34), .p (.build [(.v (.int .i64 0)), (.v (.int .i64 0)), (.v (.int .i64 0)), (.v (.bool false)), (.v (.int .i64 0)), (.v (.int .i64 0)), (.v (.slice none 0 0)), (.v (.slice none 0 0)), (.v (.slice none 0 0)), (.v (.bool false)), (.v (.int .u64 0)), (.v (.int .u64 0)), (.v (.int .i64 0)), (.v (.int .i64 0)), (.v (.int .i64 0)), (.v (.int .i64 0)), (.v (.slice none 0 0)), (.v (.int .i64 0)), (.v (.int .i64 0)), (.v (.int .i64 0)), (.v (.int .i64 0)), (.v (.int .i64 0)), (.v (.int .i64 0)), (.v (.bool false)), (.v (.slice none 0 0)), (.v (.string ⟨#[]⟩))] [(0, 1, (.c (.v (.int .i64 29)))), (17, 3, (.s 33))]), none, 0⟩ ::
  ⟨(some 35), .call (.c (.fn 18 [])) [(.s 34)], none, 0⟩ :: c8_1)) .skip)
def c8_3 : ACode := (.seq (.ops [
  ⟨(some 26), .p (.mov (.s 5)), none, 0⟩,
  ⟨(some 27), .p (.eqn true (.pointer 99) (.s 26)), none, 0⟩]) c8_2)
def c8_4 : ACode := (.ops [
  ⟨(some 37), .p (.bin .add (.s 21) (.c (.v (.int .i64 1)))), none, 0⟩,
  ⟨(some 21), .p (.mov (.s 37)), none, 0⟩])
def c8_5 : ACode := (.seq (.block 1 (.seq (.ops [
  ⟨(some 23), .p (.mov (.s 21)), none, 0⟩,
  ⟨(some 24), .p (.adrSl 1 (.s 19) (.s 21)), none, 0⟩,
  ⟨(some 25), .m (.load none (.s 24)), none, 0⟩,
  ⟨(some 4), .p (.mov (.s 23)), none, 0⟩,
  ⟨(some 5), .p (.mov (.s 25)), none, 0⟩]) c8_3)) c8_4)
def c8_6 : ACode := (.seq (.cond (.s 22) .skip (.exit 0)) c8_5)
def c8_7 : ACode := (.seq (.ops [
  ⟨(some 22), .p (.bin .lss (.s 21) (.s 20)), none, 0⟩]) c8_6)
def c8_8 : ACode := (.block 0 (.loop c8_7))
def c8_9 : List AOper := [
  ⟨(some 44), .p (.len false (.s 43)), none, 51⟩,
  ⟨(some 45), .p (.mov (.c (.v (.int .i64 0)))), none, 0⟩]
def c8_10 : List AOper := [
  ⟨(some 52), .call (.c (.fn 19 [])) [(.s 3), (.s 51)], none, 0⟩]
def c8_11 : ACode := (.ops (⟨(some 49), .m (.load (some 3) (.s 7)), none, 0⟩ ::
  ⟨(some 50), .p (.build [(.v (.int .i64 0)), (.v (.int .i64 0)), (.v (.int .i64 0)), (.v (.bool false)), (.v (.int .i64 0)), (.v (.int .i64 0)), (.v (.slice none 0 0)), (.v (.slice none 0 0)), (.v (.slice none 0 0)), (.v (.bool false)), (.v (.int .u64 0)), (.v (.int .u64 0)), (.v (.int .i64 0)), (.v (.int .i64 0)), (.v (.int .i64 0)), (.v (.int .i64 0)), (.v (.slice none 0 0)), (.v (.int .i64 0)), (.v (.int .i64 0)), (.v (.int .i64 0)), (.v (.int .i64 0)), (.v (.int .i64 0)), (.v (.int .i64 0)), (.v (.bool false)), (.v (.slice none 0 0)), (.v (.string ⟨#[]⟩))] [(0, 1, (.c (.v (.int .i64 15)))), (14, 3, (.s 49))]), none, 0⟩ ::
  ⟨(some 51), .call (.c (.fn 18 [])) [(.s 50)], none, 0⟩ :: c8_10))
def c8_12 : ACode := (.ops [
  ⟨(some 53), .p (.bin .add (.s 45) (.c (.v (.int .i64 1)))), none, 0⟩,
  ⟨(some 45), .p (.mov (.s 53)), none, 0⟩])
def c8_13 : ACode := (.seq (.block 3 (.seq (.ops [
  ⟨(some 47), .p (.adrSl 3 (.s 43) (.s 45)), none, 0⟩,
  ⟨(some 48), .m (.load (some 3) (.s 47)), none, 0⟩,
  ⟨(some 7), .m (.alloc [(.v (.int .i64 0)), (.v (.int .i64 0)), (.v (.slice none 0 0))]), none, 185⟩,
  ⟨none, .m (.store (some 3) (.s 7) (.s 48)), none, 0⟩]) c8_11)) c8_12)
def c8_14 : ACode := (.seq (.cond (.s 46) .skip (.exit 2)) c8_13)
def c8_15 : ACode := (.seq (.ops [
  ⟨(some 46), .p (.bin .lss (.s 45) (.s 44)), none, 0⟩]) c8_14)
def c8_16 : ACode := (.block 2 (.loop c8_15))
def c8_17 : List AOper := [
  ⟨(some 64), .p (.len false (.s 63)), none, 48⟩,
  ⟨(some 65), .p (.mov (.c (.v (.int .i64 0)))), none, 0⟩]
def c8_18 : List AOper := [
  ⟨(some 72), .call (.c (.fn 19 [])) [(.s 3), (.s 71)], none, 0⟩]
def c8_19 : ACode := (.ops (⟨(some 69), .m (.load (some 10) (.s 10)), none, 0⟩ ::
  ⟨(some 70), .p (.build [(.v (.int .i64 0)), (.v (.int .i64 0)), (.v (.int .i64 0)), (.v (.bool false)), (.v (.int .i64 0)), (.v (.int .i64 0)), (.v (.slice none 0 0)), (.v (.slice none 0 0)), (.v (.slice none 0 0)), (.v (.bool false)), (.v (.int .u64 0)), (.v (.int .u64 0)), (.v (.int .i64 0)), (.v (.int .i64 0)), (.v (.int .i64 0)), (.v (.int .i64 0)), (.v (.slice none 0 0)), (.v (.int .i64 0)), (.v (.int .i64 0)), (.v (.int .i64 0)), (.v (.int .i64 0)), (.v (.int .i64 0)), (.v (.int .i64 0)), (.v (.bool false)), (.v (.slice none 0 0)), (.v (.string ⟨#[]⟩))] [(0, 1, (.c (.v (.int .i64 14)))), (4, 10, (.s 69))]), none, 0⟩ ::
  ⟨(some 71), .call (.c (.fn 18 [])) [(.s 70)], none, 0⟩ :: c8_18))
def c8_20 : ACode := (.ops [
  ⟨(some 73), .p (.bin .add (.s 65) (.c (.v (.int .i64 1)))), none, 0⟩,
  ⟨(some 65), .p (.mov (.s 73)), none, 0⟩])
def c8_21 : ACode := (.seq (.block 7 (.seq (.ops [
  ⟨(some 67), .p (.adrSl 10 (.s 63) (.s 65)), none, 0⟩,
  ⟨(some 68), .m (.load (some 10) (.s 67)), none, 0⟩,
  ⟨(some 10), .m (.alloc [(.v (.int .i64 0)), (.v (.int .i64 0)), (.v (.slice none 0 0)), (.v (.slice none 0 0)), (.v (.slice none 0 0)), (.v (.bool false)), (.v (.int .u64 0)), (.v (.int .u64 0)), (.v (.int .i64 0)), (.v (.int .i64 0))]), none, 189⟩,
  ⟨none, .m (.store (some 10) (.s 10) (.s 68)), none, 0⟩]) c8_19)) c8_20)
def c8_22 : ACode := (.seq (.cond (.s 66) .skip (.exit 6)) c8_21)
def c8_23 : ACode := (.seq (.ops [
  ⟨(some 66), .p (.bin .lss (.s 65) (.s 64)), none, 0⟩]) c8_22)
def c8_24 : ACode := (.block 6 (.loop c8_23))
def c8_25 : ACode := (.seq (.ops (⟨(some 57), .p (.mov (.s 0)), none, 0⟩ ::
  ⟨(some 58), .p (.nilCheck (.s 57)), none, 0⟩ ::
  ⟨(some 59), .p (.fieldAddr 0 (some 4) (.s 58)), none, 0⟩ ::
  ⟨(some 60), .p (.fieldAddr 0 none (.s 59)), none, 0⟩ ::
  ⟨(some 61), .m (.load none (.s 60)), none, 0⟩ ::
  ⟨(some 62), .p (.mov (.s 8)), none, 0⟩ ::
  ⟨(some 63), .call (.c (.fn 21 [])) [(.s 61), (.s 62)], none, 127⟩ :: c8_17)) c8_24)
def c8_26 : ACode := (.ops [
  ⟨(some 74), .p (.bin .add (.s 54) (.c (.v (.int .i64 1)))), none, 0⟩,
  ⟨(some 54), .p (.mov (.s 74)), none, 0⟩])
def c8_27 : ACode := (.seq (.block 5 (.seq (.ops [
  ⟨(some 56), .p (.mov (.s 54)), none, 0⟩,
  ⟨(some 8), .p (.mov (.s 56)), none, 0⟩]) c8_25)) c8_26)
def c8_28 : ACode := (.seq (.cond (.s 55) .skip (.exit 4)) c8_27)
def c8_29 : ACode := (.seq (.ops [
  ⟨(some 55), .p (.bin .lss (.s 54) (.c (.v (.int .i64 8)))), none, 0⟩]) c8_28)
def c8_30 : ACode := (.block 4 (.loop c8_29))
def c8_31 : List AOper := [
  ⟨(some 95), .call (.c (.fn 19 [])) [(.s 3), (.s 94)], none, 0⟩]
def c8_32 : ACode := (.cond (.s 91) (.ops (⟨(some 92), .p (.mov (.s 11)), none, 0⟩ ::
  ⟨(some 93), .p (.build [(.v (.int .i64 0)), (.v (.int .i64 0)), (.v (.int .i64 0)), (.v (.bool false)), (.v (.int .i64 0)), (.v (.int .i64 0)), (.v (.slice none 0 0)), (.v (.slice none 0 0)), (.v (.slice none 0 0)), (.v (.bool false)), (.v (.int .u64 0)), (.v (.int .u64 0)), (.v (.int .i64 0)), (.v (.int .i64 0)), (.v (.int .i64 0)), (.v (.int .i64 0)), (.v (.slice none 0 0)), (.v (.int .i64 0)), (.v (.int .i64 0)), (.v (.int .i64 0)), (.v (.int .i64 0)), (.v (.int .i64 0)), (.v (.int .i64 0)), (.v (.bool false)), (.v (.slice none 0 0)), (.v (.string ⟨#[]⟩))] [(0, 1, (.c (.v (.int .i64 12)))), (22, 1, (.s 92))]), none, 0⟩ ::
  ⟨(some 94), .call (.c (.fn 18 [])) [(.s 93)], none, 0⟩ :: c8_31)) .skip)
def c8_33 : ACode := (.seq (.ops [
  ⟨(some 86), .p (.mov (.s 11)), none, 0⟩,
  ⟨(some 87), .p (.bin .gtr (.s 86) (.c (.v (.int .i64 0)))), none, 0⟩,
  ⟨(some 88), .p (.mov (.s 87)), none, 0⟩,
  ⟨(some 89), .p (.mov (.s 12)), (some (88, true)), 0⟩,
  ⟨(some 90), .p (.un .not (.s 89)), (some (88, true)), 0⟩,
  ⟨(some 91), .p (.pick (.s 88) (.s 90) (.c (.v (.bool false)))), none, 0⟩]) c8_32)
def c8_34 : ACode := (.ops [
  ⟨(some 96), .p (.bin .add (.s 81) (.c (.v (.int .i64 1)))), none, 0⟩,
  ⟨(some 81), .p (.mov (.s 96)), none, 0⟩])
def c8_35 : ACode := (.seq (.block 9 (.seq (.ops [
  ⟨(some 83), .p (.mov (.s 81)), none, 0⟩,
  ⟨(some 84), .p (.adrSl 1 (.s 79) (.s 81)), none, 0⟩,
  ⟨(some 85), .m (.load none (.s 84)), none, 0⟩,
  ⟨(some 11), .p (.mov (.s 83)), none, 0⟩,
  ⟨(some 12), .p (.mov (.s 85)), none, 0⟩]) c8_33)) c8_34)
def c8_36 : ACode := (.seq (.cond (.s 82) .skip (.exit 8)) c8_35)
def c8_37 : ACode := (.seq (.ops [
  ⟨(some 82), .p (.bin .lss (.s 81) (.s 80)), none, 0⟩]) c8_36)
def c8_38 : ACode := (.block 8 (.loop c8_37))
def c8_39 : List AOper := [
  ⟨(some 2), .p (.mov (.s 97)), none, 0⟩]
def c8_40 : ACode := (.seq (.ops (⟨(some 97), .call (.c (.fn 22 [])) [(.s 3)], none, 0⟩ :: c8_39)) .ret)
def c8_41 : ACode := (.seq (.seq (.ops [
  ⟨(some 75), .p (.mov (.s 0)), none, 0⟩,
  ⟨(some 76), .p (.nilCheck (.s 75)), none, 0⟩,
  ⟨(some 77), .p (.fieldAddr 0 (some 4) (.s 76)), none, 0⟩,
  ⟨(some 78), .p (.fieldAddr 3 none (.s 77)), none, 0⟩,
  ⟨(some 79), .m (.load none (.s 78)), none, 0⟩,
  ⟨(some 80), .p (.len false (.s 79)), none, 4⟩,
  ⟨(some 81), .p (.mov (.c (.v (.int .i64 0)))), none, 0⟩]) c8_38) c8_40)
def c8_42 : ACode := (.seq (.seq (.ops [
  ⟨(some 54), .p (.mov (.c (.v (.int .i64 0)))), none, 0⟩]) c8_30) c8_41)
def c8_43 : ACode := (.seq (.seq (.ops (⟨(some 38), .p (.mov (.s 0)), none, 0⟩ ::
  ⟨(some 39), .p (.nilCheck (.s 38)), none, 0⟩ ::
  ⟨(some 40), .p (.fieldAddr 0 (some 4) (.s 39)), none, 0⟩ ::
  ⟨(some 41), .p (.fieldAddr 1 none (.s 40)), none, 0⟩ ::
  ⟨(some 42), .m (.load none (.s 41)), none, 0⟩ ::
  ⟨(some 43), .call (.c (.fn 20 [])) [(.s 42)], none, 123⟩ :: c8_9)) c8_16) c8_42)
def c8_44 : ACode := (.seq (.seq (.ops [
  ⟨(some 15), .p (.mov (.s 0)), none, 0⟩,
  ⟨(some 16), .p (.nilCheck (.s 15)), none, 0⟩,
  ⟨(some 17), .p (.fieldAddr 0 (some 4) (.s 16)), none, 0⟩,
  ⟨(some 18), .p (.fieldAddr 2 none (.s 17)), none, 0⟩,
  ⟨(some 19), .m (.load none (.s 18)), none, 0⟩,
  ⟨(some 20), .p (.len false (.s 19)), none, 64⟩,
  ⟨(some 21), .p (.mov (.c (.v (.int .i64 0)))), none, 0⟩]) c8_8) c8_43)
def c8_45 : ACode := (.seq (.ops [
  ⟨(some 3), .m (.ext (.allocT 79 [(.v (.pointer none)), (.v (.slice none 0 0))])), none, 5⟩]) c8_44)
def c8_46 : ACode := (.seq (.seq (.ops [
  ⟨(some 13), .p (.mov (.s 0)), none, 0⟩,
  ⟨(some 14), .p (.eqn false (.pointer 43) (.s 13)), none, 0⟩]) c8_0) c8_45)
def c8 : ACode := (.seq (.ops [
  ⟨(some 2), .p (.mov (.c (.v (.string ⟨#[]⟩)))), none, 0⟩]) c8_46)
theorem t8 : trC Tryz.prog Tryz.f8.ntmps (bodyOf Tryz.f8) = some c8 := by kernel_rfl
theorem r8 : Tryz.f8.results.toList.mapM (trR Tryz.prog) = some [.tmp 2] := by kernel_rfl
def i8 : FI := ⟨98, c8, [.tmp 2]⟩
theorem k8 : Knows Tryz.prog 8 i8 := ⟨Tryz.f8, bodyOf Tryz.f8, Tryz.func8, by kernel_rfl, by kernel_rfl, t8, r8, by kernel_rfl⟩
-- 15 (*drover/device.Device).has []
def c15_0 : ACode := (.seq (.ops [
  ⟨(some 5), .p (.mov (.s 0)), none, 0⟩,
  ⟨(some 6), .p (.eqn true (.pointer 43) (.s 5)), none, 0⟩,
  ⟨(some 7), .p (.mov (.s 6)), none, 0⟩,
  ⟨(some 8), .p (.mov (.s 1)), (some (7, true)), 0⟩,
  ⟨(some 9), .p (.bin .geq (.s 8) (.c (.v (.int .i64 1)))), (some (7, true)), 0⟩,
  ⟨(some 10), .p (.pick (.s 7) (.s 9) (.c (.v (.bool false)))), none, 0⟩,
  ⟨(some 11), .p (.mov (.s 10)), none, 0⟩,
  ⟨(some 12), .p (.mov (.s 1)), (some (11, true)), 0⟩,
  ⟨(some 13), .p (.mov (.s 0)), (some (11, true)), 0⟩,
  ⟨(some 14), .p (.nilCheck (.s 13)), (some (11, true)), 0⟩,
  ⟨(some 15), .p (.fieldAddr 0 (some 4) (.s 14)), (some (11, true)), 0⟩,
  ⟨(some 16), .p (.fieldAddr 3 none (.s 15)), (some (11, true)), 0⟩,
  ⟨(some 17), .m (.load none (.s 16)), (some (11, true)), 0⟩,
  ⟨(some 18), .p (.len false (.s 17)), (some (11, true)), 4⟩,
  ⟨(some 19), .p (.bin .lss (.s 12) (.s 18)), (some (11, true)), 0⟩,
  ⟨(some 20), .p (.pick (.s 11) (.s 19) (.c (.v (.bool false)))), none, 0⟩,
  ⟨(some 4), .p (.mov (.s 20)), none, 0⟩]) .ret)
def c15 : ACode := (.seq (.ops [
  ⟨(some 4), .p (.mov (.c (.v (.bool false)))), none, 0⟩]) c15_0)
theorem t15 : trC Tryz.prog Tryz.f15.ntmps (bodyOf Tryz.f15) = some c15 := by kernel_rfl
theorem r15 : Tryz.f15.results.toList.mapM (trR Tryz.prog) = some [.tmp 4] := by kernel_rfl
def i15 : FI := ⟨21, c15, [.tmp 4]⟩
theorem k15 : Knows Tryz.prog 15 i15 := ⟨Tryz.f15, bodyOf Tryz.f15, Tryz.func15, by kernel_rfl, by kernel_rfl, t15, r15, by kernel_rfl⟩
end Go.Proofs.Dnl
