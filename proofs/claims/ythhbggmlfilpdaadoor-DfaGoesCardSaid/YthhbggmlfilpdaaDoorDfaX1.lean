/- A part of a law's proof: DfaX1. -/
import Derived.KernelRfl
import Derived.Test.YthhbggmlfilpdaaDoorDfaX0
import Derived.Test.YthhbggmlfilpdaaDoorProg
import Derived.Test.YthhbggmlfilpdaaDoorSvCod
set_option linter.unusedSimpArgs false
set_option linter.constructorNameAsVariable false
namespace Go.Proofs.Dfa
open Go Go.Ab Go.Proofs
set_option linter.unusedVariables false
-- 31 drover/dfa.Same []
def c31_0 : List AOper := [
  ⟨(some 21), .p (.un .not (.s 20)), (some (18, false)), 0⟩,
  ⟨(some 22), .p (.pick (.s 18) (.c (.v (.bool true))) (.s 21)), none, 0⟩,
  ⟨(some 23), .p (.mov (.s 22)), none, 0⟩,
  ⟨(some 24), .p (.fieldAddr 0 none (.s 5)), (some (23, false)), 0⟩,
  ⟨(some 25), .m (.load none (.s 24)), (some (23, false)), 0⟩,
  ⟨(some 26), .p (.fieldAddr 0 none (.s 6)), (some (23, false)), 0⟩,
  ⟨(some 27), .m (.load none (.s 26)), (some (23, false)), 0⟩,
  ⟨(some 28), .p (.bin .neq (.s 25) (.s 27)), (some (23, false)), 0⟩,
  ⟨(some 29), .p (.pick (.s 23) (.c (.v (.bool true))) (.s 28)), none, 0⟩,
  ⟨(some 30), .p (.mov (.s 29)), none, 0⟩,
  ⟨(some 31), .p (.fieldAddr 1 none (.s 5)), (some (30, false)), 0⟩,
  ⟨(some 32), .m (.load none (.s 31)), (some (30, false)), 0⟩,
  ⟨(some 33), .p (.len false (.s 32)), (some (30, false)), 40⟩,
  ⟨(some 34), .p (.fieldAddr 1 none (.s 6)), (some (30, false)), 0⟩,
  ⟨(some 35), .m (.load none (.s 34)), (some (30, false)), 0⟩,
  ⟨(some 36), .p (.len false (.s 35)), (some (30, false)), 40⟩,
  ⟨(some 37), .p (.bin .neq (.s 33) (.s 36)), (some (30, false)), 0⟩,
  ⟨(some 38), .p (.pick (.s 30) (.c (.v (.bool true))) (.s 37)), none, 0⟩]
def c31_1 : List AOper := (⟨(some 17), .p (.un .not (.s 16)), none, 0⟩ ::
  ⟨(some 18), .p (.mov (.s 17)), none, 0⟩ ::
  ⟨(some 19), .m (.load (some 3) (.s 3)), (some (18, false)), 0⟩ ::
  ⟨(some 20), .call (.c (.fn 19 [])) [(.s 19)], (some (18, false)), 0⟩ :: c31_0)
def c31_2 : ACode := (.cond (.s 38) (.seq (.ops [
  ⟨(some 4), .p (.mov (.c (.v (.bool false)))), none, 0⟩]) .ret) .skip)
def c31_3 : ACode := (.cond (.s 57) (.seq (.ops [
  ⟨(some 4), .p (.mov (.c (.v (.bool false)))), none, 0⟩]) .ret) .skip)
def c31_4 : ACode := (.cond (.s 74) (.seq (.ops [
  ⟨(some 4), .p (.mov (.c (.v (.bool false)))), none, 0⟩]) .ret) .skip)
def c31_5 : ACode := (.seq (.ops [
  ⟨(some 65), .p (.fieldAddr 1 none (.s 6)), none, 0⟩,
  ⟨(some 66), .m (.load none (.s 65)), none, 0⟩,
  ⟨(some 67), .p (.mov (.s 7)), none, 0⟩,
  ⟨(some 68), .p (.adrSl 1 (.s 66) (.s 67)), none, 0⟩,
  ⟨(some 69), .m (.load none (.s 68)), none, 0⟩,
  ⟨(some 70), .p (.mov (.s 9)), none, 0⟩,
  ⟨(some 71), .p (.adrSl 1 (.s 69) (.s 70)), none, 0⟩,
  ⟨(some 72), .m (.load none (.s 71)), none, 0⟩,
  ⟨(some 73), .p (.mov (.s 10)), none, 0⟩,
  ⟨(some 74), .p (.bin .neq (.s 72) (.s 73)), none, 0⟩]) c31_4)
def c31_6 : ACode := (.ops [
  ⟨(some 75), .p (.bin .add (.s 60) (.c (.v (.int .i64 1)))), none, 0⟩,
  ⟨(some 60), .p (.mov (.s 75)), none, 0⟩])
def c31_7 : ACode := (.seq (.block 3 (.seq (.ops [
  ⟨(some 62), .p (.mov (.s 60)), none, 0⟩,
  ⟨(some 63), .p (.adrSl 1 (.s 58) (.s 60)), none, 0⟩,
  ⟨(some 64), .m (.load none (.s 63)), none, 0⟩,
  ⟨(some 9), .p (.mov (.s 62)), none, 0⟩,
  ⟨(some 10), .p (.mov (.s 64)), none, 0⟩]) c31_5)) c31_6)
def c31_8 : ACode := (.seq (.cond (.s 61) .skip (.exit 2)) c31_7)
def c31_9 : ACode := (.seq (.ops [
  ⟨(some 61), .p (.bin .lss (.s 60) (.s 59)), none, 0⟩]) c31_8)
def c31_10 : ACode := (.block 2 (.loop c31_9))
def c31_11 : ACode := (.seq (.ops [
  ⟨(some 58), .p (.mov (.s 8)), none, 0⟩,
  ⟨(some 59), .p (.len false (.s 58)), none, 3⟩,
  ⟨(some 60), .p (.mov (.c (.v (.int .i64 0)))), none, 0⟩]) c31_10)
def c31_12 : ACode := (.seq (.seq (.draw [
  ⟨(some 47), .p (.fieldAddr 2 none (.s 5)), none, 0⟩,
  ⟨(some 48), .m (.load none (.s 47)), none, 0⟩,
  ⟨(some 49), .p (.mov (.s 7)), none, 0⟩,
  ⟨(some 50), .p (.adrSl 1 (.s 48) (.s 49)), none, 0⟩,
  ⟨(some 51), .m (.load none (.s 50)), none, 0⟩,
  ⟨(some 52), .p (.fieldAddr 2 none (.s 6)), none, 0⟩,
  ⟨(some 53), .m (.load none (.s 52)), none, 0⟩,
  ⟨(some 54), .p (.mov (.s 7)), none, 0⟩,
  ⟨(some 55), .p (.adrSl 1 (.s 53) (.s 54)), none, 0⟩,
  ⟨(some 56), .m (.load none (.s 55)), none, 0⟩,
  ⟨(some 57), .p (.eqa true [.bool] false (.s 51) (.s 56)), none, 0⟩]) c31_3) c31_11)
def c31_13 : ACode := (.ops [
  ⟨(some 76), .p (.bin .add (.s 42) (.c (.v (.int .i64 1)))), none, 0⟩,
  ⟨(some 42), .p (.mov (.s 76)), none, 0⟩])
def c31_14 : ACode := (.seq (.block 1 (.seq (.ops [
  ⟨(some 44), .p (.mov (.s 42)), none, 0⟩,
  ⟨(some 45), .p (.adrSl 1 (.s 40) (.s 42)), none, 0⟩,
  ⟨(some 46), .m (.load none (.s 45)), none, 0⟩,
  ⟨(some 7), .p (.mov (.s 44)), none, 0⟩,
  ⟨(some 8), .p (.mov (.s 46)), none, 0⟩]) c31_12)) c31_13)
def c31_15 : ACode := (.seq (.cond (.s 43) .skip (.exit 0)) c31_14)
def c31_16 : ACode := (.seq (.ops [
  ⟨(some 43), .p (.bin .lss (.s 42) (.s 41)), none, 0⟩]) c31_15)
def c31_17 : ACode := (.block 0 (.loop c31_16))
def c31_18 : ACode := (.seq (.ops [
  ⟨(some 4), .p (.mov (.c (.v (.bool true)))), none, 0⟩]) .ret)
def c31_19 : ACode := (.seq (.seq (.ops [
  ⟨(some 39), .p (.fieldAddr 1 none (.s 5)), none, 0⟩,
  ⟨(some 40), .m (.load none (.s 39)), none, 0⟩,
  ⟨(some 41), .p (.len false (.s 40)), none, 40⟩,
  ⟨(some 42), .p (.mov (.c (.v (.int .i64 0)))), none, 0⟩]) c31_17) c31_18)
def c31_20 : ACode := (.seq (.seq (.ops (⟨(some 15), .m (.load (some 3) (.s 2)), none, 0⟩ ::
  ⟨(some 16), .call (.c (.fn 19 [])) [(.s 15)], none, 0⟩ :: c31_1)) c31_2) c31_19)
def c31_21 : ACode := (.seq (.drawk [
  ⟨(some 11), .m (.load (some 3) (.s 2)), none, 0⟩,
  ⟨(some 12), .pcall (.c (.fn 28 [])) [(.s 11)], none, 0⟩,
  ⟨(some 13), .m (.load (some 3) (.s 3)), none, 0⟩,
  ⟨(some 14), .pcall (.c (.fn 28 [])) [(.s 13)], none, 0⟩,
  ⟨(some 5), .m (.alloc [(.v (.int .i64 0)), (.v (.slice none 0 0)), (.v (.slice none 0 0))]), none, 40⟩,
  ⟨(some 6), .m (.alloc [(.v (.int .i64 0)), (.v (.slice none 0 0)), (.v (.slice none 0 0))]), none, 40⟩,
  ⟨none, .m (.store (some 3) (.s 5) (.s 12)), none, 0⟩,
  ⟨none, .m (.store (some 3) (.s 6) (.s 14)), none, 0⟩] [false, false, false, false, false, false, false, false]) c31_20)
def c31 : ACode := (.seq (.ops [
  ⟨(some 2), .m (.box (.s 0)), none, 0⟩,
  ⟨(some 3), .m (.box (.s 1)), none, 0⟩,
  ⟨(some 4), .p (.mov (.c (.v (.bool false)))), none, 0⟩]) c31_21)
theorem t31 : trC Tryd.prog Tryd.f31.ntmps (bodyOf Tryd.f31) = some c31 := by kernel_rfl
theorem r31 : Tryd.f31.results.toList.mapM (trR Tryd.prog) = some [.tmp 4] := by kernel_rfl
def i31 : FI := ⟨77, c31, [.tmp 4]⟩
theorem k31 : Knows Tryd.prog 31 i31 := ⟨Tryd.f31, bodyOf Tryd.f31, Tryd.func31, by kernel_rfl, by kernel_rfl, t31, r31, by kernel_rfl⟩
-- 33 drover/dfa.Both []
def c33_0 : List AOper := [
  ⟨(some 10), .p (.extract (.s 9) 0), none, 0⟩,
  ⟨(some 11), .p (.extract (.s 9) 1), none, 0⟩,
  ⟨none, .m (.store (some 3) (.s 4) (.s 10)), none, 0⟩,
  ⟨(some 5), .p (.mov (.s 11)), none, 0⟩]
def c33_1 : ACode := (.seq (.ops (⟨(some 6), .m (.load (some 3) (.s 2)), none, 0⟩ ::
  ⟨(some 7), .m (.load (some 3) (.s 3)), none, 0⟩ ::
  ⟨(some 8), .p (.mkFn 59 [(.s 2), (.s 3)]), none, 0⟩ ::
  ⟨(some 9), .call (.c (.fn 58 [])) [(.s 6), (.s 7), (.s 8)], none, 0⟩ :: c33_0)) .ret)
def c33 : ACode := (.seq (.ops [
  ⟨(some 2), .m (.box (.s 0)), none, 0⟩,
  ⟨(some 3), .m (.box (.s 1)), none, 0⟩,
  ⟨(some 4), .m (.alloc [(.v (.int .i64 0)), (.v (.slice none 0 0)), (.v (.slice none 0 0))]), none, 40⟩,
  ⟨(some 5), .p (.mov (.c (.v (.int .i64 0)))), none, 0⟩]) c33_1)
theorem t33 : trC Tryd.prog Tryd.f33.ntmps (bodyOf Tryd.f33) = some c33 := by kernel_rfl
theorem r33 : Tryd.f33.results.toList.mapM (trR Tryd.prog) = some [.cell 4 (some 3), .tmp 5] := by kernel_rfl
def i33 : FI := ⟨12, c33, [.cell 4 (some 3), .tmp 5]⟩
theorem k33 : Knows Tryd.prog 33 i33 := ⟨Tryd.f33, bodyOf Tryd.f33, Tryd.func33, by kernel_rfl, by kernel_rfl, t33, r33, by kernel_rfl⟩
-- 35 drover/dfa.Less []
def c35_0 : List AOper := [
  ⟨(some 10), .p (.extract (.s 9) 0), none, 0⟩,
  ⟨(some 11), .p (.extract (.s 9) 1), none, 0⟩,
  ⟨none, .m (.store (some 3) (.s 4) (.s 10)), none, 0⟩,
  ⟨(some 5), .p (.mov (.s 11)), none, 0⟩]
def c35_1 : ACode := (.seq (.ops (⟨(some 6), .m (.load (some 3) (.s 2)), none, 0⟩ ::
  ⟨(some 7), .m (.load (some 3) (.s 3)), none, 0⟩ ::
  ⟨(some 8), .p (.mkFn 60 [(.s 2), (.s 3)]), none, 0⟩ ::
  ⟨(some 9), .call (.c (.fn 58 [])) [(.s 6), (.s 7), (.s 8)], none, 0⟩ :: c35_0)) .ret)
def c35 : ACode := (.seq (.ops [
  ⟨(some 2), .m (.box (.s 0)), none, 0⟩,
  ⟨(some 3), .m (.box (.s 1)), none, 0⟩,
  ⟨(some 4), .m (.alloc [(.v (.int .i64 0)), (.v (.slice none 0 0)), (.v (.slice none 0 0))]), none, 40⟩,
  ⟨(some 5), .p (.mov (.c (.v (.int .i64 0)))), none, 0⟩]) c35_1)
theorem t35 : trC Tryd.prog Tryd.f35.ntmps (bodyOf Tryd.f35) = some c35 := by kernel_rfl
theorem r35 : Tryd.f35.results.toList.mapM (trR Tryd.prog) = some [.cell 4 (some 3), .tmp 5] := by kernel_rfl
def i35 : FI := ⟨12, c35, [.cell 4 (some 3), .tmp 5]⟩
theorem k35 : Knows Tryd.prog 35 i35 := ⟨Tryd.f35, bodyOf Tryd.f35, Tryd.func35, by kernel_rfl, by kernel_rfl, t35, r35, by kernel_rfl⟩
-- 36 drover/droverref19.Same []
def c36_0 : ACode := (.draw [
  ⟨(some 7), .p (.mov (.s 6)), none, 0⟩,
  ⟨(some 8), .m (.load (some 3) (.s 3)), (some (7, true)), 0⟩,
  ⟨(some 9), .call (.c (.fn 20 [])) [(.s 8)], (some (7, true)), 0⟩,
  ⟨(some 10), .p (.pick (.s 7) (.s 9) (.c (.v (.bool false)))), none, 0⟩,
  ⟨(some 11), .p (.mov (.s 10)), none, 0⟩,
  ⟨(some 12), .m (.load (some 3) (.s 2)), (some (11, true)), 0⟩,
  ⟨(some 13), .qcall (.c (.fn 27 [])) [(.s 12)], (some (11, true)), 0⟩,
  ⟨(some 14), .m (.load (some 3) (.s 3)), (some (11, true)), 0⟩,
  ⟨(some 15), .call (.c (.fn 27 [])) [(.s 14)], (some (11, true)), 0⟩,
  ⟨(some 16), .call (.c (.fn 14 [])) [(.s 13), (.s 15)], (some (11, true)), 0⟩,
  ⟨(some 17), .p (.pick (.s 11) (.s 16) (.c (.v (.bool false)))), none, 0⟩,
  ⟨(some 4), .p (.mov (.s 17)), none, 0⟩])
def c36_1 : ACode := (.seq (.ops [
  ⟨(some 6), .call (.c (.fn 20 [])) [(.s 5)], none, 0⟩]) c36_0)
def c36_2 : ACode := (.seq (.seq (.draw [
  ⟨(some 5), .m (.load (some 3) (.s 2)), none, 0⟩]) c36_1) .ret)
def c36 : ACode := (.seq (.ops [
  ⟨(some 2), .m (.box (.s 0)), none, 0⟩,
  ⟨(some 3), .m (.box (.s 1)), none, 0⟩,
  ⟨(some 4), .p (.mov (.c (.v (.bool false)))), none, 0⟩]) c36_2)
theorem t36 : trC Tryd.prog Tryd.f36.ntmps (bodyOf Tryd.f36) = some c36 := by kernel_rfl
theorem r36 : Tryd.f36.results.toList.mapM (trR Tryd.prog) = some [.tmp 4] := by kernel_rfl
def i36 : FI := ⟨18, c36, [.tmp 4]⟩
theorem k36 : Knows Tryd.prog 36 i36 := ⟨Tryd.f36, bodyOf Tryd.f36, Tryd.func36, by kernel_rfl, by kernel_rfl, t36, r36, by kernel_rfl⟩
-- 53 drover/droverref19.Classes []
def c53_0 : ACode := (.cond (.s 18) .skip (.exit 0))
def c53_1 : ACode := (.cond (.s 25) (.ops [
  ⟨(some 26), .p (.mov (.s 3)), none, 0⟩,
  ⟨(some 27), .p (.mov (.s 4)), none, 0⟩,
  ⟨(some 28), .p (.adrSl 1 (.s 26) (.s 27)), none, 0⟩,
  ⟨none, .m (.store none (.s 28) (.c (.v (.int .i64 1)))), none, 0⟩]) .skip)
def c53_2 : ACode := (.ops [
  ⟨(some 19), .p (.mov (.s 4)), none, 0⟩,
  ⟨(some 20), .p (.bin .add (.s 19) (.c (.v (.int .i64 1)))), none, 0⟩,
  ⟨(some 4), .p (.mov (.s 20)), none, 0⟩])
def c53_3 : ACode := (.seq (.block 1 (.seq (.ops [
  ⟨(some 21), .p (.fieldAddr 2 none (.s 1)), none, 0⟩,
  ⟨(some 22), .m (.load none (.s 21)), none, 0⟩,
  ⟨(some 23), .p (.mov (.s 4)), none, 0⟩,
  ⟨(some 24), .p (.adrSl 1 (.s 22) (.s 23)), none, 0⟩,
  ⟨(some 25), .m (.load none (.s 24)), none, 0⟩]) c53_1)) c53_2)
def c53_4 : ACode := (.seq (.seq (.ops [
  ⟨(some 14), .p (.mov (.s 4)), none, 0⟩,
  ⟨(some 15), .p (.fieldAddr 1 none (.s 1)), none, 0⟩,
  ⟨(some 16), .m (.load none (.s 15)), none, 0⟩,
  ⟨(some 17), .p (.len false (.s 16)), none, 40⟩,
  ⟨(some 18), .p (.bin .lss (.s 14) (.s 17)), none, 0⟩]) c53_0) c53_3)
def c53_5 : ACode := (.block 0 (.loop c53_4))
def c53_6 : ACode := (.cond (.s 33) .skip (.exit 2))
def c53_7 : ACode := (.cond (.s 44) .skip (.exit 4))
def c53_8 : ACode := (.cond (.s 53) .skip (.exit 6))
def c53_9 : List AOper := [
  ⟨(some 68), .p (.pick (.s 62) (.s 67) (.c (.v (.bool false)))), none, 0⟩]
def c53_10 : ACode := (.cond (.s 68) (.ops [
  ⟨(some 69), .p (.mov (.s 6)), none, 0⟩,
  ⟨(some 70), .p (.mov (.s 8)), none, 0⟩,
  ⟨(some 71), .p (.mov (.s 6)), none, 0⟩,
  ⟨(some 72), .p (.mov (.s 9)), none, 0⟩,
  ⟨(some 73), .p (.adrSl 1 (.s 71) (.s 72)), none, 0⟩,
  ⟨(some 74), .m (.load none (.s 73)), none, 0⟩,
  ⟨(some 75), .p (.adrSl 1 (.s 69) (.s 70)), none, 0⟩,
  ⟨none, .m (.store none (.s 75) (.s 74)), none, 0⟩]) .skip)
def c53_11 : ACode := (.ops [
  ⟨(some 54), .p (.mov (.s 9)), none, 0⟩,
  ⟨(some 55), .p (.bin .add (.s 54) (.c (.v (.int .i64 1)))), none, 0⟩,
  ⟨(some 9), .p (.mov (.s 55)), none, 0⟩])
def c53_12 : ACode := (.seq (.block 7 (.seq (.ops (⟨(some 56), .p (.mov (.s 6)), none, 0⟩ ::
  ⟨(some 57), .p (.mov (.s 8)), none, 0⟩ ::
  ⟨(some 58), .p (.adrSl 1 (.s 56) (.s 57)), none, 0⟩ ::
  ⟨(some 59), .m (.load none (.s 58)), none, 0⟩ ::
  ⟨(some 60), .p (.mov (.s 8)), none, 0⟩ ::
  ⟨(some 61), .p (.bin .eql (.s 59) (.s 60)), none, 0⟩ ::
  ⟨(some 62), .p (.mov (.s 61)), none, 0⟩ ::
  ⟨(some 63), .m (.load (some 3) (.s 1)), (some (62, true)), 0⟩ ::
  ⟨(some 64), .p (.mov (.s 3)), (some (62, true)), 0⟩ ::
  ⟨(some 65), .p (.mov (.s 8)), (some (62, true)), 0⟩ ::
  ⟨(some 66), .p (.mov (.s 9)), (some (62, true)), 0⟩ ::
  ⟨(some 67), .call (.c (.fn 69 [])) [(.s 63), (.s 64), (.s 65), (.s 66)], (some (62, true)), 0⟩ :: c53_9)) c53_10)) c53_11)
def c53_13 : ACode := (.seq (.seq (.ops [
  ⟨(some 51), .p (.mov (.s 9)), none, 0⟩,
  ⟨(some 52), .p (.mov (.s 8)), none, 0⟩,
  ⟨(some 53), .p (.bin .lss (.s 51) (.s 52)), none, 0⟩]) c53_8) c53_12)
def c53_14 : ACode := (.block 6 (.loop c53_13))
def c53_15 : ACode := (.draw [
  ⟨(some 76), .p (.mov (.s 7)), none, 0⟩,
  ⟨(some 77), .p (.mov (.s 76)), none, 0⟩,
  ⟨(some 78), .p (.mov (.s 6)), (some (77, true)), 0⟩,
  ⟨(some 79), .p (.mov (.s 8)), (some (77, true)), 0⟩,
  ⟨(some 80), .p (.adrSl 1 (.s 78) (.s 79)), (some (77, true)), 0⟩,
  ⟨(some 81), .m (.load none (.s 80)), (some (77, true)), 0⟩,
  ⟨(some 82), .p (.mov (.s 3)), (some (77, true)), 0⟩,
  ⟨(some 83), .p (.mov (.s 8)), (some (77, true)), 0⟩,
  ⟨(some 84), .p (.adrSl 1 (.s 82) (.s 83)), (some (77, true)), 0⟩,
  ⟨(some 85), .m (.load none (.s 84)), (some (77, true)), 0⟩,
  ⟨(some 86), .p (.bin .eql (.s 81) (.s 85)), (some (77, true)), 0⟩,
  ⟨(some 87), .p (.pick (.s 77) (.s 86) (.c (.v (.bool false)))), none, 0⟩,
  ⟨(some 7), .p (.mov (.s 87)), none, 0⟩])
def c53_16 : ACode := (.seq (.seq (.ops [
  ⟨(some 9), .p (.mov (.c (.v (.int .i64 0)))), none, 0⟩]) c53_14) c53_15)
def c53_17 : ACode := (.ops [
  ⟨(some 45), .p (.mov (.s 8)), none, 0⟩,
  ⟨(some 46), .p (.bin .add (.s 45) (.c (.v (.int .i64 1)))), none, 0⟩,
  ⟨(some 8), .p (.mov (.s 46)), none, 0⟩])
def c53_18 : ACode := (.seq (.block 5 (.seq (.ops [
  ⟨(some 47), .p (.mov (.s 6)), none, 0⟩,
  ⟨(some 48), .p (.mov (.s 8)), none, 0⟩,
  ⟨(some 49), .p (.mov (.s 8)), none, 0⟩,
  ⟨(some 50), .p (.adrSl 1 (.s 47) (.s 48)), none, 0⟩,
  ⟨none, .m (.store none (.s 50) (.s 49)), none, 0⟩]) c53_16)) c53_17)
def c53_19 : ACode := (.seq (.seq (.ops [
  ⟨(some 40), .p (.mov (.s 8)), none, 0⟩,
  ⟨(some 41), .p (.fieldAddr 1 none (.s 1)), none, 0⟩,
  ⟨(some 42), .m (.load none (.s 41)), none, 0⟩,
  ⟨(some 43), .p (.len false (.s 42)), none, 40⟩,
  ⟨(some 44), .p (.bin .lss (.s 40) (.s 43)), none, 0⟩]) c53_7) c53_18)
def c53_20 : ACode := (.block 4 (.loop c53_19))
def c53_21 : ACode := (.cond (.s 89) (.seq (.ops [
  ⟨(some 90), .p (.mov (.s 3)), none, 0⟩,
  ⟨(some 2), .p (.mov (.s 90)), none, 0⟩]) .ret) .skip)
def c53_22 : ACode := (.seq (.ops [
  ⟨(some 89), .p (.mov (.s 7)), none, 0⟩]) c53_21)
def c53_23 : ACode := (.seq (.ops [
  ⟨(some 88), .p (.mov (.s 6)), none, 0⟩,
  ⟨(some 3), .p (.mov (.s 88)), none, 0⟩]) c53_22)
def c53_24 : ACode := (.seq (.seq (.ops [
  ⟨(some 8), .p (.mov (.c (.v (.int .i64 0)))), none, 0⟩]) c53_20) c53_23)
def c53_25 : ACode := (.seq (.ops [
  ⟨(some 7), .p (.mov (.c (.v (.bool true)))), none, 0⟩]) c53_24)
def c53_26 : ACode := (.ops [
  ⟨(some 34), .p (.mov (.s 5)), none, 0⟩,
  ⟨(some 35), .p (.bin .add (.s 34) (.c (.v (.int .i64 1)))), none, 0⟩,
  ⟨(some 5), .p (.mov (.s 35)), none, 0⟩])
def c53_27 : ACode := (.seq (.block 3 (.seq (.ops [
  ⟨(some 36), .p (.fieldAddr 1 none (.s 1)), none, 0⟩,
  ⟨(some 37), .m (.load none (.s 36)), none, 0⟩,
  ⟨(some 38), .p (.len false (.s 37)), none, 40⟩,
  ⟨(some 39), .m (.mkSlice 1 8 [(.v (.int .i64 0))] (.s 38) (.s 38)), none, 3⟩,
  ⟨(some 6), .p (.mov (.s 39)), none, 0⟩]) c53_25)) c53_26)
def c53_28 : ACode := (.seq (.seq (.ops [
  ⟨(some 29), .p (.mov (.s 5)), none, 0⟩,
  ⟨(some 30), .p (.fieldAddr 1 none (.s 1)), none, 0⟩,
  ⟨(some 31), .m (.load none (.s 30)), none, 0⟩,
  ⟨(some 32), .p (.len false (.s 31)), none, 40⟩,
  ⟨(some 33), .p (.bin .leq (.s 29) (.s 32)), none, 0⟩]) c53_6) c53_27)
def c53_29 : ACode := (.block 2 (.loop c53_28))
def c53_30 : ACode := (.seq (.ops [
  ⟨(some 91), .p (.mov (.s 3)), none, 0⟩,
  ⟨(some 2), .p (.mov (.s 91)), none, 0⟩]) .ret)
def c53_31 : ACode := (.seq (.seq (.ops [
  ⟨(some 5), .p (.mov (.c (.v (.int .i64 0)))), none, 0⟩]) c53_29) c53_30)
def c53_32 : ACode := (.seq (.seq (.ops [
  ⟨(some 4), .p (.mov (.c (.v (.int .i64 0)))), none, 0⟩]) c53_5) c53_31)
def c53_33 : ACode := (.seq (.ops [
  ⟨(some 10), .p (.fieldAddr 1 none (.s 1)), none, 0⟩,
  ⟨(some 11), .m (.load none (.s 10)), none, 0⟩,
  ⟨(some 12), .p (.len false (.s 11)), none, 40⟩,
  ⟨(some 13), .m (.mkSlice 1 8 [(.v (.int .i64 0))] (.s 12) (.s 12)), none, 3⟩,
  ⟨(some 3), .p (.mov (.s 13)), none, 0⟩]) c53_32)
def c53 : ACode := (.seq (.ops [
  ⟨(some 1), .m (.box (.s 0)), none, 0⟩,
  ⟨(some 2), .p (.mov (.c (.v (.slice none 0 0)))), none, 0⟩]) c53_33)
theorem t53 : trC Tryd.prog Tryd.f53.ntmps (bodyOf Tryd.f53) = some c53 := by kernel_rfl
theorem r53 : Tryd.f53.results.toList.mapM (trR Tryd.prog) = some [.tmp 2] := by kernel_rfl
def i53 : FI := ⟨92, c53, [.tmp 2]⟩
theorem k53 : Knows Tryd.prog 53 i53 := ⟨Tryd.f53, bodyOf Tryd.f53, Tryd.func53, by kernel_rfl, by kernel_rfl, t53, r53, by kernel_rfl⟩
-- 54 drover/dfa.classes []
def c54_0 : ACode := (.cond (.s 28) (.ops [
  ⟨(some 29), .p (.mov (.s 3)), none, 0⟩,
  ⟨(some 30), .p (.mov (.s 4)), none, 0⟩,
  ⟨(some 31), .p (.adrSl 1 (.s 29) (.s 30)), none, 0⟩,
  ⟨none, .m (.store none (.s 31) (.c (.v (.int .i64 1)))), none, 0⟩]) .skip)
def c54_1 : ACode := (.seq (.ops [
  ⟨(some 28), .p (.mov (.s 5)), none, 0⟩]) c54_0)
def c54_2 : ACode := (.ops [
  ⟨(some 32), .p (.bin .add (.s 23) (.c (.v (.int .i64 1)))), none, 0⟩,
  ⟨(some 23), .p (.mov (.s 32)), none, 0⟩])
def c54_3 : ACode := (.seq (.block 1 (.seq (.ops [
  ⟨(some 25), .p (.mov (.s 23)), none, 0⟩,
  ⟨(some 26), .p (.adrSl 1 (.s 21) (.s 23)), none, 0⟩,
  ⟨(some 27), .m (.load none (.s 26)), none, 0⟩,
  ⟨(some 4), .p (.mov (.s 25)), none, 0⟩,
  ⟨(some 5), .p (.mov (.s 27)), none, 0⟩]) c54_1)) c54_2)
def c54_4 : ACode := (.seq (.cond (.s 24) .skip (.exit 0)) c54_3)
def c54_5 : ACode := (.seq (.ops [
  ⟨(some 24), .p (.bin .lss (.s 23) (.s 22)), none, 0⟩]) c54_4)
def c54_6 : ACode := (.block 0 (.loop c54_5))
def c54_7 : List AOper := [
  ⟨(some 11), .p (.mov (.s 49)), none, 0⟩]
def c54_8 : List AOper := [
  ⟨(some 62), .p (.bin .add (.c (.v (.string ⟨#[32]⟩))) (.s 61)), none, 0⟩,
  ⟨(some 63), .p (.bin .add (.s 56) (.s 62)), none, 0⟩,
  ⟨(some 11), .p (.mov (.s 63)), none, 0⟩]
def c54_9 : ACode := (.ops (⟨(some 56), .p (.mov (.s 11)), none, 0⟩ ::
  ⟨(some 57), .p (.mov (.s 3)), none, 0⟩ ::
  ⟨(some 58), .p (.mov (.s 13)), none, 0⟩ ::
  ⟨(some 59), .p (.adrSl 1 (.s 57) (.s 58)), none, 0⟩ ::
  ⟨(some 60), .m (.load none (.s 59)), none, 0⟩ ::
  ⟨(some 61), .call (.c (.fn 70 [])) [(.s 60)], none, 0⟩ :: c54_8))
def c54_10 : ACode := (.ops [
  ⟨(some 64), .p (.bin .add (.s 52) (.c (.v (.int .i64 1)))), none, 0⟩,
  ⟨(some 52), .p (.mov (.s 64)), none, 0⟩])
def c54_11 : ACode := (.seq (.block 7 (.seq (.ops [
  ⟨(some 54), .p (.adrSl 1 (.s 50) (.s 52)), none, 0⟩,
  ⟨(some 55), .m (.load none (.s 54)), none, 0⟩,
  ⟨(some 13), .p (.mov (.s 55)), none, 0⟩]) c54_9)) c54_10)
def c54_12 : ACode := (.seq (.cond (.s 53) .skip (.exit 6)) c54_11)
def c54_13 : ACode := (.seq (.ops [
  ⟨(some 53), .p (.bin .lss (.s 52) (.s 51)), none, 0⟩]) c54_12)
def c54_14 : ACode := (.block 6 (.loop c54_13))
def c54_15 : ACode := (.ops [
  ⟨(some 75), .p (.mov (.s 7)), none, 0⟩,
  ⟨(some 76), .p (.mov (.s 11)), none, 0⟩,
  ⟨(some 77), .p (.mov (.s 14)), none, 0⟩,
  ⟨none, .m (.ext (.map (.upd [.str] false (.s 75) (.s 76) (.s 77)))), none, 0⟩])
def c54_16 : ACode := (.cond (.s 72) (.seq (.ops [
  ⟨(some 73), .p (.mov (.s 7)), none, 0⟩,
  ⟨(some 74), .m (.ext (.map (.len (.s 73)))), none, 3⟩,
  ⟨(some 14), .p (.mov (.s 74)), none, 0⟩]) c54_15) .skip)
def c54_17 : ACode := (.ops [
  ⟨(some 78), .p (.mov (.s 8)), none, 0⟩,
  ⟨(some 79), .p (.mov (.s 9)), none, 0⟩,
  ⟨(some 80), .p (.mov (.s 14)), none, 0⟩,
  ⟨(some 81), .p (.adrSl 1 (.s 78) (.s 79)), none, 0⟩,
  ⟨none, .m (.store none (.s 81) (.s 80)), none, 0⟩])
def c54_18 : ACode := (.seq (.seq (.ops [
  ⟨(some 71), .p (.mov (.s 15)), none, 0⟩,
  ⟨(some 72), .p (.un .not (.s 71)), none, 0⟩]) c54_16) c54_17)
def c54_19 : ACode := (.seq (.ops [
  ⟨(some 66), .p (.mov (.s 7)), none, 0⟩,
  ⟨(some 67), .p (.mov (.s 11)), none, 0⟩,
  ⟨(some 68), .m (.ext (.map (.look [.str] false true (.v (.int .i64 0)) (.s 66) (.s 67)))), none, 0⟩,
  ⟨(some 65), .p (.mov (.s 68)), none, 0⟩,
  ⟨(some 69), .p (.extract (.s 65) 0), none, 0⟩,
  ⟨(some 70), .p (.extract (.s 65) 1), none, 0⟩,
  ⟨(some 14), .p (.mov (.s 69)), none, 0⟩,
  ⟨(some 15), .p (.mov (.s 70)), none, 0⟩]) c54_18)
def c54_20 : ACode := (.seq (.seq (.ops [
  ⟨(some 50), .p (.mov (.s 10)), none, 0⟩,
  ⟨(some 51), .p (.len false (.s 50)), none, 3⟩,
  ⟨(some 52), .p (.mov (.c (.v (.int .i64 0)))), none, 0⟩]) c54_14) c54_19)
def c54_21 : ACode := (.seq (.ops (⟨(some 45), .p (.mov (.s 3)), none, 0⟩ ::
  ⟨(some 46), .p (.mov (.s 9)), none, 0⟩ ::
  ⟨(some 47), .p (.adrSl 1 (.s 45) (.s 46)), none, 0⟩ ::
  ⟨(some 48), .m (.load none (.s 47)), none, 0⟩ ::
  ⟨(some 49), .call (.c (.fn 70 [])) [(.s 48)], none, 0⟩ :: c54_7)) c54_20)
def c54_22 : ACode := (.ops [
  ⟨(some 82), .p (.bin .add (.s 40) (.c (.v (.int .i64 1)))), none, 0⟩,
  ⟨(some 40), .p (.mov (.s 82)), none, 0⟩])
def c54_23 : ACode := (.seq (.block 5 (.seq (.ops [
  ⟨(some 42), .p (.mov (.s 40)), none, 0⟩,
  ⟨(some 43), .p (.adrSl 1 (.s 38) (.s 40)), none, 0⟩,
  ⟨(some 44), .m (.load none (.s 43)), none, 0⟩,
  ⟨(some 9), .p (.mov (.s 42)), none, 0⟩,
  ⟨(some 10), .p (.mov (.s 44)), none, 0⟩]) c54_21)) c54_22)
def c54_24 : ACode := (.seq (.cond (.s 41) .skip (.exit 4)) c54_23)
def c54_25 : ACode := (.seq (.ops [
  ⟨(some 41), .p (.bin .lss (.s 40) (.s 39)), none, 0⟩]) c54_24)
def c54_26 : ACode := (.block 4 (.loop c54_25))
def c54_27 : ACode := (.cond (.s 87) (.seq (.ops [
  ⟨(some 88), .p (.mov (.s 3)), none, 0⟩,
  ⟨(some 2), .p (.mov (.s 88)), none, 0⟩]) .ret) .skip)
def c54_28 : ACode := (.ops [
  ⟨(some 89), .p (.mov (.s 7)), none, 0⟩,
  ⟨(some 90), .m (.ext (.map (.len (.s 89)))), none, 3⟩,
  ⟨(some 6), .p (.mov (.s 90)), none, 0⟩])
def c54_29 : ACode := (.seq (.seq (.ops [
  ⟨(some 84), .p (.mov (.s 7)), none, 0⟩,
  ⟨(some 85), .m (.ext (.map (.len (.s 84)))), none, 3⟩,
  ⟨(some 86), .p (.mov (.s 6)), none, 0⟩,
  ⟨(some 87), .p (.bin .eql (.s 85) (.s 86)), none, 0⟩]) c54_27) c54_28)
def c54_30 : ACode := (.seq (.ops [
  ⟨(some 83), .p (.mov (.s 8)), none, 0⟩,
  ⟨(some 3), .p (.mov (.s 83)), none, 0⟩]) c54_29)
def c54_31 : ACode := (.seq (.seq (.ops [
  ⟨(some 37), .p (.fieldAddr 1 none (.s 1)), none, 0⟩,
  ⟨(some 38), .m (.load none (.s 37)), none, 0⟩,
  ⟨(some 39), .p (.len false (.s 38)), none, 40⟩,
  ⟨(some 40), .p (.mov (.c (.v (.int .i64 0)))), none, 0⟩]) c54_26) c54_30)
def c54_32 : ACode := (.seq (.ops [
  ⟨(some 34), .p (.mov (.s 3)), none, 0⟩,
  ⟨(some 35), .p (.len false (.s 34)), none, 3⟩,
  ⟨(some 36), .m (.mkSlice 1 8 [(.v (.int .i64 0))] (.s 35) (.s 35)), none, 3⟩,
  ⟨(some 8), .p (.mov (.s 36)), none, 0⟩]) c54_31)
def c54_33 : ACode := (.block 3 (.seq (.ops [
  ⟨(some 33), .m (.ext (.map (.mk))), none, 589827⟩,
  ⟨(some 7), .p (.mov (.s 33)), none, 0⟩]) c54_32))
def c54_34 : ACode := (.block 2 (.loop c54_33))
def c54_35 : ACode := (.seq (.ops [
  ⟨(some 6), .p (.mov (.c (.v (.int .i64 0)))), none, 0⟩]) c54_34)
def c54_36 : ACode := (.seq (.seq (.ops [
  ⟨(some 20), .p (.fieldAddr 2 none (.s 1)), none, 0⟩,
  ⟨(some 21), .m (.load none (.s 20)), none, 0⟩,
  ⟨(some 22), .p (.len false (.s 21)), none, 4⟩,
  ⟨(some 23), .p (.mov (.c (.v (.int .i64 0)))), none, 0⟩]) c54_6) c54_35)
def c54_37 : ACode := (.seq (.ops [
  ⟨(some 16), .p (.fieldAddr 1 none (.s 1)), none, 0⟩,
  ⟨(some 17), .m (.load none (.s 16)), none, 0⟩,
  ⟨(some 18), .p (.len false (.s 17)), none, 40⟩,
  ⟨(some 19), .m (.mkSlice 1 8 [(.v (.int .i64 0))] (.s 18) (.s 18)), none, 3⟩,
  ⟨(some 3), .p (.mov (.s 19)), none, 0⟩]) c54_36)
def c54 : ACode := (.seq (.ops [
  ⟨(some 1), .m (.box (.s 0)), none, 0⟩,
  ⟨(some 2), .p (.mov (.c (.v (.slice none 0 0)))), none, 0⟩]) c54_37)
theorem t54 : trC Tryd.prog Tryd.f54.ntmps (bodyOf Tryd.f54) = some c54 := by kernel_rfl
theorem r54 : Tryd.f54.results.toList.mapM (trR Tryd.prog) = some [.tmp 2] := by kernel_rfl
def i54 : FI := ⟨91, c54, [.tmp 2]⟩
theorem k54 : Knows Tryd.prog 54 i54 := ⟨Tryd.f54, bodyOf Tryd.f54, Tryd.func54, by kernel_rfl, by kernel_rfl, t54, r54, by kernel_rfl⟩
-- 55 drover/dfa.inTurn[int] []
def c55_0 : ACode := (.cond (.s 26) .skip (.exit 0))
def c55_1 : List AOper := [
  ⟨(some 15), .p (.mov (.s 43)), none, 0⟩]
def c55_2 : ACode := (.cond (.s 54) (.seq (.ops [
  ⟨(some 6), .p (.mov (.c (.v (.slice none 0 0)))), none, 0⟩,
  ⟨(some 7), .p (.mov (.c (.v (.slice none 0 0)))), none, 0⟩,
  ⟨(some 8), .p (.mov (.c (.v (.bool false)))), none, 0⟩]) .ret) .skip)
def c55_3 : ACode := (.ops [
  ⟨(some 60), .p (.mov (.s 9)), none, 0⟩,
  ⟨(some 61), .p (.mov (.s 15)), none, 0⟩,
  ⟨(some 62), .m (.buildSlice 1 1 [(.v (.int .i64 0))] [(0, 1, (.s 61))]), none, 3⟩,
  ⟨(some 63), .m (.append 1 8 (.s 60) (.s 62)), none, 3⟩,
  ⟨(some 9), .p (.mov (.s 63)), none, 0⟩])
def c55_4 : ACode := (.seq (.ops [
  ⟨(some 57), .p (.mov (.s 10)), none, 0⟩,
  ⟨(some 58), .p (.mov (.s 15)), none, 0⟩,
  ⟨(some 59), .p (.mov (.s 16)), none, 0⟩,
  ⟨none, .m (.ext (.map (.upd [(.int .i64)] false (.s 57) (.s 58) (.s 59)))), none, 0⟩]) c55_3)
def c55_5 : ACode := (.seq (.ops [
  ⟨(some 55), .p (.mov (.s 9)), none, 0⟩,
  ⟨(some 56), .p (.len false (.s 55)), none, 3⟩,
  ⟨(some 16), .p (.mov (.s 56)), none, 0⟩]) c55_4)
def c55_6 : ACode := (.cond (.s 51) (.seq (.seq (.ops [
  ⟨(some 52), .p (.mov (.s 9)), none, 0⟩,
  ⟨(some 53), .p (.len false (.s 52)), none, 3⟩,
  ⟨(some 54), .p (.bin .eql (.s 53) (.c (.v (.int .i64 256)))), none, 0⟩]) c55_2) c55_5) .skip)
def c55_7 : ACode := (.ops [
  ⟨(some 64), .p (.mov (.s 13)), none, 0⟩,
  ⟨(some 65), .p (.mov (.s 14)), none, 0⟩,
  ⟨(some 66), .p (.mov (.s 16)), none, 0⟩,
  ⟨(some 67), .p (.adrSl 1 (.s 64) (.s 65)), none, 0⟩,
  ⟨none, .m (.store none (.s 67) (.s 66)), none, 0⟩])
def c55_8 : ACode := (.seq (.seq (.ops [
  ⟨(some 50), .p (.mov (.s 17)), none, 0⟩,
  ⟨(some 51), .p (.un .not (.s 50)), none, 0⟩]) c55_6) c55_7)
def c55_9 : ACode := (.seq (.ops [
  ⟨(some 45), .p (.mov (.s 10)), none, 0⟩,
  ⟨(some 46), .p (.mov (.s 15)), none, 0⟩,
  ⟨(some 47), .m (.ext (.map (.look [(.int .i64)] false true (.v (.int .i64 0)) (.s 45) (.s 46)))), none, 0⟩,
  ⟨(some 44), .p (.mov (.s 47)), none, 0⟩,
  ⟨(some 48), .p (.extract (.s 44) 0), none, 0⟩,
  ⟨(some 49), .p (.extract (.s 44) 1), none, 0⟩,
  ⟨(some 16), .p (.mov (.s 48)), none, 0⟩,
  ⟨(some 17), .p (.mov (.s 49)), none, 0⟩]) c55_8)
def c55_10 : ACode := (.seq (.ops (⟨(some 36), .p (.mov (.s 2)), none, 0⟩ ::
  ⟨(some 37), .p (.mov (.s 9)), none, 0⟩ ::
  ⟨(some 38), .p (.mov (.s 12)), none, 0⟩ ::
  ⟨(some 39), .p (.adrSl 1 (.s 37) (.s 38)), none, 0⟩ ::
  ⟨(some 40), .m (.load none (.s 39)), none, 0⟩ ::
  ⟨(some 41), .p (.mov (.s 14)), none, 0⟩ ::
  ⟨(some 42), .p (.bin .add (.s 41) (.c (.v (.int .i64 1)))), none, 0⟩ ::
  ⟨(some 43), .call (.s 36) [(.s 40), (.s 42)], none, 0⟩ :: c55_1)) c55_9)
def c55_11 : ACode := (.ops [
  ⟨(some 68), .p (.bin .add (.s 33) (.c (.v (.int .i64 1)))), none, 0⟩,
  ⟨(some 33), .p (.mov (.s 68)), none, 0⟩])
def c55_12 : ACode := (.seq (.block 3 (.seq (.ops [
  ⟨(some 35), .p (.mov (.s 33)), none, 0⟩,
  ⟨(some 14), .p (.mov (.s 35)), none, 0⟩]) c55_10)) c55_11)
def c55_13 : ACode := (.seq (.cond (.s 34) .skip (.exit 2)) c55_12)
def c55_14 : ACode := (.seq (.ops [
  ⟨(some 34), .p (.bin .lss (.s 33) (.s 32)), none, 0⟩]) c55_13)
def c55_15 : ACode := (.block 2 (.loop c55_14))
def c55_16 : ACode := (.ops [
  ⟨(some 69), .p (.mov (.s 11)), none, 0⟩,
  ⟨(some 70), .p (.mov (.s 13)), none, 0⟩,
  ⟨(some 71), .m (.buildSlice 1 1 [(.v (.slice none 0 0))] [(0, 1, (.s 70))]), none, 40⟩,
  ⟨(some 72), .m (.append 1 24 (.s 69) (.s 71)), none, 40⟩,
  ⟨(some 11), .p (.mov (.s 72)), none, 0⟩])
def c55_17 : ACode := (.seq (.seq (.ops [
  ⟨(some 31), .p (.mov (.s 13)), none, 0⟩,
  ⟨(some 32), .p (.len false (.s 31)), none, 3⟩,
  ⟨(some 33), .p (.mov (.c (.v (.int .i64 0)))), none, 0⟩]) c55_15) c55_16)
def c55_18 : ACode := (.ops [
  ⟨(some 27), .p (.mov (.s 12)), none, 0⟩,
  ⟨(some 28), .p (.bin .add (.s 27) (.c (.v (.int .i64 1)))), none, 0⟩,
  ⟨(some 12), .p (.mov (.s 28)), none, 0⟩])
def c55_19 : ACode := (.seq (.block 1 (.seq (.ops [
  ⟨(some 29), .p (.mov (.s 1)), none, 0⟩,
  ⟨(some 30), .m (.mkSlice 1 8 [(.v (.int .i64 0))] (.s 29) (.s 29)), none, 3⟩,
  ⟨(some 13), .p (.mov (.s 30)), none, 0⟩]) c55_17)) c55_18)
def c55_20 : ACode := (.seq (.seq (.ops [
  ⟨(some 23), .p (.mov (.s 12)), none, 0⟩,
  ⟨(some 24), .p (.mov (.s 9)), none, 0⟩,
  ⟨(some 25), .p (.len false (.s 24)), none, 3⟩,
  ⟨(some 26), .p (.bin .lss (.s 23) (.s 25)), none, 0⟩]) c55_0) c55_19)
def c55_21 : ACode := (.block 0 (.loop c55_20))
def c55_22 : ACode := (.seq (.ops [
  ⟨(some 73), .p (.mov (.s 9)), none, 0⟩,
  ⟨(some 74), .p (.mov (.s 11)), none, 0⟩,
  ⟨(some 6), .p (.mov (.s 73)), none, 0⟩,
  ⟨(some 7), .p (.mov (.s 74)), none, 0⟩,
  ⟨(some 8), .p (.mov (.c (.v (.bool true)))), none, 0⟩]) .ret)
def c55_23 : ACode := (.seq (.seq (.ops [
  ⟨(some 12), .p (.mov (.c (.v (.int .i64 0)))), none, 0⟩]) c55_21) c55_22)
def c55_24 : ACode := (.seq (.ops [
  ⟨(some 11), .p (.mov (.c (.v (.slice none 0 0)))), none, 0⟩]) c55_23)
def c55_25 : ACode := (.seq (.ops [
  ⟨(some 20), .m (.ext (.map (.mk))), none, 196611⟩,
  ⟨(some 21), .p (.mov (.s 0)), none, 0⟩,
  ⟨none, .m (.ext (.map (.upd [(.int .i64)] false (.s 20) (.s 21) (.c (.v (.int .i64 0)))))), none, 0⟩,
  ⟨(some 22), .p (.mov (.s 20)), none, 0⟩,
  ⟨(some 10), .p (.mov (.s 22)), none, 0⟩]) c55_24)
def c55_26 : ACode := (.seq (.ops [
  ⟨(some 18), .p (.mov (.s 0)), none, 0⟩,
  ⟨(some 19), .m (.buildSlice 1 1 [(.v (.int .i64 0))] [(0, 1, (.s 18))]), none, 3⟩,
  ⟨(some 9), .p (.mov (.s 19)), none, 0⟩]) c55_25)
def c55 : ACode := (.seq (.ops [
  ⟨(some 6), .p (.mov (.c (.v (.slice none 0 0)))), none, 0⟩,
  ⟨(some 7), .p (.mov (.c (.v (.slice none 0 0)))), none, 0⟩,
  ⟨(some 8), .p (.mov (.c (.v (.bool false)))), none, 0⟩]) c55_26)
theorem t55 : trC Tryd.prog Tryd.f55.ntmps (bodyOf Tryd.f55) = some c55 := by kernel_rfl
theorem r55 : Tryd.f55.results.toList.mapM (trR Tryd.prog) = some [.tmp 6, .tmp 7, .tmp 8] := by kernel_rfl
def i55 : FI := ⟨75, c55, [.tmp 6, .tmp 7, .tmp 8]⟩
theorem k55 : Knows Tryd.prog 55 i55 := ⟨Tryd.f55, bodyOf Tryd.f55, Tryd.func55, by kernel_rfl, by kernel_rfl, t55, r55, by kernel_rfl⟩
-- 56 drover/dfa.Small$1 []
def c56_0 : ACode := (.seq (.draw [
  ⟨(some 8), .m (.load none (.s 2)), none, 0⟩,
  ⟨(some 9), .p (.fieldAddr 1 none (.s 3)), none, 0⟩,
  ⟨(some 10), .m (.load none (.s 9)), none, 0⟩,
  ⟨(some 11), .m (.load none (.s 4)), none, 0⟩,
  ⟨(some 12), .p (.mov (.s 0)), none, 0⟩,
  ⟨(some 13), .m (.ext (.map (.look [(.int .i64)] false false (.v (.int .i64 0)) (.s 11) (.s 12)))), none, 0⟩,
  ⟨(some 14), .p (.adrSl 1 (.s 10) (.s 13)), none, 0⟩,
  ⟨(some 15), .m (.load none (.s 14)), none, 0⟩,
  ⟨(some 16), .p (.mov (.s 1)), none, 0⟩,
  ⟨(some 17), .p (.bin .sub (.s 16) (.c (.v (.int .i64 1)))), none, 0⟩,
  ⟨(some 18), .p (.adrSl 1 (.s 15) (.s 17)), none, 0⟩,
  ⟨(some 19), .m (.load none (.s 18)), none, 0⟩,
  ⟨(some 20), .p (.adrSl 1 (.s 8) (.s 19)), none, 0⟩,
  ⟨(some 21), .m (.load none (.s 20)), none, 0⟩,
  ⟨(some 7), .p (.mov (.s 21)), none, 0⟩]) .ret)
def c56 : ACode := (.seq (.ops [
  ⟨(some 7), .p (.mov (.c (.v (.int .i64 0)))), none, 0⟩]) c56_0)
theorem t56 : trC Tryd.prog Tryd.f56.ntmps (bodyOf Tryd.f56) = some c56 := by kernel_rfl
theorem r56 : Tryd.f56.results.toList.mapM (trR Tryd.prog) = some [.tmp 7] := by kernel_rfl
def i56 : FI := ⟨22, c56, [.tmp 7]⟩
theorem k56 : Knows Tryd.prog 56 i56 := ⟨Tryd.f56, bodyOf Tryd.f56, Tryd.func56, by kernel_rfl, by kernel_rfl, t56, r56, by kernel_rfl⟩
-- 58 drover/dfa.together []
def c58_0 : List AOper := [
  ⟨(some 20), .p (.un .not (.s 19)), (some (17, false)), 0⟩,
  ⟨(some 21), .p (.pick (.s 17) (.c (.v (.bool true))) (.s 20)), none, 0⟩,
  ⟨(some 22), .p (.mov (.s 21)), none, 0⟩,
  ⟨(some 23), .p (.fieldAddr 0 none (.s 3)), (some (22, false)), 0⟩,
  ⟨(some 24), .m (.load none (.s 23)), (some (22, false)), 0⟩,
  ⟨(some 25), .p (.fieldAddr 0 none (.s 4)), (some (22, false)), 0⟩,
  ⟨(some 26), .m (.load none (.s 25)), (some (22, false)), 0⟩,
  ⟨(some 27), .p (.bin .neq (.s 24) (.s 26)), (some (22, false)), 0⟩,
  ⟨(some 28), .p (.pick (.s 22) (.c (.v (.bool true))) (.s 27)), none, 0⟩]
def c58_1 : List AOper := (⟨(some 16), .p (.un .not (.s 15)), none, 0⟩ ::
  ⟨(some 17), .p (.mov (.s 16)), none, 0⟩ ::
  ⟨(some 18), .m (.load (some 3) (.s 4)), (some (17, false)), 0⟩ ::
  ⟨(some 19), .call (.c (.fn 19 [])) [(.s 18)], (some (17, false)), 0⟩ :: c58_0)
def c58_2 : ACode := (.cond (.s 28) (.seq (.ops [
  ⟨(some 29), .p (.build [(.v (.int .i64 0)), (.v (.slice none 0 0)), (.v (.slice none 0 0))] []), none, 0⟩,
  ⟨none, .m (.store (some 3) (.s 6) (.s 29)), none, 0⟩,
  ⟨(some 7), .p (.mov (.c (.v (.int .i64 1)))), none, 0⟩]) .ret) .skip)
def c58_3 : List AOper := [
  ⟨(some 30), .p (.mov (.s 35)), none, 0⟩,
  ⟨(some 36), .p (.extract (.s 30) 0), none, 0⟩,
  ⟨(some 37), .p (.extract (.s 30) 1), none, 0⟩,
  ⟨(some 38), .p (.extract (.s 30) 2), none, 0⟩,
  ⟨(some 8), .p (.mov (.s 36)), none, 0⟩,
  ⟨(some 9), .p (.mov (.s 37)), none, 0⟩,
  ⟨(some 10), .p (.mov (.s 38)), none, 0⟩]
def c58_4 : ACode := (.cond (.s 40) (.seq (.ops [
  ⟨(some 41), .p (.build [(.v (.int .i64 0)), (.v (.slice none 0 0)), (.v (.slice none 0 0))] []), none, 0⟩,
  ⟨none, .m (.store (some 3) (.s 6) (.s 41)), none, 0⟩,
  ⟨(some 7), .p (.mov (.c (.v (.int .i64 44)))), none, 0⟩]) .ret) .skip)
def c58_5 : ACode := (.draw [
  ⟨(some 52), .p (.fieldAddr 2 none (.s 11)), none, 0⟩,
  ⟨(some 53), .m (.load none (.s 52)), none, 0⟩,
  ⟨(some 54), .p (.mov (.s 2)), none, 0⟩,
  ⟨(some 55), .m (.load (some 2) (.s 13)), none, 0⟩,
  ⟨(some 56), .qcall (.s 54) [(.s 55)], none, 0⟩,
  ⟨(some 57), .m (.buildSlice 1 1 [(.v (.bool false))] [(0, 1, (.s 56))]), none, 4⟩,
  ⟨(some 58), .m (.append 1 1 (.s 53) (.s 57)), none, 4⟩,
  ⟨(some 59), .p (.fieldAddr 2 none (.s 11)), none, 0⟩,
  ⟨none, .m (.store none (.s 59) (.s 58)), none, 0⟩])
def c58_6 : ACode := (.ops [
  ⟨(some 60), .p (.bin .add (.s 48) (.c (.v (.int .i64 1)))), none, 0⟩,
  ⟨(some 48), .p (.mov (.s 60)), none, 0⟩])
def c58_7 : ACode := (.seq (.block 1 (.seq (.ops [
  ⟨(some 50), .p (.adrSl 2 (.s 46) (.s 48)), none, 0⟩,
  ⟨(some 51), .m (.load (some 2) (.s 50)), none, 0⟩,
  ⟨(some 13), .m (.alloc [(.v (.int .i64 0)), (.v (.int .i64 0))]), none, 0⟩,
  ⟨none, .m (.store (some 2) (.s 13) (.s 51)), none, 0⟩]) c58_5)) c58_6)
def c58_8 : ACode := (.seq (.cond (.s 49) .skip (.exit 0)) c58_7)
def c58_9 : ACode := (.seq (.ops [
  ⟨(some 49), .p (.bin .lss (.s 48) (.s 47)), none, 0⟩]) c58_8)
def c58_10 : ACode := (.block 0 (.loop c58_9))
def c58_11 : List AOper := [
  ⟨none, .m (.store (some 3) (.s 6) (.s 62)), none, 0⟩,
  ⟨(some 7), .p (.mov (.c (.v (.int .i64 0)))), none, 0⟩]
def c58_12 : ACode := (.seq (.ops (⟨(some 61), .m (.load (some 3) (.s 11)), none, 0⟩ ::
  ⟨(some 62), .call (.c (.fn 28 [])) [(.s 61)], none, 0⟩ :: c58_11)) .ret)
def c58_13 : ACode := (.seq (.seq (.ops [
  ⟨(some 46), .p (.mov (.s 8)), none, 0⟩,
  ⟨(some 47), .p (.len false (.s 46)), none, 93⟩,
  ⟨(some 48), .p (.mov (.c (.v (.int .i64 0)))), none, 0⟩]) c58_10) c58_12)
def c58_14 : ACode := (.seq (.ops [
  ⟨(some 42), .p (.fieldAddr 0 none (.s 3)), none, 0⟩,
  ⟨(some 43), .m (.load none (.s 42)), none, 0⟩,
  ⟨(some 44), .p (.mov (.s 9)), none, 0⟩,
  ⟨(some 45), .p (.build [(.v (.int .i64 0)), (.v (.slice none 0 0)), (.v (.slice none 0 0))] [(0, 1, (.s 43)), (1, 1, (.s 44))]), none, 0⟩,
  ⟨(some 11), .m (.alloc [(.v (.int .i64 0)), (.v (.slice none 0 0)), (.v (.slice none 0 0))]), none, 40⟩,
  ⟨none, .m (.store (some 3) (.s 11) (.s 45)), none, 0⟩]) c58_13)
def c58_15 : ACode := (.seq (.seq (.ops [
  ⟨(some 39), .p (.mov (.s 10)), none, 0⟩,
  ⟨(some 40), .p (.un .not (.s 39)), none, 0⟩]) c58_4) c58_14)
def c58_16 : ACode := (.seq (.ops (⟨(some 31), .p (.build [(.v (.int .i64 0)), (.v (.int .i64 0))] []), none, 0⟩ ::
  ⟨(some 32), .p (.fieldAddr 0 none (.s 3)), none, 0⟩ ::
  ⟨(some 33), .m (.load none (.s 32)), none, 0⟩ ::
  ⟨(some 34), .p (.mkFn 72 [(.s 3), (.s 4)]), none, 0⟩ ::
  ⟨(some 35), .call (.c (.fn 71 [])) [(.s 31), (.s 33), (.s 34)], none, 0⟩ :: c58_3)) c58_15)
def c58_17 : ACode := (.seq (.seq (.ops (⟨(some 14), .m (.load (some 3) (.s 3)), none, 0⟩ ::
  ⟨(some 15), .call (.c (.fn 19 [])) [(.s 14)], none, 0⟩ :: c58_1)) c58_2) c58_16)
def c58 : ACode := (.seq (.ops [
  ⟨(some 3), .m (.box (.s 0)), none, 0⟩,
  ⟨(some 4), .m (.box (.s 1)), none, 0⟩,
  ⟨(some 6), .m (.alloc [(.v (.int .i64 0)), (.v (.slice none 0 0)), (.v (.slice none 0 0))]), none, 40⟩,
  ⟨(some 7), .p (.mov (.c (.v (.int .i64 0)))), none, 0⟩]) c58_17)
theorem t58 : trC Tryd.prog Tryd.f58.ntmps (bodyOf Tryd.f58) = some c58 := by kernel_rfl
theorem r58 : Tryd.f58.results.toList.mapM (trR Tryd.prog) = some [.cell 6 (some 3), .tmp 7] := by kernel_rfl
def i58 : FI := ⟨63, c58, [.cell 6 (some 3), .tmp 7]⟩
theorem k58 : Knows Tryd.prog 58 i58 := ⟨Tryd.f58, bodyOf Tryd.f58, Tryd.func58, by kernel_rfl, by kernel_rfl, t58, r58, by kernel_rfl⟩
-- 59 drover/dfa.Both$1 []
def c59_0 : ACode := (.seq (.ops [
  ⟨(some 5), .p (.fieldAddr 2 none (.s 1)), none, 0⟩,
  ⟨(some 6), .m (.load none (.s 5)), none, 0⟩,
  ⟨(some 7), .p (.fieldAddr 0 none (.s 3)), none, 0⟩,
  ⟨(some 8), .m (.load none (.s 7)), none, 0⟩,
  ⟨(some 9), .p (.adrSl 1 (.s 6) (.s 8)), none, 0⟩,
  ⟨(some 10), .m (.load none (.s 9)), none, 0⟩,
  ⟨(some 11), .p (.mov (.s 10)), none, 0⟩,
  ⟨(some 12), .p (.fieldAddr 2 none (.s 2)), (some (11, true)), 0⟩,
  ⟨(some 13), .m (.load none (.s 12)), (some (11, true)), 0⟩,
  ⟨(some 14), .p (.fieldAddr 1 none (.s 3)), (some (11, true)), 0⟩,
  ⟨(some 15), .m (.load none (.s 14)), (some (11, true)), 0⟩,
  ⟨(some 16), .p (.adrSl 1 (.s 13) (.s 15)), (some (11, true)), 0⟩,
  ⟨(some 17), .m (.load none (.s 16)), (some (11, true)), 0⟩,
  ⟨(some 18), .p (.pick (.s 11) (.s 17) (.c (.v (.bool false)))), none, 0⟩,
  ⟨(some 4), .p (.mov (.s 18)), none, 0⟩]) .ret)
def c59 : ACode := (.seq (.ops [
  ⟨(some 3), .m (.box (.s 0)), none, 0⟩,
  ⟨(some 4), .p (.mov (.c (.v (.bool false)))), none, 0⟩]) c59_0)
theorem t59 : trC Tryd.prog Tryd.f59.ntmps (bodyOf Tryd.f59) = some c59 := by kernel_rfl
theorem r59 : Tryd.f59.results.toList.mapM (trR Tryd.prog) = some [.tmp 4] := by kernel_rfl
def i59 : FI := ⟨19, c59, [.tmp 4]⟩
theorem k59 : Knows Tryd.prog 59 i59 := ⟨Tryd.f59, bodyOf Tryd.f59, Tryd.func59, by kernel_rfl, by kernel_rfl, t59, r59, by kernel_rfl⟩
-- 60 drover/dfa.Less$1 []
def c60_0 : ACode := (.seq (.ops [
  ⟨(some 5), .p (.fieldAddr 2 none (.s 1)), none, 0⟩,
  ⟨(some 6), .m (.load none (.s 5)), none, 0⟩,
  ⟨(some 7), .p (.fieldAddr 0 none (.s 3)), none, 0⟩,
  ⟨(some 8), .m (.load none (.s 7)), none, 0⟩,
  ⟨(some 9), .p (.adrSl 1 (.s 6) (.s 8)), none, 0⟩,
  ⟨(some 10), .m (.load none (.s 9)), none, 0⟩,
  ⟨(some 11), .p (.mov (.s 10)), none, 0⟩,
  ⟨(some 12), .p (.fieldAddr 2 none (.s 2)), (some (11, true)), 0⟩,
  ⟨(some 13), .m (.load none (.s 12)), (some (11, true)), 0⟩,
  ⟨(some 14), .p (.fieldAddr 1 none (.s 3)), (some (11, true)), 0⟩,
  ⟨(some 15), .m (.load none (.s 14)), (some (11, true)), 0⟩,
  ⟨(some 16), .p (.adrSl 1 (.s 13) (.s 15)), (some (11, true)), 0⟩,
  ⟨(some 17), .m (.load none (.s 16)), (some (11, true)), 0⟩,
  ⟨(some 18), .p (.un .not (.s 17)), (some (11, true)), 0⟩,
  ⟨(some 19), .p (.pick (.s 11) (.s 18) (.c (.v (.bool false)))), none, 0⟩,
  ⟨(some 4), .p (.mov (.s 19)), none, 0⟩]) .ret)
def c60 : ACode := (.seq (.ops [
  ⟨(some 3), .m (.box (.s 0)), none, 0⟩,
  ⟨(some 4), .p (.mov (.c (.v (.bool false)))), none, 0⟩]) c60_0)
theorem t60 : trC Tryd.prog Tryd.f60.ntmps (bodyOf Tryd.f60) = some c60 := by kernel_rfl
theorem r60 : Tryd.f60.results.toList.mapM (trR Tryd.prog) = some [.tmp 4] := by kernel_rfl
def i60 : FI := ⟨20, c60, [.tmp 4]⟩
theorem k60 : Knows Tryd.prog 60 i60 := ⟨Tryd.f60, bodyOf Tryd.f60, Tryd.func60, by kernel_rfl, by kernel_rfl, t60, r60, by kernel_rfl⟩
-- 69 drover/droverref19.alike []
def c69_0 : ACode := (.cond (.s 18) (.seq (.ops [
  ⟨(some 8), .p (.mov (.c (.v (.bool false)))), none, 0⟩]) .ret) .skip)
def c69_1 : ACode := (.cond (.s 22) .skip (.exit 0))
def c69_2 : ACode := (.cond (.s 47) (.seq (.ops [
  ⟨(some 8), .p (.mov (.c (.v (.bool false)))), none, 0⟩]) .ret) .skip)
def c69_3 : ACode := (.ops [
  ⟨(some 23), .p (.mov (.s 9)), none, 0⟩,
  ⟨(some 24), .p (.bin .add (.s 23) (.c (.v (.int .i64 1)))), none, 0⟩,
  ⟨(some 9), .p (.mov (.s 24)), none, 0⟩])
def c69_4 : ACode := (.seq (.block 1 (.seq (.draw [
  ⟨(some 25), .p (.mov (.s 1)), none, 0⟩,
  ⟨(some 26), .p (.fieldAddr 1 none (.s 4)), none, 0⟩,
  ⟨(some 27), .m (.load none (.s 26)), none, 0⟩,
  ⟨(some 28), .p (.mov (.s 2)), none, 0⟩,
  ⟨(some 29), .p (.adrSl 1 (.s 27) (.s 28)), none, 0⟩,
  ⟨(some 30), .m (.load none (.s 29)), none, 0⟩,
  ⟨(some 31), .p (.mov (.s 9)), none, 0⟩,
  ⟨(some 32), .p (.adrSl 1 (.s 30) (.s 31)), none, 0⟩,
  ⟨(some 33), .m (.load none (.s 32)), none, 0⟩,
  ⟨(some 34), .p (.adrSl 1 (.s 25) (.s 33)), none, 0⟩,
  ⟨(some 35), .m (.load none (.s 34)), none, 0⟩,
  ⟨(some 36), .p (.mov (.s 1)), none, 0⟩,
  ⟨(some 37), .p (.fieldAddr 1 none (.s 4)), none, 0⟩,
  ⟨(some 38), .m (.load none (.s 37)), none, 0⟩,
  ⟨(some 39), .p (.mov (.s 3)), none, 0⟩,
  ⟨(some 40), .p (.adrSl 1 (.s 38) (.s 39)), none, 0⟩,
  ⟨(some 41), .m (.load none (.s 40)), none, 0⟩,
  ⟨(some 42), .p (.mov (.s 9)), none, 0⟩,
  ⟨(some 43), .p (.adrSl 1 (.s 41) (.s 42)), none, 0⟩,
  ⟨(some 44), .m (.load none (.s 43)), none, 0⟩,
  ⟨(some 45), .p (.adrSl 1 (.s 36) (.s 44)), none, 0⟩,
  ⟨(some 46), .m (.load none (.s 45)), none, 0⟩,
  ⟨(some 47), .p (.bin .neq (.s 35) (.s 46)), none, 0⟩]) c69_2)) c69_3)
def c69_5 : ACode := (.seq (.seq (.ops [
  ⟨(some 19), .p (.mov (.s 9)), none, 0⟩,
  ⟨(some 20), .p (.fieldAddr 0 none (.s 4)), none, 0⟩,
  ⟨(some 21), .m (.load none (.s 20)), none, 0⟩,
  ⟨(some 22), .p (.bin .lss (.s 19) (.s 21)), none, 0⟩]) c69_1) c69_4)
def c69_6 : ACode := (.block 0 (.loop c69_5))
def c69_7 : ACode := (.seq (.ops [
  ⟨(some 8), .p (.mov (.c (.v (.bool true)))), none, 0⟩]) .ret)
def c69_8 : ACode := (.seq (.seq (.ops [
  ⟨(some 9), .p (.mov (.c (.v (.int .i64 0)))), none, 0⟩]) c69_6) c69_7)
def c69_9 : ACode := (.seq (.seq (.draw [
  ⟨(some 10), .p (.mov (.s 1)), none, 0⟩,
  ⟨(some 11), .p (.mov (.s 2)), none, 0⟩,
  ⟨(some 12), .p (.adrSl 1 (.s 10) (.s 11)), none, 0⟩,
  ⟨(some 13), .m (.load none (.s 12)), none, 0⟩,
  ⟨(some 14), .p (.mov (.s 1)), none, 0⟩,
  ⟨(some 15), .p (.mov (.s 3)), none, 0⟩,
  ⟨(some 16), .p (.adrSl 1 (.s 14) (.s 15)), none, 0⟩,
  ⟨(some 17), .m (.load none (.s 16)), none, 0⟩,
  ⟨(some 18), .p (.bin .neq (.s 13) (.s 17)), none, 0⟩]) c69_0) c69_8)
def c69 : ACode := (.seq (.ops [
  ⟨(some 4), .m (.box (.s 0)), none, 0⟩,
  ⟨(some 8), .p (.mov (.c (.v (.bool false)))), none, 0⟩]) c69_9)
theorem t69 : trC Tryd.prog Tryd.f69.ntmps (bodyOf Tryd.f69) = some c69 := by kernel_rfl
theorem r69 : Tryd.f69.results.toList.mapM (trR Tryd.prog) = some [.tmp 8] := by kernel_rfl
def i69 : FI := ⟨48, c69, [.tmp 8]⟩
theorem k69 : Knows Tryd.prog 69 i69 := ⟨Tryd.f69, bodyOf Tryd.f69, Tryd.func69, by kernel_rfl, by kernel_rfl, t69, r69, by kernel_rfl⟩
-- 71 drover/dfa.inTurn[drover/dfa.pair] []
def c71_0 : ACode := (.cond (.s 26) .skip (.exit 0))
def c71_1 : List AOper := [
  ⟨(some 15), .m (.alloc [(.v (.int .i64 0)), (.v (.int .i64 0))]), none, 0⟩,
  ⟨none, .m (.store (some 2) (.s 15) (.s 43)), none, 0⟩]
def c71_2 : ACode := (.cond (.s 54) (.seq (.ops [
  ⟨(some 6), .p (.mov (.c (.v (.slice none 0 0)))), none, 0⟩,
  ⟨(some 7), .p (.mov (.c (.v (.slice none 0 0)))), none, 0⟩,
  ⟨(some 8), .p (.mov (.c (.v (.bool false)))), none, 0⟩]) .ret) .skip)
def c71_3 : ACode := (.ops [
  ⟨(some 60), .p (.mov (.s 9)), none, 0⟩,
  ⟨(some 61), .m (.load (some 2) (.s 15)), none, 0⟩,
  ⟨(some 62), .m (.buildSlice 2 1 [(.v (.int .i64 0)), (.v (.int .i64 0))] [(0, 2, (.s 61))]), none, 93⟩,
  ⟨(some 63), .m (.append 2 16 (.s 60) (.s 62)), none, 93⟩,
  ⟨(some 9), .p (.mov (.s 63)), none, 0⟩])
def c71_4 : ACode := (.seq (.ops [
  ⟨(some 57), .p (.mov (.s 10)), none, 0⟩,
  ⟨(some 58), .m (.load (some 2) (.s 15)), none, 0⟩,
  ⟨(some 59), .p (.mov (.s 16)), none, 0⟩,
  ⟨none, .m (.ext (.map (.upd [(.int .i64), (.int .i64)] true (.s 57) (.s 58) (.s 59)))), none, 0⟩]) c71_3)
def c71_5 : ACode := (.seq (.ops [
  ⟨(some 55), .p (.mov (.s 9)), none, 0⟩,
  ⟨(some 56), .p (.len false (.s 55)), none, 93⟩,
  ⟨(some 16), .p (.mov (.s 56)), none, 0⟩]) c71_4)
def c71_6 : ACode := (.cond (.s 51) (.seq (.seq (.ops [
  ⟨(some 52), .p (.mov (.s 9)), none, 0⟩,
  ⟨(some 53), .p (.len false (.s 52)), none, 93⟩,
  ⟨(some 54), .p (.bin .eql (.s 53) (.c (.v (.int .i64 256)))), none, 0⟩]) c71_2) c71_5) .skip)
def c71_7 : ACode := (.ops [
  ⟨(some 64), .p (.mov (.s 13)), none, 0⟩,
  ⟨(some 65), .p (.mov (.s 14)), none, 0⟩,
  ⟨(some 66), .p (.mov (.s 16)), none, 0⟩,
  ⟨(some 67), .p (.adrSl 1 (.s 64) (.s 65)), none, 0⟩,
  ⟨none, .m (.store none (.s 67) (.s 66)), none, 0⟩])
def c71_8 : ACode := (.seq (.seq (.ops [
  ⟨(some 50), .p (.mov (.s 17)), none, 0⟩,
  ⟨(some 51), .p (.un .not (.s 50)), none, 0⟩]) c71_6) c71_7)
def c71_9 : ACode := (.seq (.ops [
  ⟨(some 45), .p (.mov (.s 10)), none, 0⟩,
  ⟨(some 46), .m (.load (some 2) (.s 15)), none, 0⟩,
  ⟨(some 47), .m (.ext (.map (.look [(.int .i64), (.int .i64)] true true (.v (.int .i64 0)) (.s 45) (.s 46)))), none, 0⟩,
  ⟨(some 44), .p (.mov (.s 47)), none, 0⟩,
  ⟨(some 48), .p (.extract (.s 44) 0), none, 0⟩,
  ⟨(some 49), .p (.extract (.s 44) 1), none, 0⟩,
  ⟨(some 16), .p (.mov (.s 48)), none, 0⟩,
  ⟨(some 17), .p (.mov (.s 49)), none, 0⟩]) c71_8)
def c71_10 : ACode := (.seq (.ops (⟨(some 36), .p (.mov (.s 2)), none, 0⟩ ::
  ⟨(some 37), .p (.mov (.s 9)), none, 0⟩ ::
  ⟨(some 38), .p (.mov (.s 12)), none, 0⟩ ::
  ⟨(some 39), .p (.adrSl 2 (.s 37) (.s 38)), none, 0⟩ ::
  ⟨(some 40), .m (.load (some 2) (.s 39)), none, 0⟩ ::
  ⟨(some 41), .p (.mov (.s 14)), none, 0⟩ ::
  ⟨(some 42), .p (.bin .add (.s 41) (.c (.v (.int .i64 1)))), none, 0⟩ ::
  ⟨(some 43), .call (.s 36) [(.s 40), (.s 42)], none, 0⟩ :: c71_1)) c71_9)
def c71_11 : ACode := (.ops [
  ⟨(some 68), .p (.bin .add (.s 33) (.c (.v (.int .i64 1)))), none, 0⟩,
  ⟨(some 33), .p (.mov (.s 68)), none, 0⟩])
def c71_12 : ACode := (.seq (.block 3 (.seq (.ops [
  ⟨(some 35), .p (.mov (.s 33)), none, 0⟩,
  ⟨(some 14), .p (.mov (.s 35)), none, 0⟩]) c71_10)) c71_11)
def c71_13 : ACode := (.seq (.cond (.s 34) .skip (.exit 2)) c71_12)
def c71_14 : ACode := (.seq (.ops [
  ⟨(some 34), .p (.bin .lss (.s 33) (.s 32)), none, 0⟩]) c71_13)
def c71_15 : ACode := (.block 2 (.loop c71_14))
def c71_16 : ACode := (.ops [
  ⟨(some 69), .p (.mov (.s 11)), none, 0⟩,
  ⟨(some 70), .p (.mov (.s 13)), none, 0⟩,
  ⟨(some 71), .m (.buildSlice 1 1 [(.v (.slice none 0 0))] [(0, 1, (.s 70))]), none, 40⟩,
  ⟨(some 72), .m (.append 1 24 (.s 69) (.s 71)), none, 40⟩,
  ⟨(some 11), .p (.mov (.s 72)), none, 0⟩])
def c71_17 : ACode := (.seq (.seq (.ops [
  ⟨(some 31), .p (.mov (.s 13)), none, 0⟩,
  ⟨(some 32), .p (.len false (.s 31)), none, 3⟩,
  ⟨(some 33), .p (.mov (.c (.v (.int .i64 0)))), none, 0⟩]) c71_15) c71_16)
def c71_18 : ACode := (.ops [
  ⟨(some 27), .p (.mov (.s 12)), none, 0⟩,
  ⟨(some 28), .p (.bin .add (.s 27) (.c (.v (.int .i64 1)))), none, 0⟩,
  ⟨(some 12), .p (.mov (.s 28)), none, 0⟩])
def c71_19 : ACode := (.seq (.block 1 (.seq (.ops [
  ⟨(some 29), .p (.mov (.s 1)), none, 0⟩,
  ⟨(some 30), .m (.mkSlice 1 8 [(.v (.int .i64 0))] (.s 29) (.s 29)), none, 3⟩,
  ⟨(some 13), .p (.mov (.s 30)), none, 0⟩]) c71_17)) c71_18)
def c71_20 : ACode := (.seq (.seq (.ops [
  ⟨(some 23), .p (.mov (.s 12)), none, 0⟩,
  ⟨(some 24), .p (.mov (.s 9)), none, 0⟩,
  ⟨(some 25), .p (.len false (.s 24)), none, 93⟩,
  ⟨(some 26), .p (.bin .lss (.s 23) (.s 25)), none, 0⟩]) c71_0) c71_19)
def c71_21 : ACode := (.block 0 (.loop c71_20))
def c71_22 : ACode := (.seq (.ops [
  ⟨(some 73), .p (.mov (.s 9)), none, 0⟩,
  ⟨(some 74), .p (.mov (.s 11)), none, 0⟩,
  ⟨(some 6), .p (.mov (.s 73)), none, 0⟩,
  ⟨(some 7), .p (.mov (.s 74)), none, 0⟩,
  ⟨(some 8), .p (.mov (.c (.v (.bool true)))), none, 0⟩]) .ret)
def c71_23 : ACode := (.seq (.seq (.ops [
  ⟨(some 12), .p (.mov (.c (.v (.int .i64 0)))), none, 0⟩]) c71_21) c71_22)
def c71_24 : ACode := (.seq (.ops [
  ⟨(some 11), .p (.mov (.c (.v (.slice none 0 0)))), none, 0⟩]) c71_23)
def c71_25 : ACode := (.seq (.ops [
  ⟨(some 20), .m (.ext (.map (.mk))), none, 6094851⟩,
  ⟨(some 21), .m (.load (some 2) (.s 3)), none, 0⟩,
  ⟨none, .m (.ext (.map (.upd [(.int .i64), (.int .i64)] true (.s 20) (.s 21) (.c (.v (.int .i64 0)))))), none, 0⟩,
  ⟨(some 22), .p (.mov (.s 20)), none, 0⟩,
  ⟨(some 10), .p (.mov (.s 22)), none, 0⟩]) c71_24)
def c71_26 : ACode := (.seq (.ops [
  ⟨(some 18), .m (.load (some 2) (.s 3)), none, 0⟩,
  ⟨(some 19), .m (.buildSlice 2 1 [(.v (.int .i64 0)), (.v (.int .i64 0))] [(0, 2, (.s 18))]), none, 93⟩,
  ⟨(some 9), .p (.mov (.s 19)), none, 0⟩]) c71_25)
def c71 : ACode := (.seq (.ops [
  ⟨(some 3), .m (.box (.s 0)), none, 0⟩,
  ⟨(some 6), .p (.mov (.c (.v (.slice none 0 0)))), none, 0⟩,
  ⟨(some 7), .p (.mov (.c (.v (.slice none 0 0)))), none, 0⟩,
  ⟨(some 8), .p (.mov (.c (.v (.bool false)))), none, 0⟩]) c71_26)
theorem t71 : trC Tryd.prog Tryd.f71.ntmps (bodyOf Tryd.f71) = some c71 := by kernel_rfl
theorem r71 : Tryd.f71.results.toList.mapM (trR Tryd.prog) = some [.tmp 6, .tmp 7, .tmp 8] := by kernel_rfl
def i71 : FI := ⟨75, c71, [.tmp 6, .tmp 7, .tmp 8]⟩
theorem k71 : Knows Tryd.prog 71 i71 := ⟨Tryd.f71, bodyOf Tryd.f71, Tryd.func71, by kernel_rfl, by kernel_rfl, t71, r71, by kernel_rfl⟩
-- 72 drover/dfa.together$1 []
def c72_0 : ACode := (.seq (.draw [
  ⟨(some 7), .p (.fieldAddr 1 none (.s 2)), none, 0⟩,
  ⟨(some 8), .m (.load none (.s 7)), none, 0⟩,
  ⟨(some 9), .p (.fieldAddr 0 none (.s 4)), none, 0⟩,
  ⟨(some 10), .m (.load none (.s 9)), none, 0⟩,
  ⟨(some 11), .p (.adrSl 1 (.s 8) (.s 10)), none, 0⟩,
  ⟨(some 12), .m (.load none (.s 11)), none, 0⟩,
  ⟨(some 13), .p (.mov (.s 1)), none, 0⟩,
  ⟨(some 14), .p (.bin .sub (.s 13) (.c (.v (.int .i64 1)))), none, 0⟩,
  ⟨(some 15), .p (.adrSl 1 (.s 12) (.s 14)), none, 0⟩,
  ⟨(some 16), .m (.load none (.s 15)), none, 0⟩,
  ⟨(some 17), .p (.fieldAddr 1 none (.s 3)), none, 0⟩,
  ⟨(some 18), .m (.load none (.s 17)), none, 0⟩,
  ⟨(some 19), .p (.fieldAddr 1 none (.s 4)), none, 0⟩,
  ⟨(some 20), .m (.load none (.s 19)), none, 0⟩,
  ⟨(some 21), .p (.adrSl 1 (.s 18) (.s 20)), none, 0⟩,
  ⟨(some 22), .m (.load none (.s 21)), none, 0⟩,
  ⟨(some 23), .p (.mov (.s 1)), none, 0⟩,
  ⟨(some 24), .p (.bin .sub (.s 23) (.c (.v (.int .i64 1)))), none, 0⟩,
  ⟨(some 25), .p (.adrSl 1 (.s 22) (.s 24)), none, 0⟩,
  ⟨(some 26), .m (.load none (.s 25)), none, 0⟩,
  ⟨(some 27), .p (.build [(.v (.int .i64 0)), (.v (.int .i64 0))] [(0, 1, (.s 16)), (1, 1, (.s 26))]), none, 0⟩,
  ⟨none, .m (.store (some 2) (.s 6) (.s 27)), none, 0⟩]) .ret)
def c72 : ACode := (.seq (.ops [
  ⟨(some 4), .m (.box (.s 0)), none, 0⟩,
  ⟨(some 6), .m (.alloc [(.v (.int .i64 0)), (.v (.int .i64 0))]), none, 0⟩]) c72_0)
theorem t72 : trC Tryd.prog Tryd.f72.ntmps (bodyOf Tryd.f72) = some c72 := by kernel_rfl
theorem r72 : Tryd.f72.results.toList.mapM (trR Tryd.prog) = some [.cell 6 (some 2)] := by kernel_rfl
def i72 : FI := ⟨28, c72, [.cell 6 (some 2)]⟩
theorem k72 : Knows Tryd.prog 72 i72 := ⟨Tryd.f72, bodyOf Tryd.f72, Tryd.func72, by kernel_rfl, by kernel_rfl, t72, r72, by kernel_rfl⟩
end Go.Proofs.Dfa
