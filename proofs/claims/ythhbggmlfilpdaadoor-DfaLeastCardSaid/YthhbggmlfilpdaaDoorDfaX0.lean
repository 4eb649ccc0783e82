/- A part of a law's proof: DfaX0. -/
import Derived.KernelRfl
import Derived.Test.YthhbggmlfilpdaaDoorProg
import Derived.Test.YthhbggmlfilpdaaDoorSvCod
set_option linter.unusedSimpArgs false
set_option linter.constructorNameAsVariable false
namespace Go.Proofs.Dfa
open Go Go.Ab Go.Proofs
set_option linter.unusedVariables false
noncomputable abbrev PG : Program := Tryd.prog
def bodyOf (fn : Func) : Code := fn.body.getD .skip
-- 7 drover/droverlaw19.DfaLeast []
def c7_0 : List AOper := [
  ⟨(some 9), .m (.alloc [(.v (.int .i64 0)), (.v (.slice none 0 0)), (.v (.slice none 0 0))]), none, 40⟩,
  ⟨none, .m (.store (some 3) (.s 9) (.s 14)), none, 0⟩]
def c7_1 : List AOper := [
  ⟨(some 17), .p (.un .not (.s 16)), none, 0⟩]
def c7_2 : List AOper := [
  ⟨(some 29), .p (.pick (.s 27) (.s 28) (.c (.v (.bool false)))), none, 0⟩,
  ⟨(some 8), .p (.mov (.s 29)), none, 0⟩]
def c7_3 : ACode := (.cond (.s 17) (.seq (.ops (⟨(some 18), .p (.fieldAddr 1 none (.s 9)), none, 0⟩ ::
  ⟨(some 19), .m (.load none (.s 18)), none, 0⟩ ::
  ⟨(some 20), .p (.len false (.s 19)), none, 40⟩ ::
  ⟨(some 21), .p (.bin .eql (.s 20) (.c (.v (.int .i64 0)))), none, 0⟩ ::
  ⟨(some 22), .p (.mov (.s 21)), none, 0⟩ ::
  ⟨(some 23), .p (.fieldAddr 0 none (.s 9)), (some (22, true)), 0⟩ ::
  ⟨(some 24), .m (.load none (.s 23)), (some (22, true)), 0⟩ ::
  ⟨(some 25), .p (.bin .eql (.s 24) (.c (.v (.int .i64 0)))), (some (22, true)), 0⟩ ::
  ⟨(some 26), .p (.pick (.s 22) (.s 25) (.c (.v (.bool false)))), none, 0⟩ ::
  ⟨(some 27), .p (.mov (.s 26)), none, 0⟩ ::
  ⟨(some 28), .call (.c (.fn 15 [])) [], (some (27, true)), 0⟩ :: c7_2)) .ret) .skip)
def c7_4 : ACode := (.draw [
  ⟨(some 32), .p (.un .not (.s 31)), none, 0⟩,
  ⟨(some 33), .p (.mov (.s 32)), none, 0⟩,
  ⟨(some 34), .m (.load (some 3) (.s 9)), (some (33, false)), 0⟩,
  ⟨(some 35), .p (.mov (.s 3)), (some (33, false)), 0⟩,
  ⟨(some 36), .qcall (.c (.fn 25 [])) [(.s 34), (.s 35)], (some (33, false)), 0⟩,
  ⟨(some 37), .m (.load (some 3) (.s 4)), (some (33, false)), 0⟩,
  ⟨(some 38), .p (.mov (.s 3)), (some (33, false)), 0⟩,
  ⟨(some 39), .call (.c (.fn 25 [])) [(.s 37), (.s 38)], (some (33, false)), 0⟩,
  ⟨(some 40), .p (.eqa true [.bool] false (.s 36) (.s 39)), (some (33, false)), 0⟩,
  ⟨(some 41), .p (.pick (.s 33) (.c (.v (.bool true))) (.s 40)), none, 0⟩,
  ⟨(some 42), .p (.mov (.s 41)), none, 0⟩,
  ⟨(some 43), .m (.load (some 3) (.s 9)), (some (42, false)), 0⟩,
  ⟨(some 44), .call (.c (.fn 29 [])) [(.s 43)], (some (42, false)), 0⟩,
  ⟨(some 45), .p (.un .not (.s 44)), (some (42, false)), 0⟩,
  ⟨(some 46), .p (.pick (.s 42) (.c (.v (.bool true))) (.s 45)), none, 0⟩,
  ⟨(some 47), .p (.mov (.s 46)), none, 0⟩,
  ⟨(some 48), .m (.load (some 3) (.s 9)), (some (47, false)), 0⟩,
  ⟨(some 49), .qcall (.c (.fn 28 [])) [(.s 48)], (some (47, false)), 0⟩,
  ⟨(some 50), .m (.load (some 3) (.s 9)), (some (47, false)), 0⟩,
  ⟨(some 51), .call (.c (.fn 14 [])) [(.s 49), (.s 50)], (some (47, false)), 0⟩,
  ⟨(some 52), .p (.un .not (.s 51)), (some (47, false)), 0⟩,
  ⟨(some 53), .p (.pick (.s 47) (.c (.v (.bool true))) (.s 52)), none, 0⟩])
def c7_5 : ACode := (.seq (.ops [
  ⟨(some 31), .call (.c (.fn 19 [])) [(.s 30)], none, 0⟩]) c7_4)
def c7_6 : ACode := (.cond (.s 53) (.seq (.ops [
  ⟨(some 8), .p (.mov (.c (.v (.bool false)))), none, 0⟩]) .ret) .skip)
def c7_7 : ACode := (.cond (.s 58) .skip (.exit 0))
def c7_8 : ACode := (.cond (.s 68) .skip (.exit 2))
def c7_9 : ACode := (.cond (.s 81) (.seq (.ops [
  ⟨(some 8), .p (.mov (.c (.v (.bool false)))), none, 0⟩]) .ret) .skip)
def c7_10 : ACode := (.ops [
  ⟨(some 82), .p (.mov (.s 10)), none, 0⟩,
  ⟨(some 83), .p (.fieldAddr 1 none (.s 9)), none, 0⟩,
  ⟨(some 84), .m (.load none (.s 83)), none, 0⟩,
  ⟨(some 85), .p (.mov (.s 11)), none, 0⟩,
  ⟨(some 86), .p (.adrSl 1 (.s 84) (.s 85)), none, 0⟩,
  ⟨(some 87), .m (.load none (.s 86)), none, 0⟩,
  ⟨(some 88), .p (.mov (.s 12)), none, 0⟩,
  ⟨(some 89), .p (.adrSl 1 (.s 87) (.s 88)), none, 0⟩,
  ⟨(some 90), .m (.load none (.s 89)), none, 0⟩,
  ⟨(some 91), .p (.mm true (.s 82) [(.s 90)]), none, 0⟩,
  ⟨(some 10), .p (.mov (.s 91)), none, 0⟩])
def c7_11 : ACode := (.ops [
  ⟨(some 69), .p (.mov (.s 12)), none, 0⟩,
  ⟨(some 70), .p (.bin .add (.s 69) (.c (.v (.int .i64 1)))), none, 0⟩,
  ⟨(some 12), .p (.mov (.s 70)), none, 0⟩])
def c7_12 : ACode := (.seq (.block 3 (.seq (.seq (.ops [
  ⟨(some 71), .p (.fieldAddr 1 none (.s 9)), none, 0⟩,
  ⟨(some 72), .m (.load none (.s 71)), none, 0⟩,
  ⟨(some 73), .p (.mov (.s 11)), none, 0⟩,
  ⟨(some 74), .p (.adrSl 1 (.s 72) (.s 73)), none, 0⟩,
  ⟨(some 75), .m (.load none (.s 74)), none, 0⟩,
  ⟨(some 76), .p (.mov (.s 12)), none, 0⟩,
  ⟨(some 77), .p (.adrSl 1 (.s 75) (.s 76)), none, 0⟩,
  ⟨(some 78), .m (.load none (.s 77)), none, 0⟩,
  ⟨(some 79), .p (.mov (.s 10)), none, 0⟩,
  ⟨(some 80), .p (.bin .add (.s 79) (.c (.v (.int .i64 1)))), none, 0⟩,
  ⟨(some 81), .p (.bin .gtr (.s 78) (.s 80)), none, 0⟩]) c7_9) c7_10)) c7_11)
def c7_13 : ACode := (.seq (.seq (.ops [
  ⟨(some 61), .p (.mov (.s 12)), none, 0⟩,
  ⟨(some 62), .p (.fieldAddr 1 none (.s 9)), none, 0⟩,
  ⟨(some 63), .m (.load none (.s 62)), none, 0⟩,
  ⟨(some 64), .p (.mov (.s 11)), none, 0⟩,
  ⟨(some 65), .p (.adrSl 1 (.s 63) (.s 64)), none, 0⟩,
  ⟨(some 66), .m (.load none (.s 65)), none, 0⟩,
  ⟨(some 67), .p (.len false (.s 66)), none, 3⟩,
  ⟨(some 68), .p (.bin .lss (.s 61) (.s 67)), none, 0⟩]) c7_8) c7_12)
def c7_14 : ACode := (.block 2 (.loop c7_13))
def c7_15 : ACode := (.ops [
  ⟨(some 59), .p (.mov (.s 11)), none, 0⟩,
  ⟨(some 60), .p (.bin .add (.s 59) (.c (.v (.int .i64 1)))), none, 0⟩,
  ⟨(some 11), .p (.mov (.s 60)), none, 0⟩])
def c7_16 : ACode := (.seq (.block 1 (.seq (.ops [
  ⟨(some 12), .p (.mov (.c (.v (.int .i64 0)))), none, 0⟩]) c7_14)) c7_15)
def c7_17 : ACode := (.seq (.seq (.ops [
  ⟨(some 54), .p (.mov (.s 11)), none, 0⟩,
  ⟨(some 55), .p (.fieldAddr 1 none (.s 9)), none, 0⟩,
  ⟨(some 56), .m (.load none (.s 55)), none, 0⟩,
  ⟨(some 57), .p (.len false (.s 56)), none, 40⟩,
  ⟨(some 58), .p (.bin .lss (.s 54) (.s 57)), none, 0⟩]) c7_7) c7_16)
def c7_18 : ACode := (.block 0 (.loop c7_17))
def c7_19 : List AOper := [
  ⟨(some 1), .p (.mov (.s 96)), none, 0⟩]
def c7_20 : List AOper := [
  ⟨(some 2), .p (.mov (.s 101)), none, 0⟩]
def c7_21 : ACode := (.draw [
  ⟨(some 115), .p (.pick (.s 113) (.s 114) (.c (.v (.bool false)))), none, 0⟩,
  ⟨(some 8), .p (.mov (.s 115)), none, 0⟩])
def c7_22 : ACode := (.seq (.ops [
  ⟨(some 114), .call (.c (.fn 15 [])) [], (some (113, true)), 0⟩]) c7_21)
def c7_23 : ACode := (.seq (.seq (.draw [
  ⟨(some 102), .p (.mov (.s 1)), none, 0⟩,
  ⟨(some 103), .p (.mov (.s 2)), none, 0⟩,
  ⟨(some 104), .p (.bin .eql (.s 102) (.s 103)), none, 0⟩,
  ⟨(some 105), .m (.load (some 3) (.s 9)), none, 0⟩,
  ⟨(some 106), .p (.mov (.s 1)), none, 0⟩,
  ⟨(some 107), .qcall (.c (.fn 32 [])) [(.s 105), (.s 106)], none, 0⟩,
  ⟨(some 108), .m (.load (some 3) (.s 9)), none, 0⟩,
  ⟨(some 109), .p (.mov (.s 2)), none, 0⟩,
  ⟨(some 110), .call (.c (.fn 32 [])) [(.s 108), (.s 109)], none, 0⟩,
  ⟨(some 111), .call (.c (.fn 31 [])) [(.s 107), (.s 110)], none, 0⟩,
  ⟨(some 112), .p (.eqa false [.bool] false (.s 104) (.s 111)), none, 0⟩,
  ⟨(some 113), .p (.mov (.s 112)), none, 0⟩]) c7_22) .ret)
def c7_24 : ACode := (.seq (.ops (⟨(some 97), .p (.mov (.s 2)), none, 0⟩ ::
  ⟨(some 98), .p (.fieldAddr 1 none (.s 9)), none, 0⟩ ::
  ⟨(some 99), .m (.load none (.s 98)), none, 0⟩ ::
  ⟨(some 100), .p (.len false (.s 99)), none, 40⟩ ::
  ⟨(some 101), .call (.c (.fn 30 [])) [(.s 97), (.s 100)], none, 0⟩ :: c7_20)) c7_23)
def c7_25 : ACode := (.seq (.ops (⟨(some 92), .p (.mov (.s 1)), none, 0⟩ ::
  ⟨(some 93), .p (.fieldAddr 1 none (.s 9)), none, 0⟩ ::
  ⟨(some 94), .m (.load none (.s 93)), none, 0⟩ ::
  ⟨(some 95), .p (.len false (.s 94)), none, 40⟩ ::
  ⟨(some 96), .call (.c (.fn 30 [])) [(.s 92), (.s 95)], none, 0⟩ :: c7_19)) c7_24)
def c7_26 : ACode := (.seq (.seq (.ops [
  ⟨(some 11), .p (.mov (.c (.v (.int .i64 0)))), none, 0⟩]) c7_18) c7_25)
def c7_27 : ACode := (.seq (.ops [
  ⟨(some 10), .p (.mov (.c (.v (.int .i64 0)))), none, 0⟩]) c7_26)
def c7_28 : ACode := (.seq (.seq (.seq (.draw [
  ⟨(some 30), .m (.load (some 3) (.s 9)), none, 0⟩]) c7_5) c7_6) c7_27)
def c7_29 : ACode := (.seq (.seq (.ops (⟨(some 15), .m (.load (some 3) (.s 4)), none, 0⟩ ::
  ⟨(some 16), .call (.c (.fn 19 [])) [(.s 15)], none, 0⟩ :: c7_1)) c7_3) c7_28)
def c7_30 : ACode := (.seq (.ops (⟨(some 13), .m (.load (some 3) (.s 4)), none, 0⟩ ::
  ⟨(some 14), .call (.c (.fn 28 [])) [(.s 13)], none, 0⟩ :: c7_0)) c7_29)
def c7 : ACode := (.seq (.ops [
  ⟨(some 4), .m (.box (.s 0)), none, 0⟩,
  ⟨(some 8), .p (.mov (.c (.v (.bool false)))), none, 0⟩]) c7_30)
theorem t7 : trC Tryd.prog Tryd.f7.ntmps (bodyOf Tryd.f7) = some c7 := by kernel_rfl
theorem r7 : Tryd.f7.results.toList.mapM (trR Tryd.prog) = some [.tmp 8] := by kernel_rfl
def i7 : FI := ⟨116, c7, [.tmp 8]⟩
theorem k7 : Knows Tryd.prog 7 i7 := ⟨Tryd.f7, bodyOf Tryd.f7, Tryd.func7, by kernel_rfl, by kernel_rfl, t7, r7, by kernel_rfl⟩
-- 14 drover/droverref19.Alike []
def c14_0 : ACode := (.cond (.s 29) (.seq (.ops [
  ⟨(some 4), .p (.mov (.c (.v (.bool false)))), none, 0⟩]) .ret) .skip)
def c14_1 : ACode := (.cond (.s 34) .skip (.exit 0))
def c14_2 : ACode := (.draw [
  ⟨(some 48), .p (.un .not (.s 47)), none, 0⟩])
def c14_3 : ACode := (.seq (.ops [
  ⟨(some 47), .call (.c (.fn 18 [])) [(.s 41), (.s 46)], none, 3⟩]) c14_2)
def c14_4 : ACode := (.cond (.s 48) (.seq (.ops [
  ⟨(some 4), .p (.mov (.c (.v (.bool false)))), none, 0⟩]) .ret) .skip)
def c14_5 : ACode := (.ops [
  ⟨(some 35), .p (.mov (.s 5)), none, 0⟩,
  ⟨(some 36), .p (.bin .add (.s 35) (.c (.v (.int .i64 1)))), none, 0⟩,
  ⟨(some 5), .p (.mov (.s 36)), none, 0⟩])
def c14_6 : ACode := (.seq (.block 1 (.seq (.seq (.draw [
  ⟨(some 37), .p (.fieldAddr 1 none (.s 2)), none, 0⟩,
  ⟨(some 38), .m (.load none (.s 37)), none, 0⟩,
  ⟨(some 39), .p (.mov (.s 5)), none, 0⟩,
  ⟨(some 40), .p (.adrSl 1 (.s 38) (.s 39)), none, 0⟩,
  ⟨(some 41), .m (.load none (.s 40)), none, 0⟩,
  ⟨(some 42), .p (.fieldAddr 1 none (.s 3)), none, 0⟩,
  ⟨(some 43), .m (.load none (.s 42)), none, 0⟩,
  ⟨(some 44), .p (.mov (.s 5)), none, 0⟩,
  ⟨(some 45), .p (.adrSl 1 (.s 43) (.s 44)), none, 0⟩,
  ⟨(some 46), .m (.load none (.s 45)), none, 0⟩]) c14_3) c14_4)) c14_5)
def c14_7 : ACode := (.seq (.seq (.ops [
  ⟨(some 30), .p (.mov (.s 5)), none, 0⟩,
  ⟨(some 31), .p (.fieldAddr 1 none (.s 2)), none, 0⟩,
  ⟨(some 32), .m (.load none (.s 31)), none, 0⟩,
  ⟨(some 33), .p (.len false (.s 32)), none, 40⟩,
  ⟨(some 34), .p (.bin .lss (.s 30) (.s 33)), none, 0⟩]) c14_1) c14_6)
def c14_8 : ACode := (.block 0 (.loop c14_7))
def c14_9 : ACode := (.cond (.s 53) .skip (.exit 2))
def c14_10 : ACode := (.cond (.s 66) (.seq (.ops [
  ⟨(some 4), .p (.mov (.c (.v (.bool false)))), none, 0⟩]) .ret) .skip)
def c14_11 : ACode := (.ops [
  ⟨(some 54), .p (.mov (.s 6)), none, 0⟩,
  ⟨(some 55), .p (.bin .add (.s 54) (.c (.v (.int .i64 1)))), none, 0⟩,
  ⟨(some 6), .p (.mov (.s 55)), none, 0⟩])
def c14_12 : ACode := (.seq (.block 3 (.seq (.draw [
  ⟨(some 56), .p (.fieldAddr 2 none (.s 2)), none, 0⟩,
  ⟨(some 57), .m (.load none (.s 56)), none, 0⟩,
  ⟨(some 58), .p (.mov (.s 6)), none, 0⟩,
  ⟨(some 59), .p (.adrSl 1 (.s 57) (.s 58)), none, 0⟩,
  ⟨(some 60), .m (.load none (.s 59)), none, 0⟩,
  ⟨(some 61), .p (.fieldAddr 2 none (.s 3)), none, 0⟩,
  ⟨(some 62), .m (.load none (.s 61)), none, 0⟩,
  ⟨(some 63), .p (.mov (.s 6)), none, 0⟩,
  ⟨(some 64), .p (.adrSl 1 (.s 62) (.s 63)), none, 0⟩,
  ⟨(some 65), .m (.load none (.s 64)), none, 0⟩,
  ⟨(some 66), .p (.eqa true [.bool] false (.s 60) (.s 65)), none, 0⟩]) c14_10)) c14_11)
def c14_13 : ACode := (.seq (.seq (.ops [
  ⟨(some 49), .p (.mov (.s 6)), none, 0⟩,
  ⟨(some 50), .p (.fieldAddr 2 none (.s 2)), none, 0⟩,
  ⟨(some 51), .m (.load none (.s 50)), none, 0⟩,
  ⟨(some 52), .p (.len false (.s 51)), none, 4⟩,
  ⟨(some 53), .p (.bin .lss (.s 49) (.s 52)), none, 0⟩]) c14_9) c14_12)
def c14_14 : ACode := (.block 2 (.loop c14_13))
def c14_15 : ACode := (.seq (.ops [
  ⟨(some 4), .p (.mov (.c (.v (.bool true)))), none, 0⟩]) .ret)
def c14_16 : ACode := (.seq (.seq (.ops [
  ⟨(some 6), .p (.mov (.c (.v (.int .i64 0)))), none, 0⟩]) c14_14) c14_15)
def c14_17 : ACode := (.seq (.seq (.ops [
  ⟨(some 5), .p (.mov (.c (.v (.int .i64 0)))), none, 0⟩]) c14_8) c14_16)
def c14_18 : ACode := (.seq (.seq (.ops [
  ⟨(some 7), .p (.fieldAddr 0 none (.s 2)), none, 0⟩,
  ⟨(some 8), .m (.load none (.s 7)), none, 0⟩,
  ⟨(some 9), .p (.fieldAddr 0 none (.s 3)), none, 0⟩,
  ⟨(some 10), .m (.load none (.s 9)), none, 0⟩,
  ⟨(some 11), .p (.bin .neq (.s 8) (.s 10)), none, 0⟩,
  ⟨(some 12), .p (.mov (.s 11)), none, 0⟩,
  ⟨(some 13), .p (.fieldAddr 1 none (.s 2)), (some (12, false)), 0⟩,
  ⟨(some 14), .m (.load none (.s 13)), (some (12, false)), 0⟩,
  ⟨(some 15), .p (.len false (.s 14)), (some (12, false)), 40⟩,
  ⟨(some 16), .p (.fieldAddr 1 none (.s 3)), (some (12, false)), 0⟩,
  ⟨(some 17), .m (.load none (.s 16)), (some (12, false)), 0⟩,
  ⟨(some 18), .p (.len false (.s 17)), (some (12, false)), 40⟩,
  ⟨(some 19), .p (.bin .neq (.s 15) (.s 18)), (some (12, false)), 0⟩,
  ⟨(some 20), .p (.pick (.s 12) (.c (.v (.bool true))) (.s 19)), none, 0⟩,
  ⟨(some 21), .p (.mov (.s 20)), none, 0⟩,
  ⟨(some 22), .p (.fieldAddr 2 none (.s 2)), (some (21, false)), 0⟩,
  ⟨(some 23), .m (.load none (.s 22)), (some (21, false)), 0⟩,
  ⟨(some 24), .p (.len false (.s 23)), (some (21, false)), 4⟩,
  ⟨(some 25), .p (.fieldAddr 2 none (.s 3)), (some (21, false)), 0⟩,
  ⟨(some 26), .m (.load none (.s 25)), (some (21, false)), 0⟩,
  ⟨(some 27), .p (.len false (.s 26)), (some (21, false)), 4⟩,
  ⟨(some 28), .p (.bin .neq (.s 24) (.s 27)), (some (21, false)), 0⟩,
  ⟨(some 29), .p (.pick (.s 21) (.c (.v (.bool true))) (.s 28)), none, 0⟩]) c14_0) c14_17)
def c14 : ACode := (.seq (.ops [
  ⟨(some 2), .m (.box (.s 0)), none, 0⟩,
  ⟨(some 3), .m (.box (.s 1)), none, 0⟩,
  ⟨(some 4), .p (.mov (.c (.v (.bool false)))), none, 0⟩]) c14_18)
theorem t14 : trC Tryd.prog Tryd.f14.ntmps (bodyOf Tryd.f14) = some c14 := by kernel_rfl
theorem r14 : Tryd.f14.results.toList.mapM (trR Tryd.prog) = some [.tmp 4] := by kernel_rfl
def i14 : FI := ⟨67, c14, [.tmp 4]⟩
theorem k14 : Knows Tryd.prog 14 i14 := ⟨Tryd.f14, bodyOf Tryd.f14, Tryd.func14, by kernel_rfl, by kernel_rfl, t14, r14, by kernel_rfl⟩
-- 18 drover/droverref18.Ints []
def c18_0 : ACode := (.cond (.s 10) (.seq (.ops [
  ⟨(some 4), .p (.mov (.c (.v (.bool false)))), none, 0⟩]) .ret) .skip)
def c18_1 : ACode := (.cond (.s 14) .skip (.exit 0))
def c18_2 : ACode := (.cond (.s 25) (.seq (.ops [
  ⟨(some 4), .p (.mov (.c (.v (.bool false)))), none, 0⟩]) .ret) .skip)
def c18_3 : ACode := (.ops [
  ⟨(some 15), .p (.mov (.s 5)), none, 0⟩,
  ⟨(some 16), .p (.bin .add (.s 15) (.c (.v (.int .i64 1)))), none, 0⟩,
  ⟨(some 5), .p (.mov (.s 16)), none, 0⟩])
def c18_4 : ACode := (.seq (.block 1 (.seq (.draw [
  ⟨(some 17), .p (.mov (.s 0)), none, 0⟩,
  ⟨(some 18), .p (.mov (.s 5)), none, 0⟩,
  ⟨(some 19), .p (.adrSl 1 (.s 17) (.s 18)), none, 0⟩,
  ⟨(some 20), .m (.load none (.s 19)), none, 0⟩,
  ⟨(some 21), .p (.mov (.s 1)), none, 0⟩,
  ⟨(some 22), .p (.mov (.s 5)), none, 0⟩,
  ⟨(some 23), .p (.adrSl 1 (.s 21) (.s 22)), none, 0⟩,
  ⟨(some 24), .m (.load none (.s 23)), none, 0⟩,
  ⟨(some 25), .p (.bin .neq (.s 20) (.s 24)), none, 0⟩]) c18_2)) c18_3)
def c18_5 : ACode := (.seq (.seq (.ops [
  ⟨(some 11), .p (.mov (.s 5)), none, 0⟩,
  ⟨(some 12), .p (.mov (.s 0)), none, 0⟩,
  ⟨(some 13), .p (.len false (.s 12)), none, 3⟩,
  ⟨(some 14), .p (.bin .lss (.s 11) (.s 13)), none, 0⟩]) c18_1) c18_4)
def c18_6 : ACode := (.block 0 (.loop c18_5))
def c18_7 : ACode := (.seq (.ops [
  ⟨(some 4), .p (.mov (.c (.v (.bool true)))), none, 0⟩]) .ret)
def c18_8 : ACode := (.seq (.seq (.ops [
  ⟨(some 5), .p (.mov (.c (.v (.int .i64 0)))), none, 0⟩]) c18_6) c18_7)
def c18_9 : ACode := (.seq (.seq (.ops [
  ⟨(some 6), .p (.mov (.s 0)), none, 0⟩,
  ⟨(some 7), .p (.len false (.s 6)), none, 3⟩,
  ⟨(some 8), .p (.mov (.s 1)), none, 0⟩,
  ⟨(some 9), .p (.len false (.s 8)), none, 3⟩,
  ⟨(some 10), .p (.bin .neq (.s 7) (.s 9)), none, 0⟩]) c18_0) c18_8)
def c18 : ACode := (.seq (.ops [
  ⟨(some 4), .p (.mov (.c (.v (.bool false)))), none, 0⟩]) c18_9)
theorem t18 : trC Tryd.prog Tryd.f18.ntmps (bodyOf Tryd.f18) = some c18 := by kernel_rfl
theorem r18 : Tryd.f18.results.toList.mapM (trR Tryd.prog) = some [.tmp 4] := by kernel_rfl
def i18 : FI := ⟨26, c18, [.tmp 4]⟩
theorem k18 : Knows Tryd.prog 18 i18 := ⟨Tryd.f18, bodyOf Tryd.f18, Tryd.func18, by kernel_rfl, by kernel_rfl, t18, r18, by kernel_rfl⟩
-- 19 drover/dfa.Right []
def c19_0 : ACode := (.cond (.s 35) (.seq (.ops [
  ⟨(some 2), .p (.mov (.c (.v (.bool false)))), none, 0⟩]) .ret) .skip)
def c19_1 : ACode := (.cond (.s 47) (.seq (.ops [
  ⟨(some 2), .p (.mov (.c (.v (.bool false)))), none, 0⟩]) .ret) .skip)
def c19_2 : ACode := (.cond (.s 62) (.seq (.ops [
  ⟨(some 2), .p (.mov (.c (.v (.bool false)))), none, 0⟩]) .ret) .skip)
def c19_3 : ACode := (.seq (.ops [
  ⟨(some 54), .p (.mov (.s 6)), none, 0⟩,
  ⟨(some 55), .p (.bin .lss (.s 54) (.c (.v (.int .i64 0)))), none, 0⟩,
  ⟨(some 56), .p (.mov (.s 55)), none, 0⟩,
  ⟨(some 57), .p (.mov (.s 6)), (some (56, false)), 0⟩,
  ⟨(some 58), .p (.fieldAddr 1 none (.s 1)), (some (56, false)), 0⟩,
  ⟨(some 59), .m (.load none (.s 58)), (some (56, false)), 0⟩,
  ⟨(some 60), .p (.len false (.s 59)), (some (56, false)), 40⟩,
  ⟨(some 61), .p (.bin .geq (.s 57) (.s 60)), (some (56, false)), 0⟩,
  ⟨(some 62), .p (.pick (.s 56) (.c (.v (.bool true))) (.s 61)), none, 0⟩]) c19_2)
def c19_4 : ACode := (.ops [
  ⟨(some 63), .p (.bin .add (.s 50) (.c (.v (.int .i64 1)))), none, 0⟩,
  ⟨(some 50), .p (.mov (.s 63)), none, 0⟩])
def c19_5 : ACode := (.seq (.block 3 (.seq (.ops [
  ⟨(some 52), .p (.adrSl 1 (.s 48) (.s 50)), none, 0⟩,
  ⟨(some 53), .m (.load none (.s 52)), none, 0⟩,
  ⟨(some 6), .p (.mov (.s 53)), none, 0⟩]) c19_3)) c19_4)
def c19_6 : ACode := (.seq (.cond (.s 51) .skip (.exit 2)) c19_5)
def c19_7 : ACode := (.seq (.ops [
  ⟨(some 51), .p (.bin .lss (.s 50) (.s 49)), none, 0⟩]) c19_6)
def c19_8 : ACode := (.block 2 (.loop c19_7))
def c19_9 : ACode := (.seq (.ops [
  ⟨(some 48), .p (.mov (.s 4)), none, 0⟩,
  ⟨(some 49), .p (.len false (.s 48)), none, 3⟩,
  ⟨(some 50), .p (.mov (.c (.v (.int .i64 0)))), none, 0⟩]) c19_8)
def c19_10 : ACode := (.seq (.seq (.ops [
  ⟨(some 43), .p (.mov (.s 4)), none, 0⟩,
  ⟨(some 44), .p (.len false (.s 43)), none, 3⟩,
  ⟨(some 45), .p (.fieldAddr 0 none (.s 1)), none, 0⟩,
  ⟨(some 46), .m (.load none (.s 45)), none, 0⟩,
  ⟨(some 47), .p (.bin .neq (.s 44) (.s 46)), none, 0⟩]) c19_1) c19_9)
def c19_11 : ACode := (.ops [
  ⟨(some 64), .p (.bin .add (.s 39) (.c (.v (.int .i64 1)))), none, 0⟩,
  ⟨(some 39), .p (.mov (.s 64)), none, 0⟩])
def c19_12 : ACode := (.seq (.block 1 (.seq (.ops [
  ⟨(some 41), .p (.adrSl 1 (.s 37) (.s 39)), none, 0⟩,
  ⟨(some 42), .m (.load none (.s 41)), none, 0⟩,
  ⟨(some 4), .p (.mov (.s 42)), none, 0⟩]) c19_10)) c19_11)
def c19_13 : ACode := (.seq (.cond (.s 40) .skip (.exit 0)) c19_12)
def c19_14 : ACode := (.seq (.ops [
  ⟨(some 40), .p (.bin .lss (.s 39) (.s 38)), none, 0⟩]) c19_13)
def c19_15 : ACode := (.block 0 (.loop c19_14))
def c19_16 : ACode := (.seq (.ops [
  ⟨(some 2), .p (.mov (.c (.v (.bool true)))), none, 0⟩]) .ret)
def c19_17 : ACode := (.seq (.seq (.ops [
  ⟨(some 36), .p (.fieldAddr 1 none (.s 1)), none, 0⟩,
  ⟨(some 37), .m (.load none (.s 36)), none, 0⟩,
  ⟨(some 38), .p (.len false (.s 37)), none, 40⟩,
  ⟨(some 39), .p (.mov (.c (.v (.int .i64 0)))), none, 0⟩]) c19_15) c19_16)
def c19_18 : ACode := (.seq (.seq (.ops [
  ⟨(some 7), .p (.fieldAddr 0 none (.s 1)), none, 0⟩,
  ⟨(some 8), .m (.load none (.s 7)), none, 0⟩,
  ⟨(some 9), .p (.bin .lss (.s 8) (.c (.v (.int .i64 1)))), none, 0⟩,
  ⟨(some 10), .p (.mov (.s 9)), none, 0⟩,
  ⟨(some 11), .p (.fieldAddr 0 none (.s 1)), (some (10, false)), 0⟩,
  ⟨(some 12), .m (.load none (.s 11)), (some (10, false)), 0⟩,
  ⟨(some 13), .p (.bin .gtr (.s 12) (.c (.v (.int .i64 32)))), (some (10, false)), 0⟩,
  ⟨(some 14), .p (.pick (.s 10) (.c (.v (.bool true))) (.s 13)), none, 0⟩,
  ⟨(some 15), .p (.mov (.s 14)), none, 0⟩,
  ⟨(some 16), .p (.fieldAddr 1 none (.s 1)), (some (15, false)), 0⟩,
  ⟨(some 17), .m (.load none (.s 16)), (some (15, false)), 0⟩,
  ⟨(some 18), .p (.len false (.s 17)), (some (15, false)), 40⟩,
  ⟨(some 19), .p (.bin .lss (.s 18) (.c (.v (.int .i64 1)))), (some (15, false)), 0⟩,
  ⟨(some 20), .p (.pick (.s 15) (.c (.v (.bool true))) (.s 19)), none, 0⟩,
  ⟨(some 21), .p (.mov (.s 20)), none, 0⟩,
  ⟨(some 22), .p (.fieldAddr 1 none (.s 1)), (some (21, false)), 0⟩,
  ⟨(some 23), .m (.load none (.s 22)), (some (21, false)), 0⟩,
  ⟨(some 24), .p (.len false (.s 23)), (some (21, false)), 40⟩,
  ⟨(some 25), .p (.bin .gtr (.s 24) (.c (.v (.int .i64 256)))), (some (21, false)), 0⟩,
  ⟨(some 26), .p (.pick (.s 21) (.c (.v (.bool true))) (.s 25)), none, 0⟩,
  ⟨(some 27), .p (.mov (.s 26)), none, 0⟩,
  ⟨(some 28), .p (.fieldAddr 2 none (.s 1)), (some (27, false)), 0⟩,
  ⟨(some 29), .m (.load none (.s 28)), (some (27, false)), 0⟩,
  ⟨(some 30), .p (.len false (.s 29)), (some (27, false)), 4⟩,
  ⟨(some 31), .p (.fieldAddr 1 none (.s 1)), (some (27, false)), 0⟩,
  ⟨(some 32), .m (.load none (.s 31)), (some (27, false)), 0⟩,
  ⟨(some 33), .p (.len false (.s 32)), (some (27, false)), 40⟩,
  ⟨(some 34), .p (.bin .neq (.s 30) (.s 33)), (some (27, false)), 0⟩,
  ⟨(some 35), .p (.pick (.s 27) (.c (.v (.bool true))) (.s 34)), none, 0⟩]) c19_0) c19_17)
def c19 : ACode := (.seq (.ops [
  ⟨(some 1), .m (.box (.s 0)), none, 0⟩,
  ⟨(some 2), .p (.mov (.c (.v (.bool false)))), none, 0⟩]) c19_18)
theorem t19 : trC Tryd.prog Tryd.f19.ntmps (bodyOf Tryd.f19) = some c19 := by kernel_rfl
theorem r19 : Tryd.f19.results.toList.mapM (trR Tryd.prog) = some [.tmp 2] := by kernel_rfl
def i19 : FI := ⟨65, c19, [.tmp 2]⟩
theorem k19 : Knows Tryd.prog 19 i19 := ⟨Tryd.f19, bodyOf Tryd.f19, Tryd.func19, by kernel_rfl, by kernel_rfl, t19, r19, by kernel_rfl⟩
-- 20 drover/droverref19.Right []
def c20_0 : ACode := (.cond (.s 33) (.seq (.ops [
  ⟨(some 2), .p (.mov (.c (.v (.bool false)))), none, 0⟩]) .ret) .skip)
def c20_1 : ACode := (.cond (.s 38) .skip (.exit 0))
def c20_2 : ACode := (.cond (.s 49) (.seq (.ops [
  ⟨(some 2), .p (.mov (.c (.v (.bool false)))), none, 0⟩]) .ret) .skip)
def c20_3 : ACode := (.cond (.s 57) .skip (.exit 2))
def c20_4 : ACode := (.cond (.s 82) (.seq (.ops [
  ⟨(some 2), .p (.mov (.c (.v (.bool false)))), none, 0⟩]) .ret) .skip)
def c20_5 : ACode := (.ops [
  ⟨(some 58), .p (.mov (.s 4)), none, 0⟩,
  ⟨(some 59), .p (.bin .add (.s 58) (.c (.v (.int .i64 1)))), none, 0⟩,
  ⟨(some 4), .p (.mov (.s 59)), none, 0⟩])
def c20_6 : ACode := (.seq (.block 3 (.seq (.draw [
  ⟨(some 60), .p (.fieldAddr 1 none (.s 1)), none, 0⟩,
  ⟨(some 61), .m (.load none (.s 60)), none, 0⟩,
  ⟨(some 62), .p (.mov (.s 3)), none, 0⟩,
  ⟨(some 63), .p (.adrSl 1 (.s 61) (.s 62)), none, 0⟩,
  ⟨(some 64), .m (.load none (.s 63)), none, 0⟩,
  ⟨(some 65), .p (.mov (.s 4)), none, 0⟩,
  ⟨(some 66), .p (.adrSl 1 (.s 64) (.s 65)), none, 0⟩,
  ⟨(some 67), .m (.load none (.s 66)), none, 0⟩,
  ⟨(some 68), .p (.bin .lss (.s 67) (.c (.v (.int .i64 0)))), none, 0⟩,
  ⟨(some 69), .p (.mov (.s 68)), none, 0⟩,
  ⟨(some 70), .p (.fieldAddr 1 none (.s 1)), (some (69, false)), 0⟩,
  ⟨(some 71), .m (.load none (.s 70)), (some (69, false)), 0⟩,
  ⟨(some 72), .p (.mov (.s 3)), (some (69, false)), 0⟩,
  ⟨(some 73), .p (.adrSl 1 (.s 71) (.s 72)), (some (69, false)), 0⟩,
  ⟨(some 74), .m (.load none (.s 73)), (some (69, false)), 0⟩,
  ⟨(some 75), .p (.mov (.s 4)), (some (69, false)), 0⟩,
  ⟨(some 76), .p (.adrSl 1 (.s 74) (.s 75)), (some (69, false)), 0⟩,
  ⟨(some 77), .m (.load none (.s 76)), (some (69, false)), 0⟩,
  ⟨(some 78), .p (.fieldAddr 1 none (.s 1)), (some (69, false)), 0⟩,
  ⟨(some 79), .m (.load none (.s 78)), (some (69, false)), 0⟩,
  ⟨(some 80), .p (.len false (.s 79)), (some (69, false)), 40⟩,
  ⟨(some 81), .p (.bin .geq (.s 77) (.s 80)), (some (69, false)), 0⟩,
  ⟨(some 82), .p (.pick (.s 69) (.c (.v (.bool true))) (.s 81)), none, 0⟩]) c20_4)) c20_5)
def c20_7 : ACode := (.seq (.seq (.ops [
  ⟨(some 50), .p (.mov (.s 4)), none, 0⟩,
  ⟨(some 51), .p (.fieldAddr 1 none (.s 1)), none, 0⟩,
  ⟨(some 52), .m (.load none (.s 51)), none, 0⟩,
  ⟨(some 53), .p (.mov (.s 3)), none, 0⟩,
  ⟨(some 54), .p (.adrSl 1 (.s 52) (.s 53)), none, 0⟩,
  ⟨(some 55), .m (.load none (.s 54)), none, 0⟩,
  ⟨(some 56), .p (.len false (.s 55)), none, 3⟩,
  ⟨(some 57), .p (.bin .lss (.s 50) (.s 56)), none, 0⟩]) c20_3) c20_6)
def c20_8 : ACode := (.block 2 (.loop c20_7))
def c20_9 : ACode := (.seq (.ops [
  ⟨(some 4), .p (.mov (.c (.v (.int .i64 0)))), none, 0⟩]) c20_8)
def c20_10 : ACode := (.ops [
  ⟨(some 39), .p (.mov (.s 3)), none, 0⟩,
  ⟨(some 40), .p (.bin .add (.s 39) (.c (.v (.int .i64 1)))), none, 0⟩,
  ⟨(some 3), .p (.mov (.s 40)), none, 0⟩])
def c20_11 : ACode := (.seq (.block 1 (.seq (.seq (.draw [
  ⟨(some 41), .p (.fieldAddr 1 none (.s 1)), none, 0⟩,
  ⟨(some 42), .m (.load none (.s 41)), none, 0⟩,
  ⟨(some 43), .p (.mov (.s 3)), none, 0⟩,
  ⟨(some 44), .p (.adrSl 1 (.s 42) (.s 43)), none, 0⟩,
  ⟨(some 45), .m (.load none (.s 44)), none, 0⟩,
  ⟨(some 46), .p (.len false (.s 45)), none, 3⟩,
  ⟨(some 47), .p (.fieldAddr 0 none (.s 1)), none, 0⟩,
  ⟨(some 48), .m (.load none (.s 47)), none, 0⟩,
  ⟨(some 49), .p (.bin .neq (.s 46) (.s 48)), none, 0⟩]) c20_2) c20_9)) c20_10)
def c20_12 : ACode := (.seq (.seq (.ops [
  ⟨(some 34), .p (.mov (.s 3)), none, 0⟩,
  ⟨(some 35), .p (.fieldAddr 1 none (.s 1)), none, 0⟩,
  ⟨(some 36), .m (.load none (.s 35)), none, 0⟩,
  ⟨(some 37), .p (.len false (.s 36)), none, 40⟩,
  ⟨(some 38), .p (.bin .lss (.s 34) (.s 37)), none, 0⟩]) c20_1) c20_11)
def c20_13 : ACode := (.block 0 (.loop c20_12))
def c20_14 : ACode := (.seq (.ops [
  ⟨(some 2), .p (.mov (.c (.v (.bool true)))), none, 0⟩]) .ret)
def c20_15 : ACode := (.seq (.seq (.ops [
  ⟨(some 3), .p (.mov (.c (.v (.int .i64 0)))), none, 0⟩]) c20_13) c20_14)
def c20_16 : ACode := (.seq (.seq (.ops [
  ⟨(some 5), .p (.fieldAddr 0 none (.s 1)), none, 0⟩,
  ⟨(some 6), .m (.load none (.s 5)), none, 0⟩,
  ⟨(some 7), .p (.bin .lss (.s 6) (.c (.v (.int .i64 1)))), none, 0⟩,
  ⟨(some 8), .p (.mov (.s 7)), none, 0⟩,
  ⟨(some 9), .p (.fieldAddr 0 none (.s 1)), (some (8, false)), 0⟩,
  ⟨(some 10), .m (.load none (.s 9)), (some (8, false)), 0⟩,
  ⟨(some 11), .p (.bin .gtr (.s 10) (.c (.v (.int .i64 32)))), (some (8, false)), 0⟩,
  ⟨(some 12), .p (.pick (.s 8) (.c (.v (.bool true))) (.s 11)), none, 0⟩,
  ⟨(some 13), .p (.mov (.s 12)), none, 0⟩,
  ⟨(some 14), .p (.fieldAddr 1 none (.s 1)), (some (13, false)), 0⟩,
  ⟨(some 15), .m (.load none (.s 14)), (some (13, false)), 0⟩,
  ⟨(some 16), .p (.len false (.s 15)), (some (13, false)), 40⟩,
  ⟨(some 17), .p (.bin .lss (.s 16) (.c (.v (.int .i64 1)))), (some (13, false)), 0⟩,
  ⟨(some 18), .p (.pick (.s 13) (.c (.v (.bool true))) (.s 17)), none, 0⟩,
  ⟨(some 19), .p (.mov (.s 18)), none, 0⟩,
  ⟨(some 20), .p (.fieldAddr 1 none (.s 1)), (some (19, false)), 0⟩,
  ⟨(some 21), .m (.load none (.s 20)), (some (19, false)), 0⟩,
  ⟨(some 22), .p (.len false (.s 21)), (some (19, false)), 40⟩,
  ⟨(some 23), .p (.bin .gtr (.s 22) (.c (.v (.int .i64 256)))), (some (19, false)), 0⟩,
  ⟨(some 24), .p (.pick (.s 19) (.c (.v (.bool true))) (.s 23)), none, 0⟩,
  ⟨(some 25), .p (.mov (.s 24)), none, 0⟩,
  ⟨(some 26), .p (.fieldAddr 2 none (.s 1)), (some (25, false)), 0⟩,
  ⟨(some 27), .m (.load none (.s 26)), (some (25, false)), 0⟩,
  ⟨(some 28), .p (.len false (.s 27)), (some (25, false)), 4⟩,
  ⟨(some 29), .p (.fieldAddr 1 none (.s 1)), (some (25, false)), 0⟩,
  ⟨(some 30), .m (.load none (.s 29)), (some (25, false)), 0⟩,
  ⟨(some 31), .p (.len false (.s 30)), (some (25, false)), 40⟩,
  ⟨(some 32), .p (.bin .neq (.s 28) (.s 31)), (some (25, false)), 0⟩,
  ⟨(some 33), .p (.pick (.s 25) (.c (.v (.bool true))) (.s 32)), none, 0⟩]) c20_0) c20_15)
def c20 : ACode := (.seq (.ops [
  ⟨(some 1), .m (.box (.s 0)), none, 0⟩,
  ⟨(some 2), .p (.mov (.c (.v (.bool false)))), none, 0⟩]) c20_16)
theorem t20 : trC Tryd.prog Tryd.f20.ntmps (bodyOf Tryd.f20) = some c20 := by kernel_rfl
theorem r20 : Tryd.f20.results.toList.mapM (trR Tryd.prog) = some [.tmp 2] := by kernel_rfl
def i20 : FI := ⟨83, c20, [.tmp 2]⟩
theorem k20 : Knows Tryd.prog 20 i20 := ⟨Tryd.f20, bodyOf Tryd.f20, Tryd.func20, by kernel_rfl, by kernel_rfl, t20, r20, by kernel_rfl⟩
-- 25 drover/dfa.Run []
def c25_0 : List AOper := [
  ⟨(some 10), .p (.un .not (.s 9)), none, 0⟩]
def c25_1 : ACode := (.cond (.s 10) (.seq (.ops [
  ⟨(some 4), .p (.mov (.c (.v (.bool false)))), none, 0⟩]) .ret) .skip)
def c25_2 : ACode := (.cond (.s 24) (.seq (.ops [
  ⟨(some 4), .p (.mov (.c (.v (.bool false)))), none, 0⟩]) .ret) .skip)
def c25_3 : ACode := (.ops [
  ⟨(some 25), .p (.fieldAddr 1 none (.s 2)), none, 0⟩,
  ⟨(some 26), .m (.load none (.s 25)), none, 0⟩,
  ⟨(some 27), .p (.mov (.s 5)), none, 0⟩,
  ⟨(some 28), .p (.adrSl 1 (.s 26) (.s 27)), none, 0⟩,
  ⟨(some 29), .m (.load none (.s 28)), none, 0⟩,
  ⟨(some 30), .p (.mov (.s 7)), none, 0⟩,
  ⟨(some 31), .p (.bin .sub (.s 30) (.c (.v (.int .i64 1)))), none, 0⟩,
  ⟨(some 32), .p (.adrSl 1 (.s 29) (.s 31)), none, 0⟩,
  ⟨(some 33), .m (.load none (.s 32)), none, 0⟩,
  ⟨(some 5), .p (.mov (.s 33)), none, 0⟩])
def c25_4 : ACode := (.seq (.seq (.ops [
  ⟨(some 17), .p (.mov (.s 7)), none, 0⟩,
  ⟨(some 18), .p (.bin .lss (.s 17) (.c (.v (.int .i64 1)))), none, 0⟩,
  ⟨(some 19), .p (.mov (.s 18)), none, 0⟩,
  ⟨(some 20), .p (.mov (.s 7)), (some (19, false)), 0⟩,
  ⟨(some 21), .p (.fieldAddr 0 none (.s 2)), (some (19, false)), 0⟩,
  ⟨(some 22), .m (.load none (.s 21)), (some (19, false)), 0⟩,
  ⟨(some 23), .p (.bin .gtr (.s 20) (.s 22)), (some (19, false)), 0⟩,
  ⟨(some 24), .p (.pick (.s 19) (.c (.v (.bool true))) (.s 23)), none, 0⟩]) c25_2) c25_3)
def c25_5 : ACode := (.ops [
  ⟨(some 34), .p (.bin .add (.s 13) (.c (.v (.int .i64 1)))), none, 0⟩,
  ⟨(some 13), .p (.mov (.s 34)), none, 0⟩])
def c25_6 : ACode := (.seq (.block 1 (.seq (.ops [
  ⟨(some 15), .p (.adrSl 1 (.s 11) (.s 13)), none, 0⟩,
  ⟨(some 16), .m (.load none (.s 15)), none, 0⟩,
  ⟨(some 7), .p (.mov (.s 16)), none, 0⟩]) c25_4)) c25_5)
def c25_7 : ACode := (.seq (.cond (.s 14) .skip (.exit 0)) c25_6)
def c25_8 : ACode := (.seq (.ops [
  ⟨(some 14), .p (.bin .lss (.s 13) (.s 12)), none, 0⟩]) c25_7)
def c25_9 : ACode := (.block 0 (.loop c25_8))
def c25_10 : ACode := (.seq (.ops [
  ⟨(some 35), .p (.fieldAddr 2 none (.s 2)), none, 0⟩,
  ⟨(some 36), .m (.load none (.s 35)), none, 0⟩,
  ⟨(some 37), .p (.mov (.s 5)), none, 0⟩,
  ⟨(some 38), .p (.adrSl 1 (.s 36) (.s 37)), none, 0⟩,
  ⟨(some 39), .m (.load none (.s 38)), none, 0⟩,
  ⟨(some 4), .p (.mov (.s 39)), none, 0⟩]) .ret)
def c25_11 : ACode := (.seq (.seq (.ops [
  ⟨(some 11), .p (.mov (.s 1)), none, 0⟩,
  ⟨(some 12), .p (.len false (.s 11)), none, 3⟩,
  ⟨(some 13), .p (.mov (.c (.v (.int .i64 0)))), none, 0⟩]) c25_9) c25_10)
def c25_12 : ACode := (.seq (.ops [
  ⟨(some 5), .p (.mov (.c (.v (.int .i64 0)))), none, 0⟩]) c25_11)
def c25_13 : ACode := (.seq (.seq (.ops (⟨(some 8), .m (.load (some 3) (.s 2)), none, 0⟩ ::
  ⟨(some 9), .call (.c (.fn 19 [])) [(.s 8)], none, 0⟩ :: c25_0)) c25_1) c25_12)
def c25 : ACode := (.seq (.ops [
  ⟨(some 2), .m (.box (.s 0)), none, 0⟩,
  ⟨(some 4), .p (.mov (.c (.v (.bool false)))), none, 0⟩]) c25_13)
theorem t25 : trC Tryd.prog Tryd.f25.ntmps (bodyOf Tryd.f25) = some c25 := by kernel_rfl
theorem r25 : Tryd.f25.results.toList.mapM (trR Tryd.prog) = some [.tmp 4] := by kernel_rfl
def i25 : FI := ⟨40, c25, [.tmp 4]⟩
theorem k25 : Knows Tryd.prog 25 i25 := ⟨Tryd.f25, bodyOf Tryd.f25, Tryd.func25, by kernel_rfl, by kernel_rfl, t25, r25, by kernel_rfl⟩
-- 27 drover/droverref19.Small []
def c27_0 : List AOper := [
  ⟨(some 13), .p (.un .not (.s 12)), none, 0⟩]
def c27_1 : ACode := (.cond (.s 13) (.seq (.ops [
  ⟨(some 14), .p (.build [(.v (.int .i64 0)), (.v (.slice none 0 0)), (.v (.slice none 0 0))] []), none, 0⟩,
  ⟨none, .m (.store (some 3) (.s 2) (.s 14)), none, 0⟩]) .ret) .skip)
def c27_2 : List AOper := [
  ⟨(some 3), .p (.mov (.s 16)), none, 0⟩]
def c27_3 : ACode := (.cond (.s 27) .skip (.exit 0))
def c27_4 : ACode := (.cond (.s 33) .skip (.exit 2))
def c27_5 : ACode := (.cond (.s 61) .skip (.exit 4))
def c27_6 : ACode := (.block 5 (.ops [
  ⟨(some 62), .p (.mov (.s 10)), none, 0⟩,
  ⟨(some 63), .p (.bin .add (.s 62) (.c (.v (.int .i64 1)))), none, 0⟩,
  ⟨(some 10), .p (.mov (.s 63)), none, 0⟩]))
def c27_7 : ACode := (.seq (.seq (.ops [
  ⟨(some 50), .p (.mov (.s 10)), none, 0⟩,
  ⟨(some 51), .p (.mov (.s 4)), none, 0⟩,
  ⟨(some 52), .p (.len false (.s 51)), none, 3⟩,
  ⟨(some 53), .p (.bin .lss (.s 50) (.s 52)), none, 0⟩,
  ⟨(some 54), .p (.mov (.s 53)), none, 0⟩,
  ⟨(some 55), .p (.mov (.s 4)), (some (54, true)), 0⟩,
  ⟨(some 56), .p (.mov (.s 10)), (some (54, true)), 0⟩,
  ⟨(some 57), .p (.adrSl 1 (.s 55) (.s 56)), (some (54, true)), 0⟩,
  ⟨(some 58), .m (.load none (.s 57)), (some (54, true)), 0⟩,
  ⟨(some 59), .p (.mov (.s 9)), (some (54, true)), 0⟩,
  ⟨(some 60), .p (.bin .neq (.s 58) (.s 59)), (some (54, true)), 0⟩,
  ⟨(some 61), .p (.pick (.s 54) (.s 60) (.c (.v (.bool false)))), none, 0⟩]) c27_5) c27_6)
def c27_8 : ACode := (.cond (.s 67) (.ops [
  ⟨(some 68), .p (.mov (.s 4)), none, 0⟩,
  ⟨(some 69), .p (.mov (.s 9)), none, 0⟩,
  ⟨(some 70), .m (.buildSlice 1 1 [(.v (.int .i64 0))] [(0, 1, (.s 69))]), none, 3⟩,
  ⟨(some 71), .m (.append 1 8 (.s 68) (.s 70)), none, 3⟩,
  ⟨(some 4), .p (.mov (.s 71)), none, 0⟩]) .skip)
def c27_9 : ACode := (.ops [
  ⟨(some 72), .p (.mov (.s 7)), none, 0⟩,
  ⟨(some 73), .p (.mov (.s 10)), none, 0⟩,
  ⟨(some 74), .m (.buildSlice 1 1 [(.v (.int .i64 0))] [(0, 1, (.s 73))]), none, 3⟩,
  ⟨(some 75), .m (.append 1 8 (.s 72) (.s 74)), none, 3⟩,
  ⟨(some 7), .p (.mov (.s 75)), none, 0⟩])
def c27_10 : ACode := (.seq (.seq (.ops [
  ⟨(some 64), .p (.mov (.s 10)), none, 0⟩,
  ⟨(some 65), .p (.mov (.s 4)), none, 0⟩,
  ⟨(some 66), .p (.len false (.s 65)), none, 3⟩,
  ⟨(some 67), .p (.bin .eql (.s 64) (.s 66)), none, 0⟩]) c27_8) c27_9)
def c27_11 : ACode := (.seq (.block 4 (.loop c27_7)) c27_10)
def c27_12 : ACode := (.seq (.ops [
  ⟨(some 10), .p (.mov (.c (.v (.int .i64 0)))), none, 0⟩]) c27_11)
def c27_13 : ACode := (.ops [
  ⟨(some 34), .p (.mov (.s 8)), none, 0⟩,
  ⟨(some 35), .p (.bin .add (.s 34) (.c (.v (.int .i64 1)))), none, 0⟩,
  ⟨(some 8), .p (.mov (.s 35)), none, 0⟩])
def c27_14 : ACode := (.seq (.block 3 (.seq (.draw [
  ⟨(some 36), .p (.mov (.s 3)), none, 0⟩,
  ⟨(some 37), .p (.fieldAddr 1 none (.s 1)), none, 0⟩,
  ⟨(some 38), .m (.load none (.s 37)), none, 0⟩,
  ⟨(some 39), .p (.mov (.s 4)), none, 0⟩,
  ⟨(some 40), .p (.mov (.s 6)), none, 0⟩,
  ⟨(some 41), .p (.adrSl 1 (.s 39) (.s 40)), none, 0⟩,
  ⟨(some 42), .m (.load none (.s 41)), none, 0⟩,
  ⟨(some 43), .p (.adrSl 1 (.s 38) (.s 42)), none, 0⟩,
  ⟨(some 44), .m (.load none (.s 43)), none, 0⟩,
  ⟨(some 45), .p (.mov (.s 8)), none, 0⟩,
  ⟨(some 46), .p (.adrSl 1 (.s 44) (.s 45)), none, 0⟩,
  ⟨(some 47), .m (.load none (.s 46)), none, 0⟩,
  ⟨(some 48), .p (.adrSl 1 (.s 36) (.s 47)), none, 0⟩,
  ⟨(some 49), .m (.load none (.s 48)), none, 0⟩,
  ⟨(some 9), .p (.mov (.s 49)), none, 0⟩]) c27_12)) c27_13)
def c27_15 : ACode := (.seq (.seq (.ops [
  ⟨(some 30), .p (.mov (.s 8)), none, 0⟩,
  ⟨(some 31), .p (.fieldAddr 0 none (.s 1)), none, 0⟩,
  ⟨(some 32), .m (.load none (.s 31)), none, 0⟩,
  ⟨(some 33), .p (.bin .lss (.s 30) (.s 32)), none, 0⟩]) c27_4) c27_14)
def c27_16 : ACode := (.block 2 (.loop c27_15))
def c27_17 : ACode := (.draw [
  ⟨(some 82), .p (.fieldAddr 2 none (.s 5)), none, 0⟩,
  ⟨(some 83), .m (.load none (.s 82)), none, 0⟩,
  ⟨(some 84), .p (.fieldAddr 2 none (.s 1)), none, 0⟩,
  ⟨(some 85), .m (.load none (.s 84)), none, 0⟩,
  ⟨(some 86), .p (.mov (.s 4)), none, 0⟩,
  ⟨(some 87), .p (.mov (.s 6)), none, 0⟩,
  ⟨(some 88), .p (.adrSl 1 (.s 86) (.s 87)), none, 0⟩,
  ⟨(some 89), .m (.load none (.s 88)), none, 0⟩,
  ⟨(some 90), .p (.adrSl 1 (.s 85) (.s 89)), none, 0⟩,
  ⟨(some 91), .m (.load none (.s 90)), none, 0⟩,
  ⟨(some 92), .m (.buildSlice 1 1 [(.v (.bool false))] [(0, 1, (.s 91))]), none, 4⟩,
  ⟨(some 93), .m (.append 1 1 (.s 83) (.s 92)), none, 4⟩,
  ⟨(some 94), .p (.fieldAddr 2 none (.s 5)), none, 0⟩,
  ⟨none, .m (.store none (.s 94) (.s 93)), none, 0⟩])
def c27_18 : ACode := (.seq (.ops [
  ⟨(some 76), .p (.fieldAddr 1 none (.s 5)), none, 0⟩,
  ⟨(some 77), .m (.load none (.s 76)), none, 0⟩,
  ⟨(some 78), .p (.mov (.s 7)), none, 0⟩,
  ⟨(some 79), .m (.buildSlice 1 1 [(.v (.slice none 0 0))] [(0, 1, (.s 78))]), none, 40⟩,
  ⟨(some 80), .m (.append 1 24 (.s 77) (.s 79)), none, 40⟩,
  ⟨(some 81), .p (.fieldAddr 1 none (.s 5)), none, 0⟩,
  ⟨none, .m (.store none (.s 81) (.s 80)), none, 0⟩]) c27_17)
def c27_19 : ACode := (.seq (.seq (.ops [
  ⟨(some 8), .p (.mov (.c (.v (.int .i64 0)))), none, 0⟩]) c27_16) c27_18)
def c27_20 : ACode := (.ops [
  ⟨(some 28), .p (.mov (.s 6)), none, 0⟩,
  ⟨(some 29), .p (.bin .add (.s 28) (.c (.v (.int .i64 1)))), none, 0⟩,
  ⟨(some 6), .p (.mov (.s 29)), none, 0⟩])
def c27_21 : ACode := (.seq (.block 1 (.seq (.ops [
  ⟨(some 7), .p (.mov (.c (.v (.slice none 0 0)))), none, 0⟩]) c27_19)) c27_20)
def c27_22 : ACode := (.seq (.seq (.ops [
  ⟨(some 24), .p (.mov (.s 6)), none, 0⟩,
  ⟨(some 25), .p (.mov (.s 4)), none, 0⟩,
  ⟨(some 26), .p (.len false (.s 25)), none, 3⟩,
  ⟨(some 27), .p (.bin .lss (.s 24) (.s 26)), none, 0⟩]) c27_3) c27_21)
def c27_23 : ACode := (.block 0 (.loop c27_22))
def c27_24 : ACode := (.seq (.ops [
  ⟨(some 95), .m (.load (some 3) (.s 5)), none, 0⟩,
  ⟨none, .m (.store (some 3) (.s 2) (.s 95)), none, 0⟩]) .ret)
def c27_25 : ACode := (.seq (.seq (.ops [
  ⟨(some 6), .p (.mov (.c (.v (.int .i64 0)))), none, 0⟩]) c27_23) c27_24)
def c27_26 : ACode := (.seq (.ops [
  ⟨(some 21), .p (.fieldAddr 0 none (.s 1)), none, 0⟩,
  ⟨(some 22), .m (.load none (.s 21)), none, 0⟩,
  ⟨(some 23), .p (.build [(.v (.int .i64 0)), (.v (.slice none 0 0)), (.v (.slice none 0 0))] [(0, 1, (.s 22))]), none, 0⟩,
  ⟨(some 5), .m (.alloc [(.v (.int .i64 0)), (.v (.slice none 0 0)), (.v (.slice none 0 0))]), none, 40⟩,
  ⟨none, .m (.store (some 3) (.s 5) (.s 23)), none, 0⟩]) c27_25)
def c27_27 : ACode := (.seq (.ops [
  ⟨(some 17), .p (.mov (.s 3)), none, 0⟩,
  ⟨(some 18), .p (.adrSl 1 (.s 17) (.c (.v (.int .i64 0)))), none, 0⟩,
  ⟨(some 19), .m (.load none (.s 18)), none, 0⟩,
  ⟨(some 20), .m (.buildSlice 1 1 [(.v (.int .i64 0))] [(0, 1, (.s 19))]), none, 3⟩,
  ⟨(some 4), .p (.mov (.s 20)), none, 0⟩]) c27_26)
def c27_28 : ACode := (.seq (.ops (⟨(some 15), .m (.load (some 3) (.s 1)), none, 0⟩ ::
  ⟨(some 16), .call (.c (.fn 53 [])) [(.s 15)], none, 0⟩ :: c27_2)) c27_27)
def c27_29 : ACode := (.seq (.seq (.ops (⟨(some 11), .m (.load (some 3) (.s 1)), none, 0⟩ ::
  ⟨(some 12), .call (.c (.fn 20 [])) [(.s 11)], none, 0⟩ :: c27_0)) c27_1) c27_28)
def c27 : ACode := (.seq (.ops [
  ⟨(some 1), .m (.box (.s 0)), none, 0⟩,
  ⟨(some 2), .m (.alloc [(.v (.int .i64 0)), (.v (.slice none 0 0)), (.v (.slice none 0 0))]), none, 40⟩]) c27_29)
theorem t27 : trC Tryd.prog Tryd.f27.ntmps (bodyOf Tryd.f27) = some c27 := by kernel_rfl
theorem r27 : Tryd.f27.results.toList.mapM (trR Tryd.prog) = some [.cell 2 (some 3)] := by kernel_rfl
def i27 : FI := ⟨96, c27, [.cell 2 (some 3)]⟩
theorem k27 : Knows Tryd.prog 27 i27 := ⟨Tryd.f27, bodyOf Tryd.f27, Tryd.func27, by kernel_rfl, by kernel_rfl, t27, r27, by kernel_rfl⟩
-- 28 drover/dfa.Small []
def c28_0 : List AOper := [
  ⟨(some 15), .p (.un .not (.s 14)), none, 0⟩]
def c28_1 : ACode := (.cond (.s 15) (.seq (.ops [
  ⟨(some 16), .p (.build [(.v (.int .i64 0)), (.v (.slice none 0 0)), (.v (.slice none 0 0))] []), none, 0⟩,
  ⟨none, .m (.store (some 3) (.s 2) (.s 16)), none, 0⟩]) .ret) .skip)
def c28_2 : List AOper := [
  ⟨(some 3), .m (.alloc [(.v (.slice none 0 0))]), none, 0⟩,
  ⟨none, .m (.store none (.s 3) (.s 18)), none, 0⟩]
def c28_3 : ACode := (.ops [
  ⟨(some 27), .m (.load none (.s 4)), none, 0⟩,
  ⟨(some 28), .p (.mov (.s 6)), none, 0⟩,
  ⟨(some 29), .p (.mov (.s 5)), none, 0⟩,
  ⟨none, .m (.ext (.map (.upd [(.int .i64)] false (.s 27) (.s 28) (.s 29)))), none, 0⟩])
def c28_4 : ACode := (.ops [
  ⟨(some 30), .p (.bin .add (.s 22) (.c (.v (.int .i64 1)))), none, 0⟩,
  ⟨(some 22), .p (.mov (.s 30)), none, 0⟩])
def c28_5 : ACode := (.seq (.block 1 (.seq (.ops [
  ⟨(some 24), .p (.mov (.s 22)), none, 0⟩,
  ⟨(some 25), .p (.adrSl 1 (.s 20) (.s 22)), none, 0⟩,
  ⟨(some 26), .m (.load none (.s 25)), none, 0⟩,
  ⟨(some 5), .p (.mov (.s 24)), none, 0⟩,
  ⟨(some 6), .p (.mov (.s 26)), none, 0⟩]) c28_3)) c28_4)
def c28_6 : ACode := (.seq (.cond (.s 23) .skip (.exit 0)) c28_5)
def c28_7 : ACode := (.seq (.ops [
  ⟨(some 23), .p (.bin .lss (.s 22) (.s 21)), none, 0⟩]) c28_6)
def c28_8 : ACode := (.block 0 (.loop c28_7))
def c28_9 : ACode := (.draw [
  ⟨(some 31), .p (.mov (.s 38)), none, 0⟩,
  ⟨(some 39), .p (.extract (.s 31) 0), none, 0⟩,
  ⟨(some 40), .p (.extract (.s 31) 1), none, 0⟩,
  ⟨(some 41), .p (.extract (.s 31) 2), none, 0⟩,
  ⟨(some 7), .p (.mov (.s 39)), none, 0⟩,
  ⟨(some 8), .p (.mov (.s 40)), none, 0⟩,
  ⟨(some 9), .p (.mov (.s 41)), none, 0⟩])
def c28_10 : ACode := (.seq (.ops [
  ⟨(some 38), .call (.c (.fn 55 [])) [(.s 34), (.s 36), (.s 37)], none, 0⟩]) c28_9)
def c28_11 : ACode := (.draw [
  ⟨(some 52), .p (.fieldAddr 2 none (.s 10)), none, 0⟩,
  ⟨(some 53), .m (.load none (.s 52)), none, 0⟩,
  ⟨(some 54), .p (.fieldAddr 2 none (.s 1)), none, 0⟩,
  ⟨(some 55), .m (.load none (.s 54)), none, 0⟩,
  ⟨(some 56), .m (.load none (.s 4)), none, 0⟩,
  ⟨(some 57), .p (.mov (.s 12)), none, 0⟩,
  ⟨(some 58), .m (.ext (.map (.look [(.int .i64)] false false (.v (.int .i64 0)) (.s 56) (.s 57)))), none, 0⟩,
  ⟨(some 59), .p (.adrSl 1 (.s 55) (.s 58)), none, 0⟩,
  ⟨(some 60), .m (.load none (.s 59)), none, 0⟩,
  ⟨(some 61), .m (.buildSlice 1 1 [(.v (.bool false))] [(0, 1, (.s 60))]), none, 4⟩,
  ⟨(some 62), .m (.append 1 1 (.s 53) (.s 61)), none, 4⟩,
  ⟨(some 63), .p (.fieldAddr 2 none (.s 10)), none, 0⟩,
  ⟨none, .m (.store none (.s 63) (.s 62)), none, 0⟩])
def c28_12 : ACode := (.ops [
  ⟨(some 64), .p (.bin .add (.s 48) (.c (.v (.int .i64 1)))), none, 0⟩,
  ⟨(some 48), .p (.mov (.s 64)), none, 0⟩])
def c28_13 : ACode := (.seq (.block 3 (.seq (.ops [
  ⟨(some 50), .p (.adrSl 1 (.s 46) (.s 48)), none, 0⟩,
  ⟨(some 51), .m (.load none (.s 50)), none, 0⟩,
  ⟨(some 12), .p (.mov (.s 51)), none, 0⟩]) c28_11)) c28_12)
def c28_14 : ACode := (.seq (.cond (.s 49) .skip (.exit 2)) c28_13)
def c28_15 : ACode := (.seq (.ops [
  ⟨(some 49), .p (.bin .lss (.s 48) (.s 47)), none, 0⟩]) c28_14)
def c28_16 : ACode := (.block 2 (.loop c28_15))
def c28_17 : ACode := (.seq (.ops [
  ⟨(some 65), .m (.load (some 3) (.s 10)), none, 0⟩,
  ⟨none, .m (.store (some 3) (.s 2) (.s 65)), none, 0⟩]) .ret)
def c28_18 : ACode := (.seq (.seq (.ops [
  ⟨(some 46), .p (.mov (.s 7)), none, 0⟩,
  ⟨(some 47), .p (.len false (.s 46)), none, 3⟩,
  ⟨(some 48), .p (.mov (.c (.v (.int .i64 0)))), none, 0⟩]) c28_16) c28_17)
def c28_19 : ACode := (.seq (.ops [
  ⟨(some 42), .p (.fieldAddr 0 none (.s 1)), none, 0⟩,
  ⟨(some 43), .m (.load none (.s 42)), none, 0⟩,
  ⟨(some 44), .p (.mov (.s 8)), none, 0⟩,
  ⟨(some 45), .p (.build [(.v (.int .i64 0)), (.v (.slice none 0 0)), (.v (.slice none 0 0))] [(0, 1, (.s 43)), (1, 1, (.s 44))]), none, 0⟩,
  ⟨(some 10), .m (.alloc [(.v (.int .i64 0)), (.v (.slice none 0 0)), (.v (.slice none 0 0))]), none, 40⟩,
  ⟨none, .m (.store (some 3) (.s 10) (.s 45)), none, 0⟩]) c28_18)
def c28_20 : ACode := (.seq (.seq (.draw [
  ⟨(some 32), .m (.load none (.s 3)), none, 0⟩,
  ⟨(some 33), .p (.adrSl 1 (.s 32) (.c (.v (.int .i64 0)))), none, 0⟩,
  ⟨(some 34), .m (.load none (.s 33)), none, 0⟩,
  ⟨(some 35), .p (.fieldAddr 0 none (.s 1)), none, 0⟩,
  ⟨(some 36), .m (.load none (.s 35)), none, 0⟩,
  ⟨(some 37), .p (.mkFn 56 [(.s 3), (.s 1), (.s 4)]), none, 0⟩]) c28_10) c28_19)
def c28_21 : ACode := (.seq (.seq (.ops [
  ⟨(some 20), .m (.load none (.s 3)), none, 0⟩,
  ⟨(some 21), .p (.len false (.s 20)), none, 3⟩,
  ⟨(some 22), .p (.mov (.c (.v (.int .i64 0)))), none, 0⟩]) c28_8) c28_20)
def c28_22 : ACode := (.seq (.ops [
  ⟨(some 19), .m (.ext (.map (.mk))), none, 196611⟩,
  ⟨(some 4), .m (.alloc [(.v (.map none))]), none, 0⟩,
  ⟨none, .m (.store none (.s 4) (.s 19)), none, 0⟩]) c28_21)
def c28_23 : ACode := (.seq (.ops (⟨(some 17), .m (.load (some 3) (.s 1)), none, 0⟩ ::
  ⟨(some 18), .call (.c (.fn 54 [])) [(.s 17)], none, 0⟩ :: c28_2)) c28_22)
def c28_24 : ACode := (.seq (.seq (.ops (⟨(some 13), .m (.load (some 3) (.s 1)), none, 0⟩ ::
  ⟨(some 14), .call (.c (.fn 19 [])) [(.s 13)], none, 0⟩ :: c28_0)) c28_1) c28_23)
def c28 : ACode := (.seq (.ops [
  ⟨(some 1), .m (.box (.s 0)), none, 0⟩,
  ⟨(some 2), .m (.alloc [(.v (.int .i64 0)), (.v (.slice none 0 0)), (.v (.slice none 0 0))]), none, 40⟩]) c28_24)
theorem t28 : trC Tryd.prog Tryd.f28.ntmps (bodyOf Tryd.f28) = some c28 := by kernel_rfl
theorem r28 : Tryd.f28.results.toList.mapM (trR Tryd.prog) = some [.cell 2 (some 3)] := by kernel_rfl
def i28 : FI := ⟨66, c28, [.cell 2 (some 3)]⟩
theorem k28 : Knows Tryd.prog 28 i28 := ⟨Tryd.f28, bodyOf Tryd.f28, Tryd.func28, by kernel_rfl, by kernel_rfl, t28, r28, by kernel_rfl⟩
-- 29 drover/droverref19.Reached []
def c29_0 : List AOper := [
  ⟨(some 3), .p (.mov (.s 6)), none, 0⟩]
def c29_1 : ACode := (.cond (.s 10) .skip (.exit 0))
def c29_2 : ACode := (.cond (.s 17) (.seq (.ops [
  ⟨(some 2), .p (.mov (.c (.v (.bool false)))), none, 0⟩]) .ret) .skip)
def c29_3 : ACode := (.ops [
  ⟨(some 11), .p (.mov (.s 4)), none, 0⟩,
  ⟨(some 12), .p (.bin .add (.s 11) (.c (.v (.int .i64 1)))), none, 0⟩,
  ⟨(some 4), .p (.mov (.s 12)), none, 0⟩])
def c29_4 : ACode := (.seq (.block 1 (.seq (.ops [
  ⟨(some 13), .p (.mov (.s 3)), none, 0⟩,
  ⟨(some 14), .p (.mov (.s 4)), none, 0⟩,
  ⟨(some 15), .p (.adrSl 1 (.s 13) (.s 14)), none, 0⟩,
  ⟨(some 16), .m (.load none (.s 15)), none, 0⟩,
  ⟨(some 17), .p (.bin .eql (.s 16) (.c (.v (.int .i64 0)))), none, 0⟩]) c29_2)) c29_3)
def c29_5 : ACode := (.seq (.seq (.ops [
  ⟨(some 7), .p (.mov (.s 4)), none, 0⟩,
  ⟨(some 8), .p (.mov (.s 3)), none, 0⟩,
  ⟨(some 9), .p (.len false (.s 8)), none, 3⟩,
  ⟨(some 10), .p (.bin .lss (.s 7) (.s 9)), none, 0⟩]) c29_1) c29_4)
def c29_6 : ACode := (.block 0 (.loop c29_5))
def c29_7 : ACode := (.seq (.ops [
  ⟨(some 2), .p (.mov (.c (.v (.bool true)))), none, 0⟩]) .ret)
def c29_8 : ACode := (.seq (.seq (.ops [
  ⟨(some 4), .p (.mov (.c (.v (.int .i64 0)))), none, 0⟩]) c29_6) c29_7)
def c29_9 : ACode := (.seq (.ops (⟨(some 5), .m (.load (some 3) (.s 1)), none, 0⟩ ::
  ⟨(some 6), .call (.c (.fn 57 [])) [(.s 5)], none, 0⟩ :: c29_0)) c29_8)
def c29 : ACode := (.seq (.ops [
  ⟨(some 1), .m (.box (.s 0)), none, 0⟩,
  ⟨(some 2), .p (.mov (.c (.v (.bool false)))), none, 0⟩]) c29_9)
theorem t29 : trC Tryd.prog Tryd.f29.ntmps (bodyOf Tryd.f29) = some c29 := by kernel_rfl
theorem r29 : Tryd.f29.results.toList.mapM (trR Tryd.prog) = some [.tmp 2] := by kernel_rfl
def i29 : FI := ⟨18, c29, [.tmp 2]⟩
theorem k29 : Knows Tryd.prog 29 i29 := ⟨Tryd.f29, bodyOf Tryd.f29, Tryd.func29, by kernel_rfl, by kernel_rfl, t29, r29, by kernel_rfl⟩
-- 30 drover/droverlaw19.part []
def c30_0 : ACode := (.seq (.ops [
  ⟨(some 5), .p (.mov (.s 0)), none, 0⟩,
  ⟨(some 6), .p (.mov (.s 1)), none, 0⟩,
  ⟨(some 7), .p (.bin .rem (.s 5) (.s 6)), none, 0⟩,
  ⟨(some 8), .p (.mov (.s 1)), none, 0⟩,
  ⟨(some 9), .p (.bin .add (.s 7) (.s 8)), none, 0⟩,
  ⟨(some 10), .p (.mov (.s 1)), none, 0⟩,
  ⟨(some 11), .p (.bin .rem (.s 9) (.s 10)), none, 0⟩,
  ⟨(some 4), .p (.mov (.s 11)), none, 0⟩]) .ret)
def c30 : ACode := (.seq (.ops [
  ⟨(some 4), .p (.mov (.c (.v (.int .i64 0)))), none, 0⟩]) c30_0)
theorem t30 : trC Tryd.prog Tryd.f30.ntmps (bodyOf Tryd.f30) = some c30 := by kernel_rfl
theorem r30 : Tryd.f30.results.toList.mapM (trR Tryd.prog) = some [.tmp 4] := by kernel_rfl
def i30 : FI := ⟨12, c30, [.tmp 4]⟩
theorem k30 : Knows Tryd.prog 30 i30 := ⟨Tryd.f30, bodyOf Tryd.f30, Tryd.func30, by kernel_rfl, by kernel_rfl, t30, r30, by kernel_rfl⟩
-- 31 drover/dfa.Same []
def c31_0 : List AOper := [
  ⟨(some 21), .p (.un .not (.s 20)), (some (18, false)), 0⟩,
  ⟨(some 22), .p (.pick (.s 18) (.c (.v (.bool true))) (.s 21)), none, 0⟩,
  ⟨(some 23), .p (.mov (.s 22)), none, 0⟩,
  ⟨(some 24), .p (.fieldAddr 0 none (.s 5)), (some (23, false)), 0⟩,
  ⟨(some 25), .m (.load none (.s 24)), (some (23, false)), 0⟩,
  ⟨(some 26), .p (.fieldAddr 0 none (.s 6)), (some (23, false)), 0⟩,
  ⟨(some 27), .m (.load none (.s 26)), (some (23, false)), 0⟩,
  ⟨(some 28), .p (.bin .neq (.s 25) (.s 27)), (some (23, false)), 0⟩,
  ⟨(some 29), .p (.pick (.s 23) (.c (.v (.bool true))) (.s 28)), none, 0⟩,
  ⟨(some 30), .p (.mov (.s 29)), none, 0⟩,
  ⟨(some 31), .p (.fieldAddr 1 none (.s 5)), (some (30, false)), 0⟩,
  ⟨(some 32), .m (.load none (.s 31)), (some (30, false)), 0⟩,
  ⟨(some 33), .p (.len false (.s 32)), (some (30, false)), 40⟩,
  ⟨(some 34), .p (.fieldAddr 1 none (.s 6)), (some (30, false)), 0⟩,
  ⟨(some 35), .m (.load none (.s 34)), (some (30, false)), 0⟩,
  ⟨(some 36), .p (.len false (.s 35)), (some (30, false)), 40⟩,
  ⟨(some 37), .p (.bin .neq (.s 33) (.s 36)), (some (30, false)), 0⟩,
  ⟨(some 38), .p (.pick (.s 30) (.c (.v (.bool true))) (.s 37)), none, 0⟩]
def c31_1 : List AOper := (⟨(some 17), .p (.un .not (.s 16)), none, 0⟩ ::
  ⟨(some 18), .p (.mov (.s 17)), none, 0⟩ ::
  ⟨(some 19), .m (.load (some 3) (.s 3)), (some (18, false)), 0⟩ ::
  ⟨(some 20), .call (.c (.fn 19 [])) [(.s 19)], (some (18, false)), 0⟩ :: c31_0)
def c31_2 : ACode := (.cond (.s 38) (.seq (.ops [
  ⟨(some 4), .p (.mov (.c (.v (.bool false)))), none, 0⟩]) .ret) .skip)
def c31_3 : ACode := (.cond (.s 57) (.seq (.ops [
  ⟨(some 4), .p (.mov (.c (.v (.bool false)))), none, 0⟩]) .ret) .skip)
def c31_4 : ACode := (.cond (.s 74) (.seq (.ops [
  ⟨(some 4), .p (.mov (.c (.v (.bool false)))), none, 0⟩]) .ret) .skip)
def c31_5 : ACode := (.seq (.ops [
  ⟨(some 65), .p (.fieldAddr 1 none (.s 6)), none, 0⟩,
  ⟨(some 66), .m (.load none (.s 65)), none, 0⟩,
  ⟨(some 67), .p (.mov (.s 7)), none, 0⟩,
  ⟨(some 68), .p (.adrSl 1 (.s 66) (.s 67)), none, 0⟩,
  ⟨(some 69), .m (.load none (.s 68)), none, 0⟩,
  ⟨(some 70), .p (.mov (.s 9)), none, 0⟩,
  ⟨(some 71), .p (.adrSl 1 (.s 69) (.s 70)), none, 0⟩,
  ⟨(some 72), .m (.load none (.s 71)), none, 0⟩,
  ⟨(some 73), .p (.mov (.s 10)), none, 0⟩,
  ⟨(some 74), .p (.bin .neq (.s 72) (.s 73)), none, 0⟩]) c31_4)
def c31_6 : ACode := (.ops [
  ⟨(some 75), .p (.bin .add (.s 60) (.c (.v (.int .i64 1)))), none, 0⟩,
  ⟨(some 60), .p (.mov (.s 75)), none, 0⟩])
def c31_7 : ACode := (.seq (.block 3 (.seq (.ops [
  ⟨(some 62), .p (.mov (.s 60)), none, 0⟩,
  ⟨(some 63), .p (.adrSl 1 (.s 58) (.s 60)), none, 0⟩,
  ⟨(some 64), .m (.load none (.s 63)), none, 0⟩,
  ⟨(some 9), .p (.mov (.s 62)), none, 0⟩,
  ⟨(some 10), .p (.mov (.s 64)), none, 0⟩]) c31_5)) c31_6)
def c31_8 : ACode := (.seq (.cond (.s 61) .skip (.exit 2)) c31_7)
def c31_9 : ACode := (.seq (.ops [
  ⟨(some 61), .p (.bin .lss (.s 60) (.s 59)), none, 0⟩]) c31_8)
def c31_10 : ACode := (.block 2 (.loop c31_9))
def c31_11 : ACode := (.seq (.ops [
  ⟨(some 58), .p (.mov (.s 8)), none, 0⟩,
  ⟨(some 59), .p (.len false (.s 58)), none, 3⟩,
  ⟨(some 60), .p (.mov (.c (.v (.int .i64 0)))), none, 0⟩]) c31_10)
def c31_12 : ACode := (.seq (.seq (.draw [
  ⟨(some 47), .p (.fieldAddr 2 none (.s 5)), none, 0⟩,
  ⟨(some 48), .m (.load none (.s 47)), none, 0⟩,
  ⟨(some 49), .p (.mov (.s 7)), none, 0⟩,
  ⟨(some 50), .p (.adrSl 1 (.s 48) (.s 49)), none, 0⟩,
  ⟨(some 51), .m (.load none (.s 50)), none, 0⟩,
  ⟨(some 52), .p (.fieldAddr 2 none (.s 6)), none, 0⟩,
  ⟨(some 53), .m (.load none (.s 52)), none, 0⟩,
  ⟨(some 54), .p (.mov (.s 7)), none, 0⟩,
  ⟨(some 55), .p (.adrSl 1 (.s 53) (.s 54)), none, 0⟩,
  ⟨(some 56), .m (.load none (.s 55)), none, 0⟩,
  ⟨(some 57), .p (.eqa true [.bool] false (.s 51) (.s 56)), none, 0⟩]) c31_3) c31_11)
def c31_13 : ACode := (.ops [
  ⟨(some 76), .p (.bin .add (.s 42) (.c (.v (.int .i64 1)))), none, 0⟩,
  ⟨(some 42), .p (.mov (.s 76)), none, 0⟩])
def c31_14 : ACode := (.seq (.block 1 (.seq (.ops [
  ⟨(some 44), .p (.mov (.s 42)), none, 0⟩,
  ⟨(some 45), .p (.adrSl 1 (.s 40) (.s 42)), none, 0⟩,
  ⟨(some 46), .m (.load none (.s 45)), none, 0⟩,
  ⟨(some 7), .p (.mov (.s 44)), none, 0⟩,
  ⟨(some 8), .p (.mov (.s 46)), none, 0⟩]) c31_12)) c31_13)
def c31_15 : ACode := (.seq (.cond (.s 43) .skip (.exit 0)) c31_14)
def c31_16 : ACode := (.seq (.ops [
  ⟨(some 43), .p (.bin .lss (.s 42) (.s 41)), none, 0⟩]) c31_15)
def c31_17 : ACode := (.block 0 (.loop c31_16))
def c31_18 : ACode := (.seq (.ops [
  ⟨(some 4), .p (.mov (.c (.v (.bool true)))), none, 0⟩]) .ret)
def c31_19 : ACode := (.seq (.seq (.ops [
  ⟨(some 39), .p (.fieldAddr 1 none (.s 5)), none, 0⟩,
  ⟨(some 40), .m (.load none (.s 39)), none, 0⟩,
  ⟨(some 41), .p (.len false (.s 40)), none, 40⟩,
  ⟨(some 42), .p (.mov (.c (.v (.int .i64 0)))), none, 0⟩]) c31_17) c31_18)
def c31_20 : ACode := (.seq (.seq (.ops (⟨(some 15), .m (.load (some 3) (.s 2)), none, 0⟩ ::
  ⟨(some 16), .call (.c (.fn 19 [])) [(.s 15)], none, 0⟩ :: c31_1)) c31_2) c31_19)
def c31_21 : ACode := (.seq (.drawk [
  ⟨(some 11), .m (.load (some 3) (.s 2)), none, 0⟩,
  ⟨(some 12), .pcall (.c (.fn 28 [])) [(.s 11)], none, 0⟩,
  ⟨(some 13), .m (.load (some 3) (.s 3)), none, 0⟩,
  ⟨(some 14), .pcall (.c (.fn 28 [])) [(.s 13)], none, 0⟩,
  ⟨(some 5), .m (.alloc [(.v (.int .i64 0)), (.v (.slice none 0 0)), (.v (.slice none 0 0))]), none, 40⟩,
  ⟨(some 6), .m (.alloc [(.v (.int .i64 0)), (.v (.slice none 0 0)), (.v (.slice none 0 0))]), none, 40⟩,
  ⟨none, .m (.store (some 3) (.s 5) (.s 12)), none, 0⟩,
  ⟨none, .m (.store (some 3) (.s 6) (.s 14)), none, 0⟩] [false, false, false, false, false, false, false, false]) c31_20)
def c31 : ACode := (.seq (.ops [
  ⟨(some 2), .m (.box (.s 0)), none, 0⟩,
  ⟨(some 3), .m (.box (.s 1)), none, 0⟩,
  ⟨(some 4), .p (.mov (.c (.v (.bool false)))), none, 0⟩]) c31_21)
theorem t31 : trC Tryd.prog Tryd.f31.ntmps (bodyOf Tryd.f31) = some c31 := by kernel_rfl
theorem r31 : Tryd.f31.results.toList.mapM (trR Tryd.prog) = some [.tmp 4] := by kernel_rfl
def i31 : FI := ⟨77, c31, [.tmp 4]⟩
theorem k31 : Knows Tryd.prog 31 i31 := ⟨Tryd.f31, bodyOf Tryd.f31, Tryd.func31, by kernel_rfl, by kernel_rfl, t31, r31, by kernel_rfl⟩
-- 32 drover/droverlaw19.begun []
def c32_0 : ACode := (.cond (.s 18) .skip (.exit 0))
def c32_1 : ACode := (.cond (.s 27) (.ops [
  ⟨(some 7), .p (.mov (.c (.v (.int .i64 0)))), none, 0⟩]) .skip)
def c32_2 : ACode := (.cond (.s 23) (.ops [
  ⟨(some 24), .p (.mov (.s 1)), none, 0⟩,
  ⟨(some 7), .p (.mov (.s 24)), none, 0⟩]) (.seq (.ops [
  ⟨(some 25), .p (.mov (.s 6)), none, 0⟩,
  ⟨(some 26), .p (.mov (.s 1)), none, 0⟩,
  ⟨(some 27), .p (.bin .eql (.s 25) (.s 26)), none, 0⟩]) c32_1))
def c32_3 : ACode := (.cond (.s 35) .skip (.exit 2))
def c32_4 : ACode := (.cond (.s 51) (.ops [
  ⟨(some 10), .p (.mov (.c (.v (.int .i64 0)))), none, 0⟩]) .skip)
def c32_5 : ACode := (.cond (.s 47) (.ops [
  ⟨(some 48), .p (.mov (.s 1)), none, 0⟩,
  ⟨(some 10), .p (.mov (.s 48)), none, 0⟩]) (.seq (.ops [
  ⟨(some 49), .p (.mov (.s 10)), none, 0⟩,
  ⟨(some 50), .p (.mov (.s 1)), none, 0⟩,
  ⟨(some 51), .p (.bin .eql (.s 49) (.s 50)), none, 0⟩]) c32_4))
def c32_6 : ACode := (.ops [
  ⟨(some 52), .p (.mov (.s 8)), none, 0⟩,
  ⟨(some 53), .p (.mov (.s 10)), none, 0⟩,
  ⟨(some 54), .m (.buildSlice 1 1 [(.v (.int .i64 0))] [(0, 1, (.s 53))]), none, 3⟩,
  ⟨(some 55), .m (.append 1 8 (.s 52) (.s 54)), none, 3⟩,
  ⟨(some 8), .p (.mov (.s 55)), none, 0⟩])
def c32_7 : ACode := (.seq (.seq (.ops [
  ⟨(some 46), .p (.mov (.s 10)), none, 0⟩,
  ⟨(some 47), .p (.bin .eql (.s 46) (.c (.v (.int .i64 0)))), none, 0⟩]) c32_5) c32_6)
def c32_8 : ACode := (.ops [
  ⟨(some 36), .p (.mov (.s 9)), none, 0⟩,
  ⟨(some 37), .p (.bin .add (.s 36) (.c (.v (.int .i64 1)))), none, 0⟩,
  ⟨(some 9), .p (.mov (.s 37)), none, 0⟩])
def c32_9 : ACode := (.seq (.block 3 (.seq (.ops [
  ⟨(some 38), .p (.fieldAddr 1 none (.s 2)), none, 0⟩,
  ⟨(some 39), .m (.load none (.s 38)), none, 0⟩,
  ⟨(some 40), .p (.mov (.s 7)), none, 0⟩,
  ⟨(some 41), .p (.adrSl 1 (.s 39) (.s 40)), none, 0⟩,
  ⟨(some 42), .m (.load none (.s 41)), none, 0⟩,
  ⟨(some 43), .p (.mov (.s 9)), none, 0⟩,
  ⟨(some 44), .p (.adrSl 1 (.s 42) (.s 43)), none, 0⟩,
  ⟨(some 45), .m (.load none (.s 44)), none, 0⟩,
  ⟨(some 10), .p (.mov (.s 45)), none, 0⟩]) c32_7)) c32_8)
def c32_10 : ACode := (.seq (.seq (.ops [
  ⟨(some 28), .p (.mov (.s 9)), none, 0⟩,
  ⟨(some 29), .p (.fieldAddr 1 none (.s 2)), none, 0⟩,
  ⟨(some 30), .m (.load none (.s 29)), none, 0⟩,
  ⟨(some 31), .p (.mov (.s 7)), none, 0⟩,
  ⟨(some 32), .p (.adrSl 1 (.s 30) (.s 31)), none, 0⟩,
  ⟨(some 33), .m (.load none (.s 32)), none, 0⟩,
  ⟨(some 34), .p (.len false (.s 33)), none, 3⟩,
  ⟨(some 35), .p (.bin .lss (.s 28) (.s 34)), none, 0⟩]) c32_3) c32_9)
def c32_11 : ACode := (.block 2 (.loop c32_10))
def c32_12 : ACode := (.draw [
  ⟨(some 62), .p (.fieldAddr 2 none (.s 5)), none, 0⟩,
  ⟨(some 63), .m (.load none (.s 62)), none, 0⟩,
  ⟨(some 64), .p (.fieldAddr 2 none (.s 2)), none, 0⟩,
  ⟨(some 65), .m (.load none (.s 64)), none, 0⟩,
  ⟨(some 66), .p (.mov (.s 7)), none, 0⟩,
  ⟨(some 67), .p (.adrSl 1 (.s 65) (.s 66)), none, 0⟩,
  ⟨(some 68), .m (.load none (.s 67)), none, 0⟩,
  ⟨(some 69), .m (.buildSlice 1 1 [(.v (.bool false))] [(0, 1, (.s 68))]), none, 4⟩,
  ⟨(some 70), .m (.append 1 1 (.s 63) (.s 69)), none, 4⟩,
  ⟨(some 71), .p (.fieldAddr 2 none (.s 5)), none, 0⟩,
  ⟨none, .m (.store none (.s 71) (.s 70)), none, 0⟩])
def c32_13 : ACode := (.seq (.ops [
  ⟨(some 56), .p (.fieldAddr 1 none (.s 5)), none, 0⟩,
  ⟨(some 57), .m (.load none (.s 56)), none, 0⟩,
  ⟨(some 58), .p (.mov (.s 8)), none, 0⟩,
  ⟨(some 59), .m (.buildSlice 1 1 [(.v (.slice none 0 0))] [(0, 1, (.s 58))]), none, 40⟩,
  ⟨(some 60), .m (.append 1 24 (.s 57) (.s 59)), none, 40⟩,
  ⟨(some 61), .p (.fieldAddr 1 none (.s 5)), none, 0⟩,
  ⟨none, .m (.store none (.s 61) (.s 60)), none, 0⟩]) c32_12)
def c32_14 : ACode := (.seq (.seq (.ops [
  ⟨(some 9), .p (.mov (.c (.v (.int .i64 0)))), none, 0⟩]) c32_11) c32_13)
def c32_15 : ACode := (.seq (.ops [
  ⟨(some 8), .p (.mov (.c (.v (.slice none 0 0)))), none, 0⟩]) c32_14)
def c32_16 : ACode := (.seq (.seq (.ops [
  ⟨(some 22), .p (.mov (.s 6)), none, 0⟩,
  ⟨(some 23), .p (.bin .eql (.s 22) (.c (.v (.int .i64 0)))), none, 0⟩]) c32_2) c32_15)
def c32_17 : ACode := (.ops [
  ⟨(some 19), .p (.mov (.s 6)), none, 0⟩,
  ⟨(some 20), .p (.bin .add (.s 19) (.c (.v (.int .i64 1)))), none, 0⟩,
  ⟨(some 6), .p (.mov (.s 20)), none, 0⟩])
def c32_18 : ACode := (.seq (.block 1 (.seq (.ops [
  ⟨(some 21), .p (.mov (.s 6)), none, 0⟩,
  ⟨(some 7), .p (.mov (.s 21)), none, 0⟩]) c32_16)) c32_17)
def c32_19 : ACode := (.seq (.seq (.ops [
  ⟨(some 14), .p (.mov (.s 6)), none, 0⟩,
  ⟨(some 15), .p (.fieldAddr 1 none (.s 2)), none, 0⟩,
  ⟨(some 16), .m (.load none (.s 15)), none, 0⟩,
  ⟨(some 17), .p (.len false (.s 16)), none, 40⟩,
  ⟨(some 18), .p (.bin .lss (.s 14) (.s 17)), none, 0⟩]) c32_0) c32_18)
def c32_20 : ACode := (.block 0 (.loop c32_19))
def c32_21 : ACode := (.seq (.ops [
  ⟨(some 72), .m (.load (some 3) (.s 5)), none, 0⟩,
  ⟨none, .m (.store (some 3) (.s 4) (.s 72)), none, 0⟩]) .ret)
def c32_22 : ACode := (.seq (.seq (.ops [
  ⟨(some 6), .p (.mov (.c (.v (.int .i64 0)))), none, 0⟩]) c32_20) c32_21)
def c32_23 : ACode := (.seq (.ops [
  ⟨(some 11), .p (.fieldAddr 0 none (.s 2)), none, 0⟩,
  ⟨(some 12), .m (.load none (.s 11)), none, 0⟩,
  ⟨(some 13), .p (.build [(.v (.int .i64 0)), (.v (.slice none 0 0)), (.v (.slice none 0 0))] [(0, 1, (.s 12))]), none, 0⟩,
  ⟨(some 5), .m (.alloc [(.v (.int .i64 0)), (.v (.slice none 0 0)), (.v (.slice none 0 0))]), none, 40⟩,
  ⟨none, .m (.store (some 3) (.s 5) (.s 13)), none, 0⟩]) c32_22)
def c32 : ACode := (.seq (.ops [
  ⟨(some 2), .m (.box (.s 0)), none, 0⟩,
  ⟨(some 4), .m (.alloc [(.v (.int .i64 0)), (.v (.slice none 0 0)), (.v (.slice none 0 0))]), none, 40⟩]) c32_23)
theorem t32 : trC Tryd.prog Tryd.f32.ntmps (bodyOf Tryd.f32) = some c32 := by kernel_rfl
theorem r32 : Tryd.f32.results.toList.mapM (trR Tryd.prog) = some [.cell 4 (some 3)] := by kernel_rfl
def i32 : FI := ⟨73, c32, [.cell 4 (some 3)]⟩
theorem k32 : Knows Tryd.prog 32 i32 := ⟨Tryd.f32, bodyOf Tryd.f32, Tryd.func32, by kernel_rfl, by kernel_rfl, t32, r32, by kernel_rfl⟩
-- 36 drover/droverref19.Same []
def c36_0 : ACode := (.draw [
  ⟨(some 7), .p (.mov (.s 6)), none, 0⟩,
  ⟨(some 8), .m (.load (some 3) (.s 3)), (some (7, true)), 0⟩,
  ⟨(some 9), .call (.c (.fn 20 [])) [(.s 8)], (some (7, true)), 0⟩,
  ⟨(some 10), .p (.pick (.s 7) (.s 9) (.c (.v (.bool false)))), none, 0⟩,
  ⟨(some 11), .p (.mov (.s 10)), none, 0⟩,
  ⟨(some 12), .m (.load (some 3) (.s 2)), (some (11, true)), 0⟩,
  ⟨(some 13), .qcall (.c (.fn 27 [])) [(.s 12)], (some (11, true)), 0⟩,
  ⟨(some 14), .m (.load (some 3) (.s 3)), (some (11, true)), 0⟩,
  ⟨(some 15), .call (.c (.fn 27 [])) [(.s 14)], (some (11, true)), 0⟩,
  ⟨(some 16), .call (.c (.fn 14 [])) [(.s 13), (.s 15)], (some (11, true)), 0⟩,
  ⟨(some 17), .p (.pick (.s 11) (.s 16) (.c (.v (.bool false)))), none, 0⟩,
  ⟨(some 4), .p (.mov (.s 17)), none, 0⟩])
def c36_1 : ACode := (.seq (.ops [
  ⟨(some 6), .call (.c (.fn 20 [])) [(.s 5)], none, 0⟩]) c36_0)
def c36_2 : ACode := (.seq (.seq (.draw [
  ⟨(some 5), .m (.load (some 3) (.s 2)), none, 0⟩]) c36_1) .ret)
def c36 : ACode := (.seq (.ops [
  ⟨(some 2), .m (.box (.s 0)), none, 0⟩,
  ⟨(some 3), .m (.box (.s 1)), none, 0⟩,
  ⟨(some 4), .p (.mov (.c (.v (.bool false)))), none, 0⟩]) c36_2)
theorem t36 : trC Tryd.prog Tryd.f36.ntmps (bodyOf Tryd.f36) = some c36 := by kernel_rfl
theorem r36 : Tryd.f36.results.toList.mapM (trR Tryd.prog) = some [.tmp 4] := by kernel_rfl
def i36 : FI := ⟨18, c36, [.tmp 4]⟩
theorem k36 : Knows Tryd.prog 36 i36 := ⟨Tryd.f36, bodyOf Tryd.f36, Tryd.func36, by kernel_rfl, by kernel_rfl, t36, r36, by kernel_rfl⟩
-- 53 drover/droverref19.Classes []
def c53_0 : ACode := (.cond (.s 18) .skip (.exit 0))
def c53_1 : ACode := (.cond (.s 25) (.ops [
  ⟨(some 26), .p (.mov (.s 3)), none, 0⟩,
  ⟨(some 27), .p (.mov (.s 4)), none, 0⟩,
  ⟨(some 28), .p (.adrSl 1 (.s 26) (.s 27)), none, 0⟩,
  ⟨none, .m (.store none (.s 28) (.c (.v (.int .i64 1)))), none, 0⟩]) .skip)
def c53_2 : ACode := (.ops [
  ⟨(some 19), .p (.mov (.s 4)), none, 0⟩,
  ⟨(some 20), .p (.bin .add (.s 19) (.c (.v (.int .i64 1)))), none, 0⟩,
  ⟨(some 4), .p (.mov (.s 20)), none, 0⟩])
def c53_3 : ACode := (.seq (.block 1 (.seq (.ops [
  ⟨(some 21), .p (.fieldAddr 2 none (.s 1)), none, 0⟩,
  ⟨(some 22), .m (.load none (.s 21)), none, 0⟩,
  ⟨(some 23), .p (.mov (.s 4)), none, 0⟩,
  ⟨(some 24), .p (.adrSl 1 (.s 22) (.s 23)), none, 0⟩,
  ⟨(some 25), .m (.load none (.s 24)), none, 0⟩]) c53_1)) c53_2)
def c53_4 : ACode := (.seq (.seq (.ops [
  ⟨(some 14), .p (.mov (.s 4)), none, 0⟩,
  ⟨(some 15), .p (.fieldAddr 1 none (.s 1)), none, 0⟩,
  ⟨(some 16), .m (.load none (.s 15)), none, 0⟩,
  ⟨(some 17), .p (.len false (.s 16)), none, 40⟩,
  ⟨(some 18), .p (.bin .lss (.s 14) (.s 17)), none, 0⟩]) c53_0) c53_3)
def c53_5 : ACode := (.block 0 (.loop c53_4))
def c53_6 : ACode := (.cond (.s 33) .skip (.exit 2))
def c53_7 : ACode := (.cond (.s 44) .skip (.exit 4))
def c53_8 : ACode := (.cond (.s 53) .skip (.exit 6))
def c53_9 : List AOper := [
  ⟨(some 68), .p (.pick (.s 62) (.s 67) (.c (.v (.bool false)))), none, 0⟩]
def c53_10 : ACode := (.cond (.s 68) (.ops [
  ⟨(some 69), .p (.mov (.s 6)), none, 0⟩,
  ⟨(some 70), .p (.mov (.s 8)), none, 0⟩,
  ⟨(some 71), .p (.mov (.s 6)), none, 0⟩,
  ⟨(some 72), .p (.mov (.s 9)), none, 0⟩,
  ⟨(some 73), .p (.adrSl 1 (.s 71) (.s 72)), none, 0⟩,
  ⟨(some 74), .m (.load none (.s 73)), none, 0⟩,
  ⟨(some 75), .p (.adrSl 1 (.s 69) (.s 70)), none, 0⟩,
  ⟨none, .m (.store none (.s 75) (.s 74)), none, 0⟩]) .skip)
def c53_11 : ACode := (.ops [
  ⟨(some 54), .p (.mov (.s 9)), none, 0⟩,
  ⟨(some 55), .p (.bin .add (.s 54) (.c (.v (.int .i64 1)))), none, 0⟩,
  ⟨(some 9), .p (.mov (.s 55)), none, 0⟩])
def c53_12 : ACode := (.seq (.block 7 (.seq (.ops (⟨(some 56), .p (.mov (.s 6)), none, 0⟩ ::
  ⟨(some 57), .p (.mov (.s 8)), none, 0⟩ ::
  ⟨(some 58), .p (.adrSl 1 (.s 56) (.s 57)), none, 0⟩ ::
  ⟨(some 59), .m (.load none (.s 58)), none, 0⟩ ::
  ⟨(some 60), .p (.mov (.s 8)), none, 0⟩ ::
  ⟨(some 61), .p (.bin .eql (.s 59) (.s 60)), none, 0⟩ ::
  ⟨(some 62), .p (.mov (.s 61)), none, 0⟩ ::
  ⟨(some 63), .m (.load (some 3) (.s 1)), (some (62, true)), 0⟩ ::
  ⟨(some 64), .p (.mov (.s 3)), (some (62, true)), 0⟩ ::
  ⟨(some 65), .p (.mov (.s 8)), (some (62, true)), 0⟩ ::
  ⟨(some 66), .p (.mov (.s 9)), (some (62, true)), 0⟩ ::
  ⟨(some 67), .call (.c (.fn 69 [])) [(.s 63), (.s 64), (.s 65), (.s 66)], (some (62, true)), 0⟩ :: c53_9)) c53_10)) c53_11)
def c53_13 : ACode := (.seq (.seq (.ops [
  ⟨(some 51), .p (.mov (.s 9)), none, 0⟩,
  ⟨(some 52), .p (.mov (.s 8)), none, 0⟩,
  ⟨(some 53), .p (.bin .lss (.s 51) (.s 52)), none, 0⟩]) c53_8) c53_12)
def c53_14 : ACode := (.block 6 (.loop c53_13))
def c53_15 : ACode := (.draw [
  ⟨(some 76), .p (.mov (.s 7)), none, 0⟩,
  ⟨(some 77), .p (.mov (.s 76)), none, 0⟩,
  ⟨(some 78), .p (.mov (.s 6)), (some (77, true)), 0⟩,
  ⟨(some 79), .p (.mov (.s 8)), (some (77, true)), 0⟩,
  ⟨(some 80), .p (.adrSl 1 (.s 78) (.s 79)), (some (77, true)), 0⟩,
  ⟨(some 81), .m (.load none (.s 80)), (some (77, true)), 0⟩,
  ⟨(some 82), .p (.mov (.s 3)), (some (77, true)), 0⟩,
  ⟨(some 83), .p (.mov (.s 8)), (some (77, true)), 0⟩,
  ⟨(some 84), .p (.adrSl 1 (.s 82) (.s 83)), (some (77, true)), 0⟩,
  ⟨(some 85), .m (.load none (.s 84)), (some (77, true)), 0⟩,
  ⟨(some 86), .p (.bin .eql (.s 81) (.s 85)), (some (77, true)), 0⟩,
  ⟨(some 87), .p (.pick (.s 77) (.s 86) (.c (.v (.bool false)))), none, 0⟩,
  ⟨(some 7), .p (.mov (.s 87)), none, 0⟩])
def c53_16 : ACode := (.seq (.seq (.ops [
  ⟨(some 9), .p (.mov (.c (.v (.int .i64 0)))), none, 0⟩]) c53_14) c53_15)
def c53_17 : ACode := (.ops [
  ⟨(some 45), .p (.mov (.s 8)), none, 0⟩,
  ⟨(some 46), .p (.bin .add (.s 45) (.c (.v (.int .i64 1)))), none, 0⟩,
  ⟨(some 8), .p (.mov (.s 46)), none, 0⟩])
def c53_18 : ACode := (.seq (.block 5 (.seq (.ops [
  ⟨(some 47), .p (.mov (.s 6)), none, 0⟩,
  ⟨(some 48), .p (.mov (.s 8)), none, 0⟩,
  ⟨(some 49), .p (.mov (.s 8)), none, 0⟩,
  ⟨(some 50), .p (.adrSl 1 (.s 47) (.s 48)), none, 0⟩,
  ⟨none, .m (.store none (.s 50) (.s 49)), none, 0⟩]) c53_16)) c53_17)
def c53_19 : ACode := (.seq (.seq (.ops [
  ⟨(some 40), .p (.mov (.s 8)), none, 0⟩,
  ⟨(some 41), .p (.fieldAddr 1 none (.s 1)), none, 0⟩,
  ⟨(some 42), .m (.load none (.s 41)), none, 0⟩,
  ⟨(some 43), .p (.len false (.s 42)), none, 40⟩,
  ⟨(some 44), .p (.bin .lss (.s 40) (.s 43)), none, 0⟩]) c53_7) c53_18)
def c53_20 : ACode := (.block 4 (.loop c53_19))
def c53_21 : ACode := (.cond (.s 89) (.seq (.ops [
  ⟨(some 90), .p (.mov (.s 3)), none, 0⟩,
  ⟨(some 2), .p (.mov (.s 90)), none, 0⟩]) .ret) .skip)
def c53_22 : ACode := (.seq (.ops [
  ⟨(some 89), .p (.mov (.s 7)), none, 0⟩]) c53_21)
def c53_23 : ACode := (.seq (.ops [
  ⟨(some 88), .p (.mov (.s 6)), none, 0⟩,
  ⟨(some 3), .p (.mov (.s 88)), none, 0⟩]) c53_22)
def c53_24 : ACode := (.seq (.seq (.ops [
  ⟨(some 8), .p (.mov (.c (.v (.int .i64 0)))), none, 0⟩]) c53_20) c53_23)
def c53_25 : ACode := (.seq (.ops [
  ⟨(some 7), .p (.mov (.c (.v (.bool true)))), none, 0⟩]) c53_24)
def c53_26 : ACode := (.ops [
  ⟨(some 34), .p (.mov (.s 5)), none, 0⟩,
  ⟨(some 35), .p (.bin .add (.s 34) (.c (.v (.int .i64 1)))), none, 0⟩,
  ⟨(some 5), .p (.mov (.s 35)), none, 0⟩])
def c53_27 : ACode := (.seq (.block 3 (.seq (.ops [
  ⟨(some 36), .p (.fieldAddr 1 none (.s 1)), none, 0⟩,
  ⟨(some 37), .m (.load none (.s 36)), none, 0⟩,
  ⟨(some 38), .p (.len false (.s 37)), none, 40⟩,
  ⟨(some 39), .m (.mkSlice 1 8 [(.v (.int .i64 0))] (.s 38) (.s 38)), none, 3⟩,
  ⟨(some 6), .p (.mov (.s 39)), none, 0⟩]) c53_25)) c53_26)
def c53_28 : ACode := (.seq (.seq (.ops [
  ⟨(some 29), .p (.mov (.s 5)), none, 0⟩,
  ⟨(some 30), .p (.fieldAddr 1 none (.s 1)), none, 0⟩,
  ⟨(some 31), .m (.load none (.s 30)), none, 0⟩,
  ⟨(some 32), .p (.len false (.s 31)), none, 40⟩,
  ⟨(some 33), .p (.bin .leq (.s 29) (.s 32)), none, 0⟩]) c53_6) c53_27)
def c53_29 : ACode := (.block 2 (.loop c53_28))
def c53_30 : ACode := (.seq (.ops [
  ⟨(some 91), .p (.mov (.s 3)), none, 0⟩,
  ⟨(some 2), .p (.mov (.s 91)), none, 0⟩]) .ret)
def c53_31 : ACode := (.seq (.seq (.ops [
  ⟨(some 5), .p (.mov (.c (.v (.int .i64 0)))), none, 0⟩]) c53_29) c53_30)
def c53_32 : ACode := (.seq (.seq (.ops [
  ⟨(some 4), .p (.mov (.c (.v (.int .i64 0)))), none, 0⟩]) c53_5) c53_31)
def c53_33 : ACode := (.seq (.ops [
  ⟨(some 10), .p (.fieldAddr 1 none (.s 1)), none, 0⟩,
  ⟨(some 11), .m (.load none (.s 10)), none, 0⟩,
  ⟨(some 12), .p (.len false (.s 11)), none, 40⟩,
  ⟨(some 13), .m (.mkSlice 1 8 [(.v (.int .i64 0))] (.s 12) (.s 12)), none, 3⟩,
  ⟨(some 3), .p (.mov (.s 13)), none, 0⟩]) c53_32)
def c53 : ACode := (.seq (.ops [
  ⟨(some 1), .m (.box (.s 0)), none, 0⟩,
  ⟨(some 2), .p (.mov (.c (.v (.slice none 0 0)))), none, 0⟩]) c53_33)
theorem t53 : trC Tryd.prog Tryd.f53.ntmps (bodyOf Tryd.f53) = some c53 := by kernel_rfl
theorem r53 : Tryd.f53.results.toList.mapM (trR Tryd.prog) = some [.tmp 2] := by kernel_rfl
def i53 : FI := ⟨92, c53, [.tmp 2]⟩
theorem k53 : Knows Tryd.prog 53 i53 := ⟨Tryd.f53, bodyOf Tryd.f53, Tryd.func53, by kernel_rfl, by kernel_rfl, t53, r53, by kernel_rfl⟩
-- 54 drover/dfa.classes []
def c54_0 : ACode := (.cond (.s 28) (.ops [
  ⟨(some 29), .p (.mov (.s 3)), none, 0⟩,
  ⟨(some 30), .p (.mov (.s 4)), none, 0⟩,
  ⟨(some 31), .p (.adrSl 1 (.s 29) (.s 30)), none, 0⟩,
  ⟨none, .m (.store none (.s 31) (.c (.v (.int .i64 1)))), none, 0⟩]) .skip)
def c54_1 : ACode := (.seq (.ops [
  ⟨(some 28), .p (.mov (.s 5)), none, 0⟩]) c54_0)
def c54_2 : ACode := (.ops [
  ⟨(some 32), .p (.bin .add (.s 23) (.c (.v (.int .i64 1)))), none, 0⟩,
  ⟨(some 23), .p (.mov (.s 32)), none, 0⟩])
def c54_3 : ACode := (.seq (.block 1 (.seq (.ops [
  ⟨(some 25), .p (.mov (.s 23)), none, 0⟩,
  ⟨(some 26), .p (.adrSl 1 (.s 21) (.s 23)), none, 0⟩,
  ⟨(some 27), .m (.load none (.s 26)), none, 0⟩,
  ⟨(some 4), .p (.mov (.s 25)), none, 0⟩,
  ⟨(some 5), .p (.mov (.s 27)), none, 0⟩]) c54_1)) c54_2)
def c54_4 : ACode := (.seq (.cond (.s 24) .skip (.exit 0)) c54_3)
def c54_5 : ACode := (.seq (.ops [
  ⟨(some 24), .p (.bin .lss (.s 23) (.s 22)), none, 0⟩]) c54_4)
def c54_6 : ACode := (.block 0 (.loop c54_5))
def c54_7 : List AOper := [
  ⟨(some 11), .p (.mov (.s 49)), none, 0⟩]
def c54_8 : List AOper := [
  ⟨(some 62), .p (.bin .add (.c (.v (.string ⟨#[32]⟩))) (.s 61)), none, 0⟩,
  ⟨(some 63), .p (.bin .add (.s 56) (.s 62)), none, 0⟩,
  ⟨(some 11), .p (.mov (.s 63)), none, 0⟩]
def c54_9 : ACode := (.ops (⟨(some 56), .p (.mov (.s 11)), none, 0⟩ ::
  ⟨(some 57), .p (.mov (.s 3)), none, 0⟩ ::
  ⟨(some 58), .p (.mov (.s 13)), none, 0⟩ ::
  ⟨(some 59), .p (.adrSl 1 (.s 57) (.s 58)), none, 0⟩ ::
  ⟨(some 60), .m (.load none (.s 59)), none, 0⟩ ::
  ⟨(some 61), .call (.c (.fn 70 [])) [(.s 60)], none, 0⟩ :: c54_8))
def c54_10 : ACode := (.ops [
  ⟨(some 64), .p (.bin .add (.s 52) (.c (.v (.int .i64 1)))), none, 0⟩,
  ⟨(some 52), .p (.mov (.s 64)), none, 0⟩])
def c54_11 : ACode := (.seq (.block 7 (.seq (.ops [
  ⟨(some 54), .p (.adrSl 1 (.s 50) (.s 52)), none, 0⟩,
  ⟨(some 55), .m (.load none (.s 54)), none, 0⟩,
  ⟨(some 13), .p (.mov (.s 55)), none, 0⟩]) c54_9)) c54_10)
def c54_12 : ACode := (.seq (.cond (.s 53) .skip (.exit 6)) c54_11)
def c54_13 : ACode := (.seq (.ops [
  ⟨(some 53), .p (.bin .lss (.s 52) (.s 51)), none, 0⟩]) c54_12)
def c54_14 : ACode := (.block 6 (.loop c54_13))
def c54_15 : ACode := (.ops [
  ⟨(some 75), .p (.mov (.s 7)), none, 0⟩,
  ⟨(some 76), .p (.mov (.s 11)), none, 0⟩,
  ⟨(some 77), .p (.mov (.s 14)), none, 0⟩,
  ⟨none, .m (.ext (.map (.upd [.str] false (.s 75) (.s 76) (.s 77)))), none, 0⟩])
def c54_16 : ACode := (.cond (.s 72) (.seq (.ops [
  ⟨(some 73), .p (.mov (.s 7)), none, 0⟩,
  ⟨(some 74), .m (.ext (.map (.len (.s 73)))), none, 3⟩,
  ⟨(some 14), .p (.mov (.s 74)), none, 0⟩]) c54_15) .skip)
def c54_17 : ACode := (.ops [
  ⟨(some 78), .p (.mov (.s 8)), none, 0⟩,
  ⟨(some 79), .p (.mov (.s 9)), none, 0⟩,
  ⟨(some 80), .p (.mov (.s 14)), none, 0⟩,
  ⟨(some 81), .p (.adrSl 1 (.s 78) (.s 79)), none, 0⟩,
  ⟨none, .m (.store none (.s 81) (.s 80)), none, 0⟩])
def c54_18 : ACode := (.seq (.seq (.ops [
  ⟨(some 71), .p (.mov (.s 15)), none, 0⟩,
  ⟨(some 72), .p (.un .not (.s 71)), none, 0⟩]) c54_16) c54_17)
def c54_19 : ACode := (.seq (.ops [
  ⟨(some 66), .p (.mov (.s 7)), none, 0⟩,
  ⟨(some 67), .p (.mov (.s 11)), none, 0⟩,
  ⟨(some 68), .m (.ext (.map (.look [.str] false true (.v (.int .i64 0)) (.s 66) (.s 67)))), none, 0⟩,
  ⟨(some 65), .p (.mov (.s 68)), none, 0⟩,
  ⟨(some 69), .p (.extract (.s 65) 0), none, 0⟩,
  ⟨(some 70), .p (.extract (.s 65) 1), none, 0⟩,
  ⟨(some 14), .p (.mov (.s 69)), none, 0⟩,
  ⟨(some 15), .p (.mov (.s 70)), none, 0⟩]) c54_18)
def c54_20 : ACode := (.seq (.seq (.ops [
  ⟨(some 50), .p (.mov (.s 10)), none, 0⟩,
  ⟨(some 51), .p (.len false (.s 50)), none, 3⟩,
  ⟨(some 52), .p (.mov (.c (.v (.int .i64 0)))), none, 0⟩]) c54_14) c54_19)
def c54_21 : ACode := (.seq (.ops (⟨(some 45), .p (.mov (.s 3)), none, 0⟩ ::
  ⟨(some 46), .p (.mov (.s 9)), none, 0⟩ ::
  ⟨(some 47), .p (.adrSl 1 (.s 45) (.s 46)), none, 0⟩ ::
  ⟨(some 48), .m (.load none (.s 47)), none, 0⟩ ::
  ⟨(some 49), .call (.c (.fn 70 [])) [(.s 48)], none, 0⟩ :: c54_7)) c54_20)
def c54_22 : ACode := (.ops [
  ⟨(some 82), .p (.bin .add (.s 40) (.c (.v (.int .i64 1)))), none, 0⟩,
  ⟨(some 40), .p (.mov (.s 82)), none, 0⟩])
def c54_23 : ACode := (.seq (.block 5 (.seq (.ops [
  ⟨(some 42), .p (.mov (.s 40)), none, 0⟩,
  ⟨(some 43), .p (.adrSl 1 (.s 38) (.s 40)), none, 0⟩,
  ⟨(some 44), .m (.load none (.s 43)), none, 0⟩,
  ⟨(some 9), .p (.mov (.s 42)), none, 0⟩,
  ⟨(some 10), .p (.mov (.s 44)), none, 0⟩]) c54_21)) c54_22)
def c54_24 : ACode := (.seq (.cond (.s 41) .skip (.exit 4)) c54_23)
def c54_25 : ACode := (.seq (.ops [
  ⟨(some 41), .p (.bin .lss (.s 40) (.s 39)), none, 0⟩]) c54_24)
def c54_26 : ACode := (.block 4 (.loop c54_25))
def c54_27 : ACode := (.cond (.s 87) (.seq (.ops [
  ⟨(some 88), .p (.mov (.s 3)), none, 0⟩,
  ⟨(some 2), .p (.mov (.s 88)), none, 0⟩]) .ret) .skip)
def c54_28 : ACode := (.ops [
  ⟨(some 89), .p (.mov (.s 7)), none, 0⟩,
  ⟨(some 90), .m (.ext (.map (.len (.s 89)))), none, 3⟩,
  ⟨(some 6), .p (.mov (.s 90)), none, 0⟩])
def c54_29 : ACode := (.seq (.seq (.ops [
  ⟨(some 84), .p (.mov (.s 7)), none, 0⟩,
  ⟨(some 85), .m (.ext (.map (.len (.s 84)))), none, 3⟩,
  ⟨(some 86), .p (.mov (.s 6)), none, 0⟩,
  ⟨(some 87), .p (.bin .eql (.s 85) (.s 86)), none, 0⟩]) c54_27) c54_28)
def c54_30 : ACode := (.seq (.ops [
  ⟨(some 83), .p (.mov (.s 8)), none, 0⟩,
  ⟨(some 3), .p (.mov (.s 83)), none, 0⟩]) c54_29)
def c54_31 : ACode := (.seq (.seq (.ops [
  ⟨(some 37), .p (.fieldAddr 1 none (.s 1)), none, 0⟩,
  ⟨(some 38), .m (.load none (.s 37)), none, 0⟩,
  ⟨(some 39), .p (.len false (.s 38)), none, 40⟩,
  ⟨(some 40), .p (.mov (.c (.v (.int .i64 0)))), none, 0⟩]) c54_26) c54_30)
def c54_32 : ACode := (.seq (.ops [
  ⟨(some 34), .p (.mov (.s 3)), none, 0⟩,
  ⟨(some 35), .p (.len false (.s 34)), none, 3⟩,
  ⟨(some 36), .m (.mkSlice 1 8 [(.v (.int .i64 0))] (.s 35) (.s 35)), none, 3⟩,
  ⟨(some 8), .p (.mov (.s 36)), none, 0⟩]) c54_31)
def c54_33 : ACode := (.block 3 (.seq (.ops [
  ⟨(some 33), .m (.ext (.map (.mk))), none, 589827⟩,
  ⟨(some 7), .p (.mov (.s 33)), none, 0⟩]) c54_32))
def c54_34 : ACode := (.block 2 (.loop c54_33))
def c54_35 : ACode := (.seq (.ops [
  ⟨(some 6), .p (.mov (.c (.v (.int .i64 0)))), none, 0⟩]) c54_34)
def c54_36 : ACode := (.seq (.seq (.ops [
  ⟨(some 20), .p (.fieldAddr 2 none (.s 1)), none, 0⟩,
  ⟨(some 21), .m (.load none (.s 20)), none, 0⟩,
  ⟨(some 22), .p (.len false (.s 21)), none, 4⟩,
  ⟨(some 23), .p (.mov (.c (.v (.int .i64 0)))), none, 0⟩]) c54_6) c54_35)
def c54_37 : ACode := (.seq (.ops [
  ⟨(some 16), .p (.fieldAddr 1 none (.s 1)), none, 0⟩,
  ⟨(some 17), .m (.load none (.s 16)), none, 0⟩,
  ⟨(some 18), .p (.len false (.s 17)), none, 40⟩,
  ⟨(some 19), .m (.mkSlice 1 8 [(.v (.int .i64 0))] (.s 18) (.s 18)), none, 3⟩,
  ⟨(some 3), .p (.mov (.s 19)), none, 0⟩]) c54_36)
def c54 : ACode := (.seq (.ops [
  ⟨(some 1), .m (.box (.s 0)), none, 0⟩,
  ⟨(some 2), .p (.mov (.c (.v (.slice none 0 0)))), none, 0⟩]) c54_37)
theorem t54 : trC Tryd.prog Tryd.f54.ntmps (bodyOf Tryd.f54) = some c54 := by kernel_rfl
theorem r54 : Tryd.f54.results.toList.mapM (trR Tryd.prog) = some [.tmp 2] := by kernel_rfl
def i54 : FI := ⟨91, c54, [.tmp 2]⟩
theorem k54 : Knows Tryd.prog 54 i54 := ⟨Tryd.f54, bodyOf Tryd.f54, Tryd.func54, by kernel_rfl, by kernel_rfl, t54, r54, by kernel_rfl⟩
end Go.Proofs.Dfa
