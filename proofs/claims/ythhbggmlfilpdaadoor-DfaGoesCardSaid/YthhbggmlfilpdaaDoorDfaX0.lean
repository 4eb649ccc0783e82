/- A part of a law's proof: DfaX0. -/
import Derived.KernelRfl
import Derived.Test.YthhbggmlfilpdaaDoorProg
import Derived.Test.YthhbggmlfilpdaaDoorSvCod
set_option linter.unusedSimpArgs false
set_option linter.constructorNameAsVariable false
namespace Go.Proofs.Dfa
open Go Go.Ab Go.Proofs
set_option linter.unusedVariables false
noncomputable abbrev PG : Program := Tryd.prog
def bodyOf (fn : Func) : Code := fn.body.getD .skip
-- 5 drover/droverlaw19.DfaGoes []
def c5_0 : List AOper := [
  ⟨(some 13), .p (.mov (.s 15)), none, 0⟩,
  ⟨(some 16), .p (.extract (.s 13) 0), none, 0⟩,
  ⟨(some 17), .p (.extract (.s 13) 1), none, 0⟩,
  ⟨(some 9), .p (.mov (.s 16)), none, 0⟩,
  ⟨(some 10), .p (.mov (.s 17)), none, 0⟩]
def c5_1 : List AOper := [
  ⟨(some 18), .p (.mov (.s 20)), none, 0⟩,
  ⟨(some 21), .p (.extract (.s 18) 0), none, 0⟩,
  ⟨(some 22), .p (.extract (.s 18) 1), none, 0⟩,
  ⟨(some 11), .p (.mov (.s 21)), none, 0⟩,
  ⟨(some 12), .p (.mov (.s 22)), none, 0⟩]
def c5_2 : ACode := (.draw [
  ⟨(some 30), .p (.un .not (.s 29)), (some (26, false)), 0⟩,
  ⟨(some 31), .p (.pick (.s 26) (.c (.v (.bool true))) (.s 30)), none, 0⟩,
  ⟨(some 32), .p (.mov (.s 31)), none, 0⟩,
  ⟨(some 33), .m (.load (some 3) (.s 4)), (some (32, false)), 0⟩,
  ⟨(some 34), .qcall (.c (.fn 19 [])) [(.s 33)], (some (32, false)), 0⟩,
  ⟨(some 35), .m (.load (some 3) (.s 4)), (some (32, false)), 0⟩,
  ⟨(some 36), .call (.c (.fn 20 [])) [(.s 35)], (some (32, false)), 0⟩,
  ⟨(some 37), .p (.eqa true [.bool] false (.s 34) (.s 36)), (some (32, false)), 0⟩,
  ⟨(some 38), .p (.pick (.s 32) (.c (.v (.bool true))) (.s 37)), none, 0⟩])
def c5_3 : ACode := (.seq (.ops [
  ⟨(some 29), .call (.c (.fn 18 [])) [(.s 27), (.s 28)], (some (26, false)), 3⟩]) c5_2)
def c5_4 : ACode := (.cond (.s 38) (.seq (.ops [
  ⟨(some 8), .p (.mov (.c (.v (.bool false)))), none, 0⟩]) .ret) .skip)
def c5_5 : ACode := (.draw [
  ⟨(some 47), .p (.bin .eql (.s 42) (.s 46)), none, 0⟩,
  ⟨(some 48), .p (.mov (.s 47)), none, 0⟩,
  ⟨(some 49), .m (.load (some 3) (.s 4)), (some (48, true)), 0⟩,
  ⟨(some 50), .p (.mov (.s 2)), (some (48, true)), 0⟩,
  ⟨(some 51), .qcall (.c (.fn 23 [])) [(.s 49), (.s 50)], (some (48, true)), 0⟩,
  ⟨(some 52), .m (.load (some 3) (.s 4)), (some (48, true)), 0⟩,
  ⟨(some 53), .p (.mov (.s 2)), (some (48, true)), 0⟩,
  ⟨(some 54), .call (.c (.fn 24 [])) [(.s 52), (.s 53)], (some (48, true)), 0⟩,
  ⟨(some 55), .p (.eqa false [.bool] false (.s 51) (.s 54)), (some (48, true)), 0⟩,
  ⟨(some 56), .p (.pick (.s 48) (.s 55) (.c (.v (.bool false)))), none, 0⟩,
  ⟨(some 57), .p (.mov (.s 56)), none, 0⟩,
  ⟨(some 58), .m (.load (some 3) (.s 4)), (some (57, true)), 0⟩,
  ⟨(some 59), .p (.mov (.s 1)), (some (57, true)), 0⟩,
  ⟨(some 60), .qcall (.c (.fn 25 [])) [(.s 58), (.s 59)], (some (57, true)), 0⟩,
  ⟨(some 61), .m (.load (some 3) (.s 4)), (some (57, true)), 0⟩,
  ⟨(some 62), .p (.mov (.s 1)), (some (57, true)), 0⟩,
  ⟨(some 63), .call (.c (.fn 26 [])) [(.s 61), (.s 62)], (some (57, true)), 0⟩,
  ⟨(some 64), .p (.eqa false [.bool] false (.s 60) (.s 63)), (some (57, true)), 0⟩,
  ⟨(some 65), .p (.pick (.s 57) (.s 64) (.c (.v (.bool false)))), none, 0⟩,
  ⟨(some 66), .p (.mov (.s 65)), none, 0⟩,
  ⟨(some 67), .call (.c (.fn 15 [])) [], (some (66, true)), 0⟩,
  ⟨(some 68), .p (.pick (.s 66) (.s 67) (.c (.v (.bool false)))), none, 0⟩,
  ⟨(some 8), .p (.mov (.s 68)), none, 0⟩])
def c5_6 : ACode := (.seq (.ops [
  ⟨(some 46), .call (.c (.fn 22 [])) [(.s 43), (.s 44), (.s 45)], none, 0⟩]) c5_5)
def c5_7 : ACode := (.seq (.seq (.draw [
  ⟨(some 39), .m (.load (some 3) (.s 4)), none, 0⟩,
  ⟨(some 40), .p (.mov (.s 2)), none, 0⟩,
  ⟨(some 41), .p (.mov (.s 3)), none, 0⟩,
  ⟨(some 42), .qcall (.c (.fn 21 [])) [(.s 39), (.s 40), (.s 41)], none, 0⟩,
  ⟨(some 43), .m (.load (some 3) (.s 4)), none, 0⟩,
  ⟨(some 44), .p (.mov (.s 2)), none, 0⟩,
  ⟨(some 45), .p (.mov (.s 3)), none, 0⟩]) c5_6) .ret)
def c5_8 : ACode := (.seq (.seq (.seq (.draw [
  ⟨(some 23), .p (.mov (.s 10)), none, 0⟩,
  ⟨(some 24), .p (.mov (.s 12)), none, 0⟩,
  ⟨(some 25), .p (.eqa true [.bool] false (.s 23) (.s 24)), none, 0⟩,
  ⟨(some 26), .p (.mov (.s 25)), none, 0⟩,
  ⟨(some 27), .p (.mov (.s 9)), (some (26, false)), 0⟩,
  ⟨(some 28), .p (.mov (.s 11)), (some (26, false)), 0⟩]) c5_3) c5_4) c5_7)
def c5_9 : ACode := (.seq (.ops (⟨(some 19), .m (.load (some 3) (.s 4)), none, 0⟩ ::
  ⟨(some 20), .call (.c (.fn 17 [])) [(.s 19)], none, 0⟩ :: c5_1)) c5_8)
def c5_10 : ACode := (.seq (.ops (⟨(some 14), .m (.load (some 3) (.s 4)), none, 0⟩ ::
  ⟨(some 15), .call (.c (.fn 16 [])) [(.s 14)], none, 0⟩ :: c5_0)) c5_9)
def c5 : ACode := (.seq (.ops [
  ⟨(some 4), .m (.box (.s 0)), none, 0⟩,
  ⟨(some 8), .p (.mov (.c (.v (.bool false)))), none, 0⟩]) c5_10)
theorem t5 : trC Tryd.prog Tryd.f5.ntmps (bodyOf Tryd.f5) = some c5 := by kernel_rfl
theorem r5 : Tryd.f5.results.toList.mapM (trR Tryd.prog) = some [.tmp 8] := by kernel_rfl
def i5 : FI := ⟨69, c5, [.tmp 8]⟩
theorem k5 : Knows Tryd.prog 5 i5 := ⟨Tryd.f5, bodyOf Tryd.f5, Tryd.func5, by kernel_rfl, by kernel_rfl, t5, r5, by kernel_rfl⟩
-- 9 drover/droverlaw19.DfaParts []
def c9_0 : List AOper := [
  ⟨(some 19), .p (.mov (.s 22)), none, 0⟩,
  ⟨(some 23), .p (.extract (.s 19) 0), none, 0⟩,
  ⟨(some 24), .p (.extract (.s 19) 1), none, 0⟩,
  ⟨(some 7), .m (.alloc [(.v (.int .i64 0)), (.v (.slice none 0 0)), (.v (.slice none 0 0))]), none, 40⟩,
  ⟨none, .m (.store (some 3) (.s 7) (.s 23)), none, 0⟩,
  ⟨(some 8), .p (.mov (.s 24)), none, 0⟩]
def c9_1 : List AOper := [
  ⟨(some 25), .p (.mov (.s 28)), none, 0⟩,
  ⟨(some 29), .p (.extract (.s 25) 0), none, 0⟩,
  ⟨(some 30), .p (.extract (.s 25) 1), none, 0⟩,
  ⟨(some 9), .m (.alloc [(.v (.int .i64 0)), (.v (.slice none 0 0)), (.v (.slice none 0 0))]), none, 40⟩,
  ⟨none, .m (.store (some 3) (.s 9) (.s 29)), none, 0⟩,
  ⟨(some 10), .p (.mov (.s 30)), none, 0⟩]
def c9_2 : List AOper := [
  ⟨(some 31), .p (.mov (.s 34)), none, 0⟩,
  ⟨(some 35), .p (.extract (.s 31) 0), none, 0⟩,
  ⟨(some 36), .p (.extract (.s 31) 1), none, 0⟩,
  ⟨(some 11), .m (.alloc [(.v (.int .i64 0)), (.v (.slice none 0 0)), (.v (.slice none 0 0))]), none, 40⟩,
  ⟨none, .m (.store (some 3) (.s 11) (.s 35)), none, 0⟩,
  ⟨(some 12), .p (.mov (.s 36)), none, 0⟩]
def c9_3 : ACode := (.cond (.s 44) (.seq (.ops [
  ⟨(some 6), .p (.mov (.c (.v (.bool false)))), none, 0⟩]) .ret) .skip)
def c9_4 : List AOper := [
  ⟨(some 61), .p (.pick (.s 59) (.s 60) (.c (.v (.bool false)))), none, 0⟩,
  ⟨(some 6), .p (.mov (.s 61)), none, 0⟩]
def c9_5 : ACode := (.cond (.s 46) (.seq (.ops (⟨(some 47), .p (.fieldAddr 1 none (.s 7)), none, 0⟩ ::
  ⟨(some 48), .m (.load none (.s 47)), none, 0⟩ ::
  ⟨(some 49), .p (.len false (.s 48)), none, 40⟩ ::
  ⟨(some 50), .p (.fieldAddr 1 none (.s 9)), none, 0⟩ ::
  ⟨(some 51), .m (.load none (.s 50)), none, 0⟩ ::
  ⟨(some 52), .p (.len false (.s 51)), none, 40⟩ ::
  ⟨(some 53), .p (.bin .add (.s 49) (.s 52)), none, 0⟩ ::
  ⟨(some 54), .p (.fieldAddr 1 none (.s 11)), none, 0⟩ ::
  ⟨(some 55), .m (.load none (.s 54)), none, 0⟩ ::
  ⟨(some 56), .p (.len false (.s 55)), none, 40⟩ ::
  ⟨(some 57), .p (.bin .add (.s 53) (.s 56)), none, 0⟩ ::
  ⟨(some 58), .p (.bin .eql (.s 57) (.c (.v (.int .i64 0)))), none, 0⟩ ::
  ⟨(some 59), .p (.mov (.s 58)), none, 0⟩ ::
  ⟨(some 60), .call (.c (.fn 15 [])) [], (some (59, true)), 0⟩ :: c9_4)) .ret) .skip)
def c9_6 : List AOper := [
  ⟨(some 13), .p (.mov (.s 64)), none, 0⟩]
def c9_7 : List AOper := [
  ⟨(some 14), .p (.mov (.s 67)), none, 0⟩]
def c9_8 : List AOper := [
  ⟨(some 80), .p (.mov (.s 13)), (some (76, false)), 0⟩,
  ⟨(some 81), .p (.mov (.s 80)), (some (76, false)), 0⟩,
  ⟨(some 82), .p (.mov (.s 14)), (some (81, true)), 0⟩,
  ⟨(some 83), .p (.un .not (.s 82)), (some (81, true)), 0⟩,
  ⟨(some 84), .p (.pick (.s 81) (.s 83) (.c (.v (.bool false)))), (some (76, false)), 0⟩,
  ⟨(some 85), .p (.eqa true [.bool] false (.s 79) (.s 84)), (some (76, false)), 0⟩,
  ⟨(some 86), .p (.pick (.s 76) (.c (.v (.bool true))) (.s 85)), none, 0⟩]
def c9_9 : List AOper := (⟨(some 71), .p (.mov (.s 13)), none, 0⟩ ::
  ⟨(some 72), .p (.mov (.s 71)), none, 0⟩ ::
  ⟨(some 73), .p (.mov (.s 14)), (some (72, true)), 0⟩ ::
  ⟨(some 74), .p (.pick (.s 72) (.s 73) (.c (.v (.bool false)))), none, 0⟩ ::
  ⟨(some 75), .p (.eqa true [.bool] false (.s 70) (.s 74)), none, 0⟩ ::
  ⟨(some 76), .p (.mov (.s 75)), none, 0⟩ ::
  ⟨(some 77), .m (.load (some 3) (.s 9)), (some (76, false)), 0⟩ ::
  ⟨(some 78), .p (.mov (.s 2)), (some (76, false)), 0⟩ ::
  ⟨(some 79), .call (.c (.fn 25 [])) [(.s 77), (.s 78)], (some (76, false)), 0⟩ :: c9_8)
def c9_10 : ACode := (.cond (.s 86) (.seq (.ops [
  ⟨(some 6), .p (.mov (.c (.v (.bool false)))), none, 0⟩]) .ret) .skip)
def c9_11 : List AOper := [
  ⟨(some 87), .p (.mov (.s 89)), none, 0⟩,
  ⟨(some 90), .p (.extract (.s 87) 0), none, 0⟩,
  ⟨(some 91), .p (.extract (.s 87) 1), none, 0⟩,
  ⟨(some 15), .p (.mov (.s 90)), none, 0⟩,
  ⟨(some 16), .p (.mov (.s 91)), none, 0⟩]
def c9_12 : List AOper := [
  ⟨(some 92), .p (.mov (.s 94)), none, 0⟩,
  ⟨(some 95), .p (.extract (.s 92) 0), none, 0⟩,
  ⟨(some 96), .p (.extract (.s 92) 1), none, 0⟩,
  ⟨(some 17), .p (.mov (.s 95)), none, 0⟩,
  ⟨(some 18), .p (.mov (.s 96)), none, 0⟩]
def c9_13 : List AOper := [
  ⟨(some 120), .p (.pick (.s 116) (.c (.v (.bool true))) (.s 119)), (some (111, true)), 0⟩,
  ⟨(some 121), .p (.pick (.s 111) (.s 120) (.c (.v (.bool false)))), (some (109, false)), 0⟩,
  ⟨(some 122), .p (.pick (.s 109) (.c (.v (.bool true))) (.s 121)), none, 0⟩]
def c9_14 : List AOper := (⟨(some 115), .p (.un .not (.s 114)), (some (111, true)), 0⟩ ::
  ⟨(some 116), .p (.mov (.s 115)), (some (111, true)), 0⟩ ::
  ⟨(some 117), .m (.load (some 3) (.s 3)), (some (116, false)), 0⟩ ::
  ⟨(some 118), .p (.mov (.s 17)), (some (116, false)), 0⟩ ::
  ⟨(some 119), .call (.c (.fn 25 [])) [(.s 117), (.s 118)], (some (116, false)), 0⟩ :: c9_13)
def c9_15 : List AOper := (⟨(some 107), .p (.pick (.s 103) (.c (.v (.bool true))) (.s 106)), (some (98, true)), 0⟩ ::
  ⟨(some 108), .p (.pick (.s 98) (.s 107) (.c (.v (.bool false)))), none, 0⟩ ::
  ⟨(some 109), .p (.mov (.s 108)), none, 0⟩ ::
  ⟨(some 110), .p (.mov (.s 18)), (some (109, false)), 0⟩ ::
  ⟨(some 111), .p (.mov (.s 110)), (some (109, false)), 0⟩ ::
  ⟨(some 112), .m (.load (some 3) (.s 4)), (some (111, true)), 0⟩ ::
  ⟨(some 113), .p (.mov (.s 17)), (some (111, true)), 0⟩ ::
  ⟨(some 114), .call (.c (.fn 25 [])) [(.s 112), (.s 113)], (some (111, true)), 0⟩ :: c9_14)
def c9_16 : List AOper := (⟨(some 102), .p (.un .not (.s 101)), (some (98, true)), 0⟩ ::
  ⟨(some 103), .p (.mov (.s 102)), (some (98, true)), 0⟩ ::
  ⟨(some 104), .m (.load (some 3) (.s 4)), (some (103, false)), 0⟩ ::
  ⟨(some 105), .p (.mov (.s 15)), (some (103, false)), 0⟩ ::
  ⟨(some 106), .call (.c (.fn 25 [])) [(.s 104), (.s 105)], (some (103, false)), 0⟩ :: c9_15)
def c9_17 : ACode := (.cond (.s 122) (.seq (.ops [
  ⟨(some 6), .p (.mov (.c (.v (.bool false)))), none, 0⟩]) .ret) .skip)
def c9_18 : List AOper := [
  ⟨(some 126), .p (.mov (.s 125)), none, 0⟩,
  ⟨(some 127), .p (.mov (.s 16)), (some (126, true)), 0⟩,
  ⟨(some 128), .p (.un .not (.s 127)), (some (126, true)), 0⟩,
  ⟨(some 129), .p (.mov (.s 128)), (some (126, true)), 0⟩,
  ⟨(some 130), .p (.mov (.s 15)), (some (129, false)), 0⟩,
  ⟨(some 131), .p (.len false (.s 130)), (some (129, false)), 3⟩,
  ⟨(some 132), .p (.mov (.s 2)), (some (129, false)), 0⟩,
  ⟨(some 133), .p (.len false (.s 132)), (some (129, false)), 3⟩,
  ⟨(some 134), .p (.bin .gtr (.s 131) (.s 133)), (some (129, false)), 0⟩,
  ⟨(some 135), .p (.pick (.s 129) (.c (.v (.bool true))) (.s 134)), (some (126, true)), 0⟩,
  ⟨(some 136), .p (.pick (.s 126) (.s 135) (.c (.v (.bool false)))), none, 0⟩]
def c9_19 : ACode := (.cond (.s 136) (.seq (.ops [
  ⟨(some 6), .p (.mov (.c (.v (.bool false)))), none, 0⟩]) .ret) .skip)
def c9_20 : List AOper := [
  ⟨(some 149), .p (.pick (.s 147) (.s 148) (.c (.v (.bool false)))), none, 0⟩,
  ⟨(some 6), .p (.mov (.s 149)), none, 0⟩]
def c9_21 : List AOper := (⟨(some 140), .p (.mov (.s 16)), none, 0⟩ ::
  ⟨(some 141), .p (.un .not (.s 140)), none, 0⟩ ::
  ⟨(some 142), .p (.mov (.s 141)), none, 0⟩ ::
  ⟨(some 143), .p (.mov (.s 18)), (some (142, true)), 0⟩ ::
  ⟨(some 144), .p (.un .not (.s 143)), (some (142, true)), 0⟩ ::
  ⟨(some 145), .p (.pick (.s 142) (.s 144) (.c (.v (.bool false)))), none, 0⟩ ::
  ⟨(some 146), .p (.eqa false [.bool] false (.s 139) (.s 145)), none, 0⟩ ::
  ⟨(some 147), .p (.mov (.s 146)), none, 0⟩ ::
  ⟨(some 148), .call (.c (.fn 15 [])) [], (some (147, true)), 0⟩ :: c9_20)
def c9_22 : ACode := (.seq (.ops (⟨(some 137), .m (.load (some 3) (.s 3)), none, 0⟩ ::
  ⟨(some 138), .m (.load (some 3) (.s 4)), none, 0⟩ ::
  ⟨(some 139), .call (.c (.fn 31 [])) [(.s 137), (.s 138)], none, 0⟩ :: c9_21)) .ret)
def c9_23 : ACode := (.seq (.seq (.ops (⟨(some 123), .m (.load (some 3) (.s 9)), none, 0⟩ ::
  ⟨(some 124), .p (.mov (.s 2)), none, 0⟩ ::
  ⟨(some 125), .call (.c (.fn 25 [])) [(.s 123), (.s 124)], none, 0⟩ :: c9_18)) c9_19) c9_22)
def c9_24 : ACode := (.seq (.seq (.ops (⟨(some 97), .p (.mov (.s 16)), none, 0⟩ ::
  ⟨(some 98), .p (.mov (.s 97)), none, 0⟩ ::
  ⟨(some 99), .m (.load (some 3) (.s 3)), (some (98, true)), 0⟩ ::
  ⟨(some 100), .p (.mov (.s 15)), (some (98, true)), 0⟩ ::
  ⟨(some 101), .call (.c (.fn 25 [])) [(.s 99), (.s 100)], (some (98, true)), 0⟩ :: c9_16)) c9_17) c9_23)
def c9_25 : ACode := (.seq (.ops (⟨(some 93), .m (.load (some 3) (.s 11)), none, 0⟩ ::
  ⟨(some 94), .call (.c (.fn 16 [])) [(.s 93)], none, 0⟩ :: c9_12)) c9_24)
def c9_26 : ACode := (.seq (.ops (⟨(some 88), .m (.load (some 3) (.s 9)), none, 0⟩ ::
  ⟨(some 89), .call (.c (.fn 16 [])) [(.s 88)], none, 0⟩ :: c9_11)) c9_25)
def c9_27 : ACode := (.seq (.seq (.ops (⟨(some 68), .m (.load (some 3) (.s 7)), none, 0⟩ ::
  ⟨(some 69), .p (.mov (.s 2)), none, 0⟩ ::
  ⟨(some 70), .call (.c (.fn 25 [])) [(.s 68), (.s 69)], none, 0⟩ :: c9_9)) c9_10) c9_26)
def c9_28 : ACode := (.seq (.ops (⟨(some 65), .m (.load (some 3) (.s 4)), none, 0⟩ ::
  ⟨(some 66), .p (.mov (.s 2)), none, 0⟩ ::
  ⟨(some 67), .call (.c (.fn 25 [])) [(.s 65), (.s 66)], none, 0⟩ :: c9_7)) c9_27)
def c9_29 : ACode := (.seq (.ops (⟨(some 62), .m (.load (some 3) (.s 3)), none, 0⟩ ::
  ⟨(some 63), .p (.mov (.s 2)), none, 0⟩ ::
  ⟨(some 64), .call (.c (.fn 25 [])) [(.s 62), (.s 63)], none, 0⟩ :: c9_6)) c9_28)
def c9_30 : ACode := (.seq (.seq (.ops [
  ⟨(some 45), .p (.mov (.s 8)), none, 0⟩,
  ⟨(some 46), .p (.bin .neq (.s 45) (.c (.v (.int .i64 0)))), none, 0⟩]) c9_5) c9_29)
def c9_31 : ACode := (.seq (.seq (.ops [
  ⟨(some 37), .p (.mov (.s 8)), none, 0⟩,
  ⟨(some 38), .p (.mov (.s 10)), none, 0⟩,
  ⟨(some 39), .p (.bin .neq (.s 37) (.s 38)), none, 0⟩,
  ⟨(some 40), .p (.mov (.s 39)), none, 0⟩,
  ⟨(some 41), .p (.mov (.s 8)), (some (40, false)), 0⟩,
  ⟨(some 42), .p (.mov (.s 12)), (some (40, false)), 0⟩,
  ⟨(some 43), .p (.bin .neq (.s 41) (.s 42)), (some (40, false)), 0⟩,
  ⟨(some 44), .p (.pick (.s 40) (.c (.v (.bool true))) (.s 43)), none, 0⟩]) c9_3) c9_30)
def c9_32 : ACode := (.seq (.ops (⟨(some 32), .m (.load (some 3) (.s 4)), none, 0⟩ ::
  ⟨(some 33), .m (.load (some 3) (.s 3)), none, 0⟩ ::
  ⟨(some 34), .call (.c (.fn 35 [])) [(.s 32), (.s 33)], none, 0⟩ :: c9_2)) c9_31)
def c9_33 : ACode := (.seq (.ops (⟨(some 26), .m (.load (some 3) (.s 3)), none, 0⟩ ::
  ⟨(some 27), .m (.load (some 3) (.s 4)), none, 0⟩ ::
  ⟨(some 28), .call (.c (.fn 35 [])) [(.s 26), (.s 27)], none, 0⟩ :: c9_1)) c9_32)
def c9_34 : ACode := (.seq (.ops (⟨(some 20), .m (.load (some 3) (.s 3)), none, 0⟩ ::
  ⟨(some 21), .m (.load (some 3) (.s 4)), none, 0⟩ ::
  ⟨(some 22), .call (.c (.fn 33 [])) [(.s 20), (.s 21)], none, 0⟩ :: c9_0)) c9_33)
def c9 : ACode := (.seq (.ops [
  ⟨(some 3), .m (.box (.s 0)), none, 0⟩,
  ⟨(some 4), .m (.box (.s 1)), none, 0⟩,
  ⟨(some 6), .p (.mov (.c (.v (.bool false)))), none, 0⟩]) c9_34)
theorem t9 : trC Tryd.prog Tryd.f9.ntmps (bodyOf Tryd.f9) = some c9 := by kernel_rfl
theorem r9 : Tryd.f9.results.toList.mapM (trR Tryd.prog) = some [.tmp 6] := by kernel_rfl
def i9 : FI := ⟨150, c9, [.tmp 6]⟩
theorem k9 : Knows Tryd.prog 9 i9 := ⟨Tryd.f9, bodyOf Tryd.f9, Tryd.func9, by kernel_rfl, by kernel_rfl, t9, r9, by kernel_rfl⟩
-- 14 drover/droverref19.Alike []
def c14_0 : ACode := (.cond (.s 29) (.seq (.ops [
  ⟨(some 4), .p (.mov (.c (.v (.bool false)))), none, 0⟩]) .ret) .skip)
def c14_1 : ACode := (.cond (.s 34) .skip (.exit 0))
def c14_2 : ACode := (.draw [
  ⟨(some 48), .p (.un .not (.s 47)), none, 0⟩])
def c14_3 : ACode := (.seq (.ops [
  ⟨(some 47), .call (.c (.fn 18 [])) [(.s 41), (.s 46)], none, 3⟩]) c14_2)
def c14_4 : ACode := (.cond (.s 48) (.seq (.ops [
  ⟨(some 4), .p (.mov (.c (.v (.bool false)))), none, 0⟩]) .ret) .skip)
def c14_5 : ACode := (.ops [
  ⟨(some 35), .p (.mov (.s 5)), none, 0⟩,
  ⟨(some 36), .p (.bin .add (.s 35) (.c (.v (.int .i64 1)))), none, 0⟩,
  ⟨(some 5), .p (.mov (.s 36)), none, 0⟩])
def c14_6 : ACode := (.seq (.block 1 (.seq (.seq (.draw [
  ⟨(some 37), .p (.fieldAddr 1 none (.s 2)), none, 0⟩,
  ⟨(some 38), .m (.load none (.s 37)), none, 0⟩,
  ⟨(some 39), .p (.mov (.s 5)), none, 0⟩,
  ⟨(some 40), .p (.adrSl 1 (.s 38) (.s 39)), none, 0⟩,
  ⟨(some 41), .m (.load none (.s 40)), none, 0⟩,
  ⟨(some 42), .p (.fieldAddr 1 none (.s 3)), none, 0⟩,
  ⟨(some 43), .m (.load none (.s 42)), none, 0⟩,
  ⟨(some 44), .p (.mov (.s 5)), none, 0⟩,
  ⟨(some 45), .p (.adrSl 1 (.s 43) (.s 44)), none, 0⟩,
  ⟨(some 46), .m (.load none (.s 45)), none, 0⟩]) c14_3) c14_4)) c14_5)
def c14_7 : ACode := (.seq (.seq (.ops [
  ⟨(some 30), .p (.mov (.s 5)), none, 0⟩,
  ⟨(some 31), .p (.fieldAddr 1 none (.s 2)), none, 0⟩,
  ⟨(some 32), .m (.load none (.s 31)), none, 0⟩,
  ⟨(some 33), .p (.len false (.s 32)), none, 40⟩,
  ⟨(some 34), .p (.bin .lss (.s 30) (.s 33)), none, 0⟩]) c14_1) c14_6)
def c14_8 : ACode := (.block 0 (.loop c14_7))
def c14_9 : ACode := (.cond (.s 53) .skip (.exit 2))
def c14_10 : ACode := (.cond (.s 66) (.seq (.ops [
  ⟨(some 4), .p (.mov (.c (.v (.bool false)))), none, 0⟩]) .ret) .skip)
def c14_11 : ACode := (.ops [
  ⟨(some 54), .p (.mov (.s 6)), none, 0⟩,
  ⟨(some 55), .p (.bin .add (.s 54) (.c (.v (.int .i64 1)))), none, 0⟩,
  ⟨(some 6), .p (.mov (.s 55)), none, 0⟩])
def c14_12 : ACode := (.seq (.block 3 (.seq (.draw [
  ⟨(some 56), .p (.fieldAddr 2 none (.s 2)), none, 0⟩,
  ⟨(some 57), .m (.load none (.s 56)), none, 0⟩,
  ⟨(some 58), .p (.mov (.s 6)), none, 0⟩,
  ⟨(some 59), .p (.adrSl 1 (.s 57) (.s 58)), none, 0⟩,
  ⟨(some 60), .m (.load none (.s 59)), none, 0⟩,
  ⟨(some 61), .p (.fieldAddr 2 none (.s 3)), none, 0⟩,
  ⟨(some 62), .m (.load none (.s 61)), none, 0⟩,
  ⟨(some 63), .p (.mov (.s 6)), none, 0⟩,
  ⟨(some 64), .p (.adrSl 1 (.s 62) (.s 63)), none, 0⟩,
  ⟨(some 65), .m (.load none (.s 64)), none, 0⟩,
  ⟨(some 66), .p (.eqa true [.bool] false (.s 60) (.s 65)), none, 0⟩]) c14_10)) c14_11)
def c14_13 : ACode := (.seq (.seq (.ops [
  ⟨(some 49), .p (.mov (.s 6)), none, 0⟩,
  ⟨(some 50), .p (.fieldAddr 2 none (.s 2)), none, 0⟩,
  ⟨(some 51), .m (.load none (.s 50)), none, 0⟩,
  ⟨(some 52), .p (.len false (.s 51)), none, 4⟩,
  ⟨(some 53), .p (.bin .lss (.s 49) (.s 52)), none, 0⟩]) c14_9) c14_12)
def c14_14 : ACode := (.block 2 (.loop c14_13))
def c14_15 : ACode := (.seq (.ops [
  ⟨(some 4), .p (.mov (.c (.v (.bool true)))), none, 0⟩]) .ret)
def c14_16 : ACode := (.seq (.seq (.ops [
  ⟨(some 6), .p (.mov (.c (.v (.int .i64 0)))), none, 0⟩]) c14_14) c14_15)
def c14_17 : ACode := (.seq (.seq (.ops [
  ⟨(some 5), .p (.mov (.c (.v (.int .i64 0)))), none, 0⟩]) c14_8) c14_16)
def c14_18 : ACode := (.seq (.seq (.ops [
  ⟨(some 7), .p (.fieldAddr 0 none (.s 2)), none, 0⟩,
  ⟨(some 8), .m (.load none (.s 7)), none, 0⟩,
  ⟨(some 9), .p (.fieldAddr 0 none (.s 3)), none, 0⟩,
  ⟨(some 10), .m (.load none (.s 9)), none, 0⟩,
  ⟨(some 11), .p (.bin .neq (.s 8) (.s 10)), none, 0⟩,
  ⟨(some 12), .p (.mov (.s 11)), none, 0⟩,
  ⟨(some 13), .p (.fieldAddr 1 none (.s 2)), (some (12, false)), 0⟩,
  ⟨(some 14), .m (.load none (.s 13)), (some (12, false)), 0⟩,
  ⟨(some 15), .p (.len false (.s 14)), (some (12, false)), 40⟩,
  ⟨(some 16), .p (.fieldAddr 1 none (.s 3)), (some (12, false)), 0⟩,
  ⟨(some 17), .m (.load none (.s 16)), (some (12, false)), 0⟩,
  ⟨(some 18), .p (.len false (.s 17)), (some (12, false)), 40⟩,
  ⟨(some 19), .p (.bin .neq (.s 15) (.s 18)), (some (12, false)), 0⟩,
  ⟨(some 20), .p (.pick (.s 12) (.c (.v (.bool true))) (.s 19)), none, 0⟩,
  ⟨(some 21), .p (.mov (.s 20)), none, 0⟩,
  ⟨(some 22), .p (.fieldAddr 2 none (.s 2)), (some (21, false)), 0⟩,
  ⟨(some 23), .m (.load none (.s 22)), (some (21, false)), 0⟩,
  ⟨(some 24), .p (.len false (.s 23)), (some (21, false)), 4⟩,
  ⟨(some 25), .p (.fieldAddr 2 none (.s 3)), (some (21, false)), 0⟩,
  ⟨(some 26), .m (.load none (.s 25)), (some (21, false)), 0⟩,
  ⟨(some 27), .p (.len false (.s 26)), (some (21, false)), 4⟩,
  ⟨(some 28), .p (.bin .neq (.s 24) (.s 27)), (some (21, false)), 0⟩,
  ⟨(some 29), .p (.pick (.s 21) (.c (.v (.bool true))) (.s 28)), none, 0⟩]) c14_0) c14_17)
def c14 : ACode := (.seq (.ops [
  ⟨(some 2), .m (.box (.s 0)), none, 0⟩,
  ⟨(some 3), .m (.box (.s 1)), none, 0⟩,
  ⟨(some 4), .p (.mov (.c (.v (.bool false)))), none, 0⟩]) c14_18)
theorem t14 : trC Tryd.prog Tryd.f14.ntmps (bodyOf Tryd.f14) = some c14 := by kernel_rfl
theorem r14 : Tryd.f14.results.toList.mapM (trR Tryd.prog) = some [.tmp 4] := by kernel_rfl
def i14 : FI := ⟨67, c14, [.tmp 4]⟩
theorem k14 : Knows Tryd.prog 14 i14 := ⟨Tryd.f14, bodyOf Tryd.f14, Tryd.func14, by kernel_rfl, by kernel_rfl, t14, r14, by kernel_rfl⟩
-- 16 drover/dfa.Least []
def c16_0 : List AOper := [
  ⟨(some 12), .p (.un .not (.s 11)), none, 0⟩]
def c16_1 : ACode := (.cond (.s 12) (.seq (.ops [
  ⟨(some 2), .p (.mov (.c (.v (.slice none 0 0)))), none, 0⟩,
  ⟨(some 3), .p (.mov (.c (.v (.bool false)))), none, 0⟩]) .ret) .skip)
def c16_2 : ACode := (.cond (.s 26) .skip (.exit 0))
def c16_3 : ACode := (.cond (.s 36) (.seq (.ops [
  ⟨(some 37), .p (.mov (.s 4)), none, 0⟩,
  ⟨(some 38), .p (.mov (.s 7)), none, 0⟩,
  ⟨(some 39), .p (.adrSl 1 (.s 37) (.s 38)), none, 0⟩,
  ⟨(some 40), .m (.load none (.s 39)), none, 0⟩,
  ⟨(some 2), .p (.mov (.s 40)), none, 0⟩,
  ⟨(some 3), .p (.mov (.c (.v (.bool true)))), none, 0⟩]) .ret) .skip)
def c16_4 : ACode := (.ops [
  ⟨(some 91), .p (.mov (.s 6)), none, 0⟩,
  ⟨(some 92), .p (.mov (.s 9)), none, 0⟩,
  ⟨(some 93), .m (.buildSlice 1 1 [(.v (.int .i64 0))] [(0, 1, (.s 92))]), none, 3⟩,
  ⟨(some 94), .m (.append 1 8 (.s 91) (.s 93)), none, 3⟩,
  ⟨(some 6), .p (.mov (.s 94)), none, 0⟩])
def c16_5 : ACode := (.seq (.draw [
  ⟨(some 79), .p (.mov (.s 4)), none, 0⟩,
  ⟨(some 80), .p (.mov (.s 9)), none, 0⟩,
  ⟨(some 81), .p (.adrSl 1 (.s 79) (.s 80)), none, 0⟩,
  ⟨(some 82), .m (.load none (.s 81)), none, 0⟩,
  ⟨(some 83), .p (.mov (.s 4)), none, 0⟩,
  ⟨(some 84), .p (.mov (.s 7)), none, 0⟩,
  ⟨(some 85), .p (.adrSl 1 (.s 83) (.s 84)), none, 0⟩,
  ⟨(some 86), .m (.load none (.s 85)), none, 0⟩,
  ⟨(some 87), .p (.len false (.s 86)), none, 3⟩,
  ⟨(some 88), .p (.mov (.s 8)), none, 0⟩,
  ⟨(some 89), .p (.bin .add (.s 88) (.c (.v (.int .i64 1)))), none, 0⟩,
  ⟨(some 90), .p (.adrSl 1 (.s 82) (.s 87)), none, 0⟩,
  ⟨none, .m (.store none (.s 90) (.s 89)), none, 0⟩]) c16_4)
def c16_6 : ACode := (.seq (.draw [
  ⟨(some 70), .p (.mov (.s 4)), none, 0⟩,
  ⟨(some 71), .p (.mov (.s 9)), none, 0⟩,
  ⟨(some 72), .p (.adrSl 1 (.s 70) (.s 71)), none, 0⟩,
  ⟨(some 73), .m (.load none (.s 72)), none, 0⟩,
  ⟨(some 74), .p (.mov (.s 4)), none, 0⟩,
  ⟨(some 75), .p (.mov (.s 7)), none, 0⟩,
  ⟨(some 76), .p (.adrSl 1 (.s 74) (.s 75)), none, 0⟩,
  ⟨(some 77), .m (.load none (.s 76)), none, 0⟩,
  ⟨(some 78), .m (.copy 1 (.s 73) (.s 77)), none, 3⟩]) c16_5)
def c16_7 : ACode := (.seq (.ops [
  ⟨(some 60), .p (.mov (.s 4)), none, 0⟩,
  ⟨(some 61), .p (.mov (.s 9)), none, 0⟩,
  ⟨(some 62), .p (.mov (.s 4)), none, 0⟩,
  ⟨(some 63), .p (.mov (.s 7)), none, 0⟩,
  ⟨(some 64), .p (.adrSl 1 (.s 62) (.s 63)), none, 0⟩,
  ⟨(some 65), .m (.load none (.s 64)), none, 0⟩,
  ⟨(some 66), .p (.len false (.s 65)), none, 3⟩,
  ⟨(some 67), .p (.bin .add (.s 66) (.c (.v (.int .i64 1)))), none, 0⟩,
  ⟨(some 68), .m (.mkSlice 1 8 [(.v (.int .i64 0))] (.s 67) (.s 67)), none, 3⟩,
  ⟨(some 69), .p (.adrSl 1 (.s 60) (.s 61)), none, 0⟩,
  ⟨none, .m (.store none (.s 69) (.s 68)), none, 0⟩]) c16_6)
def c16_8 : ACode := (.cond (.s 56) (.seq (.ops [
  ⟨(some 57), .p (.mov (.s 5)), none, 0⟩,
  ⟨(some 58), .p (.mov (.s 9)), none, 0⟩,
  ⟨(some 59), .p (.adrSl 1 (.s 57) (.s 58)), none, 0⟩,
  ⟨none, .m (.store none (.s 59) (.c (.v (.bool true)))), none, 0⟩]) c16_7) .skip)
def c16_9 : ACode := (.seq (.ops [
  ⟨(some 52), .p (.mov (.s 5)), none, 0⟩,
  ⟨(some 53), .p (.mov (.s 9)), none, 0⟩,
  ⟨(some 54), .p (.adrSl 1 (.s 52) (.s 53)), none, 0⟩,
  ⟨(some 55), .m (.load none (.s 54)), none, 0⟩,
  ⟨(some 56), .p (.un .not (.s 55)), none, 0⟩]) c16_8)
def c16_10 : ACode := (.ops [
  ⟨(some 95), .p (.bin .add (.s 47) (.c (.v (.int .i64 1)))), none, 0⟩,
  ⟨(some 47), .p (.mov (.s 95)), none, 0⟩])
def c16_11 : ACode := (.seq (.block 3 (.seq (.ops [
  ⟨(some 49), .p (.mov (.s 47)), none, 0⟩,
  ⟨(some 50), .p (.adrSl 1 (.s 45) (.s 47)), none, 0⟩,
  ⟨(some 51), .m (.load none (.s 50)), none, 0⟩,
  ⟨(some 8), .p (.mov (.s 49)), none, 0⟩,
  ⟨(some 9), .p (.mov (.s 51)), none, 0⟩]) c16_9)) c16_10)
def c16_12 : ACode := (.seq (.cond (.s 48) .skip (.exit 2)) c16_11)
def c16_13 : ACode := (.seq (.ops [
  ⟨(some 48), .p (.bin .lss (.s 47) (.s 46)), none, 0⟩]) c16_12)
def c16_14 : ACode := (.block 2 (.loop c16_13))
def c16_15 : ACode := (.seq (.ops [
  ⟨(some 41), .p (.fieldAddr 1 none (.s 1)), none, 0⟩,
  ⟨(some 42), .m (.load none (.s 41)), none, 0⟩,
  ⟨(some 43), .p (.mov (.s 7)), none, 0⟩,
  ⟨(some 44), .p (.adrSl 1 (.s 42) (.s 43)), none, 0⟩,
  ⟨(some 45), .m (.load none (.s 44)), none, 0⟩,
  ⟨(some 46), .p (.len false (.s 45)), none, 3⟩,
  ⟨(some 47), .p (.mov (.c (.v (.int .i64 0)))), none, 0⟩]) c16_14)
def c16_16 : ACode := (.seq (.seq (.ops [
  ⟨(some 32), .p (.fieldAddr 2 none (.s 1)), none, 0⟩,
  ⟨(some 33), .m (.load none (.s 32)), none, 0⟩,
  ⟨(some 34), .p (.mov (.s 7)), none, 0⟩,
  ⟨(some 35), .p (.adrSl 1 (.s 33) (.s 34)), none, 0⟩,
  ⟨(some 36), .m (.load none (.s 35)), none, 0⟩]) c16_3) c16_15)
def c16_17 : ACode := (.seq (.ops [
  ⟨(some 30), .p (.mov (.s 6)), none, 0⟩,
  ⟨(some 31), .p (.slSl 1 (.s 30) (some (.c (.v (.int .i64 1)))) none none), none, 0⟩,
  ⟨(some 6), .p (.mov (.s 31)), none, 0⟩]) c16_16)
def c16_18 : ACode := (.block 1 (.seq (.ops [
  ⟨(some 27), .p (.mov (.s 6)), none, 0⟩,
  ⟨(some 28), .p (.adrSl 1 (.s 27) (.c (.v (.int .i64 0)))), none, 0⟩,
  ⟨(some 29), .m (.load none (.s 28)), none, 0⟩,
  ⟨(some 7), .p (.mov (.s 29)), none, 0⟩]) c16_17))
def c16_19 : ACode := (.seq (.seq (.ops [
  ⟨(some 24), .p (.mov (.s 6)), none, 0⟩,
  ⟨(some 25), .p (.len false (.s 24)), none, 3⟩,
  ⟨(some 26), .p (.bin .gtr (.s 25) (.c (.v (.int .i64 0)))), none, 0⟩]) c16_2) c16_18)
def c16_20 : ACode := (.seq (.ops [
  ⟨(some 2), .p (.mov (.c (.v (.slice none 0 0)))), none, 0⟩,
  ⟨(some 3), .p (.mov (.c (.v (.bool false)))), none, 0⟩]) .ret)
def c16_21 : ACode := (.seq (.block 0 (.loop c16_19)) c16_20)
def c16_22 : ACode := (.seq (.ops [
  ⟨(some 23), .m (.buildSlice 1 1 [(.v (.int .i64 0))] [(0, 1, (.c (.v (.int .i64 0))))]), none, 3⟩,
  ⟨(some 6), .p (.mov (.s 23)), none, 0⟩]) c16_21)
def c16_23 : ACode := (.seq (.ops [
  ⟨(some 21), .p (.mov (.s 5)), none, 0⟩,
  ⟨(some 22), .p (.adrSl 1 (.s 21) (.c (.v (.int .i64 0)))), none, 0⟩,
  ⟨none, .m (.store none (.s 22) (.c (.v (.bool true)))), none, 0⟩]) c16_22)
def c16_24 : ACode := (.seq (.ops [
  ⟨(some 17), .p (.fieldAddr 1 none (.s 1)), none, 0⟩,
  ⟨(some 18), .m (.load none (.s 17)), none, 0⟩,
  ⟨(some 19), .p (.len false (.s 18)), none, 40⟩,
  ⟨(some 20), .m (.mkSlice 1 1 [(.v (.bool false))] (.s 19) (.s 19)), none, 4⟩,
  ⟨(some 5), .p (.mov (.s 20)), none, 0⟩]) c16_23)
def c16_25 : ACode := (.seq (.ops [
  ⟨(some 13), .p (.fieldAddr 1 none (.s 1)), none, 0⟩,
  ⟨(some 14), .m (.load none (.s 13)), none, 0⟩,
  ⟨(some 15), .p (.len false (.s 14)), none, 40⟩,
  ⟨(some 16), .m (.mkSlice 1 24 [(.v (.slice none 0 0))] (.s 15) (.s 15)), none, 40⟩,
  ⟨(some 4), .p (.mov (.s 16)), none, 0⟩]) c16_24)
def c16_26 : ACode := (.seq (.seq (.ops (⟨(some 10), .m (.load (some 3) (.s 1)), none, 0⟩ ::
  ⟨(some 11), .call (.c (.fn 19 [])) [(.s 10)], none, 0⟩ :: c16_0)) c16_1) c16_25)
def c16 : ACode := (.seq (.ops [
  ⟨(some 1), .m (.box (.s 0)), none, 0⟩,
  ⟨(some 2), .p (.mov (.c (.v (.slice none 0 0)))), none, 0⟩,
  ⟨(some 3), .p (.mov (.c (.v (.bool false)))), none, 0⟩]) c16_26)
theorem t16 : trC Tryd.prog Tryd.f16.ntmps (bodyOf Tryd.f16) = some c16 := by kernel_rfl
theorem r16 : Tryd.f16.results.toList.mapM (trR Tryd.prog) = some [.tmp 2, .tmp 3] := by kernel_rfl
def i16 : FI := ⟨96, c16, [.tmp 2, .tmp 3]⟩
theorem k16 : Knows Tryd.prog 16 i16 := ⟨Tryd.f16, bodyOf Tryd.f16, Tryd.func16, by kernel_rfl, by kernel_rfl, t16, r16, by kernel_rfl⟩
-- 17 drover/droverref19.Least []
def c17_0 : List AOper := [
  ⟨(some 14), .p (.un .not (.s 13)), none, 0⟩]
def c17_1 : ACode := (.cond (.s 14) (.seq (.ops [
  ⟨(some 2), .p (.mov (.c (.v (.slice none 0 0)))), none, 0⟩,
  ⟨(some 3), .p (.mov (.c (.v (.bool false)))), none, 0⟩]) .ret) .skip)
def c17_2 : ACode := (.cond (.s 20) .skip (.exit 0))
def c17_3 : ACode := (.cond (.s 30) (.seq (.ops [
  ⟨(some 31), .p (.mov (.s 4)), none, 0⟩,
  ⟨(some 32), .p (.mov (.s 6)), none, 0⟩,
  ⟨(some 33), .p (.adrSl 1 (.s 31) (.s 32)), none, 0⟩,
  ⟨(some 34), .m (.load none (.s 33)), none, 0⟩,
  ⟨(some 2), .p (.mov (.s 34)), none, 0⟩,
  ⟨(some 3), .p (.mov (.c (.v (.bool true)))), none, 0⟩]) .ret) .skip)
def c17_4 : ACode := (.cond (.s 38) .skip (.exit 2))
def c17_5 : ACode := (.cond (.s 55) .skip (.exit 4))
def c17_6 : ACode := (.ops [
  ⟨(some 56), .p (.mov (.s 10)), none, 0⟩,
  ⟨(some 57), .p (.bin .add (.s 56) (.c (.v (.int .i64 1)))), none, 0⟩,
  ⟨(some 10), .p (.mov (.s 57)), none, 0⟩])
def c17_7 : ACode := (.seq (.block 5 (.ops [
  ⟨(some 58), .p (.mov (.s 9)), none, 0⟩,
  ⟨(some 59), .p (.mov (.s 58)), none, 0⟩,
  ⟨(some 60), .p (.mov (.s 5)), (some (59, false)), 0⟩,
  ⟨(some 61), .p (.mov (.s 10)), (some (59, false)), 0⟩,
  ⟨(some 62), .p (.adrSl 1 (.s 60) (.s 61)), (some (59, false)), 0⟩,
  ⟨(some 63), .m (.load none (.s 62)), (some (59, false)), 0⟩,
  ⟨(some 64), .p (.mov (.s 8)), (some (59, false)), 0⟩,
  ⟨(some 65), .p (.bin .eql (.s 63) (.s 64)), (some (59, false)), 0⟩,
  ⟨(some 66), .p (.pick (.s 59) (.c (.v (.bool true))) (.s 65)), none, 0⟩,
  ⟨(some 9), .p (.mov (.s 66)), none, 0⟩])) c17_6)
def c17_8 : ACode := (.seq (.seq (.ops [
  ⟨(some 52), .p (.mov (.s 10)), none, 0⟩,
  ⟨(some 53), .p (.mov (.s 5)), none, 0⟩,
  ⟨(some 54), .p (.len false (.s 53)), none, 3⟩,
  ⟨(some 55), .p (.bin .lss (.s 52) (.s 54)), none, 0⟩]) c17_5) c17_7)
def c17_9 : ACode := (.block 4 (.loop c17_8))
def c17_10 : ACode := (.ops [
  ⟨(some 83), .p (.mov (.s 5)), none, 0⟩,
  ⟨(some 84), .p (.mov (.s 8)), none, 0⟩,
  ⟨(some 85), .m (.buildSlice 1 1 [(.v (.int .i64 0))] [(0, 1, (.s 84))]), none, 3⟩,
  ⟨(some 86), .m (.append 1 8 (.s 83) (.s 85)), none, 3⟩,
  ⟨(some 5), .p (.mov (.s 86)), none, 0⟩])
def c17_11 : ACode := (.seq (.ops [
  ⟨(some 75), .p (.mov (.s 4)), none, 0⟩,
  ⟨(some 76), .p (.mov (.s 11)), none, 0⟩,
  ⟨(some 77), .p (.mov (.s 7)), none, 0⟩,
  ⟨(some 78), .p (.bin .add (.s 77) (.c (.v (.int .i64 1)))), none, 0⟩,
  ⟨(some 79), .m (.buildSlice 1 1 [(.v (.int .i64 0))] [(0, 1, (.s 78))]), none, 3⟩,
  ⟨(some 80), .m (.append 1 8 (.s 76) (.s 79)), none, 3⟩,
  ⟨(some 81), .m (.buildSlice 1 1 [(.v (.slice none 0 0))] [(0, 1, (.s 80))]), none, 40⟩,
  ⟨(some 82), .m (.append 1 24 (.s 75) (.s 81)), none, 40⟩,
  ⟨(some 4), .p (.mov (.s 82)), none, 0⟩]) c17_10)
def c17_12 : ACode := (.seq (.ops [
  ⟨(some 69), .p (.mov (.s 11)), none, 0⟩,
  ⟨(some 70), .p (.mov (.s 4)), none, 0⟩,
  ⟨(some 71), .p (.mov (.s 6)), none, 0⟩,
  ⟨(some 72), .p (.adrSl 1 (.s 70) (.s 71)), none, 0⟩,
  ⟨(some 73), .m (.load none (.s 72)), none, 0⟩,
  ⟨(some 74), .m (.append 1 8 (.s 69) (.s 73)), none, 3⟩,
  ⟨(some 11), .p (.mov (.s 74)), none, 0⟩]) c17_11)
def c17_13 : ACode := (.cond (.s 68) (.seq (.ops [
  ⟨(some 11), .p (.mov (.c (.v (.slice none 0 0)))), none, 0⟩]) c17_12) .skip)
def c17_14 : ACode := (.seq (.ops [
  ⟨(some 67), .p (.mov (.s 9)), none, 0⟩,
  ⟨(some 68), .p (.un .not (.s 67)), none, 0⟩]) c17_13)
def c17_15 : ACode := (.seq (.seq (.ops [
  ⟨(some 10), .p (.mov (.c (.v (.int .i64 0)))), none, 0⟩]) c17_9) c17_14)
def c17_16 : ACode := (.seq (.ops [
  ⟨(some 9), .p (.mov (.c (.v (.bool false)))), none, 0⟩]) c17_15)
def c17_17 : ACode := (.ops [
  ⟨(some 39), .p (.mov (.s 7)), none, 0⟩,
  ⟨(some 40), .p (.bin .add (.s 39) (.c (.v (.int .i64 1)))), none, 0⟩,
  ⟨(some 7), .p (.mov (.s 40)), none, 0⟩])
def c17_18 : ACode := (.seq (.block 3 (.seq (.draw [
  ⟨(some 41), .p (.fieldAddr 1 none (.s 1)), none, 0⟩,
  ⟨(some 42), .m (.load none (.s 41)), none, 0⟩,
  ⟨(some 43), .p (.mov (.s 5)), none, 0⟩,
  ⟨(some 44), .p (.mov (.s 6)), none, 0⟩,
  ⟨(some 45), .p (.adrSl 1 (.s 43) (.s 44)), none, 0⟩,
  ⟨(some 46), .m (.load none (.s 45)), none, 0⟩,
  ⟨(some 47), .p (.adrSl 1 (.s 42) (.s 46)), none, 0⟩,
  ⟨(some 48), .m (.load none (.s 47)), none, 0⟩,
  ⟨(some 49), .p (.mov (.s 7)), none, 0⟩,
  ⟨(some 50), .p (.adrSl 1 (.s 48) (.s 49)), none, 0⟩,
  ⟨(some 51), .m (.load none (.s 50)), none, 0⟩,
  ⟨(some 8), .p (.mov (.s 51)), none, 0⟩]) c17_16)) c17_17)
def c17_19 : ACode := (.seq (.seq (.ops [
  ⟨(some 35), .p (.mov (.s 7)), none, 0⟩,
  ⟨(some 36), .p (.fieldAddr 0 none (.s 1)), none, 0⟩,
  ⟨(some 37), .m (.load none (.s 36)), none, 0⟩,
  ⟨(some 38), .p (.bin .lss (.s 35) (.s 37)), none, 0⟩]) c17_4) c17_18)
def c17_20 : ACode := (.block 2 (.loop c17_19))
def c17_21 : ACode := (.seq (.ops [
  ⟨(some 7), .p (.mov (.c (.v (.int .i64 0)))), none, 0⟩]) c17_20)
def c17_22 : ACode := (.ops [
  ⟨(some 21), .p (.mov (.s 6)), none, 0⟩,
  ⟨(some 22), .p (.bin .add (.s 21) (.c (.v (.int .i64 1)))), none, 0⟩,
  ⟨(some 6), .p (.mov (.s 22)), none, 0⟩])
def c17_23 : ACode := (.seq (.block 1 (.seq (.seq (.draw [
  ⟨(some 23), .p (.fieldAddr 2 none (.s 1)), none, 0⟩,
  ⟨(some 24), .m (.load none (.s 23)), none, 0⟩,
  ⟨(some 25), .p (.mov (.s 5)), none, 0⟩,
  ⟨(some 26), .p (.mov (.s 6)), none, 0⟩,
  ⟨(some 27), .p (.adrSl 1 (.s 25) (.s 26)), none, 0⟩,
  ⟨(some 28), .m (.load none (.s 27)), none, 0⟩,
  ⟨(some 29), .p (.adrSl 1 (.s 24) (.s 28)), none, 0⟩,
  ⟨(some 30), .m (.load none (.s 29)), none, 0⟩]) c17_3) c17_21)) c17_22)
def c17_24 : ACode := (.seq (.seq (.ops [
  ⟨(some 17), .p (.mov (.s 6)), none, 0⟩,
  ⟨(some 18), .p (.mov (.s 5)), none, 0⟩,
  ⟨(some 19), .p (.len false (.s 18)), none, 3⟩,
  ⟨(some 20), .p (.bin .lss (.s 17) (.s 19)), none, 0⟩]) c17_2) c17_23)
def c17_25 : ACode := (.block 0 (.loop c17_24))
def c17_26 : ACode := (.seq (.ops [
  ⟨(some 2), .p (.mov (.c (.v (.slice none 0 0)))), none, 0⟩,
  ⟨(some 3), .p (.mov (.c (.v (.bool false)))), none, 0⟩]) .ret)
def c17_27 : ACode := (.seq (.seq (.ops [
  ⟨(some 6), .p (.mov (.c (.v (.int .i64 0)))), none, 0⟩]) c17_25) c17_26)
def c17_28 : ACode := (.seq (.ops [
  ⟨(some 16), .m (.buildSlice 1 1 [(.v (.int .i64 0))] [(0, 1, (.c (.v (.int .i64 0))))]), none, 3⟩,
  ⟨(some 5), .p (.mov (.s 16)), none, 0⟩]) c17_27)
def c17_29 : ACode := (.seq (.ops [
  ⟨(some 15), .m (.buildSlice 1 1 [(.v (.slice none 0 0))] [(0, 1, (.c (.v (.slice none 0 0))))]), none, 40⟩,
  ⟨(some 4), .p (.mov (.s 15)), none, 0⟩]) c17_28)
def c17_30 : ACode := (.seq (.seq (.ops (⟨(some 12), .m (.load (some 3) (.s 1)), none, 0⟩ ::
  ⟨(some 13), .call (.c (.fn 20 [])) [(.s 12)], none, 0⟩ :: c17_0)) c17_1) c17_29)
def c17 : ACode := (.seq (.ops [
  ⟨(some 1), .m (.box (.s 0)), none, 0⟩,
  ⟨(some 2), .p (.mov (.c (.v (.slice none 0 0)))), none, 0⟩,
  ⟨(some 3), .p (.mov (.c (.v (.bool false)))), none, 0⟩]) c17_30)
theorem t17 : trC Tryd.prog Tryd.f17.ntmps (bodyOf Tryd.f17) = some c17 := by kernel_rfl
theorem r17 : Tryd.f17.results.toList.mapM (trR Tryd.prog) = some [.tmp 2, .tmp 3] := by kernel_rfl
def i17 : FI := ⟨87, c17, [.tmp 2, .tmp 3]⟩
theorem k17 : Knows Tryd.prog 17 i17 := ⟨Tryd.f17, bodyOf Tryd.f17, Tryd.func17, by kernel_rfl, by kernel_rfl, t17, r17, by kernel_rfl⟩
-- 18 drover/droverref18.Ints []
def c18_0 : ACode := (.cond (.s 10) (.seq (.ops [
  ⟨(some 4), .p (.mov (.c (.v (.bool false)))), none, 0⟩]) .ret) .skip)
def c18_1 : ACode := (.cond (.s 14) .skip (.exit 0))
def c18_2 : ACode := (.cond (.s 25) (.seq (.ops [
  ⟨(some 4), .p (.mov (.c (.v (.bool false)))), none, 0⟩]) .ret) .skip)
def c18_3 : ACode := (.ops [
  ⟨(some 15), .p (.mov (.s 5)), none, 0⟩,
  ⟨(some 16), .p (.bin .add (.s 15) (.c (.v (.int .i64 1)))), none, 0⟩,
  ⟨(some 5), .p (.mov (.s 16)), none, 0⟩])
def c18_4 : ACode := (.seq (.block 1 (.seq (.draw [
  ⟨(some 17), .p (.mov (.s 0)), none, 0⟩,
  ⟨(some 18), .p (.mov (.s 5)), none, 0⟩,
  ⟨(some 19), .p (.adrSl 1 (.s 17) (.s 18)), none, 0⟩,
  ⟨(some 20), .m (.load none (.s 19)), none, 0⟩,
  ⟨(some 21), .p (.mov (.s 1)), none, 0⟩,
  ⟨(some 22), .p (.mov (.s 5)), none, 0⟩,
  ⟨(some 23), .p (.adrSl 1 (.s 21) (.s 22)), none, 0⟩,
  ⟨(some 24), .m (.load none (.s 23)), none, 0⟩,
  ⟨(some 25), .p (.bin .neq (.s 20) (.s 24)), none, 0⟩]) c18_2)) c18_3)
def c18_5 : ACode := (.seq (.seq (.ops [
  ⟨(some 11), .p (.mov (.s 5)), none, 0⟩,
  ⟨(some 12), .p (.mov (.s 0)), none, 0⟩,
  ⟨(some 13), .p (.len false (.s 12)), none, 3⟩,
  ⟨(some 14), .p (.bin .lss (.s 11) (.s 13)), none, 0⟩]) c18_1) c18_4)
def c18_6 : ACode := (.block 0 (.loop c18_5))
def c18_7 : ACode := (.seq (.ops [
  ⟨(some 4), .p (.mov (.c (.v (.bool true)))), none, 0⟩]) .ret)
def c18_8 : ACode := (.seq (.seq (.ops [
  ⟨(some 5), .p (.mov (.c (.v (.int .i64 0)))), none, 0⟩]) c18_6) c18_7)
def c18_9 : ACode := (.seq (.seq (.ops [
  ⟨(some 6), .p (.mov (.s 0)), none, 0⟩,
  ⟨(some 7), .p (.len false (.s 6)), none, 3⟩,
  ⟨(some 8), .p (.mov (.s 1)), none, 0⟩,
  ⟨(some 9), .p (.len false (.s 8)), none, 3⟩,
  ⟨(some 10), .p (.bin .neq (.s 7) (.s 9)), none, 0⟩]) c18_0) c18_8)
def c18 : ACode := (.seq (.ops [
  ⟨(some 4), .p (.mov (.c (.v (.bool false)))), none, 0⟩]) c18_9)
theorem t18 : trC Tryd.prog Tryd.f18.ntmps (bodyOf Tryd.f18) = some c18 := by kernel_rfl
theorem r18 : Tryd.f18.results.toList.mapM (trR Tryd.prog) = some [.tmp 4] := by kernel_rfl
def i18 : FI := ⟨26, c18, [.tmp 4]⟩
theorem k18 : Knows Tryd.prog 18 i18 := ⟨Tryd.f18, bodyOf Tryd.f18, Tryd.func18, by kernel_rfl, by kernel_rfl, t18, r18, by kernel_rfl⟩
-- 19 drover/dfa.Right []
def c19_0 : ACode := (.cond (.s 35) (.seq (.ops [
  ⟨(some 2), .p (.mov (.c (.v (.bool false)))), none, 0⟩]) .ret) .skip)
def c19_1 : ACode := (.cond (.s 47) (.seq (.ops [
  ⟨(some 2), .p (.mov (.c (.v (.bool false)))), none, 0⟩]) .ret) .skip)
def c19_2 : ACode := (.cond (.s 62) (.seq (.ops [
  ⟨(some 2), .p (.mov (.c (.v (.bool false)))), none, 0⟩]) .ret) .skip)
def c19_3 : ACode := (.seq (.ops [
  ⟨(some 54), .p (.mov (.s 6)), none, 0⟩,
  ⟨(some 55), .p (.bin .lss (.s 54) (.c (.v (.int .i64 0)))), none, 0⟩,
  ⟨(some 56), .p (.mov (.s 55)), none, 0⟩,
  ⟨(some 57), .p (.mov (.s 6)), (some (56, false)), 0⟩,
  ⟨(some 58), .p (.fieldAddr 1 none (.s 1)), (some (56, false)), 0⟩,
  ⟨(some 59), .m (.load none (.s 58)), (some (56, false)), 0⟩,
  ⟨(some 60), .p (.len false (.s 59)), (some (56, false)), 40⟩,
  ⟨(some 61), .p (.bin .geq (.s 57) (.s 60)), (some (56, false)), 0⟩,
  ⟨(some 62), .p (.pick (.s 56) (.c (.v (.bool true))) (.s 61)), none, 0⟩]) c19_2)
def c19_4 : ACode := (.ops [
  ⟨(some 63), .p (.bin .add (.s 50) (.c (.v (.int .i64 1)))), none, 0⟩,
  ⟨(some 50), .p (.mov (.s 63)), none, 0⟩])
def c19_5 : ACode := (.seq (.block 3 (.seq (.ops [
  ⟨(some 52), .p (.adrSl 1 (.s 48) (.s 50)), none, 0⟩,
  ⟨(some 53), .m (.load none (.s 52)), none, 0⟩,
  ⟨(some 6), .p (.mov (.s 53)), none, 0⟩]) c19_3)) c19_4)
def c19_6 : ACode := (.seq (.cond (.s 51) .skip (.exit 2)) c19_5)
def c19_7 : ACode := (.seq (.ops [
  ⟨(some 51), .p (.bin .lss (.s 50) (.s 49)), none, 0⟩]) c19_6)
def c19_8 : ACode := (.block 2 (.loop c19_7))
def c19_9 : ACode := (.seq (.ops [
  ⟨(some 48), .p (.mov (.s 4)), none, 0⟩,
  ⟨(some 49), .p (.len false (.s 48)), none, 3⟩,
  ⟨(some 50), .p (.mov (.c (.v (.int .i64 0)))), none, 0⟩]) c19_8)
def c19_10 : ACode := (.seq (.seq (.ops [
  ⟨(some 43), .p (.mov (.s 4)), none, 0⟩,
  ⟨(some 44), .p (.len false (.s 43)), none, 3⟩,
  ⟨(some 45), .p (.fieldAddr 0 none (.s 1)), none, 0⟩,
  ⟨(some 46), .m (.load none (.s 45)), none, 0⟩,
  ⟨(some 47), .p (.bin .neq (.s 44) (.s 46)), none, 0⟩]) c19_1) c19_9)
def c19_11 : ACode := (.ops [
  ⟨(some 64), .p (.bin .add (.s 39) (.c (.v (.int .i64 1)))), none, 0⟩,
  ⟨(some 39), .p (.mov (.s 64)), none, 0⟩])
def c19_12 : ACode := (.seq (.block 1 (.seq (.ops [
  ⟨(some 41), .p (.adrSl 1 (.s 37) (.s 39)), none, 0⟩,
  ⟨(some 42), .m (.load none (.s 41)), none, 0⟩,
  ⟨(some 4), .p (.mov (.s 42)), none, 0⟩]) c19_10)) c19_11)
def c19_13 : ACode := (.seq (.cond (.s 40) .skip (.exit 0)) c19_12)
def c19_14 : ACode := (.seq (.ops [
  ⟨(some 40), .p (.bin .lss (.s 39) (.s 38)), none, 0⟩]) c19_13)
def c19_15 : ACode := (.block 0 (.loop c19_14))
def c19_16 : ACode := (.seq (.ops [
  ⟨(some 2), .p (.mov (.c (.v (.bool true)))), none, 0⟩]) .ret)
def c19_17 : ACode := (.seq (.seq (.ops [
  ⟨(some 36), .p (.fieldAddr 1 none (.s 1)), none, 0⟩,
  ⟨(some 37), .m (.load none (.s 36)), none, 0⟩,
  ⟨(some 38), .p (.len false (.s 37)), none, 40⟩,
  ⟨(some 39), .p (.mov (.c (.v (.int .i64 0)))), none, 0⟩]) c19_15) c19_16)
def c19_18 : ACode := (.seq (.seq (.ops [
  ⟨(some 7), .p (.fieldAddr 0 none (.s 1)), none, 0⟩,
  ⟨(some 8), .m (.load none (.s 7)), none, 0⟩,
  ⟨(some 9), .p (.bin .lss (.s 8) (.c (.v (.int .i64 1)))), none, 0⟩,
  ⟨(some 10), .p (.mov (.s 9)), none, 0⟩,
  ⟨(some 11), .p (.fieldAddr 0 none (.s 1)), (some (10, false)), 0⟩,
  ⟨(some 12), .m (.load none (.s 11)), (some (10, false)), 0⟩,
  ⟨(some 13), .p (.bin .gtr (.s 12) (.c (.v (.int .i64 32)))), (some (10, false)), 0⟩,
  ⟨(some 14), .p (.pick (.s 10) (.c (.v (.bool true))) (.s 13)), none, 0⟩,
  ⟨(some 15), .p (.mov (.s 14)), none, 0⟩,
  ⟨(some 16), .p (.fieldAddr 1 none (.s 1)), (some (15, false)), 0⟩,
  ⟨(some 17), .m (.load none (.s 16)), (some (15, false)), 0⟩,
  ⟨(some 18), .p (.len false (.s 17)), (some (15, false)), 40⟩,
  ⟨(some 19), .p (.bin .lss (.s 18) (.c (.v (.int .i64 1)))), (some (15, false)), 0⟩,
  ⟨(some 20), .p (.pick (.s 15) (.c (.v (.bool true))) (.s 19)), none, 0⟩,
  ⟨(some 21), .p (.mov (.s 20)), none, 0⟩,
  ⟨(some 22), .p (.fieldAddr 1 none (.s 1)), (some (21, false)), 0⟩,
  ⟨(some 23), .m (.load none (.s 22)), (some (21, false)), 0⟩,
  ⟨(some 24), .p (.len false (.s 23)), (some (21, false)), 40⟩,
  ⟨(some 25), .p (.bin .gtr (.s 24) (.c (.v (.int .i64 256)))), (some (21, false)), 0⟩,
  ⟨(some 26), .p (.pick (.s 21) (.c (.v (.bool true))) (.s 25)), none, 0⟩,
  ⟨(some 27), .p (.mov (.s 26)), none, 0⟩,
  ⟨(some 28), .p (.fieldAddr 2 none (.s 1)), (some (27, false)), 0⟩,
  ⟨(some 29), .m (.load none (.s 28)), (some (27, false)), 0⟩,
  ⟨(some 30), .p (.len false (.s 29)), (some (27, false)), 4⟩,
  ⟨(some 31), .p (.fieldAddr 1 none (.s 1)), (some (27, false)), 0⟩,
  ⟨(some 32), .m (.load none (.s 31)), (some (27, false)), 0⟩,
  ⟨(some 33), .p (.len false (.s 32)), (some (27, false)), 40⟩,
  ⟨(some 34), .p (.bin .neq (.s 30) (.s 33)), (some (27, false)), 0⟩,
  ⟨(some 35), .p (.pick (.s 27) (.c (.v (.bool true))) (.s 34)), none, 0⟩]) c19_0) c19_17)
def c19 : ACode := (.seq (.ops [
  ⟨(some 1), .m (.box (.s 0)), none, 0⟩,
  ⟨(some 2), .p (.mov (.c (.v (.bool false)))), none, 0⟩]) c19_18)
theorem t19 : trC Tryd.prog Tryd.f19.ntmps (bodyOf Tryd.f19) = some c19 := by kernel_rfl
theorem r19 : Tryd.f19.results.toList.mapM (trR Tryd.prog) = some [.tmp 2] := by kernel_rfl
def i19 : FI := ⟨65, c19, [.tmp 2]⟩
theorem k19 : Knows Tryd.prog 19 i19 := ⟨Tryd.f19, bodyOf Tryd.f19, Tryd.func19, by kernel_rfl, by kernel_rfl, t19, r19, by kernel_rfl⟩
-- 20 drover/droverref19.Right []
def c20_0 : ACode := (.cond (.s 33) (.seq (.ops [
  ⟨(some 2), .p (.mov (.c (.v (.bool false)))), none, 0⟩]) .ret) .skip)
def c20_1 : ACode := (.cond (.s 38) .skip (.exit 0))
def c20_2 : ACode := (.cond (.s 49) (.seq (.ops [
  ⟨(some 2), .p (.mov (.c (.v (.bool false)))), none, 0⟩]) .ret) .skip)
def c20_3 : ACode := (.cond (.s 57) .skip (.exit 2))
def c20_4 : ACode := (.cond (.s 82) (.seq (.ops [
  ⟨(some 2), .p (.mov (.c (.v (.bool false)))), none, 0⟩]) .ret) .skip)
def c20_5 : ACode := (.ops [
  ⟨(some 58), .p (.mov (.s 4)), none, 0⟩,
  ⟨(some 59), .p (.bin .add (.s 58) (.c (.v (.int .i64 1)))), none, 0⟩,
  ⟨(some 4), .p (.mov (.s 59)), none, 0⟩])
def c20_6 : ACode := (.seq (.block 3 (.seq (.draw [
  ⟨(some 60), .p (.fieldAddr 1 none (.s 1)), none, 0⟩,
  ⟨(some 61), .m (.load none (.s 60)), none, 0⟩,
  ⟨(some 62), .p (.mov (.s 3)), none, 0⟩,
  ⟨(some 63), .p (.adrSl 1 (.s 61) (.s 62)), none, 0⟩,
  ⟨(some 64), .m (.load none (.s 63)), none, 0⟩,
  ⟨(some 65), .p (.mov (.s 4)), none, 0⟩,
  ⟨(some 66), .p (.adrSl 1 (.s 64) (.s 65)), none, 0⟩,
  ⟨(some 67), .m (.load none (.s 66)), none, 0⟩,
  ⟨(some 68), .p (.bin .lss (.s 67) (.c (.v (.int .i64 0)))), none, 0⟩,
  ⟨(some 69), .p (.mov (.s 68)), none, 0⟩,
  ⟨(some 70), .p (.fieldAddr 1 none (.s 1)), (some (69, false)), 0⟩,
  ⟨(some 71), .m (.load none (.s 70)), (some (69, false)), 0⟩,
  ⟨(some 72), .p (.mov (.s 3)), (some (69, false)), 0⟩,
  ⟨(some 73), .p (.adrSl 1 (.s 71) (.s 72)), (some (69, false)), 0⟩,
  ⟨(some 74), .m (.load none (.s 73)), (some (69, false)), 0⟩,
  ⟨(some 75), .p (.mov (.s 4)), (some (69, false)), 0⟩,
  ⟨(some 76), .p (.adrSl 1 (.s 74) (.s 75)), (some (69, false)), 0⟩,
  ⟨(some 77), .m (.load none (.s 76)), (some (69, false)), 0⟩,
  ⟨(some 78), .p (.fieldAddr 1 none (.s 1)), (some (69, false)), 0⟩,
  ⟨(some 79), .m (.load none (.s 78)), (some (69, false)), 0⟩,
  ⟨(some 80), .p (.len false (.s 79)), (some (69, false)), 40⟩,
  ⟨(some 81), .p (.bin .geq (.s 77) (.s 80)), (some (69, false)), 0⟩,
  ⟨(some 82), .p (.pick (.s 69) (.c (.v (.bool true))) (.s 81)), none, 0⟩]) c20_4)) c20_5)
def c20_7 : ACode := (.seq (.seq (.ops [
  ⟨(some 50), .p (.mov (.s 4)), none, 0⟩,
  ⟨(some 51), .p (.fieldAddr 1 none (.s 1)), none, 0⟩,
  ⟨(some 52), .m (.load none (.s 51)), none, 0⟩,
  ⟨(some 53), .p (.mov (.s 3)), none, 0⟩,
  ⟨(some 54), .p (.adrSl 1 (.s 52) (.s 53)), none, 0⟩,
  ⟨(some 55), .m (.load none (.s 54)), none, 0⟩,
  ⟨(some 56), .p (.len false (.s 55)), none, 3⟩,
  ⟨(some 57), .p (.bin .lss (.s 50) (.s 56)), none, 0⟩]) c20_3) c20_6)
def c20_8 : ACode := (.block 2 (.loop c20_7))
def c20_9 : ACode := (.seq (.ops [
  ⟨(some 4), .p (.mov (.c (.v (.int .i64 0)))), none, 0⟩]) c20_8)
def c20_10 : ACode := (.ops [
  ⟨(some 39), .p (.mov (.s 3)), none, 0⟩,
  ⟨(some 40), .p (.bin .add (.s 39) (.c (.v (.int .i64 1)))), none, 0⟩,
  ⟨(some 3), .p (.mov (.s 40)), none, 0⟩])
def c20_11 : ACode := (.seq (.block 1 (.seq (.seq (.draw [
  ⟨(some 41), .p (.fieldAddr 1 none (.s 1)), none, 0⟩,
  ⟨(some 42), .m (.load none (.s 41)), none, 0⟩,
  ⟨(some 43), .p (.mov (.s 3)), none, 0⟩,
  ⟨(some 44), .p (.adrSl 1 (.s 42) (.s 43)), none, 0⟩,
  ⟨(some 45), .m (.load none (.s 44)), none, 0⟩,
  ⟨(some 46), .p (.len false (.s 45)), none, 3⟩,
  ⟨(some 47), .p (.fieldAddr 0 none (.s 1)), none, 0⟩,
  ⟨(some 48), .m (.load none (.s 47)), none, 0⟩,
  ⟨(some 49), .p (.bin .neq (.s 46) (.s 48)), none, 0⟩]) c20_2) c20_9)) c20_10)
def c20_12 : ACode := (.seq (.seq (.ops [
  ⟨(some 34), .p (.mov (.s 3)), none, 0⟩,
  ⟨(some 35), .p (.fieldAddr 1 none (.s 1)), none, 0⟩,
  ⟨(some 36), .m (.load none (.s 35)), none, 0⟩,
  ⟨(some 37), .p (.len false (.s 36)), none, 40⟩,
  ⟨(some 38), .p (.bin .lss (.s 34) (.s 37)), none, 0⟩]) c20_1) c20_11)
def c20_13 : ACode := (.block 0 (.loop c20_12))
def c20_14 : ACode := (.seq (.ops [
  ⟨(some 2), .p (.mov (.c (.v (.bool true)))), none, 0⟩]) .ret)
def c20_15 : ACode := (.seq (.seq (.ops [
  ⟨(some 3), .p (.mov (.c (.v (.int .i64 0)))), none, 0⟩]) c20_13) c20_14)
def c20_16 : ACode := (.seq (.seq (.ops [
  ⟨(some 5), .p (.fieldAddr 0 none (.s 1)), none, 0⟩,
  ⟨(some 6), .m (.load none (.s 5)), none, 0⟩,
  ⟨(some 7), .p (.bin .lss (.s 6) (.c (.v (.int .i64 1)))), none, 0⟩,
  ⟨(some 8), .p (.mov (.s 7)), none, 0⟩,
  ⟨(some 9), .p (.fieldAddr 0 none (.s 1)), (some (8, false)), 0⟩,
  ⟨(some 10), .m (.load none (.s 9)), (some (8, false)), 0⟩,
  ⟨(some 11), .p (.bin .gtr (.s 10) (.c (.v (.int .i64 32)))), (some (8, false)), 0⟩,
  ⟨(some 12), .p (.pick (.s 8) (.c (.v (.bool true))) (.s 11)), none, 0⟩,
  ⟨(some 13), .p (.mov (.s 12)), none, 0⟩,
  ⟨(some 14), .p (.fieldAddr 1 none (.s 1)), (some (13, false)), 0⟩,
  ⟨(some 15), .m (.load none (.s 14)), (some (13, false)), 0⟩,
  ⟨(some 16), .p (.len false (.s 15)), (some (13, false)), 40⟩,
  ⟨(some 17), .p (.bin .lss (.s 16) (.c (.v (.int .i64 1)))), (some (13, false)), 0⟩,
  ⟨(some 18), .p (.pick (.s 13) (.c (.v (.bool true))) (.s 17)), none, 0⟩,
  ⟨(some 19), .p (.mov (.s 18)), none, 0⟩,
  ⟨(some 20), .p (.fieldAddr 1 none (.s 1)), (some (19, false)), 0⟩,
  ⟨(some 21), .m (.load none (.s 20)), (some (19, false)), 0⟩,
  ⟨(some 22), .p (.len false (.s 21)), (some (19, false)), 40⟩,
  ⟨(some 23), .p (.bin .gtr (.s 22) (.c (.v (.int .i64 256)))), (some (19, false)), 0⟩,
  ⟨(some 24), .p (.pick (.s 19) (.c (.v (.bool true))) (.s 23)), none, 0⟩,
  ⟨(some 25), .p (.mov (.s 24)), none, 0⟩,
  ⟨(some 26), .p (.fieldAddr 2 none (.s 1)), (some (25, false)), 0⟩,
  ⟨(some 27), .m (.load none (.s 26)), (some (25, false)), 0⟩,
  ⟨(some 28), .p (.len false (.s 27)), (some (25, false)), 4⟩,
  ⟨(some 29), .p (.fieldAddr 1 none (.s 1)), (some (25, false)), 0⟩,
  ⟨(some 30), .m (.load none (.s 29)), (some (25, false)), 0⟩,
  ⟨(some 31), .p (.len false (.s 30)), (some (25, false)), 40⟩,
  ⟨(some 32), .p (.bin .neq (.s 28) (.s 31)), (some (25, false)), 0⟩,
  ⟨(some 33), .p (.pick (.s 25) (.c (.v (.bool true))) (.s 32)), none, 0⟩]) c20_0) c20_15)
def c20 : ACode := (.seq (.ops [
  ⟨(some 1), .m (.box (.s 0)), none, 0⟩,
  ⟨(some 2), .p (.mov (.c (.v (.bool false)))), none, 0⟩]) c20_16)
theorem t20 : trC Tryd.prog Tryd.f20.ntmps (bodyOf Tryd.f20) = some c20 := by kernel_rfl
theorem r20 : Tryd.f20.results.toList.mapM (trR Tryd.prog) = some [.tmp 2] := by kernel_rfl
def i20 : FI := ⟨83, c20, [.tmp 2]⟩
theorem k20 : Knows Tryd.prog 20 i20 := ⟨Tryd.f20, bodyOf Tryd.f20, Tryd.func20, by kernel_rfl, by kernel_rfl, t20, r20, by kernel_rfl⟩
-- 21 drover/dfa.Next []
def c21_0 : List AOper := [
  ⟨(some 9), .p (.un .not (.s 8)), none, 0⟩,
  ⟨(some 10), .p (.mov (.s 9)), none, 0⟩,
  ⟨(some 11), .p (.mov (.s 1)), (some (10, false)), 0⟩,
  ⟨(some 12), .p (.bin .lss (.s 11) (.c (.v (.int .i64 0)))), (some (10, false)), 0⟩,
  ⟨(some 13), .p (.pick (.s 10) (.c (.v (.bool true))) (.s 12)), none, 0⟩,
  ⟨(some 14), .p (.mov (.s 13)), none, 0⟩,
  ⟨(some 15), .p (.mov (.s 1)), (some (14, false)), 0⟩,
  ⟨(some 16), .p (.fieldAddr 1 none (.s 3)), (some (14, false)), 0⟩,
  ⟨(some 17), .m (.load none (.s 16)), (some (14, false)), 0⟩,
  ⟨(some 18), .p (.len false (.s 17)), (some (14, false)), 40⟩,
  ⟨(some 19), .p (.bin .geq (.s 15) (.s 18)), (some (14, false)), 0⟩,
  ⟨(some 20), .p (.pick (.s 14) (.c (.v (.bool true))) (.s 19)), none, 0⟩,
  ⟨(some 21), .p (.mov (.s 20)), none, 0⟩,
  ⟨(some 22), .p (.mov (.s 2)), (some (21, false)), 0⟩,
  ⟨(some 23), .p (.bin .lss (.s 22) (.c (.v (.int .i64 1)))), (some (21, false)), 0⟩,
  ⟨(some 24), .p (.pick (.s 21) (.c (.v (.bool true))) (.s 23)), none, 0⟩,
  ⟨(some 25), .p (.mov (.s 24)), none, 0⟩,
  ⟨(some 26), .p (.mov (.s 2)), (some (25, false)), 0⟩,
  ⟨(some 27), .p (.fieldAddr 0 none (.s 3)), (some (25, false)), 0⟩,
  ⟨(some 28), .m (.load none (.s 27)), (some (25, false)), 0⟩,
  ⟨(some 29), .p (.bin .gtr (.s 26) (.s 28)), (some (25, false)), 0⟩,
  ⟨(some 30), .p (.pick (.s 25) (.c (.v (.bool true))) (.s 29)), none, 0⟩]
def c21_1 : ACode := (.cond (.s 30) (.seq (.ops [
  ⟨(some 6), .p (.mov (.c (.v (.int .i64 (-1))))), none, 0⟩]) .ret) .skip)
def c21_2 : ACode := (.seq (.ops [
  ⟨(some 31), .p (.fieldAddr 1 none (.s 3)), none, 0⟩,
  ⟨(some 32), .m (.load none (.s 31)), none, 0⟩,
  ⟨(some 33), .p (.mov (.s 1)), none, 0⟩,
  ⟨(some 34), .p (.adrSl 1 (.s 32) (.s 33)), none, 0⟩,
  ⟨(some 35), .m (.load none (.s 34)), none, 0⟩,
  ⟨(some 36), .p (.mov (.s 2)), none, 0⟩,
  ⟨(some 37), .p (.bin .sub (.s 36) (.c (.v (.int .i64 1)))), none, 0⟩,
  ⟨(some 38), .p (.adrSl 1 (.s 35) (.s 37)), none, 0⟩,
  ⟨(some 39), .m (.load none (.s 38)), none, 0⟩,
  ⟨(some 6), .p (.mov (.s 39)), none, 0⟩]) .ret)
def c21_3 : ACode := (.seq (.seq (.ops (⟨(some 7), .m (.load (some 3) (.s 3)), none, 0⟩ ::
  ⟨(some 8), .call (.c (.fn 19 [])) [(.s 7)], none, 0⟩ :: c21_0)) c21_1) c21_2)
def c21 : ACode := (.seq (.ops [
  ⟨(some 3), .m (.box (.s 0)), none, 0⟩,
  ⟨(some 6), .p (.mov (.c (.v (.int .i64 0)))), none, 0⟩]) c21_3)
theorem t21 : trC Tryd.prog Tryd.f21.ntmps (bodyOf Tryd.f21) = some c21 := by kernel_rfl
theorem r21 : Tryd.f21.results.toList.mapM (trR Tryd.prog) = some [.tmp 6] := by kernel_rfl
def i21 : FI := ⟨40, c21, [.tmp 6]⟩
theorem k21 : Knows Tryd.prog 21 i21 := ⟨Tryd.f21, bodyOf Tryd.f21, Tryd.func21, by kernel_rfl, by kernel_rfl, t21, r21, by kernel_rfl⟩
-- 22 drover/droverref19.Next []
def c22_0 : List AOper := [
  ⟨(some 9), .p (.un .not (.s 8)), none, 0⟩,
  ⟨(some 10), .p (.mov (.s 9)), none, 0⟩,
  ⟨(some 11), .p (.mov (.s 1)), (some (10, false)), 0⟩,
  ⟨(some 12), .p (.bin .lss (.s 11) (.c (.v (.int .i64 0)))), (some (10, false)), 0⟩,
  ⟨(some 13), .p (.pick (.s 10) (.c (.v (.bool true))) (.s 12)), none, 0⟩,
  ⟨(some 14), .p (.mov (.s 13)), none, 0⟩,
  ⟨(some 15), .p (.mov (.s 1)), (some (14, false)), 0⟩,
  ⟨(some 16), .p (.fieldAddr 1 none (.s 3)), (some (14, false)), 0⟩,
  ⟨(some 17), .m (.load none (.s 16)), (some (14, false)), 0⟩,
  ⟨(some 18), .p (.len false (.s 17)), (some (14, false)), 40⟩,
  ⟨(some 19), .p (.bin .geq (.s 15) (.s 18)), (some (14, false)), 0⟩,
  ⟨(some 20), .p (.pick (.s 14) (.c (.v (.bool true))) (.s 19)), none, 0⟩,
  ⟨(some 21), .p (.mov (.s 20)), none, 0⟩,
  ⟨(some 22), .p (.mov (.s 2)), (some (21, false)), 0⟩,
  ⟨(some 23), .p (.bin .lss (.s 22) (.c (.v (.int .i64 1)))), (some (21, false)), 0⟩,
  ⟨(some 24), .p (.pick (.s 21) (.c (.v (.bool true))) (.s 23)), none, 0⟩,
  ⟨(some 25), .p (.mov (.s 24)), none, 0⟩,
  ⟨(some 26), .p (.mov (.s 2)), (some (25, false)), 0⟩,
  ⟨(some 27), .p (.fieldAddr 0 none (.s 3)), (some (25, false)), 0⟩,
  ⟨(some 28), .m (.load none (.s 27)), (some (25, false)), 0⟩,
  ⟨(some 29), .p (.bin .gtr (.s 26) (.s 28)), (some (25, false)), 0⟩,
  ⟨(some 30), .p (.pick (.s 25) (.c (.v (.bool true))) (.s 29)), none, 0⟩]
def c22_1 : ACode := (.cond (.s 30) (.seq (.ops [
  ⟨(some 6), .p (.mov (.c (.v (.int .i64 (-1))))), none, 0⟩]) .ret) .skip)
def c22_2 : ACode := (.seq (.ops [
  ⟨(some 31), .p (.fieldAddr 1 none (.s 3)), none, 0⟩,
  ⟨(some 32), .m (.load none (.s 31)), none, 0⟩,
  ⟨(some 33), .p (.mov (.s 1)), none, 0⟩,
  ⟨(some 34), .p (.adrSl 1 (.s 32) (.s 33)), none, 0⟩,
  ⟨(some 35), .m (.load none (.s 34)), none, 0⟩,
  ⟨(some 36), .p (.mov (.s 2)), none, 0⟩,
  ⟨(some 37), .p (.bin .sub (.s 36) (.c (.v (.int .i64 1)))), none, 0⟩,
  ⟨(some 38), .p (.adrSl 1 (.s 35) (.s 37)), none, 0⟩,
  ⟨(some 39), .m (.load none (.s 38)), none, 0⟩,
  ⟨(some 6), .p (.mov (.s 39)), none, 0⟩]) .ret)
def c22_3 : ACode := (.seq (.seq (.ops (⟨(some 7), .m (.load (some 3) (.s 3)), none, 0⟩ ::
  ⟨(some 8), .call (.c (.fn 20 [])) [(.s 7)], none, 0⟩ :: c22_0)) c22_1) c22_2)
def c22 : ACode := (.seq (.ops [
  ⟨(some 3), .m (.box (.s 0)), none, 0⟩,
  ⟨(some 6), .p (.mov (.c (.v (.int .i64 0)))), none, 0⟩]) c22_3)
theorem t22 : trC Tryd.prog Tryd.f22.ntmps (bodyOf Tryd.f22) = some c22 := by kernel_rfl
theorem r22 : Tryd.f22.results.toList.mapM (trR Tryd.prog) = some [.tmp 6] := by kernel_rfl
def i22 : FI := ⟨40, c22, [.tmp 6]⟩
theorem k22 : Knows Tryd.prog 22 i22 := ⟨Tryd.f22, bodyOf Tryd.f22, Tryd.func22, by kernel_rfl, by kernel_rfl, t22, r22, by kernel_rfl⟩
-- 23 drover/dfa.Accept []
def c23_0 : List AOper := [
  ⟨(some 7), .p (.mov (.s 6)), none, 0⟩,
  ⟨(some 8), .p (.mov (.s 1)), (some (7, true)), 0⟩,
  ⟨(some 9), .p (.bin .geq (.s 8) (.c (.v (.int .i64 0)))), (some (7, true)), 0⟩,
  ⟨(some 10), .p (.pick (.s 7) (.s 9) (.c (.v (.bool false)))), none, 0⟩,
  ⟨(some 11), .p (.mov (.s 10)), none, 0⟩,
  ⟨(some 12), .p (.mov (.s 1)), (some (11, true)), 0⟩,
  ⟨(some 13), .p (.fieldAddr 1 none (.s 2)), (some (11, true)), 0⟩,
  ⟨(some 14), .m (.load none (.s 13)), (some (11, true)), 0⟩,
  ⟨(some 15), .p (.len false (.s 14)), (some (11, true)), 40⟩,
  ⟨(some 16), .p (.bin .lss (.s 12) (.s 15)), (some (11, true)), 0⟩,
  ⟨(some 17), .p (.pick (.s 11) (.s 16) (.c (.v (.bool false)))), none, 0⟩,
  ⟨(some 18), .p (.mov (.s 17)), none, 0⟩,
  ⟨(some 19), .p (.fieldAddr 2 none (.s 2)), (some (18, true)), 0⟩,
  ⟨(some 20), .m (.load none (.s 19)), (some (18, true)), 0⟩,
  ⟨(some 21), .p (.mov (.s 1)), (some (18, true)), 0⟩,
  ⟨(some 22), .p (.adrSl 1 (.s 20) (.s 21)), (some (18, true)), 0⟩,
  ⟨(some 23), .m (.load none (.s 22)), (some (18, true)), 0⟩,
  ⟨(some 24), .p (.pick (.s 18) (.s 23) (.c (.v (.bool false)))), none, 0⟩,
  ⟨(some 4), .p (.mov (.s 24)), none, 0⟩]
def c23_1 : ACode := (.seq (.ops (⟨(some 5), .m (.load (some 3) (.s 2)), none, 0⟩ ::
  ⟨(some 6), .call (.c (.fn 19 [])) [(.s 5)], none, 0⟩ :: c23_0)) .ret)
def c23 : ACode := (.seq (.ops [
  ⟨(some 2), .m (.box (.s 0)), none, 0⟩,
  ⟨(some 4), .p (.mov (.c (.v (.bool false)))), none, 0⟩]) c23_1)
theorem t23 : trC Tryd.prog Tryd.f23.ntmps (bodyOf Tryd.f23) = some c23 := by kernel_rfl
theorem r23 : Tryd.f23.results.toList.mapM (trR Tryd.prog) = some [.tmp 4] := by kernel_rfl
def i23 : FI := ⟨25, c23, [.tmp 4]⟩
theorem k23 : Knows Tryd.prog 23 i23 := ⟨Tryd.f23, bodyOf Tryd.f23, Tryd.func23, by kernel_rfl, by kernel_rfl, t23, r23, by kernel_rfl⟩
-- 24 drover/droverref19.Accept []
def c24_0 : List AOper := [
  ⟨(some 7), .p (.mov (.s 6)), none, 0⟩,
  ⟨(some 8), .p (.mov (.s 1)), (some (7, true)), 0⟩,
  ⟨(some 9), .p (.bin .geq (.s 8) (.c (.v (.int .i64 0)))), (some (7, true)), 0⟩,
  ⟨(some 10), .p (.pick (.s 7) (.s 9) (.c (.v (.bool false)))), none, 0⟩,
  ⟨(some 11), .p (.mov (.s 10)), none, 0⟩,
  ⟨(some 12), .p (.mov (.s 1)), (some (11, true)), 0⟩,
  ⟨(some 13), .p (.fieldAddr 1 none (.s 2)), (some (11, true)), 0⟩,
  ⟨(some 14), .m (.load none (.s 13)), (some (11, true)), 0⟩,
  ⟨(some 15), .p (.len false (.s 14)), (some (11, true)), 40⟩,
  ⟨(some 16), .p (.bin .lss (.s 12) (.s 15)), (some (11, true)), 0⟩,
  ⟨(some 17), .p (.pick (.s 11) (.s 16) (.c (.v (.bool false)))), none, 0⟩,
  ⟨(some 18), .p (.mov (.s 17)), none, 0⟩,
  ⟨(some 19), .p (.fieldAddr 2 none (.s 2)), (some (18, true)), 0⟩,
  ⟨(some 20), .m (.load none (.s 19)), (some (18, true)), 0⟩,
  ⟨(some 21), .p (.mov (.s 1)), (some (18, true)), 0⟩,
  ⟨(some 22), .p (.adrSl 1 (.s 20) (.s 21)), (some (18, true)), 0⟩,
  ⟨(some 23), .m (.load none (.s 22)), (some (18, true)), 0⟩,
  ⟨(some 24), .p (.pick (.s 18) (.s 23) (.c (.v (.bool false)))), none, 0⟩,
  ⟨(some 4), .p (.mov (.s 24)), none, 0⟩]
def c24_1 : ACode := (.seq (.ops (⟨(some 5), .m (.load (some 3) (.s 2)), none, 0⟩ ::
  ⟨(some 6), .call (.c (.fn 20 [])) [(.s 5)], none, 0⟩ :: c24_0)) .ret)
def c24 : ACode := (.seq (.ops [
  ⟨(some 2), .m (.box (.s 0)), none, 0⟩,
  ⟨(some 4), .p (.mov (.c (.v (.bool false)))), none, 0⟩]) c24_1)
theorem t24 : trC Tryd.prog Tryd.f24.ntmps (bodyOf Tryd.f24) = some c24 := by kernel_rfl
theorem r24 : Tryd.f24.results.toList.mapM (trR Tryd.prog) = some [.tmp 4] := by kernel_rfl
def i24 : FI := ⟨25, c24, [.tmp 4]⟩
theorem k24 : Knows Tryd.prog 24 i24 := ⟨Tryd.f24, bodyOf Tryd.f24, Tryd.func24, by kernel_rfl, by kernel_rfl, t24, r24, by kernel_rfl⟩
-- 25 drover/dfa.Run []
def c25_0 : List AOper := [
  ⟨(some 10), .p (.un .not (.s 9)), none, 0⟩]
def c25_1 : ACode := (.cond (.s 10) (.seq (.ops [
  ⟨(some 4), .p (.mov (.c (.v (.bool false)))), none, 0⟩]) .ret) .skip)
def c25_2 : ACode := (.cond (.s 24) (.seq (.ops [
  ⟨(some 4), .p (.mov (.c (.v (.bool false)))), none, 0⟩]) .ret) .skip)
def c25_3 : ACode := (.ops [
  ⟨(some 25), .p (.fieldAddr 1 none (.s 2)), none, 0⟩,
  ⟨(some 26), .m (.load none (.s 25)), none, 0⟩,
  ⟨(some 27), .p (.mov (.s 5)), none, 0⟩,
  ⟨(some 28), .p (.adrSl 1 (.s 26) (.s 27)), none, 0⟩,
  ⟨(some 29), .m (.load none (.s 28)), none, 0⟩,
  ⟨(some 30), .p (.mov (.s 7)), none, 0⟩,
  ⟨(some 31), .p (.bin .sub (.s 30) (.c (.v (.int .i64 1)))), none, 0⟩,
  ⟨(some 32), .p (.adrSl 1 (.s 29) (.s 31)), none, 0⟩,
  ⟨(some 33), .m (.load none (.s 32)), none, 0⟩,
  ⟨(some 5), .p (.mov (.s 33)), none, 0⟩])
def c25_4 : ACode := (.seq (.seq (.ops [
  ⟨(some 17), .p (.mov (.s 7)), none, 0⟩,
  ⟨(some 18), .p (.bin .lss (.s 17) (.c (.v (.int .i64 1)))), none, 0⟩,
  ⟨(some 19), .p (.mov (.s 18)), none, 0⟩,
  ⟨(some 20), .p (.mov (.s 7)), (some (19, false)), 0⟩,
  ⟨(some 21), .p (.fieldAddr 0 none (.s 2)), (some (19, false)), 0⟩,
  ⟨(some 22), .m (.load none (.s 21)), (some (19, false)), 0⟩,
  ⟨(some 23), .p (.bin .gtr (.s 20) (.s 22)), (some (19, false)), 0⟩,
  ⟨(some 24), .p (.pick (.s 19) (.c (.v (.bool true))) (.s 23)), none, 0⟩]) c25_2) c25_3)
def c25_5 : ACode := (.ops [
  ⟨(some 34), .p (.bin .add (.s 13) (.c (.v (.int .i64 1)))), none, 0⟩,
  ⟨(some 13), .p (.mov (.s 34)), none, 0⟩])
def c25_6 : ACode := (.seq (.block 1 (.seq (.ops [
  ⟨(some 15), .p (.adrSl 1 (.s 11) (.s 13)), none, 0⟩,
  ⟨(some 16), .m (.load none (.s 15)), none, 0⟩,
  ⟨(some 7), .p (.mov (.s 16)), none, 0⟩]) c25_4)) c25_5)
def c25_7 : ACode := (.seq (.cond (.s 14) .skip (.exit 0)) c25_6)
def c25_8 : ACode := (.seq (.ops [
  ⟨(some 14), .p (.bin .lss (.s 13) (.s 12)), none, 0⟩]) c25_7)
def c25_9 : ACode := (.block 0 (.loop c25_8))
def c25_10 : ACode := (.seq (.ops [
  ⟨(some 35), .p (.fieldAddr 2 none (.s 2)), none, 0⟩,
  ⟨(some 36), .m (.load none (.s 35)), none, 0⟩,
  ⟨(some 37), .p (.mov (.s 5)), none, 0⟩,
  ⟨(some 38), .p (.adrSl 1 (.s 36) (.s 37)), none, 0⟩,
  ⟨(some 39), .m (.load none (.s 38)), none, 0⟩,
  ⟨(some 4), .p (.mov (.s 39)), none, 0⟩]) .ret)
def c25_11 : ACode := (.seq (.seq (.ops [
  ⟨(some 11), .p (.mov (.s 1)), none, 0⟩,
  ⟨(some 12), .p (.len false (.s 11)), none, 3⟩,
  ⟨(some 13), .p (.mov (.c (.v (.int .i64 0)))), none, 0⟩]) c25_9) c25_10)
def c25_12 : ACode := (.seq (.ops [
  ⟨(some 5), .p (.mov (.c (.v (.int .i64 0)))), none, 0⟩]) c25_11)
def c25_13 : ACode := (.seq (.seq (.ops (⟨(some 8), .m (.load (some 3) (.s 2)), none, 0⟩ ::
  ⟨(some 9), .call (.c (.fn 19 [])) [(.s 8)], none, 0⟩ :: c25_0)) c25_1) c25_12)
def c25 : ACode := (.seq (.ops [
  ⟨(some 2), .m (.box (.s 0)), none, 0⟩,
  ⟨(some 4), .p (.mov (.c (.v (.bool false)))), none, 0⟩]) c25_13)
theorem t25 : trC Tryd.prog Tryd.f25.ntmps (bodyOf Tryd.f25) = some c25 := by kernel_rfl
theorem r25 : Tryd.f25.results.toList.mapM (trR Tryd.prog) = some [.tmp 4] := by kernel_rfl
def i25 : FI := ⟨40, c25, [.tmp 4]⟩
theorem k25 : Knows Tryd.prog 25 i25 := ⟨Tryd.f25, bodyOf Tryd.f25, Tryd.func25, by kernel_rfl, by kernel_rfl, t25, r25, by kernel_rfl⟩
-- 26 drover/droverref19.Run []
def c26_0 : ACode := (.cond (.s 14) .skip (.exit 0))
def c26_1 : ACode := (.draw [
  ⟨(some 5), .p (.mov (.s 23)), none, 0⟩])
def c26_2 : ACode := (.seq (.ops [
  ⟨(some 23), .call (.c (.fn 22 [])) [(.s 17), (.s 18), (.s 22)], none, 0⟩]) c26_1)
def c26_3 : ACode := (.ops [
  ⟨(some 15), .p (.mov (.s 6)), none, 0⟩,
  ⟨(some 16), .p (.bin .add (.s 15) (.c (.v (.int .i64 1)))), none, 0⟩,
  ⟨(some 6), .p (.mov (.s 16)), none, 0⟩])
def c26_4 : ACode := (.seq (.block 1 (.seq (.draw [
  ⟨(some 17), .m (.load (some 3) (.s 2)), none, 0⟩,
  ⟨(some 18), .p (.mov (.s 5)), none, 0⟩,
  ⟨(some 19), .p (.mov (.s 1)), none, 0⟩,
  ⟨(some 20), .p (.mov (.s 6)), none, 0⟩,
  ⟨(some 21), .p (.adrSl 1 (.s 19) (.s 20)), none, 0⟩,
  ⟨(some 22), .m (.load none (.s 21)), none, 0⟩]) c26_2)) c26_3)
def c26_5 : ACode := (.seq (.seq (.ops [
  ⟨(some 7), .p (.mov (.s 6)), none, 0⟩,
  ⟨(some 8), .p (.mov (.s 1)), none, 0⟩,
  ⟨(some 9), .p (.len false (.s 8)), none, 3⟩,
  ⟨(some 10), .p (.bin .lss (.s 7) (.s 9)), none, 0⟩,
  ⟨(some 11), .p (.mov (.s 10)), none, 0⟩,
  ⟨(some 12), .p (.mov (.s 5)), (some (11, true)), 0⟩,
  ⟨(some 13), .p (.bin .geq (.s 12) (.c (.v (.int .i64 0)))), (some (11, true)), 0⟩,
  ⟨(some 14), .p (.pick (.s 11) (.s 13) (.c (.v (.bool false)))), none, 0⟩]) c26_0) c26_4)
def c26_6 : ACode := (.block 0 (.loop c26_5))
def c26_7 : List AOper := [
  ⟨(some 4), .p (.mov (.s 26)), none, 0⟩]
def c26_8 : ACode := (.seq (.ops (⟨(some 24), .m (.load (some 3) (.s 2)), none, 0⟩ ::
  ⟨(some 25), .p (.mov (.s 5)), none, 0⟩ ::
  ⟨(some 26), .call (.c (.fn 24 [])) [(.s 24), (.s 25)], none, 0⟩ :: c26_7)) .ret)
def c26_9 : ACode := (.seq (.seq (.ops [
  ⟨(some 6), .p (.mov (.c (.v (.int .i64 0)))), none, 0⟩]) c26_6) c26_8)
def c26_10 : ACode := (.seq (.ops [
  ⟨(some 5), .p (.mov (.c (.v (.int .i64 0)))), none, 0⟩]) c26_9)
def c26 : ACode := (.seq (.ops [
  ⟨(some 2), .m (.box (.s 0)), none, 0⟩,
  ⟨(some 4), .p (.mov (.c (.v (.bool false)))), none, 0⟩]) c26_10)
theorem t26 : trC Tryd.prog Tryd.f26.ntmps (bodyOf Tryd.f26) = some c26 := by kernel_rfl
theorem r26 : Tryd.f26.results.toList.mapM (trR Tryd.prog) = some [.tmp 4] := by kernel_rfl
def i26 : FI := ⟨27, c26, [.tmp 4]⟩
theorem k26 : Knows Tryd.prog 26 i26 := ⟨Tryd.f26, bodyOf Tryd.f26, Tryd.func26, by kernel_rfl, by kernel_rfl, t26, r26, by kernel_rfl⟩
-- 27 drover/droverref19.Small []
def c27_0 : List AOper := [
  ⟨(some 13), .p (.un .not (.s 12)), none, 0⟩]
def c27_1 : ACode := (.cond (.s 13) (.seq (.ops [
  ⟨(some 14), .p (.build [(.v (.int .i64 0)), (.v (.slice none 0 0)), (.v (.slice none 0 0))] []), none, 0⟩,
  ⟨none, .m (.store (some 3) (.s 2) (.s 14)), none, 0⟩]) .ret) .skip)
def c27_2 : List AOper := [
  ⟨(some 3), .p (.mov (.s 16)), none, 0⟩]
def c27_3 : ACode := (.cond (.s 27) .skip (.exit 0))
def c27_4 : ACode := (.cond (.s 33) .skip (.exit 2))
def c27_5 : ACode := (.cond (.s 61) .skip (.exit 4))
def c27_6 : ACode := (.block 5 (.ops [
  ⟨(some 62), .p (.mov (.s 10)), none, 0⟩,
  ⟨(some 63), .p (.bin .add (.s 62) (.c (.v (.int .i64 1)))), none, 0⟩,
  ⟨(some 10), .p (.mov (.s 63)), none, 0⟩]))
def c27_7 : ACode := (.seq (.seq (.ops [
  ⟨(some 50), .p (.mov (.s 10)), none, 0⟩,
  ⟨(some 51), .p (.mov (.s 4)), none, 0⟩,
  ⟨(some 52), .p (.len false (.s 51)), none, 3⟩,
  ⟨(some 53), .p (.bin .lss (.s 50) (.s 52)), none, 0⟩,
  ⟨(some 54), .p (.mov (.s 53)), none, 0⟩,
  ⟨(some 55), .p (.mov (.s 4)), (some (54, true)), 0⟩,
  ⟨(some 56), .p (.mov (.s 10)), (some (54, true)), 0⟩,
  ⟨(some 57), .p (.adrSl 1 (.s 55) (.s 56)), (some (54, true)), 0⟩,
  ⟨(some 58), .m (.load none (.s 57)), (some (54, true)), 0⟩,
  ⟨(some 59), .p (.mov (.s 9)), (some (54, true)), 0⟩,
  ⟨(some 60), .p (.bin .neq (.s 58) (.s 59)), (some (54, true)), 0⟩,
  ⟨(some 61), .p (.pick (.s 54) (.s 60) (.c (.v (.bool false)))), none, 0⟩]) c27_5) c27_6)
def c27_8 : ACode := (.cond (.s 67) (.ops [
  ⟨(some 68), .p (.mov (.s 4)), none, 0⟩,
  ⟨(some 69), .p (.mov (.s 9)), none, 0⟩,
  ⟨(some 70), .m (.buildSlice 1 1 [(.v (.int .i64 0))] [(0, 1, (.s 69))]), none, 3⟩,
  ⟨(some 71), .m (.append 1 8 (.s 68) (.s 70)), none, 3⟩,
  ⟨(some 4), .p (.mov (.s 71)), none, 0⟩]) .skip)
def c27_9 : ACode := (.ops [
  ⟨(some 72), .p (.mov (.s 7)), none, 0⟩,
  ⟨(some 73), .p (.mov (.s 10)), none, 0⟩,
  ⟨(some 74), .m (.buildSlice 1 1 [(.v (.int .i64 0))] [(0, 1, (.s 73))]), none, 3⟩,
  ⟨(some 75), .m (.append 1 8 (.s 72) (.s 74)), none, 3⟩,
  ⟨(some 7), .p (.mov (.s 75)), none, 0⟩])
def c27_10 : ACode := (.seq (.seq (.ops [
  ⟨(some 64), .p (.mov (.s 10)), none, 0⟩,
  ⟨(some 65), .p (.mov (.s 4)), none, 0⟩,
  ⟨(some 66), .p (.len false (.s 65)), none, 3⟩,
  ⟨(some 67), .p (.bin .eql (.s 64) (.s 66)), none, 0⟩]) c27_8) c27_9)
def c27_11 : ACode := (.seq (.block 4 (.loop c27_7)) c27_10)
def c27_12 : ACode := (.seq (.ops [
  ⟨(some 10), .p (.mov (.c (.v (.int .i64 0)))), none, 0⟩]) c27_11)
def c27_13 : ACode := (.ops [
  ⟨(some 34), .p (.mov (.s 8)), none, 0⟩,
  ⟨(some 35), .p (.bin .add (.s 34) (.c (.v (.int .i64 1)))), none, 0⟩,
  ⟨(some 8), .p (.mov (.s 35)), none, 0⟩])
def c27_14 : ACode := (.seq (.block 3 (.seq (.draw [
  ⟨(some 36), .p (.mov (.s 3)), none, 0⟩,
  ⟨(some 37), .p (.fieldAddr 1 none (.s 1)), none, 0⟩,
  ⟨(some 38), .m (.load none (.s 37)), none, 0⟩,
  ⟨(some 39), .p (.mov (.s 4)), none, 0⟩,
  ⟨(some 40), .p (.mov (.s 6)), none, 0⟩,
  ⟨(some 41), .p (.adrSl 1 (.s 39) (.s 40)), none, 0⟩,
  ⟨(some 42), .m (.load none (.s 41)), none, 0⟩,
  ⟨(some 43), .p (.adrSl 1 (.s 38) (.s 42)), none, 0⟩,
  ⟨(some 44), .m (.load none (.s 43)), none, 0⟩,
  ⟨(some 45), .p (.mov (.s 8)), none, 0⟩,
  ⟨(some 46), .p (.adrSl 1 (.s 44) (.s 45)), none, 0⟩,
  ⟨(some 47), .m (.load none (.s 46)), none, 0⟩,
  ⟨(some 48), .p (.adrSl 1 (.s 36) (.s 47)), none, 0⟩,
  ⟨(some 49), .m (.load none (.s 48)), none, 0⟩,
  ⟨(some 9), .p (.mov (.s 49)), none, 0⟩]) c27_12)) c27_13)
def c27_15 : ACode := (.seq (.seq (.ops [
  ⟨(some 30), .p (.mov (.s 8)), none, 0⟩,
  ⟨(some 31), .p (.fieldAddr 0 none (.s 1)), none, 0⟩,
  ⟨(some 32), .m (.load none (.s 31)), none, 0⟩,
  ⟨(some 33), .p (.bin .lss (.s 30) (.s 32)), none, 0⟩]) c27_4) c27_14)
def c27_16 : ACode := (.block 2 (.loop c27_15))
def c27_17 : ACode := (.draw [
  ⟨(some 82), .p (.fieldAddr 2 none (.s 5)), none, 0⟩,
  ⟨(some 83), .m (.load none (.s 82)), none, 0⟩,
  ⟨(some 84), .p (.fieldAddr 2 none (.s 1)), none, 0⟩,
  ⟨(some 85), .m (.load none (.s 84)), none, 0⟩,
  ⟨(some 86), .p (.mov (.s 4)), none, 0⟩,
  ⟨(some 87), .p (.mov (.s 6)), none, 0⟩,
  ⟨(some 88), .p (.adrSl 1 (.s 86) (.s 87)), none, 0⟩,
  ⟨(some 89), .m (.load none (.s 88)), none, 0⟩,
  ⟨(some 90), .p (.adrSl 1 (.s 85) (.s 89)), none, 0⟩,
  ⟨(some 91), .m (.load none (.s 90)), none, 0⟩,
  ⟨(some 92), .m (.buildSlice 1 1 [(.v (.bool false))] [(0, 1, (.s 91))]), none, 4⟩,
  ⟨(some 93), .m (.append 1 1 (.s 83) (.s 92)), none, 4⟩,
  ⟨(some 94), .p (.fieldAddr 2 none (.s 5)), none, 0⟩,
  ⟨none, .m (.store none (.s 94) (.s 93)), none, 0⟩])
def c27_18 : ACode := (.seq (.ops [
  ⟨(some 76), .p (.fieldAddr 1 none (.s 5)), none, 0⟩,
  ⟨(some 77), .m (.load none (.s 76)), none, 0⟩,
  ⟨(some 78), .p (.mov (.s 7)), none, 0⟩,
  ⟨(some 79), .m (.buildSlice 1 1 [(.v (.slice none 0 0))] [(0, 1, (.s 78))]), none, 40⟩,
  ⟨(some 80), .m (.append 1 24 (.s 77) (.s 79)), none, 40⟩,
  ⟨(some 81), .p (.fieldAddr 1 none (.s 5)), none, 0⟩,
  ⟨none, .m (.store none (.s 81) (.s 80)), none, 0⟩]) c27_17)
def c27_19 : ACode := (.seq (.seq (.ops [
  ⟨(some 8), .p (.mov (.c (.v (.int .i64 0)))), none, 0⟩]) c27_16) c27_18)
def c27_20 : ACode := (.ops [
  ⟨(some 28), .p (.mov (.s 6)), none, 0⟩,
  ⟨(some 29), .p (.bin .add (.s 28) (.c (.v (.int .i64 1)))), none, 0⟩,
  ⟨(some 6), .p (.mov (.s 29)), none, 0⟩])
def c27_21 : ACode := (.seq (.block 1 (.seq (.ops [
  ⟨(some 7), .p (.mov (.c (.v (.slice none 0 0)))), none, 0⟩]) c27_19)) c27_20)
def c27_22 : ACode := (.seq (.seq (.ops [
  ⟨(some 24), .p (.mov (.s 6)), none, 0⟩,
  ⟨(some 25), .p (.mov (.s 4)), none, 0⟩,
  ⟨(some 26), .p (.len false (.s 25)), none, 3⟩,
  ⟨(some 27), .p (.bin .lss (.s 24) (.s 26)), none, 0⟩]) c27_3) c27_21)
def c27_23 : ACode := (.block 0 (.loop c27_22))
def c27_24 : ACode := (.seq (.ops [
  ⟨(some 95), .m (.load (some 3) (.s 5)), none, 0⟩,
  ⟨none, .m (.store (some 3) (.s 2) (.s 95)), none, 0⟩]) .ret)
def c27_25 : ACode := (.seq (.seq (.ops [
  ⟨(some 6), .p (.mov (.c (.v (.int .i64 0)))), none, 0⟩]) c27_23) c27_24)
def c27_26 : ACode := (.seq (.ops [
  ⟨(some 21), .p (.fieldAddr 0 none (.s 1)), none, 0⟩,
  ⟨(some 22), .m (.load none (.s 21)), none, 0⟩,
  ⟨(some 23), .p (.build [(.v (.int .i64 0)), (.v (.slice none 0 0)), (.v (.slice none 0 0))] [(0, 1, (.s 22))]), none, 0⟩,
  ⟨(some 5), .m (.alloc [(.v (.int .i64 0)), (.v (.slice none 0 0)), (.v (.slice none 0 0))]), none, 40⟩,
  ⟨none, .m (.store (some 3) (.s 5) (.s 23)), none, 0⟩]) c27_25)
def c27_27 : ACode := (.seq (.ops [
  ⟨(some 17), .p (.mov (.s 3)), none, 0⟩,
  ⟨(some 18), .p (.adrSl 1 (.s 17) (.c (.v (.int .i64 0)))), none, 0⟩,
  ⟨(some 19), .m (.load none (.s 18)), none, 0⟩,
  ⟨(some 20), .m (.buildSlice 1 1 [(.v (.int .i64 0))] [(0, 1, (.s 19))]), none, 3⟩,
  ⟨(some 4), .p (.mov (.s 20)), none, 0⟩]) c27_26)
def c27_28 : ACode := (.seq (.ops (⟨(some 15), .m (.load (some 3) (.s 1)), none, 0⟩ ::
  ⟨(some 16), .call (.c (.fn 53 [])) [(.s 15)], none, 0⟩ :: c27_2)) c27_27)
def c27_29 : ACode := (.seq (.seq (.ops (⟨(some 11), .m (.load (some 3) (.s 1)), none, 0⟩ ::
  ⟨(some 12), .call (.c (.fn 20 [])) [(.s 11)], none, 0⟩ :: c27_0)) c27_1) c27_28)
def c27 : ACode := (.seq (.ops [
  ⟨(some 1), .m (.box (.s 0)), none, 0⟩,
  ⟨(some 2), .m (.alloc [(.v (.int .i64 0)), (.v (.slice none 0 0)), (.v (.slice none 0 0))]), none, 40⟩]) c27_29)
theorem t27 : trC Tryd.prog Tryd.f27.ntmps (bodyOf Tryd.f27) = some c27 := by kernel_rfl
theorem r27 : Tryd.f27.results.toList.mapM (trR Tryd.prog) = some [.cell 2 (some 3)] := by kernel_rfl
def i27 : FI := ⟨96, c27, [.cell 2 (some 3)]⟩
theorem k27 : Knows Tryd.prog 27 i27 := ⟨Tryd.f27, bodyOf Tryd.f27, Tryd.func27, by kernel_rfl, by kernel_rfl, t27, r27, by kernel_rfl⟩
-- 28 drover/dfa.Small []
def c28_0 : List AOper := [
  ⟨(some 15), .p (.un .not (.s 14)), none, 0⟩]
def c28_1 : ACode := (.cond (.s 15) (.seq (.ops [
  ⟨(some 16), .p (.build [(.v (.int .i64 0)), (.v (.slice none 0 0)), (.v (.slice none 0 0))] []), none, 0⟩,
  ⟨none, .m (.store (some 3) (.s 2) (.s 16)), none, 0⟩]) .ret) .skip)
def c28_2 : List AOper := [
  ⟨(some 3), .m (.alloc [(.v (.slice none 0 0))]), none, 0⟩,
  ⟨none, .m (.store none (.s 3) (.s 18)), none, 0⟩]
def c28_3 : ACode := (.ops [
  ⟨(some 27), .m (.load none (.s 4)), none, 0⟩,
  ⟨(some 28), .p (.mov (.s 6)), none, 0⟩,
  ⟨(some 29), .p (.mov (.s 5)), none, 0⟩,
  ⟨none, .m (.ext (.map (.upd [(.int .i64)] false (.s 27) (.s 28) (.s 29)))), none, 0⟩])
def c28_4 : ACode := (.ops [
  ⟨(some 30), .p (.bin .add (.s 22) (.c (.v (.int .i64 1)))), none, 0⟩,
  ⟨(some 22), .p (.mov (.s 30)), none, 0⟩])
def c28_5 : ACode := (.seq (.block 1 (.seq (.ops [
  ⟨(some 24), .p (.mov (.s 22)), none, 0⟩,
  ⟨(some 25), .p (.adrSl 1 (.s 20) (.s 22)), none, 0⟩,
  ⟨(some 26), .m (.load none (.s 25)), none, 0⟩,
  ⟨(some 5), .p (.mov (.s 24)), none, 0⟩,
  ⟨(some 6), .p (.mov (.s 26)), none, 0⟩]) c28_3)) c28_4)
def c28_6 : ACode := (.seq (.cond (.s 23) .skip (.exit 0)) c28_5)
def c28_7 : ACode := (.seq (.ops [
  ⟨(some 23), .p (.bin .lss (.s 22) (.s 21)), none, 0⟩]) c28_6)
def c28_8 : ACode := (.block 0 (.loop c28_7))
def c28_9 : ACode := (.draw [
  ⟨(some 31), .p (.mov (.s 38)), none, 0⟩,
  ⟨(some 39), .p (.extract (.s 31) 0), none, 0⟩,
  ⟨(some 40), .p (.extract (.s 31) 1), none, 0⟩,
  ⟨(some 41), .p (.extract (.s 31) 2), none, 0⟩,
  ⟨(some 7), .p (.mov (.s 39)), none, 0⟩,
  ⟨(some 8), .p (.mov (.s 40)), none, 0⟩,
  ⟨(some 9), .p (.mov (.s 41)), none, 0⟩])
def c28_10 : ACode := (.seq (.ops [
  ⟨(some 38), .call (.c (.fn 55 [])) [(.s 34), (.s 36), (.s 37)], none, 0⟩]) c28_9)
def c28_11 : ACode := (.draw [
  ⟨(some 52), .p (.fieldAddr 2 none (.s 10)), none, 0⟩,
  ⟨(some 53), .m (.load none (.s 52)), none, 0⟩,
  ⟨(some 54), .p (.fieldAddr 2 none (.s 1)), none, 0⟩,
  ⟨(some 55), .m (.load none (.s 54)), none, 0⟩,
  ⟨(some 56), .m (.load none (.s 4)), none, 0⟩,
  ⟨(some 57), .p (.mov (.s 12)), none, 0⟩,
  ⟨(some 58), .m (.ext (.map (.look [(.int .i64)] false false (.v (.int .i64 0)) (.s 56) (.s 57)))), none, 0⟩,
  ⟨(some 59), .p (.adrSl 1 (.s 55) (.s 58)), none, 0⟩,
  ⟨(some 60), .m (.load none (.s 59)), none, 0⟩,
  ⟨(some 61), .m (.buildSlice 1 1 [(.v (.bool false))] [(0, 1, (.s 60))]), none, 4⟩,
  ⟨(some 62), .m (.append 1 1 (.s 53) (.s 61)), none, 4⟩,
  ⟨(some 63), .p (.fieldAddr 2 none (.s 10)), none, 0⟩,
  ⟨none, .m (.store none (.s 63) (.s 62)), none, 0⟩])
def c28_12 : ACode := (.ops [
  ⟨(some 64), .p (.bin .add (.s 48) (.c (.v (.int .i64 1)))), none, 0⟩,
  ⟨(some 48), .p (.mov (.s 64)), none, 0⟩])
def c28_13 : ACode := (.seq (.block 3 (.seq (.ops [
  ⟨(some 50), .p (.adrSl 1 (.s 46) (.s 48)), none, 0⟩,
  ⟨(some 51), .m (.load none (.s 50)), none, 0⟩,
  ⟨(some 12), .p (.mov (.s 51)), none, 0⟩]) c28_11)) c28_12)
def c28_14 : ACode := (.seq (.cond (.s 49) .skip (.exit 2)) c28_13)
def c28_15 : ACode := (.seq (.ops [
  ⟨(some 49), .p (.bin .lss (.s 48) (.s 47)), none, 0⟩]) c28_14)
def c28_16 : ACode := (.block 2 (.loop c28_15))
def c28_17 : ACode := (.seq (.ops [
  ⟨(some 65), .m (.load (some 3) (.s 10)), none, 0⟩,
  ⟨none, .m (.store (some 3) (.s 2) (.s 65)), none, 0⟩]) .ret)
def c28_18 : ACode := (.seq (.seq (.ops [
  ⟨(some 46), .p (.mov (.s 7)), none, 0⟩,
  ⟨(some 47), .p (.len false (.s 46)), none, 3⟩,
  ⟨(some 48), .p (.mov (.c (.v (.int .i64 0)))), none, 0⟩]) c28_16) c28_17)
def c28_19 : ACode := (.seq (.ops [
  ⟨(some 42), .p (.fieldAddr 0 none (.s 1)), none, 0⟩,
  ⟨(some 43), .m (.load none (.s 42)), none, 0⟩,
  ⟨(some 44), .p (.mov (.s 8)), none, 0⟩,
  ⟨(some 45), .p (.build [(.v (.int .i64 0)), (.v (.slice none 0 0)), (.v (.slice none 0 0))] [(0, 1, (.s 43)), (1, 1, (.s 44))]), none, 0⟩,
  ⟨(some 10), .m (.alloc [(.v (.int .i64 0)), (.v (.slice none 0 0)), (.v (.slice none 0 0))]), none, 40⟩,
  ⟨none, .m (.store (some 3) (.s 10) (.s 45)), none, 0⟩]) c28_18)
def c28_20 : ACode := (.seq (.seq (.draw [
  ⟨(some 32), .m (.load none (.s 3)), none, 0⟩,
  ⟨(some 33), .p (.adrSl 1 (.s 32) (.c (.v (.int .i64 0)))), none, 0⟩,
  ⟨(some 34), .m (.load none (.s 33)), none, 0⟩,
  ⟨(some 35), .p (.fieldAddr 0 none (.s 1)), none, 0⟩,
  ⟨(some 36), .m (.load none (.s 35)), none, 0⟩,
  ⟨(some 37), .p (.mkFn 56 [(.s 3), (.s 1), (.s 4)]), none, 0⟩]) c28_10) c28_19)
def c28_21 : ACode := (.seq (.seq (.ops [
  ⟨(some 20), .m (.load none (.s 3)), none, 0⟩,
  ⟨(some 21), .p (.len false (.s 20)), none, 3⟩,
  ⟨(some 22), .p (.mov (.c (.v (.int .i64 0)))), none, 0⟩]) c28_8) c28_20)
def c28_22 : ACode := (.seq (.ops [
  ⟨(some 19), .m (.ext (.map (.mk))), none, 196611⟩,
  ⟨(some 4), .m (.alloc [(.v (.map none))]), none, 0⟩,
  ⟨none, .m (.store none (.s 4) (.s 19)), none, 0⟩]) c28_21)
def c28_23 : ACode := (.seq (.ops (⟨(some 17), .m (.load (some 3) (.s 1)), none, 0⟩ ::
  ⟨(some 18), .call (.c (.fn 54 [])) [(.s 17)], none, 0⟩ :: c28_2)) c28_22)
def c28_24 : ACode := (.seq (.seq (.ops (⟨(some 13), .m (.load (some 3) (.s 1)), none, 0⟩ ::
  ⟨(some 14), .call (.c (.fn 19 [])) [(.s 13)], none, 0⟩ :: c28_0)) c28_1) c28_23)
def c28 : ACode := (.seq (.ops [
  ⟨(some 1), .m (.box (.s 0)), none, 0⟩,
  ⟨(some 2), .m (.alloc [(.v (.int .i64 0)), (.v (.slice none 0 0)), (.v (.slice none 0 0))]), none, 40⟩]) c28_24)
theorem t28 : trC Tryd.prog Tryd.f28.ntmps (bodyOf Tryd.f28) = some c28 := by kernel_rfl
theorem r28 : Tryd.f28.results.toList.mapM (trR Tryd.prog) = some [.cell 2 (some 3)] := by kernel_rfl
def i28 : FI := ⟨66, c28, [.cell 2 (some 3)]⟩
theorem k28 : Knows Tryd.prog 28 i28 := ⟨Tryd.f28, bodyOf Tryd.f28, Tryd.func28, by kernel_rfl, by kernel_rfl, t28, r28, by kernel_rfl⟩
end Go.Proofs.Dfa
