/- A part of a law's proof: DfaX0. -/
import Derived.KernelRfl
import Derived.Test.YthhbggmlfilpdaaDoorProg
import Derived.Test.YthhbggmlfilpdaaDoorSvCod
set_option linter.unusedSimpArgs false
set_option linter.constructorNameAsVariable false
namespace Go.Proofs.Dfa
open Go Go.Ab Go.Proofs
set_option linter.unusedVariables false
def bodyOf (fn : Func) : Code := fn.body.getD .skip
-- 9 drover/droverlaw19.DfaParts []
def c9_0 : List AOper := [
  ⟨(some 19), .p (.mov (.s 22)), none, 0⟩,
  ⟨(some 23), .p (.extract (.s 19) 0), none, 0⟩,
  ⟨(some 24), .p (.extract (.s 19) 1), none, 0⟩,
  ⟨(some 7), .m (.alloc [(.v (.int .i64 0)), (.v (.slice none 0 0)), (.v (.slice none 0 0))]), none, 40⟩,
  ⟨none, .m (.store (some 3) (.s 7) (.s 23)), none, 0⟩,
  ⟨(some 8), .p (.mov (.s 24)), none, 0⟩]
def c9_1 : List AOper := [
  ⟨(some 25), .p (.mov (.s 28)), none, 0⟩,
  ⟨(some 29), .p (.extract (.s 25) 0), none, 0⟩,
  ⟨(some 30), .p (.extract (.s 25) 1), none, 0⟩,
  ⟨(some 9), .m (.alloc [(.v (.int .i64 0)), (.v (.slice none 0 0)), (.v (.slice none 0 0))]), none, 40⟩,
  ⟨none, .m (.store (some 3) (.s 9) (.s 29)), none, 0⟩,
  ⟨(some 10), .p (.mov (.s 30)), none, 0⟩]
def c9_2 : List AOper := [
  ⟨(some 31), .p (.mov (.s 34)), none, 0⟩,
  ⟨(some 35), .p (.extract (.s 31) 0), none, 0⟩,
  ⟨(some 36), .p (.extract (.s 31) 1), none, 0⟩,
  ⟨(some 11), .m (.alloc [(.v (.int .i64 0)), (.v (.slice none 0 0)), (.v (.slice none 0 0))]), none, 40⟩,
  ⟨none, .m (.store (some 3) (.s 11) (.s 35)), none, 0⟩,
  ⟨(some 12), .p (.mov (.s 36)), none, 0⟩]
def c9_3 : ACode := (.cond (.s 44) (.seq (.ops [
  ⟨(some 6), .p (.mov (.c (.v (.bool false)))), none, 0⟩]) .ret) .skip)
def c9_4 : List AOper := [
  ⟨(some 61), .p (.pick (.s 59) (.s 60) (.c (.v (.bool false)))), none, 0⟩,
  ⟨(some 6), .p (.mov (.s 61)), none, 0⟩]
def c9_5 : ACode := (.cond (.s 46) (.seq (.ops (⟨(some 47), .p (.fieldAddr 1 none (.s 7)), none, 0⟩ ::
  ⟨(some 48), .m (.load none (.s 47)), none, 0⟩ ::
  ⟨(some 49), .p (.len false (.s 48)), none, 40⟩ ::
  ⟨(some 50), .p (.fieldAddr 1 none (.s 9)), none, 0⟩ ::
  ⟨(some 51), .m (.load none (.s 50)), none, 0⟩ ::
  ⟨(some 52), .p (.len false (.s 51)), none, 40⟩ ::
  ⟨(some 53), .p (.bin .add (.s 49) (.s 52)), none, 0⟩ ::
  ⟨(some 54), .p (.fieldAddr 1 none (.s 11)), none, 0⟩ ::
  ⟨(some 55), .m (.load none (.s 54)), none, 0⟩ ::
  ⟨(some 56), .p (.len false (.s 55)), none, 40⟩ ::
  ⟨(some 57), .p (.bin .add (.s 53) (.s 56)), none, 0⟩ ::
  ⟨(some 58), .p (.bin .eql (.s 57) (.c (.v (.int .i64 0)))), none, 0⟩ ::
  ⟨(some 59), .p (.mov (.s 58)), none, 0⟩ ::
  ⟨(some 60), .call (.c (.fn 15 [])) [], (some (59, true)), 0⟩ :: c9_4)) .ret) .skip)
def c9_6 : List AOper := [
  ⟨(some 13), .p (.mov (.s 64)), none, 0⟩]
def c9_7 : List AOper := [
  ⟨(some 14), .p (.mov (.s 67)), none, 0⟩]
def c9_8 : List AOper := [
  ⟨(some 80), .p (.mov (.s 13)), (some (76, false)), 0⟩,
  ⟨(some 81), .p (.mov (.s 80)), (some (76, false)), 0⟩,
  ⟨(some 82), .p (.mov (.s 14)), (some (81, true)), 0⟩,
  ⟨(some 83), .p (.un .not (.s 82)), (some (81, true)), 0⟩,
  ⟨(some 84), .p (.pick (.s 81) (.s 83) (.c (.v (.bool false)))), (some (76, false)), 0⟩,
  ⟨(some 85), .p (.eqa true [.bool] false (.s 79) (.s 84)), (some (76, false)), 0⟩,
  ⟨(some 86), .p (.pick (.s 76) (.c (.v (.bool true))) (.s 85)), none, 0⟩]
def c9_9 : List AOper := (⟨(some 71), .p (.mov (.s 13)), none, 0⟩ ::
  ⟨(some 72), .p (.mov (.s 71)), none, 0⟩ ::
  ⟨(some 73), .p (.mov (.s 14)), (some (72, true)), 0⟩ ::
  ⟨(some 74), .p (.pick (.s 72) (.s 73) (.c (.v (.bool false)))), none, 0⟩ ::
  ⟨(some 75), .p (.eqa true [.bool] false (.s 70) (.s 74)), none, 0⟩ ::
  ⟨(some 76), .p (.mov (.s 75)), none, 0⟩ ::
  ⟨(some 77), .m (.load (some 3) (.s 9)), (some (76, false)), 0⟩ ::
  ⟨(some 78), .p (.mov (.s 2)), (some (76, false)), 0⟩ ::
  ⟨(some 79), .call (.c (.fn 25 [])) [(.s 77), (.s 78)], (some (76, false)), 0⟩ :: c9_8)
def c9_10 : ACode := (.cond (.s 86) (.seq (.ops [
  ⟨(some 6), .p (.mov (.c (.v (.bool false)))), none, 0⟩]) .ret) .skip)
def c9_11 : List AOper := [
  ⟨(some 87), .p (.mov (.s 89)), none, 0⟩,
  ⟨(some 90), .p (.extract (.s 87) 0), none, 0⟩,
  ⟨(some 91), .p (.extract (.s 87) 1), none, 0⟩,
  ⟨(some 15), .p (.mov (.s 90)), none, 0⟩,
  ⟨(some 16), .p (.mov (.s 91)), none, 0⟩]
def c9_12 : List AOper := [
  ⟨(some 92), .p (.mov (.s 94)), none, 0⟩,
  ⟨(some 95), .p (.extract (.s 92) 0), none, 0⟩,
  ⟨(some 96), .p (.extract (.s 92) 1), none, 0⟩,
  ⟨(some 17), .p (.mov (.s 95)), none, 0⟩,
  ⟨(some 18), .p (.mov (.s 96)), none, 0⟩]
def c9_13 : List AOper := [
  ⟨(some 120), .p (.pick (.s 116) (.c (.v (.bool true))) (.s 119)), (some (111, true)), 0⟩,
  ⟨(some 121), .p (.pick (.s 111) (.s 120) (.c (.v (.bool false)))), (some (109, false)), 0⟩,
  ⟨(some 122), .p (.pick (.s 109) (.c (.v (.bool true))) (.s 121)), none, 0⟩]
def c9_14 : List AOper := (⟨(some 115), .p (.un .not (.s 114)), (some (111, true)), 0⟩ ::
  ⟨(some 116), .p (.mov (.s 115)), (some (111, true)), 0⟩ ::
  ⟨(some 117), .m (.load (some 3) (.s 3)), (some (116, false)), 0⟩ ::
  ⟨(some 118), .p (.mov (.s 17)), (some (116, false)), 0⟩ ::
  ⟨(some 119), .call (.c (.fn 25 [])) [(.s 117), (.s 118)], (some (116, false)), 0⟩ :: c9_13)
def c9_15 : List AOper := (⟨(some 107), .p (.pick (.s 103) (.c (.v (.bool true))) (.s 106)), (some (98, true)), 0⟩ ::
  ⟨(some 108), .p (.pick (.s 98) (.s 107) (.c (.v (.bool false)))), none, 0⟩ ::
  ⟨(some 109), .p (.mov (.s 108)), none, 0⟩ ::
  ⟨(some 110), .p (.mov (.s 18)), (some (109, false)), 0⟩ ::
  ⟨(some 111), .p (.mov (.s 110)), (some (109, false)), 0⟩ ::
  ⟨(some 112), .m (.load (some 3) (.s 4)), (some (111, true)), 0⟩ ::
  ⟨(some 113), .p (.mov (.s 17)), (some (111, true)), 0⟩ ::
  ⟨(some 114), .call (.c (.fn 25 [])) [(.s 112), (.s 113)], (some (111, true)), 0⟩ :: c9_14)
def c9_16 : List AOper := (⟨(some 102), .p (.un .not (.s 101)), (some (98, true)), 0⟩ ::
  ⟨(some 103), .p (.mov (.s 102)), (some (98, true)), 0⟩ ::
  ⟨(some 104), .m (.load (some 3) (.s 4)), (some (103, false)), 0⟩ ::
  ⟨(some 105), .p (.mov (.s 15)), (some (103, false)), 0⟩ ::
  ⟨(some 106), .call (.c (.fn 25 [])) [(.s 104), (.s 105)], (some (103, false)), 0⟩ :: c9_15)
def c9_17 : ACode := (.cond (.s 122) (.seq (.ops [
  ⟨(some 6), .p (.mov (.c (.v (.bool false)))), none, 0⟩]) .ret) .skip)
def c9_18 : List AOper := [
  ⟨(some 126), .p (.mov (.s 125)), none, 0⟩,
  ⟨(some 127), .p (.mov (.s 16)), (some (126, true)), 0⟩,
  ⟨(some 128), .p (.un .not (.s 127)), (some (126, true)), 0⟩,
  ⟨(some 129), .p (.mov (.s 128)), (some (126, true)), 0⟩,
  ⟨(some 130), .p (.mov (.s 15)), (some (129, false)), 0⟩,
  ⟨(some 131), .p (.len false (.s 130)), (some (129, false)), 3⟩,
  ⟨(some 132), .p (.mov (.s 2)), (some (129, false)), 0⟩,
  ⟨(some 133), .p (.len false (.s 132)), (some (129, false)), 3⟩,
  ⟨(some 134), .p (.bin .gtr (.s 131) (.s 133)), (some (129, false)), 0⟩,
  ⟨(some 135), .p (.pick (.s 129) (.c (.v (.bool true))) (.s 134)), (some (126, true)), 0⟩,
  ⟨(some 136), .p (.pick (.s 126) (.s 135) (.c (.v (.bool false)))), none, 0⟩]
def c9_19 : ACode := (.cond (.s 136) (.seq (.ops [
  ⟨(some 6), .p (.mov (.c (.v (.bool false)))), none, 0⟩]) .ret) .skip)
def c9_20 : List AOper := [
  ⟨(some 149), .p (.pick (.s 147) (.s 148) (.c (.v (.bool false)))), none, 0⟩,
  ⟨(some 6), .p (.mov (.s 149)), none, 0⟩]
def c9_21 : List AOper := (⟨(some 140), .p (.mov (.s 16)), none, 0⟩ ::
  ⟨(some 141), .p (.un .not (.s 140)), none, 0⟩ ::
  ⟨(some 142), .p (.mov (.s 141)), none, 0⟩ ::
  ⟨(some 143), .p (.mov (.s 18)), (some (142, true)), 0⟩ ::
  ⟨(some 144), .p (.un .not (.s 143)), (some (142, true)), 0⟩ ::
  ⟨(some 145), .p (.pick (.s 142) (.s 144) (.c (.v (.bool false)))), none, 0⟩ ::
  ⟨(some 146), .p (.eqa false [.bool] false (.s 139) (.s 145)), none, 0⟩ ::
  ⟨(some 147), .p (.mov (.s 146)), none, 0⟩ ::
  ⟨(some 148), .call (.c (.fn 15 [])) [], (some (147, true)), 0⟩ :: c9_20)
def c9_22 : ACode := (.seq (.ops (⟨(some 137), .m (.load (some 3) (.s 3)), none, 0⟩ ::
  ⟨(some 138), .m (.load (some 3) (.s 4)), none, 0⟩ ::
  ⟨(some 139), .call (.c (.fn 31 [])) [(.s 137), (.s 138)], none, 0⟩ :: c9_21)) .ret)
def c9_23 : ACode := (.seq (.seq (.ops (⟨(some 123), .m (.load (some 3) (.s 9)), none, 0⟩ ::
  ⟨(some 124), .p (.mov (.s 2)), none, 0⟩ ::
  ⟨(some 125), .call (.c (.fn 25 [])) [(.s 123), (.s 124)], none, 0⟩ :: c9_18)) c9_19) c9_22)
def c9_24 : ACode := (.seq (.seq (.ops (⟨(some 97), .p (.mov (.s 16)), none, 0⟩ ::
  ⟨(some 98), .p (.mov (.s 97)), none, 0⟩ ::
  ⟨(some 99), .m (.load (some 3) (.s 3)), (some (98, true)), 0⟩ ::
  ⟨(some 100), .p (.mov (.s 15)), (some (98, true)), 0⟩ ::
  ⟨(some 101), .call (.c (.fn 25 [])) [(.s 99), (.s 100)], (some (98, true)), 0⟩ :: c9_16)) c9_17) c9_23)
def c9_25 : ACode := (.seq (.ops (⟨(some 93), .m (.load (some 3) (.s 11)), none, 0⟩ ::
  ⟨(some 94), .call (.c (.fn 16 [])) [(.s 93)], none, 0⟩ :: c9_12)) c9_24)
def c9_26 : ACode := (.seq (.ops (⟨(some 88), .m (.load (some 3) (.s 9)), none, 0⟩ ::
  ⟨(some 89), .call (.c (.fn 16 [])) [(.s 88)], none, 0⟩ :: c9_11)) c9_25)
def c9_27 : ACode := (.seq (.seq (.ops (⟨(some 68), .m (.load (some 3) (.s 7)), none, 0⟩ ::
  ⟨(some 69), .p (.mov (.s 2)), none, 0⟩ ::
  ⟨(some 70), .call (.c (.fn 25 [])) [(.s 68), (.s 69)], none, 0⟩ :: c9_9)) c9_10) c9_26)
def c9_28 : ACode := (.seq (.ops (⟨(some 65), .m (.load (some 3) (.s 4)), none, 0⟩ ::
  ⟨(some 66), .p (.mov (.s 2)), none, 0⟩ ::
  ⟨(some 67), .call (.c (.fn 25 [])) [(.s 65), (.s 66)], none, 0⟩ :: c9_7)) c9_27)
def c9_29 : ACode := (.seq (.ops (⟨(some 62), .m (.load (some 3) (.s 3)), none, 0⟩ ::
  ⟨(some 63), .p (.mov (.s 2)), none, 0⟩ ::
  ⟨(some 64), .call (.c (.fn 25 [])) [(.s 62), (.s 63)], none, 0⟩ :: c9_6)) c9_28)
def c9_30 : ACode := (.seq (.seq (.ops [
  ⟨(some 45), .p (.mov (.s 8)), none, 0⟩,
  ⟨(some 46), .p (.bin .neq (.s 45) (.c (.v (.int .i64 0)))), none, 0⟩]) c9_5) c9_29)
def c9_31 : ACode := (.seq (.seq (.ops [
  ⟨(some 37), .p (.mov (.s 8)), none, 0⟩,
  ⟨(some 38), .p (.mov (.s 10)), none, 0⟩,
  ⟨(some 39), .p (.bin .neq (.s 37) (.s 38)), none, 0⟩,
  ⟨(some 40), .p (.mov (.s 39)), none, 0⟩,
  ⟨(some 41), .p (.mov (.s 8)), (some (40, false)), 0⟩,
  ⟨(some 42), .p (.mov (.s 12)), (some (40, false)), 0⟩,
  ⟨(some 43), .p (.bin .neq (.s 41) (.s 42)), (some (40, false)), 0⟩,
  ⟨(some 44), .p (.pick (.s 40) (.c (.v (.bool true))) (.s 43)), none, 0⟩]) c9_3) c9_30)
def c9_32 : ACode := (.seq (.ops (⟨(some 32), .m (.load (some 3) (.s 4)), none, 0⟩ ::
  ⟨(some 33), .m (.load (some 3) (.s 3)), none, 0⟩ ::
  ⟨(some 34), .call (.c (.fn 35 [])) [(.s 32), (.s 33)], none, 0⟩ :: c9_2)) c9_31)
def c9_33 : ACode := (.seq (.ops (⟨(some 26), .m (.load (some 3) (.s 3)), none, 0⟩ ::
  ⟨(some 27), .m (.load (some 3) (.s 4)), none, 0⟩ ::
  ⟨(some 28), .call (.c (.fn 35 [])) [(.s 26), (.s 27)], none, 0⟩ :: c9_1)) c9_32)
def c9_34 : ACode := (.seq (.ops (⟨(some 20), .m (.load (some 3) (.s 3)), none, 0⟩ ::
  ⟨(some 21), .m (.load (some 3) (.s 4)), none, 0⟩ ::
  ⟨(some 22), .call (.c (.fn 33 [])) [(.s 20), (.s 21)], none, 0⟩ :: c9_0)) c9_33)
def c9 : ACode := (.seq (.ops [
  ⟨(some 3), .m (.box (.s 0)), none, 0⟩,
  ⟨(some 4), .m (.box (.s 1)), none, 0⟩,
  ⟨(some 6), .p (.mov (.c (.v (.bool false)))), none, 0⟩]) c9_34)
theorem t9 : trC Tryd.prog Tryd.f9.ntmps (bodyOf Tryd.f9) = some c9 := by kernel_rfl
theorem r9 : Tryd.f9.results.toList.mapM (trR Tryd.prog) = some [.tmp 6] := by kernel_rfl
def i9 : FI := ⟨150, c9, [.tmp 6]⟩
theorem k9 : Knows Tryd.prog 9 i9 := ⟨Tryd.f9, bodyOf Tryd.f9, Tryd.func9, by kernel_rfl, by kernel_rfl, t9, r9, by kernel_rfl⟩
-- 16 drover/dfa.Least []
def c16_0 : List AOper := [
  ⟨(some 12), .p (.un .not (.s 11)), none, 0⟩]
def c16_1 : ACode := (.cond (.s 12) (.seq (.ops [
  ⟨(some 2), .p (.mov (.c (.v (.slice none 0 0)))), none, 0⟩,
  ⟨(some 3), .p (.mov (.c (.v (.bool false)))), none, 0⟩]) .ret) .skip)
def c16_2 : ACode := (.cond (.s 26) .skip (.exit 0))
def c16_3 : ACode := (.cond (.s 36) (.seq (.ops [
  ⟨(some 37), .p (.mov (.s 4)), none, 0⟩,
  ⟨(some 38), .p (.mov (.s 7)), none, 0⟩,
  ⟨(some 39), .p (.adrSl 1 (.s 37) (.s 38)), none, 0⟩,
  ⟨(some 40), .m (.load none (.s 39)), none, 0⟩,
  ⟨(some 2), .p (.mov (.s 40)), none, 0⟩,
  ⟨(some 3), .p (.mov (.c (.v (.bool true)))), none, 0⟩]) .ret) .skip)
def c16_4 : ACode := (.ops [
  ⟨(some 91), .p (.mov (.s 6)), none, 0⟩,
  ⟨(some 92), .p (.mov (.s 9)), none, 0⟩,
  ⟨(some 93), .m (.buildSlice 1 1 [(.v (.int .i64 0))] [(0, 1, (.s 92))]), none, 3⟩,
  ⟨(some 94), .m (.append 1 8 (.s 91) (.s 93)), none, 3⟩,
  ⟨(some 6), .p (.mov (.s 94)), none, 0⟩])
def c16_5 : ACode := (.seq (.draw [
  ⟨(some 79), .p (.mov (.s 4)), none, 0⟩,
  ⟨(some 80), .p (.mov (.s 9)), none, 0⟩,
  ⟨(some 81), .p (.adrSl 1 (.s 79) (.s 80)), none, 0⟩,
  ⟨(some 82), .m (.load none (.s 81)), none, 0⟩,
  ⟨(some 83), .p (.mov (.s 4)), none, 0⟩,
  ⟨(some 84), .p (.mov (.s 7)), none, 0⟩,
  ⟨(some 85), .p (.adrSl 1 (.s 83) (.s 84)), none, 0⟩,
  ⟨(some 86), .m (.load none (.s 85)), none, 0⟩,
  ⟨(some 87), .p (.len false (.s 86)), none, 3⟩,
  ⟨(some 88), .p (.mov (.s 8)), none, 0⟩,
  ⟨(some 89), .p (.bin .add (.s 88) (.c (.v (.int .i64 1)))), none, 0⟩,
  ⟨(some 90), .p (.adrSl 1 (.s 82) (.s 87)), none, 0⟩,
  ⟨none, .m (.store none (.s 90) (.s 89)), none, 0⟩]) c16_4)
def c16_6 : ACode := (.seq (.draw [
  ⟨(some 70), .p (.mov (.s 4)), none, 0⟩,
  ⟨(some 71), .p (.mov (.s 9)), none, 0⟩,
  ⟨(some 72), .p (.adrSl 1 (.s 70) (.s 71)), none, 0⟩,
  ⟨(some 73), .m (.load none (.s 72)), none, 0⟩,
  ⟨(some 74), .p (.mov (.s 4)), none, 0⟩,
  ⟨(some 75), .p (.mov (.s 7)), none, 0⟩,
  ⟨(some 76), .p (.adrSl 1 (.s 74) (.s 75)), none, 0⟩,
  ⟨(some 77), .m (.load none (.s 76)), none, 0⟩,
  ⟨(some 78), .m (.copy 1 (.s 73) (.s 77)), none, 3⟩]) c16_5)
def c16_7 : ACode := (.seq (.ops [
  ⟨(some 60), .p (.mov (.s 4)), none, 0⟩,
  ⟨(some 61), .p (.mov (.s 9)), none, 0⟩,
  ⟨(some 62), .p (.mov (.s 4)), none, 0⟩,
  ⟨(some 63), .p (.mov (.s 7)), none, 0⟩,
  ⟨(some 64), .p (.adrSl 1 (.s 62) (.s 63)), none, 0⟩,
  ⟨(some 65), .m (.load none (.s 64)), none, 0⟩,
  ⟨(some 66), .p (.len false (.s 65)), none, 3⟩,
  ⟨(some 67), .p (.bin .add (.s 66) (.c (.v (.int .i64 1)))), none, 0⟩,
  ⟨(some 68), .m (.mkSlice 1 8 [(.v (.int .i64 0))] (.s 67) (.s 67)), none, 3⟩,
  ⟨(some 69), .p (.adrSl 1 (.s 60) (.s 61)), none, 0⟩,
  ⟨none, .m (.store none (.s 69) (.s 68)), none, 0⟩]) c16_6)
def c16_8 : ACode := (.cond (.s 56) (.seq (.ops [
  ⟨(some 57), .p (.mov (.s 5)), none, 0⟩,
  ⟨(some 58), .p (.mov (.s 9)), none, 0⟩,
  ⟨(some 59), .p (.adrSl 1 (.s 57) (.s 58)), none, 0⟩,
  ⟨none, .m (.store none (.s 59) (.c (.v (.bool true)))), none, 0⟩]) c16_7) .skip)
def c16_9 : ACode := (.seq (.ops [
  ⟨(some 52), .p (.mov (.s 5)), none, 0⟩,
  ⟨(some 53), .p (.mov (.s 9)), none, 0⟩,
  ⟨(some 54), .p (.adrSl 1 (.s 52) (.s 53)), none, 0⟩,
  ⟨(some 55), .m (.load none (.s 54)), none, 0⟩,
  ⟨(some 56), .p (.un .not (.s 55)), none, 0⟩]) c16_8)
def c16_10 : ACode := (.ops [
  ⟨(some 95), .p (.bin .add (.s 47) (.c (.v (.int .i64 1)))), none, 0⟩,
  ⟨(some 47), .p (.mov (.s 95)), none, 0⟩])
def c16_11 : ACode := (.seq (.block 3 (.seq (.ops [
  ⟨(some 49), .p (.mov (.s 47)), none, 0⟩,
  ⟨(some 50), .p (.adrSl 1 (.s 45) (.s 47)), none, 0⟩,
  ⟨(some 51), .m (.load none (.s 50)), none, 0⟩,
  ⟨(some 8), .p (.mov (.s 49)), none, 0⟩,
  ⟨(some 9), .p (.mov (.s 51)), none, 0⟩]) c16_9)) c16_10)
def c16_12 : ACode := (.seq (.cond (.s 48) .skip (.exit 2)) c16_11)
def c16_13 : ACode := (.seq (.ops [
  ⟨(some 48), .p (.bin .lss (.s 47) (.s 46)), none, 0⟩]) c16_12)
def c16_14 : ACode := (.block 2 (.loop c16_13))
def c16_15 : ACode := (.seq (.ops [
  ⟨(some 41), .p (.fieldAddr 1 none (.s 1)), none, 0⟩,
  ⟨(some 42), .m (.load none (.s 41)), none, 0⟩,
  ⟨(some 43), .p (.mov (.s 7)), none, 0⟩,
  ⟨(some 44), .p (.adrSl 1 (.s 42) (.s 43)), none, 0⟩,
  ⟨(some 45), .m (.load none (.s 44)), none, 0⟩,
  ⟨(some 46), .p (.len false (.s 45)), none, 3⟩,
  ⟨(some 47), .p (.mov (.c (.v (.int .i64 0)))), none, 0⟩]) c16_14)
def c16_16 : ACode := (.seq (.seq (.ops [
  ⟨(some 32), .p (.fieldAddr 2 none (.s 1)), none, 0⟩,
  ⟨(some 33), .m (.load none (.s 32)), none, 0⟩,
  ⟨(some 34), .p (.mov (.s 7)), none, 0⟩,
  ⟨(some 35), .p (.adrSl 1 (.s 33) (.s 34)), none, 0⟩,
  ⟨(some 36), .m (.load none (.s 35)), none, 0⟩]) c16_3) c16_15)
def c16_17 : ACode := (.seq (.ops [
  ⟨(some 30), .p (.mov (.s 6)), none, 0⟩,
  ⟨(some 31), .p (.slSl 1 (.s 30) (some (.c (.v (.int .i64 1)))) none none), none, 0⟩,
  ⟨(some 6), .p (.mov (.s 31)), none, 0⟩]) c16_16)
def c16_18 : ACode := (.block 1 (.seq (.ops [
  ⟨(some 27), .p (.mov (.s 6)), none, 0⟩,
  ⟨(some 28), .p (.adrSl 1 (.s 27) (.c (.v (.int .i64 0)))), none, 0⟩,
  ⟨(some 29), .m (.load none (.s 28)), none, 0⟩,
  ⟨(some 7), .p (.mov (.s 29)), none, 0⟩]) c16_17))
def c16_19 : ACode := (.seq (.seq (.ops [
  ⟨(some 24), .p (.mov (.s 6)), none, 0⟩,
  ⟨(some 25), .p (.len false (.s 24)), none, 3⟩,
  ⟨(some 26), .p (.bin .gtr (.s 25) (.c (.v (.int .i64 0)))), none, 0⟩]) c16_2) c16_18)
def c16_20 : ACode := (.seq (.ops [
  ⟨(some 2), .p (.mov (.c (.v (.slice none 0 0)))), none, 0⟩,
  ⟨(some 3), .p (.mov (.c (.v (.bool false)))), none, 0⟩]) .ret)
def c16_21 : ACode := (.seq (.block 0 (.loop c16_19)) c16_20)
def c16_22 : ACode := (.seq (.ops [
  ⟨(some 23), .m (.buildSlice 1 1 [(.v (.int .i64 0))] [(0, 1, (.c (.v (.int .i64 0))))]), none, 3⟩,
  ⟨(some 6), .p (.mov (.s 23)), none, 0⟩]) c16_21)
def c16_23 : ACode := (.seq (.ops [
  ⟨(some 21), .p (.mov (.s 5)), none, 0⟩,
  ⟨(some 22), .p (.adrSl 1 (.s 21) (.c (.v (.int .i64 0)))), none, 0⟩,
  ⟨none, .m (.store none (.s 22) (.c (.v (.bool true)))), none, 0⟩]) c16_22)
def c16_24 : ACode := (.seq (.ops [
  ⟨(some 17), .p (.fieldAddr 1 none (.s 1)), none, 0⟩,
  ⟨(some 18), .m (.load none (.s 17)), none, 0⟩,
  ⟨(some 19), .p (.len false (.s 18)), none, 40⟩,
  ⟨(some 20), .m (.mkSlice 1 1 [(.v (.bool false))] (.s 19) (.s 19)), none, 4⟩,
  ⟨(some 5), .p (.mov (.s 20)), none, 0⟩]) c16_23)
def c16_25 : ACode := (.seq (.ops [
  ⟨(some 13), .p (.fieldAddr 1 none (.s 1)), none, 0⟩,
  ⟨(some 14), .m (.load none (.s 13)), none, 0⟩,
  ⟨(some 15), .p (.len false (.s 14)), none, 40⟩,
  ⟨(some 16), .m (.mkSlice 1 24 [(.v (.slice none 0 0))] (.s 15) (.s 15)), none, 40⟩,
  ⟨(some 4), .p (.mov (.s 16)), none, 0⟩]) c16_24)
def c16_26 : ACode := (.seq (.seq (.ops (⟨(some 10), .m (.load (some 3) (.s 1)), none, 0⟩ ::
  ⟨(some 11), .call (.c (.fn 19 [])) [(.s 10)], none, 0⟩ :: c16_0)) c16_1) c16_25)
def c16 : ACode := (.seq (.ops [
  ⟨(some 1), .m (.box (.s 0)), none, 0⟩,
  ⟨(some 2), .p (.mov (.c (.v (.slice none 0 0)))), none, 0⟩,
  ⟨(some 3), .p (.mov (.c (.v (.bool false)))), none, 0⟩]) c16_26)
theorem t16 : trC Tryd.prog Tryd.f16.ntmps (bodyOf Tryd.f16) = some c16 := by kernel_rfl
theorem r16 : Tryd.f16.results.toList.mapM (trR Tryd.prog) = some [.tmp 2, .tmp 3] := by kernel_rfl
def i16 : FI := ⟨96, c16, [.tmp 2, .tmp 3]⟩
theorem k16 : Knows Tryd.prog 16 i16 := ⟨Tryd.f16, bodyOf Tryd.f16, Tryd.func16, by kernel_rfl, by kernel_rfl, t16, r16, by kernel_rfl⟩
-- 19 drover/dfa.Right []
def c19_0 : ACode := (.cond (.s 35) (.seq (.ops [
  ⟨(some 2), .p (.mov (.c (.v (.bool false)))), none, 0⟩]) .ret) .skip)
def c19_1 : ACode := (.cond (.s 47) (.seq (.ops [
  ⟨(some 2), .p (.mov (.c (.v (.bool false)))), none, 0⟩]) .ret) .skip)
def c19_2 : ACode := (.cond (.s 62) (.seq (.ops [
  ⟨(some 2), .p (.mov (.c (.v (.bool false)))), none, 0⟩]) .ret) .skip)
def c19_3 : ACode := (.seq (.ops [
  ⟨(some 54), .p (.mov (.s 6)), none, 0⟩,
  ⟨(some 55), .p (.bin .lss (.s 54) (.c (.v (.int .i64 0)))), none, 0⟩,
  ⟨(some 56), .p (.mov (.s 55)), none, 0⟩,
  ⟨(some 57), .p (.mov (.s 6)), (some (56, false)), 0⟩,
  ⟨(some 58), .p (.fieldAddr 1 none (.s 1)), (some (56, false)), 0⟩,
  ⟨(some 59), .m (.load none (.s 58)), (some (56, false)), 0⟩,
  ⟨(some 60), .p (.len false (.s 59)), (some (56, false)), 40⟩,
  ⟨(some 61), .p (.bin .geq (.s 57) (.s 60)), (some (56, false)), 0⟩,
  ⟨(some 62), .p (.pick (.s 56) (.c (.v (.bool true))) (.s 61)), none, 0⟩]) c19_2)
def c19_4 : ACode := (.ops [
  ⟨(some 63), .p (.bin .add (.s 50) (.c (.v (.int .i64 1)))), none, 0⟩,
  ⟨(some 50), .p (.mov (.s 63)), none, 0⟩])
def c19_5 : ACode := (.seq (.block 3 (.seq (.ops [
  ⟨(some 52), .p (.adrSl 1 (.s 48) (.s 50)), none, 0⟩,
  ⟨(some 53), .m (.load none (.s 52)), none, 0⟩,
  ⟨(some 6), .p (.mov (.s 53)), none, 0⟩]) c19_3)) c19_4)
def c19_6 : ACode := (.seq (.cond (.s 51) .skip (.exit 2)) c19_5)
def c19_7 : ACode := (.seq (.ops [
  ⟨(some 51), .p (.bin .lss (.s 50) (.s 49)), none, 0⟩]) c19_6)
def c19_8 : ACode := (.block 2 (.loop c19_7))
def c19_9 : ACode := (.seq (.ops [
  ⟨(some 48), .p (.mov (.s 4)), none, 0⟩,
  ⟨(some 49), .p (.len false (.s 48)), none, 3⟩,
  ⟨(some 50), .p (.mov (.c (.v (.int .i64 0)))), none, 0⟩]) c19_8)
def c19_10 : ACode := (.seq (.seq (.ops [
  ⟨(some 43), .p (.mov (.s 4)), none, 0⟩,
  ⟨(some 44), .p (.len false (.s 43)), none, 3⟩,
  ⟨(some 45), .p (.fieldAddr 0 none (.s 1)), none, 0⟩,
  ⟨(some 46), .m (.load none (.s 45)), none, 0⟩,
  ⟨(some 47), .p (.bin .neq (.s 44) (.s 46)), none, 0⟩]) c19_1) c19_9)
def c19_11 : ACode := (.ops [
  ⟨(some 64), .p (.bin .add (.s 39) (.c (.v (.int .i64 1)))), none, 0⟩,
  ⟨(some 39), .p (.mov (.s 64)), none, 0⟩])
def c19_12 : ACode := (.seq (.block 1 (.seq (.ops [
  ⟨(some 41), .p (.adrSl 1 (.s 37) (.s 39)), none, 0⟩,
  ⟨(some 42), .m (.load none (.s 41)), none, 0⟩,
  ⟨(some 4), .p (.mov (.s 42)), none, 0⟩]) c19_10)) c19_11)
def c19_13 : ACode := (.seq (.cond (.s 40) .skip (.exit 0)) c19_12)
def c19_14 : ACode := (.seq (.ops [
  ⟨(some 40), .p (.bin .lss (.s 39) (.s 38)), none, 0⟩]) c19_13)
def c19_15 : ACode := (.block 0 (.loop c19_14))
def c19_16 : ACode := (.seq (.ops [
  ⟨(some 2), .p (.mov (.c (.v (.bool true)))), none, 0⟩]) .ret)
def c19_17 : ACode := (.seq (.seq (.ops [
  ⟨(some 36), .p (.fieldAddr 1 none (.s 1)), none, 0⟩,
  ⟨(some 37), .m (.load none (.s 36)), none, 0⟩,
  ⟨(some 38), .p (.len false (.s 37)), none, 40⟩,
  ⟨(some 39), .p (.mov (.c (.v (.int .i64 0)))), none, 0⟩]) c19_15) c19_16)
def c19_18 : ACode := (.seq (.seq (.ops [
  ⟨(some 7), .p (.fieldAddr 0 none (.s 1)), none, 0⟩,
  ⟨(some 8), .m (.load none (.s 7)), none, 0⟩,
  ⟨(some 9), .p (.bin .lss (.s 8) (.c (.v (.int .i64 1)))), none, 0⟩,
  ⟨(some 10), .p (.mov (.s 9)), none, 0⟩,
  ⟨(some 11), .p (.fieldAddr 0 none (.s 1)), (some (10, false)), 0⟩,
  ⟨(some 12), .m (.load none (.s 11)), (some (10, false)), 0⟩,
  ⟨(some 13), .p (.bin .gtr (.s 12) (.c (.v (.int .i64 32)))), (some (10, false)), 0⟩,
  ⟨(some 14), .p (.pick (.s 10) (.c (.v (.bool true))) (.s 13)), none, 0⟩,
  ⟨(some 15), .p (.mov (.s 14)), none, 0⟩,
  ⟨(some 16), .p (.fieldAddr 1 none (.s 1)), (some (15, false)), 0⟩,
  ⟨(some 17), .m (.load none (.s 16)), (some (15, false)), 0⟩,
  ⟨(some 18), .p (.len false (.s 17)), (some (15, false)), 40⟩,
  ⟨(some 19), .p (.bin .lss (.s 18) (.c (.v (.int .i64 1)))), (some (15, false)), 0⟩,
  ⟨(some 20), .p (.pick (.s 15) (.c (.v (.bool true))) (.s 19)), none, 0⟩,
  ⟨(some 21), .p (.mov (.s 20)), none, 0⟩,
  ⟨(some 22), .p (.fieldAddr 1 none (.s 1)), (some (21, false)), 0⟩,
  ⟨(some 23), .m (.load none (.s 22)), (some (21, false)), 0⟩,
  ⟨(some 24), .p (.len false (.s 23)), (some (21, false)), 40⟩,
  ⟨(some 25), .p (.bin .gtr (.s 24) (.c (.v (.int .i64 256)))), (some (21, false)), 0⟩,
  ⟨(some 26), .p (.pick (.s 21) (.c (.v (.bool true))) (.s 25)), none, 0⟩,
  ⟨(some 27), .p (.mov (.s 26)), none, 0⟩,
  ⟨(some 28), .p (.fieldAddr 2 none (.s 1)), (some (27, false)), 0⟩,
  ⟨(some 29), .m (.load none (.s 28)), (some (27, false)), 0⟩,
  ⟨(some 30), .p (.len false (.s 29)), (some (27, false)), 4⟩,
  ⟨(some 31), .p (.fieldAddr 1 none (.s 1)), (some (27, false)), 0⟩,
  ⟨(some 32), .m (.load none (.s 31)), (some (27, false)), 0⟩,
  ⟨(some 33), .p (.len false (.s 32)), (some (27, false)), 40⟩,
  ⟨(some 34), .p (.bin .neq (.s 30) (.s 33)), (some (27, false)), 0⟩,
  ⟨(some 35), .p (.pick (.s 27) (.c (.v (.bool true))) (.s 34)), none, 0⟩]) c19_0) c19_17)
def c19 : ACode := (.seq (.ops [
  ⟨(some 1), .m (.box (.s 0)), none, 0⟩,
  ⟨(some 2), .p (.mov (.c (.v (.bool false)))), none, 0⟩]) c19_18)
theorem t19 : trC Tryd.prog Tryd.f19.ntmps (bodyOf Tryd.f19) = some c19 := by kernel_rfl
theorem r19 : Tryd.f19.results.toList.mapM (trR Tryd.prog) = some [.tmp 2] := by kernel_rfl
def i19 : FI := ⟨65, c19, [.tmp 2]⟩
theorem k19 : Knows Tryd.prog 19 i19 := ⟨Tryd.f19, bodyOf Tryd.f19, Tryd.func19, by kernel_rfl, by kernel_rfl, t19, r19, by kernel_rfl⟩
-- 25 drover/dfa.Run []
def c25_0 : List AOper := [
  ⟨(some 10), .p (.un .not (.s 9)), none, 0⟩]
def c25_1 : ACode := (.cond (.s 10) (.seq (.ops [
  ⟨(some 4), .p (.mov (.c (.v (.bool false)))), none, 0⟩]) .ret) .skip)
def c25_2 : ACode := (.cond (.s 24) (.seq (.ops [
  ⟨(some 4), .p (.mov (.c (.v (.bool false)))), none, 0⟩]) .ret) .skip)
def c25_3 : ACode := (.ops [
  ⟨(some 25), .p (.fieldAddr 1 none (.s 2)), none, 0⟩,
  ⟨(some 26), .m (.load none (.s 25)), none, 0⟩,
  ⟨(some 27), .p (.mov (.s 5)), none, 0⟩,
  ⟨(some 28), .p (.adrSl 1 (.s 26) (.s 27)), none, 0⟩,
  ⟨(some 29), .m (.load none (.s 28)), none, 0⟩,
  ⟨(some 30), .p (.mov (.s 7)), none, 0⟩,
  ⟨(some 31), .p (.bin .sub (.s 30) (.c (.v (.int .i64 1)))), none, 0⟩,
  ⟨(some 32), .p (.adrSl 1 (.s 29) (.s 31)), none, 0⟩,
  ⟨(some 33), .m (.load none (.s 32)), none, 0⟩,
  ⟨(some 5), .p (.mov (.s 33)), none, 0⟩])
def c25_4 : ACode := (.seq (.seq (.ops [
  ⟨(some 17), .p (.mov (.s 7)), none, 0⟩,
  ⟨(some 18), .p (.bin .lss (.s 17) (.c (.v (.int .i64 1)))), none, 0⟩,
  ⟨(some 19), .p (.mov (.s 18)), none, 0⟩,
  ⟨(some 20), .p (.mov (.s 7)), (some (19, false)), 0⟩,
  ⟨(some 21), .p (.fieldAddr 0 none (.s 2)), (some (19, false)), 0⟩,
  ⟨(some 22), .m (.load none (.s 21)), (some (19, false)), 0⟩,
  ⟨(some 23), .p (.bin .gtr (.s 20) (.s 22)), (some (19, false)), 0⟩,
  ⟨(some 24), .p (.pick (.s 19) (.c (.v (.bool true))) (.s 23)), none, 0⟩]) c25_2) c25_3)
def c25_5 : ACode := (.ops [
  ⟨(some 34), .p (.bin .add (.s 13) (.c (.v (.int .i64 1)))), none, 0⟩,
  ⟨(some 13), .p (.mov (.s 34)), none, 0⟩])
def c25_6 : ACode := (.seq (.block 1 (.seq (.ops [
  ⟨(some 15), .p (.adrSl 1 (.s 11) (.s 13)), none, 0⟩,
  ⟨(some 16), .m (.load none (.s 15)), none, 0⟩,
  ⟨(some 7), .p (.mov (.s 16)), none, 0⟩]) c25_4)) c25_5)
def c25_7 : ACode := (.seq (.cond (.s 14) .skip (.exit 0)) c25_6)
def c25_8 : ACode := (.seq (.ops [
  ⟨(some 14), .p (.bin .lss (.s 13) (.s 12)), none, 0⟩]) c25_7)
def c25_9 : ACode := (.block 0 (.loop c25_8))
def c25_10 : ACode := (.seq (.ops [
  ⟨(some 35), .p (.fieldAddr 2 none (.s 2)), none, 0⟩,
  ⟨(some 36), .m (.load none (.s 35)), none, 0⟩,
  ⟨(some 37), .p (.mov (.s 5)), none, 0⟩,
  ⟨(some 38), .p (.adrSl 1 (.s 36) (.s 37)), none, 0⟩,
  ⟨(some 39), .m (.load none (.s 38)), none, 0⟩,
  ⟨(some 4), .p (.mov (.s 39)), none, 0⟩]) .ret)
def c25_11 : ACode := (.seq (.seq (.ops [
  ⟨(some 11), .p (.mov (.s 1)), none, 0⟩,
  ⟨(some 12), .p (.len false (.s 11)), none, 3⟩,
  ⟨(some 13), .p (.mov (.c (.v (.int .i64 0)))), none, 0⟩]) c25_9) c25_10)
def c25_12 : ACode := (.seq (.ops [
  ⟨(some 5), .p (.mov (.c (.v (.int .i64 0)))), none, 0⟩]) c25_11)
def c25_13 : ACode := (.seq (.seq (.ops (⟨(some 8), .m (.load (some 3) (.s 2)), none, 0⟩ ::
  ⟨(some 9), .call (.c (.fn 19 [])) [(.s 8)], none, 0⟩ :: c25_0)) c25_1) c25_12)
def c25 : ACode := (.seq (.ops [
  ⟨(some 2), .m (.box (.s 0)), none, 0⟩,
  ⟨(some 4), .p (.mov (.c (.v (.bool false)))), none, 0⟩]) c25_13)
theorem t25 : trC Tryd.prog Tryd.f25.ntmps (bodyOf Tryd.f25) = some c25 := by kernel_rfl
theorem r25 : Tryd.f25.results.toList.mapM (trR Tryd.prog) = some [.tmp 4] := by kernel_rfl
def i25 : FI := ⟨40, c25, [.tmp 4]⟩
theorem k25 : Knows Tryd.prog 25 i25 := ⟨Tryd.f25, bodyOf Tryd.f25, Tryd.func25, by kernel_rfl, by kernel_rfl, t25, r25, by kernel_rfl⟩
-- 28 drover/dfa.Small []
def c28_0 : List AOper := [
  ⟨(some 15), .p (.un .not (.s 14)), none, 0⟩]
def c28_1 : ACode := (.cond (.s 15) (.seq (.ops [
  ⟨(some 16), .p (.build [(.v (.int .i64 0)), (.v (.slice none 0 0)), (.v (.slice none 0 0))] []), none, 0⟩,
  ⟨none, .m (.store (some 3) (.s 2) (.s 16)), none, 0⟩]) .ret) .skip)
def c28_2 : List AOper := [
  ⟨(some 3), .m (.alloc [(.v (.slice none 0 0))]), none, 0⟩,
  ⟨none, .m (.store none (.s 3) (.s 18)), none, 0⟩]
def c28_3 : ACode := (.ops [
  ⟨(some 27), .m (.load none (.s 4)), none, 0⟩,
  ⟨(some 28), .p (.mov (.s 6)), none, 0⟩,
  ⟨(some 29), .p (.mov (.s 5)), none, 0⟩,
  ⟨none, .m (.ext (.map (.upd [(.int .i64)] false (.s 27) (.s 28) (.s 29)))), none, 0⟩])
def c28_4 : ACode := (.ops [
  ⟨(some 30), .p (.bin .add (.s 22) (.c (.v (.int .i64 1)))), none, 0⟩,
  ⟨(some 22), .p (.mov (.s 30)), none, 0⟩])
def c28_5 : ACode := (.seq (.block 1 (.seq (.ops [
  ⟨(some 24), .p (.mov (.s 22)), none, 0⟩,
  ⟨(some 25), .p (.adrSl 1 (.s 20) (.s 22)), none, 0⟩,
  ⟨(some 26), .m (.load none (.s 25)), none, 0⟩,
  ⟨(some 5), .p (.mov (.s 24)), none, 0⟩,
  ⟨(some 6), .p (.mov (.s 26)), none, 0⟩]) c28_3)) c28_4)
def c28_6 : ACode := (.seq (.cond (.s 23) .skip (.exit 0)) c28_5)
def c28_7 : ACode := (.seq (.ops [
  ⟨(some 23), .p (.bin .lss (.s 22) (.s 21)), none, 0⟩]) c28_6)
def c28_8 : ACode := (.block 0 (.loop c28_7))
def c28_9 : ACode := (.draw [
  ⟨(some 31), .p (.mov (.s 38)), none, 0⟩,
  ⟨(some 39), .p (.extract (.s 31) 0), none, 0⟩,
  ⟨(some 40), .p (.extract (.s 31) 1), none, 0⟩,
  ⟨(some 41), .p (.extract (.s 31) 2), none, 0⟩,
  ⟨(some 7), .p (.mov (.s 39)), none, 0⟩,
  ⟨(some 8), .p (.mov (.s 40)), none, 0⟩,
  ⟨(some 9), .p (.mov (.s 41)), none, 0⟩])
def c28_10 : ACode := (.seq (.ops [
  ⟨(some 38), .call (.c (.fn 55 [])) [(.s 34), (.s 36), (.s 37)], none, 0⟩]) c28_9)
def c28_11 : ACode := (.draw [
  ⟨(some 52), .p (.fieldAddr 2 none (.s 10)), none, 0⟩,
  ⟨(some 53), .m (.load none (.s 52)), none, 0⟩,
  ⟨(some 54), .p (.fieldAddr 2 none (.s 1)), none, 0⟩,
  ⟨(some 55), .m (.load none (.s 54)), none, 0⟩,
  ⟨(some 56), .m (.load none (.s 4)), none, 0⟩,
  ⟨(some 57), .p (.mov (.s 12)), none, 0⟩,
  ⟨(some 58), .m (.ext (.map (.look [(.int .i64)] false false (.v (.int .i64 0)) (.s 56) (.s 57)))), none, 0⟩,
  ⟨(some 59), .p (.adrSl 1 (.s 55) (.s 58)), none, 0⟩,
  ⟨(some 60), .m (.load none (.s 59)), none, 0⟩,
  ⟨(some 61), .m (.buildSlice 1 1 [(.v (.bool false))] [(0, 1, (.s 60))]), none, 4⟩,
  ⟨(some 62), .m (.append 1 1 (.s 53) (.s 61)), none, 4⟩,
  ⟨(some 63), .p (.fieldAddr 2 none (.s 10)), none, 0⟩,
  ⟨none, .m (.store none (.s 63) (.s 62)), none, 0⟩])
def c28_12 : ACode := (.ops [
  ⟨(some 64), .p (.bin .add (.s 48) (.c (.v (.int .i64 1)))), none, 0⟩,
  ⟨(some 48), .p (.mov (.s 64)), none, 0⟩])
def c28_13 : ACode := (.seq (.block 3 (.seq (.ops [
  ⟨(some 50), .p (.adrSl 1 (.s 46) (.s 48)), none, 0⟩,
  ⟨(some 51), .m (.load none (.s 50)), none, 0⟩,
  ⟨(some 12), .p (.mov (.s 51)), none, 0⟩]) c28_11)) c28_12)
def c28_14 : ACode := (.seq (.cond (.s 49) .skip (.exit 2)) c28_13)
def c28_15 : ACode := (.seq (.ops [
  ⟨(some 49), .p (.bin .lss (.s 48) (.s 47)), none, 0⟩]) c28_14)
def c28_16 : ACode := (.block 2 (.loop c28_15))
def c28_17 : ACode := (.seq (.ops [
  ⟨(some 65), .m (.load (some 3) (.s 10)), none, 0⟩,
  ⟨none, .m (.store (some 3) (.s 2) (.s 65)), none, 0⟩]) .ret)
def c28_18 : ACode := (.seq (.seq (.ops [
  ⟨(some 46), .p (.mov (.s 7)), none, 0⟩,
  ⟨(some 47), .p (.len false (.s 46)), none, 3⟩,
  ⟨(some 48), .p (.mov (.c (.v (.int .i64 0)))), none, 0⟩]) c28_16) c28_17)
def c28_19 : ACode := (.seq (.ops [
  ⟨(some 42), .p (.fieldAddr 0 none (.s 1)), none, 0⟩,
  ⟨(some 43), .m (.load none (.s 42)), none, 0⟩,
  ⟨(some 44), .p (.mov (.s 8)), none, 0⟩,
  ⟨(some 45), .p (.build [(.v (.int .i64 0)), (.v (.slice none 0 0)), (.v (.slice none 0 0))] [(0, 1, (.s 43)), (1, 1, (.s 44))]), none, 0⟩,
  ⟨(some 10), .m (.alloc [(.v (.int .i64 0)), (.v (.slice none 0 0)), (.v (.slice none 0 0))]), none, 40⟩,
  ⟨none, .m (.store (some 3) (.s 10) (.s 45)), none, 0⟩]) c28_18)
def c28_20 : ACode := (.seq (.seq (.draw [
  ⟨(some 32), .m (.load none (.s 3)), none, 0⟩,
  ⟨(some 33), .p (.adrSl 1 (.s 32) (.c (.v (.int .i64 0)))), none, 0⟩,
  ⟨(some 34), .m (.load none (.s 33)), none, 0⟩,
  ⟨(some 35), .p (.fieldAddr 0 none (.s 1)), none, 0⟩,
  ⟨(some 36), .m (.load none (.s 35)), none, 0⟩,
  ⟨(some 37), .p (.mkFn 56 [(.s 3), (.s 1), (.s 4)]), none, 0⟩]) c28_10) c28_19)
def c28_21 : ACode := (.seq (.seq (.ops [
  ⟨(some 20), .m (.load none (.s 3)), none, 0⟩,
  ⟨(some 21), .p (.len false (.s 20)), none, 3⟩,
  ⟨(some 22), .p (.mov (.c (.v (.int .i64 0)))), none, 0⟩]) c28_8) c28_20)
def c28_22 : ACode := (.seq (.ops [
  ⟨(some 19), .m (.ext (.map (.mk))), none, 196611⟩,
  ⟨(some 4), .m (.alloc [(.v (.map none))]), none, 0⟩,
  ⟨none, .m (.store none (.s 4) (.s 19)), none, 0⟩]) c28_21)
def c28_23 : ACode := (.seq (.ops (⟨(some 17), .m (.load (some 3) (.s 1)), none, 0⟩ ::
  ⟨(some 18), .call (.c (.fn 54 [])) [(.s 17)], none, 0⟩ :: c28_2)) c28_22)
def c28_24 : ACode := (.seq (.seq (.ops (⟨(some 13), .m (.load (some 3) (.s 1)), none, 0⟩ ::
  ⟨(some 14), .call (.c (.fn 19 [])) [(.s 13)], none, 0⟩ :: c28_0)) c28_1) c28_23)
def c28 : ACode := (.seq (.ops [
  ⟨(some 1), .m (.box (.s 0)), none, 0⟩,
  ⟨(some 2), .m (.alloc [(.v (.int .i64 0)), (.v (.slice none 0 0)), (.v (.slice none 0 0))]), none, 40⟩]) c28_24)
theorem t28 : trC Tryd.prog Tryd.f28.ntmps (bodyOf Tryd.f28) = some c28 := by kernel_rfl
theorem r28 : Tryd.f28.results.toList.mapM (trR Tryd.prog) = some [.cell 2 (some 3)] := by kernel_rfl
def i28 : FI := ⟨66, c28, [.cell 2 (some 3)]⟩
theorem k28 : Knows Tryd.prog 28 i28 := ⟨Tryd.f28, bodyOf Tryd.f28, Tryd.func28, by kernel_rfl, by kernel_rfl, t28, r28, by kernel_rfl⟩
-- 31 drover/dfa.Same []
def c31_0 : List AOper := [
  ⟨(some 21), .p (.un .not (.s 20)), (some (18, false)), 0⟩,
  ⟨(some 22), .p (.pick (.s 18) (.c (.v (.bool true))) (.s 21)), none, 0⟩,
  ⟨(some 23), .p (.mov (.s 22)), none, 0⟩,
  ⟨(some 24), .p (.fieldAddr 0 none (.s 5)), (some (23, false)), 0⟩,
  ⟨(some 25), .m (.load none (.s 24)), (some (23, false)), 0⟩,
  ⟨(some 26), .p (.fieldAddr 0 none (.s 6)), (some (23, false)), 0⟩,
  ⟨(some 27), .m (.load none (.s 26)), (some (23, false)), 0⟩,
  ⟨(some 28), .p (.bin .neq (.s 25) (.s 27)), (some (23, false)), 0⟩,
  ⟨(some 29), .p (.pick (.s 23) (.c (.v (.bool true))) (.s 28)), none, 0⟩,
  ⟨(some 30), .p (.mov (.s 29)), none, 0⟩,
  ⟨(some 31), .p (.fieldAddr 1 none (.s 5)), (some (30, false)), 0⟩,
  ⟨(some 32), .m (.load none (.s 31)), (some (30, false)), 0⟩,
  ⟨(some 33), .p (.len false (.s 32)), (some (30, false)), 40⟩,
  ⟨(some 34), .p (.fieldAddr 1 none (.s 6)), (some (30, false)), 0⟩,
  ⟨(some 35), .m (.load none (.s 34)), (some (30, false)), 0⟩,
  ⟨(some 36), .p (.len false (.s 35)), (some (30, false)), 40⟩,
  ⟨(some 37), .p (.bin .neq (.s 33) (.s 36)), (some (30, false)), 0⟩,
  ⟨(some 38), .p (.pick (.s 30) (.c (.v (.bool true))) (.s 37)), none, 0⟩]
def c31_1 : List AOper := (⟨(some 17), .p (.un .not (.s 16)), none, 0⟩ ::
  ⟨(some 18), .p (.mov (.s 17)), none, 0⟩ ::
  ⟨(some 19), .m (.load (some 3) (.s 3)), (some (18, false)), 0⟩ ::
  ⟨(some 20), .call (.c (.fn 19 [])) [(.s 19)], (some (18, false)), 0⟩ :: c31_0)
def c31_2 : ACode := (.cond (.s 38) (.seq (.ops [
  ⟨(some 4), .p (.mov (.c (.v (.bool false)))), none, 0⟩]) .ret) .skip)
def c31_3 : ACode := (.cond (.s 57) (.seq (.ops [
  ⟨(some 4), .p (.mov (.c (.v (.bool false)))), none, 0⟩]) .ret) .skip)
def c31_4 : ACode := (.cond (.s 74) (.seq (.ops [
  ⟨(some 4), .p (.mov (.c (.v (.bool false)))), none, 0⟩]) .ret) .skip)
def c31_5 : ACode := (.seq (.ops [
  ⟨(some 65), .p (.fieldAddr 1 none (.s 6)), none, 0⟩,
  ⟨(some 66), .m (.load none (.s 65)), none, 0⟩,
  ⟨(some 67), .p (.mov (.s 7)), none, 0⟩,
  ⟨(some 68), .p (.adrSl 1 (.s 66) (.s 67)), none, 0⟩,
  ⟨(some 69), .m (.load none (.s 68)), none, 0⟩,
  ⟨(some 70), .p (.mov (.s 9)), none, 0⟩,
  ⟨(some 71), .p (.adrSl 1 (.s 69) (.s 70)), none, 0⟩,
  ⟨(some 72), .m (.load none (.s 71)), none, 0⟩,
  ⟨(some 73), .p (.mov (.s 10)), none, 0⟩,
  ⟨(some 74), .p (.bin .neq (.s 72) (.s 73)), none, 0⟩]) c31_4)
def c31_6 : ACode := (.ops [
  ⟨(some 75), .p (.bin .add (.s 60) (.c (.v (.int .i64 1)))), none, 0⟩,
  ⟨(some 60), .p (.mov (.s 75)), none, 0⟩])
def c31_7 : ACode := (.seq (.block 3 (.seq (.ops [
  ⟨(some 62), .p (.mov (.s 60)), none, 0⟩,
  ⟨(some 63), .p (.adrSl 1 (.s 58) (.s 60)), none, 0⟩,
  ⟨(some 64), .m (.load none (.s 63)), none, 0⟩,
  ⟨(some 9), .p (.mov (.s 62)), none, 0⟩,
  ⟨(some 10), .p (.mov (.s 64)), none, 0⟩]) c31_5)) c31_6)
def c31_8 : ACode := (.seq (.cond (.s 61) .skip (.exit 2)) c31_7)
def c31_9 : ACode := (.seq (.ops [
  ⟨(some 61), .p (.bin .lss (.s 60) (.s 59)), none, 0⟩]) c31_8)
def c31_10 : ACode := (.block 2 (.loop c31_9))
def c31_11 : ACode := (.seq (.ops [
  ⟨(some 58), .p (.mov (.s 8)), none, 0⟩,
  ⟨(some 59), .p (.len false (.s 58)), none, 3⟩,
  ⟨(some 60), .p (.mov (.c (.v (.int .i64 0)))), none, 0⟩]) c31_10)
def c31_12 : ACode := (.seq (.seq (.draw [
  ⟨(some 47), .p (.fieldAddr 2 none (.s 5)), none, 0⟩,
  ⟨(some 48), .m (.load none (.s 47)), none, 0⟩,
  ⟨(some 49), .p (.mov (.s 7)), none, 0⟩,
  ⟨(some 50), .p (.adrSl 1 (.s 48) (.s 49)), none, 0⟩,
  ⟨(some 51), .m (.load none (.s 50)), none, 0⟩,
  ⟨(some 52), .p (.fieldAddr 2 none (.s 6)), none, 0⟩,
  ⟨(some 53), .m (.load none (.s 52)), none, 0⟩,
  ⟨(some 54), .p (.mov (.s 7)), none, 0⟩,
  ⟨(some 55), .p (.adrSl 1 (.s 53) (.s 54)), none, 0⟩,
  ⟨(some 56), .m (.load none (.s 55)), none, 0⟩,
  ⟨(some 57), .p (.eqa true [.bool] false (.s 51) (.s 56)), none, 0⟩]) c31_3) c31_11)
def c31_13 : ACode := (.ops [
  ⟨(some 76), .p (.bin .add (.s 42) (.c (.v (.int .i64 1)))), none, 0⟩,
  ⟨(some 42), .p (.mov (.s 76)), none, 0⟩])
def c31_14 : ACode := (.seq (.block 1 (.seq (.ops [
  ⟨(some 44), .p (.mov (.s 42)), none, 0⟩,
  ⟨(some 45), .p (.adrSl 1 (.s 40) (.s 42)), none, 0⟩,
  ⟨(some 46), .m (.load none (.s 45)), none, 0⟩,
  ⟨(some 7), .p (.mov (.s 44)), none, 0⟩,
  ⟨(some 8), .p (.mov (.s 46)), none, 0⟩]) c31_12)) c31_13)
def c31_15 : ACode := (.seq (.cond (.s 43) .skip (.exit 0)) c31_14)
def c31_16 : ACode := (.seq (.ops [
  ⟨(some 43), .p (.bin .lss (.s 42) (.s 41)), none, 0⟩]) c31_15)
def c31_17 : ACode := (.block 0 (.loop c31_16))
def c31_18 : ACode := (.seq (.ops [
  ⟨(some 4), .p (.mov (.c (.v (.bool true)))), none, 0⟩]) .ret)
def c31_19 : ACode := (.seq (.seq (.ops [
  ⟨(some 39), .p (.fieldAddr 1 none (.s 5)), none, 0⟩,
  ⟨(some 40), .m (.load none (.s 39)), none, 0⟩,
  ⟨(some 41), .p (.len false (.s 40)), none, 40⟩,
  ⟨(some 42), .p (.mov (.c (.v (.int .i64 0)))), none, 0⟩]) c31_17) c31_18)
def c31_20 : ACode := (.seq (.seq (.ops (⟨(some 15), .m (.load (some 3) (.s 2)), none, 0⟩ ::
  ⟨(some 16), .call (.c (.fn 19 [])) [(.s 15)], none, 0⟩ :: c31_1)) c31_2) c31_19)
def c31_21 : ACode := (.seq (.drawk [
  ⟨(some 11), .m (.load (some 3) (.s 2)), none, 0⟩,
  ⟨(some 12), .pcall (.c (.fn 28 [])) [(.s 11)], none, 0⟩,
  ⟨(some 13), .m (.load (some 3) (.s 3)), none, 0⟩,
  ⟨(some 14), .pcall (.c (.fn 28 [])) [(.s 13)], none, 0⟩,
  ⟨(some 5), .m (.alloc [(.v (.int .i64 0)), (.v (.slice none 0 0)), (.v (.slice none 0 0))]), none, 40⟩,
  ⟨(some 6), .m (.alloc [(.v (.int .i64 0)), (.v (.slice none 0 0)), (.v (.slice none 0 0))]), none, 40⟩,
  ⟨none, .m (.store (some 3) (.s 5) (.s 12)), none, 0⟩,
  ⟨none, .m (.store (some 3) (.s 6) (.s 14)), none, 0⟩] [false, false, false, false, false, false, false, false]) c31_20)
def c31 : ACode := (.seq (.ops [
  ⟨(some 2), .m (.box (.s 0)), none, 0⟩,
  ⟨(some 3), .m (.box (.s 1)), none, 0⟩,
  ⟨(some 4), .p (.mov (.c (.v (.bool false)))), none, 0⟩]) c31_21)
theorem t31 : trC Tryd.prog Tryd.f31.ntmps (bodyOf Tryd.f31) = some c31 := by kernel_rfl
theorem r31 : Tryd.f31.results.toList.mapM (trR Tryd.prog) = some [.tmp 4] := by kernel_rfl
def i31 : FI := ⟨77, c31, [.tmp 4]⟩
theorem k31 : Knows Tryd.prog 31 i31 := ⟨Tryd.f31, bodyOf Tryd.f31, Tryd.func31, by kernel_rfl, by kernel_rfl, t31, r31, by kernel_rfl⟩
-- 33 drover/dfa.Both []
def c33_0 : List AOper := [
  ⟨(some 10), .p (.extract (.s 9) 0), none, 0⟩,
  ⟨(some 11), .p (.extract (.s 9) 1), none, 0⟩,
  ⟨none, .m (.store (some 3) (.s 4) (.s 10)), none, 0⟩,
  ⟨(some 5), .p (.mov (.s 11)), none, 0⟩]
def c33_1 : ACode := (.seq (.ops (⟨(some 6), .m (.load (some 3) (.s 2)), none, 0⟩ ::
  ⟨(some 7), .m (.load (some 3) (.s 3)), none, 0⟩ ::
  ⟨(some 8), .p (.mkFn 59 [(.s 2), (.s 3)]), none, 0⟩ ::
  ⟨(some 9), .call (.c (.fn 58 [])) [(.s 6), (.s 7), (.s 8)], none, 0⟩ :: c33_0)) .ret)
def c33 : ACode := (.seq (.ops [
  ⟨(some 2), .m (.box (.s 0)), none, 0⟩,
  ⟨(some 3), .m (.box (.s 1)), none, 0⟩,
  ⟨(some 4), .m (.alloc [(.v (.int .i64 0)), (.v (.slice none 0 0)), (.v (.slice none 0 0))]), none, 40⟩,
  ⟨(some 5), .p (.mov (.c (.v (.int .i64 0)))), none, 0⟩]) c33_1)
theorem t33 : trC Tryd.prog Tryd.f33.ntmps (bodyOf Tryd.f33) = some c33 := by kernel_rfl
theorem r33 : Tryd.f33.results.toList.mapM (trR Tryd.prog) = some [.cell 4 (some 3), .tmp 5] := by kernel_rfl
def i33 : FI := ⟨12, c33, [.cell 4 (some 3), .tmp 5]⟩
theorem k33 : Knows Tryd.prog 33 i33 := ⟨Tryd.f33, bodyOf Tryd.f33, Tryd.func33, by kernel_rfl, by kernel_rfl, t33, r33, by kernel_rfl⟩
-- 35 drover/dfa.Less []
def c35_0 : List AOper := [
  ⟨(some 10), .p (.extract (.s 9) 0), none, 0⟩,
  ⟨(some 11), .p (.extract (.s 9) 1), none, 0⟩,
  ⟨none, .m (.store (some 3) (.s 4) (.s 10)), none, 0⟩,
  ⟨(some 5), .p (.mov (.s 11)), none, 0⟩]
def c35_1 : ACode := (.seq (.ops (⟨(some 6), .m (.load (some 3) (.s 2)), none, 0⟩ ::
  ⟨(some 7), .m (.load (some 3) (.s 3)), none, 0⟩ ::
  ⟨(some 8), .p (.mkFn 60 [(.s 2), (.s 3)]), none, 0⟩ ::
  ⟨(some 9), .call (.c (.fn 58 [])) [(.s 6), (.s 7), (.s 8)], none, 0⟩ :: c35_0)) .ret)
def c35 : ACode := (.seq (.ops [
  ⟨(some 2), .m (.box (.s 0)), none, 0⟩,
  ⟨(some 3), .m (.box (.s 1)), none, 0⟩,
  ⟨(some 4), .m (.alloc [(.v (.int .i64 0)), (.v (.slice none 0 0)), (.v (.slice none 0 0))]), none, 40⟩,
  ⟨(some 5), .p (.mov (.c (.v (.int .i64 0)))), none, 0⟩]) c35_1)
theorem t35 : trC Tryd.prog Tryd.f35.ntmps (bodyOf Tryd.f35) = some c35 := by kernel_rfl
theorem r35 : Tryd.f35.results.toList.mapM (trR Tryd.prog) = some [.cell 4 (some 3), .tmp 5] := by kernel_rfl
def i35 : FI := ⟨12, c35, [.cell 4 (some 3), .tmp 5]⟩
theorem k35 : Knows Tryd.prog 35 i35 := ⟨Tryd.f35, bodyOf Tryd.f35, Tryd.func35, by kernel_rfl, by kernel_rfl, t35, r35, by kernel_rfl⟩
-- 54 drover/dfa.classes []
def c54_0 : ACode := (.cond (.s 28) (.ops [
  ⟨(some 29), .p (.mov (.s 3)), none, 0⟩,
  ⟨(some 30), .p (.mov (.s 4)), none, 0⟩,
  ⟨(some 31), .p (.adrSl 1 (.s 29) (.s 30)), none, 0⟩,
  ⟨none, .m (.store none (.s 31) (.c (.v (.int .i64 1)))), none, 0⟩]) .skip)
def c54_1 : ACode := (.seq (.ops [
  ⟨(some 28), .p (.mov (.s 5)), none, 0⟩]) c54_0)
def c54_2 : ACode := (.ops [
  ⟨(some 32), .p (.bin .add (.s 23) (.c (.v (.int .i64 1)))), none, 0⟩,
  ⟨(some 23), .p (.mov (.s 32)), none, 0⟩])
def c54_3 : ACode := (.seq (.block 1 (.seq (.ops [
  ⟨(some 25), .p (.mov (.s 23)), none, 0⟩,
  ⟨(some 26), .p (.adrSl 1 (.s 21) (.s 23)), none, 0⟩,
  ⟨(some 27), .m (.load none (.s 26)), none, 0⟩,
  ⟨(some 4), .p (.mov (.s 25)), none, 0⟩,
  ⟨(some 5), .p (.mov (.s 27)), none, 0⟩]) c54_1)) c54_2)
def c54_4 : ACode := (.seq (.cond (.s 24) .skip (.exit 0)) c54_3)
def c54_5 : ACode := (.seq (.ops [
  ⟨(some 24), .p (.bin .lss (.s 23) (.s 22)), none, 0⟩]) c54_4)
def c54_6 : ACode := (.block 0 (.loop c54_5))
def c54_7 : List AOper := [
  ⟨(some 11), .p (.mov (.s 49)), none, 0⟩]
def c54_8 : List AOper := [
  ⟨(some 62), .p (.bin .add (.c (.v (.string ⟨#[32]⟩))) (.s 61)), none, 0⟩,
  ⟨(some 63), .p (.bin .add (.s 56) (.s 62)), none, 0⟩,
  ⟨(some 11), .p (.mov (.s 63)), none, 0⟩]
def c54_9 : ACode := (.ops (⟨(some 56), .p (.mov (.s 11)), none, 0⟩ ::
  ⟨(some 57), .p (.mov (.s 3)), none, 0⟩ ::
  ⟨(some 58), .p (.mov (.s 13)), none, 0⟩ ::
  ⟨(some 59), .p (.adrSl 1 (.s 57) (.s 58)), none, 0⟩ ::
  ⟨(some 60), .m (.load none (.s 59)), none, 0⟩ ::
  ⟨(some 61), .call (.c (.fn 70 [])) [(.s 60)], none, 0⟩ :: c54_8))
def c54_10 : ACode := (.ops [
  ⟨(some 64), .p (.bin .add (.s 52) (.c (.v (.int .i64 1)))), none, 0⟩,
  ⟨(some 52), .p (.mov (.s 64)), none, 0⟩])
def c54_11 : ACode := (.seq (.block 7 (.seq (.ops [
  ⟨(some 54), .p (.adrSl 1 (.s 50) (.s 52)), none, 0⟩,
  ⟨(some 55), .m (.load none (.s 54)), none, 0⟩,
  ⟨(some 13), .p (.mov (.s 55)), none, 0⟩]) c54_9)) c54_10)
def c54_12 : ACode := (.seq (.cond (.s 53) .skip (.exit 6)) c54_11)
def c54_13 : ACode := (.seq (.ops [
  ⟨(some 53), .p (.bin .lss (.s 52) (.s 51)), none, 0⟩]) c54_12)
def c54_14 : ACode := (.block 6 (.loop c54_13))
def c54_15 : ACode := (.ops [
  ⟨(some 75), .p (.mov (.s 7)), none, 0⟩,
  ⟨(some 76), .p (.mov (.s 11)), none, 0⟩,
  ⟨(some 77), .p (.mov (.s 14)), none, 0⟩,
  ⟨none, .m (.ext (.map (.upd [.str] false (.s 75) (.s 76) (.s 77)))), none, 0⟩])
def c54_16 : ACode := (.cond (.s 72) (.seq (.ops [
  ⟨(some 73), .p (.mov (.s 7)), none, 0⟩,
  ⟨(some 74), .m (.ext (.map (.len (.s 73)))), none, 3⟩,
  ⟨(some 14), .p (.mov (.s 74)), none, 0⟩]) c54_15) .skip)
def c54_17 : ACode := (.ops [
  ⟨(some 78), .p (.mov (.s 8)), none, 0⟩,
  ⟨(some 79), .p (.mov (.s 9)), none, 0⟩,
  ⟨(some 80), .p (.mov (.s 14)), none, 0⟩,
  ⟨(some 81), .p (.adrSl 1 (.s 78) (.s 79)), none, 0⟩,
  ⟨none, .m (.store none (.s 81) (.s 80)), none, 0⟩])
def c54_18 : ACode := (.seq (.seq (.ops [
  ⟨(some 71), .p (.mov (.s 15)), none, 0⟩,
  ⟨(some 72), .p (.un .not (.s 71)), none, 0⟩]) c54_16) c54_17)
def c54_19 : ACode := (.seq (.ops [
  ⟨(some 66), .p (.mov (.s 7)), none, 0⟩,
  ⟨(some 67), .p (.mov (.s 11)), none, 0⟩,
  ⟨(some 68), .m (.ext (.map (.look [.str] false true (.v (.int .i64 0)) (.s 66) (.s 67)))), none, 0⟩,
  ⟨(some 65), .p (.mov (.s 68)), none, 0⟩,
  ⟨(some 69), .p (.extract (.s 65) 0), none, 0⟩,
  ⟨(some 70), .p (.extract (.s 65) 1), none, 0⟩,
  ⟨(some 14), .p (.mov (.s 69)), none, 0⟩,
  ⟨(some 15), .p (.mov (.s 70)), none, 0⟩]) c54_18)
def c54_20 : ACode := (.seq (.seq (.ops [
  ⟨(some 50), .p (.mov (.s 10)), none, 0⟩,
  ⟨(some 51), .p (.len false (.s 50)), none, 3⟩,
  ⟨(some 52), .p (.mov (.c (.v (.int .i64 0)))), none, 0⟩]) c54_14) c54_19)
def c54_21 : ACode := (.seq (.ops (⟨(some 45), .p (.mov (.s 3)), none, 0⟩ ::
  ⟨(some 46), .p (.mov (.s 9)), none, 0⟩ ::
  ⟨(some 47), .p (.adrSl 1 (.s 45) (.s 46)), none, 0⟩ ::
  ⟨(some 48), .m (.load none (.s 47)), none, 0⟩ ::
  ⟨(some 49), .call (.c (.fn 70 [])) [(.s 48)], none, 0⟩ :: c54_7)) c54_20)
def c54_22 : ACode := (.ops [
  ⟨(some 82), .p (.bin .add (.s 40) (.c (.v (.int .i64 1)))), none, 0⟩,
  ⟨(some 40), .p (.mov (.s 82)), none, 0⟩])
def c54_23 : ACode := (.seq (.block 5 (.seq (.ops [
  ⟨(some 42), .p (.mov (.s 40)), none, 0⟩,
  ⟨(some 43), .p (.adrSl 1 (.s 38) (.s 40)), none, 0⟩,
  ⟨(some 44), .m (.load none (.s 43)), none, 0⟩,
  ⟨(some 9), .p (.mov (.s 42)), none, 0⟩,
  ⟨(some 10), .p (.mov (.s 44)), none, 0⟩]) c54_21)) c54_22)
def c54_24 : ACode := (.seq (.cond (.s 41) .skip (.exit 4)) c54_23)
def c54_25 : ACode := (.seq (.ops [
  ⟨(some 41), .p (.bin .lss (.s 40) (.s 39)), none, 0⟩]) c54_24)
def c54_26 : ACode := (.block 4 (.loop c54_25))
def c54_27 : ACode := (.cond (.s 87) (.seq (.ops [
  ⟨(some 88), .p (.mov (.s 3)), none, 0⟩,
  ⟨(some 2), .p (.mov (.s 88)), none, 0⟩]) .ret) .skip)
def c54_28 : ACode := (.ops [
  ⟨(some 89), .p (.mov (.s 7)), none, 0⟩,
  ⟨(some 90), .m (.ext (.map (.len (.s 89)))), none, 3⟩,
  ⟨(some 6), .p (.mov (.s 90)), none, 0⟩])
def c54_29 : ACode := (.seq (.seq (.ops [
  ⟨(some 84), .p (.mov (.s 7)), none, 0⟩,
  ⟨(some 85), .m (.ext (.map (.len (.s 84)))), none, 3⟩,
  ⟨(some 86), .p (.mov (.s 6)), none, 0⟩,
  ⟨(some 87), .p (.bin .eql (.s 85) (.s 86)), none, 0⟩]) c54_27) c54_28)
def c54_30 : ACode := (.seq (.ops [
  ⟨(some 83), .p (.mov (.s 8)), none, 0⟩,
  ⟨(some 3), .p (.mov (.s 83)), none, 0⟩]) c54_29)
def c54_31 : ACode := (.seq (.seq (.ops [
  ⟨(some 37), .p (.fieldAddr 1 none (.s 1)), none, 0⟩,
  ⟨(some 38), .m (.load none (.s 37)), none, 0⟩,
  ⟨(some 39), .p (.len false (.s 38)), none, 40⟩,
  ⟨(some 40), .p (.mov (.c (.v (.int .i64 0)))), none, 0⟩]) c54_26) c54_30)
def c54_32 : ACode := (.seq (.ops [
  ⟨(some 34), .p (.mov (.s 3)), none, 0⟩,
  ⟨(some 35), .p (.len false (.s 34)), none, 3⟩,
  ⟨(some 36), .m (.mkSlice 1 8 [(.v (.int .i64 0))] (.s 35) (.s 35)), none, 3⟩,
  ⟨(some 8), .p (.mov (.s 36)), none, 0⟩]) c54_31)
def c54_33 : ACode := (.block 3 (.seq (.ops [
  ⟨(some 33), .m (.ext (.map (.mk))), none, 589827⟩,
  ⟨(some 7), .p (.mov (.s 33)), none, 0⟩]) c54_32))
def c54_34 : ACode := (.block 2 (.loop c54_33))
def c54_35 : ACode := (.seq (.ops [
  ⟨(some 6), .p (.mov (.c (.v (.int .i64 0)))), none, 0⟩]) c54_34)
def c54_36 : ACode := (.seq (.seq (.ops [
  ⟨(some 20), .p (.fieldAddr 2 none (.s 1)), none, 0⟩,
  ⟨(some 21), .m (.load none (.s 20)), none, 0⟩,
  ⟨(some 22), .p (.len false (.s 21)), none, 4⟩,
  ⟨(some 23), .p (.mov (.c (.v (.int .i64 0)))), none, 0⟩]) c54_6) c54_35)
def c54_37 : ACode := (.seq (.ops [
  ⟨(some 16), .p (.fieldAddr 1 none (.s 1)), none, 0⟩,
  ⟨(some 17), .m (.load none (.s 16)), none, 0⟩,
  ⟨(some 18), .p (.len false (.s 17)), none, 40⟩,
  ⟨(some 19), .m (.mkSlice 1 8 [(.v (.int .i64 0))] (.s 18) (.s 18)), none, 3⟩,
  ⟨(some 3), .p (.mov (.s 19)), none, 0⟩]) c54_36)
def c54 : ACode := (.seq (.ops [
  ⟨(some 1), .m (.box (.s 0)), none, 0⟩,
  ⟨(some 2), .p (.mov (.c (.v (.slice none 0 0)))), none, 0⟩]) c54_37)
theorem t54 : trC Tryd.prog Tryd.f54.ntmps (bodyOf Tryd.f54) = some c54 := by kernel_rfl
theorem r54 : Tryd.f54.results.toList.mapM (trR Tryd.prog) = some [.tmp 2] := by kernel_rfl
def i54 : FI := ⟨91, c54, [.tmp 2]⟩
theorem k54 : Knows Tryd.prog 54 i54 := ⟨Tryd.f54, bodyOf Tryd.f54, Tryd.func54, by kernel_rfl, by kernel_rfl, t54, r54, by kernel_rfl⟩
-- 55 drover/dfa.inTurn[int] []
def c55_0 : ACode := (.cond (.s 26) .skip (.exit 0))
def c55_1 : List AOper := [
  ⟨(some 15), .p (.mov (.s 43)), none, 0⟩]
def c55_2 : ACode := (.cond (.s 54) (.seq (.ops [
  ⟨(some 6), .p (.mov (.c (.v (.slice none 0 0)))), none, 0⟩,
  ⟨(some 7), .p (.mov (.c (.v (.slice none 0 0)))), none, 0⟩,
  ⟨(some 8), .p (.mov (.c (.v (.bool false)))), none, 0⟩]) .ret) .skip)
def c55_3 : ACode := (.ops [
  ⟨(some 60), .p (.mov (.s 9)), none, 0⟩,
  ⟨(some 61), .p (.mov (.s 15)), none, 0⟩,
  ⟨(some 62), .m (.buildSlice 1 1 [(.v (.int .i64 0))] [(0, 1, (.s 61))]), none, 3⟩,
  ⟨(some 63), .m (.append 1 8 (.s 60) (.s 62)), none, 3⟩,
  ⟨(some 9), .p (.mov (.s 63)), none, 0⟩])
def c55_4 : ACode := (.seq (.ops [
  ⟨(some 57), .p (.mov (.s 10)), none, 0⟩,
  ⟨(some 58), .p (.mov (.s 15)), none, 0⟩,
  ⟨(some 59), .p (.mov (.s 16)), none, 0⟩,
  ⟨none, .m (.ext (.map (.upd [(.int .i64)] false (.s 57) (.s 58) (.s 59)))), none, 0⟩]) c55_3)
def c55_5 : ACode := (.seq (.ops [
  ⟨(some 55), .p (.mov (.s 9)), none, 0⟩,
  ⟨(some 56), .p (.len false (.s 55)), none, 3⟩,
  ⟨(some 16), .p (.mov (.s 56)), none, 0⟩]) c55_4)
def c55_6 : ACode := (.cond (.s 51) (.seq (.seq (.ops [
  ⟨(some 52), .p (.mov (.s 9)), none, 0⟩,
  ⟨(some 53), .p (.len false (.s 52)), none, 3⟩,
  ⟨(some 54), .p (.bin .eql (.s 53) (.c (.v (.int .i64 256)))), none, 0⟩]) c55_2) c55_5) .skip)
def c55_7 : ACode := (.ops [
  ⟨(some 64), .p (.mov (.s 13)), none, 0⟩,
  ⟨(some 65), .p (.mov (.s 14)), none, 0⟩,
  ⟨(some 66), .p (.mov (.s 16)), none, 0⟩,
  ⟨(some 67), .p (.adrSl 1 (.s 64) (.s 65)), none, 0⟩,
  ⟨none, .m (.store none (.s 67) (.s 66)), none, 0⟩])
def c55_8 : ACode := (.seq (.seq (.ops [
  ⟨(some 50), .p (.mov (.s 17)), none, 0⟩,
  ⟨(some 51), .p (.un .not (.s 50)), none, 0⟩]) c55_6) c55_7)
def c55_9 : ACode := (.seq (.ops [
  ⟨(some 45), .p (.mov (.s 10)), none, 0⟩,
  ⟨(some 46), .p (.mov (.s 15)), none, 0⟩,
  ⟨(some 47), .m (.ext (.map (.look [(.int .i64)] false true (.v (.int .i64 0)) (.s 45) (.s 46)))), none, 0⟩,
  ⟨(some 44), .p (.mov (.s 47)), none, 0⟩,
  ⟨(some 48), .p (.extract (.s 44) 0), none, 0⟩,
  ⟨(some 49), .p (.extract (.s 44) 1), none, 0⟩,
  ⟨(some 16), .p (.mov (.s 48)), none, 0⟩,
  ⟨(some 17), .p (.mov (.s 49)), none, 0⟩]) c55_8)
def c55_10 : ACode := (.seq (.ops (⟨(some 36), .p (.mov (.s 2)), none, 0⟩ ::
  ⟨(some 37), .p (.mov (.s 9)), none, 0⟩ ::
  ⟨(some 38), .p (.mov (.s 12)), none, 0⟩ ::
  ⟨(some 39), .p (.adrSl 1 (.s 37) (.s 38)), none, 0⟩ ::
  ⟨(some 40), .m (.load none (.s 39)), none, 0⟩ ::
  ⟨(some 41), .p (.mov (.s 14)), none, 0⟩ ::
  ⟨(some 42), .p (.bin .add (.s 41) (.c (.v (.int .i64 1)))), none, 0⟩ ::
  ⟨(some 43), .call (.s 36) [(.s 40), (.s 42)], none, 0⟩ :: c55_1)) c55_9)
def c55_11 : ACode := (.ops [
  ⟨(some 68), .p (.bin .add (.s 33) (.c (.v (.int .i64 1)))), none, 0⟩,
  ⟨(some 33), .p (.mov (.s 68)), none, 0⟩])
def c55_12 : ACode := (.seq (.block 3 (.seq (.ops [
  ⟨(some 35), .p (.mov (.s 33)), none, 0⟩,
  ⟨(some 14), .p (.mov (.s 35)), none, 0⟩]) c55_10)) c55_11)
def c55_13 : ACode := (.seq (.cond (.s 34) .skip (.exit 2)) c55_12)
def c55_14 : ACode := (.seq (.ops [
  ⟨(some 34), .p (.bin .lss (.s 33) (.s 32)), none, 0⟩]) c55_13)
def c55_15 : ACode := (.block 2 (.loop c55_14))
def c55_16 : ACode := (.ops [
  ⟨(some 69), .p (.mov (.s 11)), none, 0⟩,
  ⟨(some 70), .p (.mov (.s 13)), none, 0⟩,
  ⟨(some 71), .m (.buildSlice 1 1 [(.v (.slice none 0 0))] [(0, 1, (.s 70))]), none, 40⟩,
  ⟨(some 72), .m (.append 1 24 (.s 69) (.s 71)), none, 40⟩,
  ⟨(some 11), .p (.mov (.s 72)), none, 0⟩])
def c55_17 : ACode := (.seq (.seq (.ops [
  ⟨(some 31), .p (.mov (.s 13)), none, 0⟩,
  ⟨(some 32), .p (.len false (.s 31)), none, 3⟩,
  ⟨(some 33), .p (.mov (.c (.v (.int .i64 0)))), none, 0⟩]) c55_15) c55_16)
def c55_18 : ACode := (.ops [
  ⟨(some 27), .p (.mov (.s 12)), none, 0⟩,
  ⟨(some 28), .p (.bin .add (.s 27) (.c (.v (.int .i64 1)))), none, 0⟩,
  ⟨(some 12), .p (.mov (.s 28)), none, 0⟩])
def c55_19 : ACode := (.seq (.block 1 (.seq (.ops [
  ⟨(some 29), .p (.mov (.s 1)), none, 0⟩,
  ⟨(some 30), .m (.mkSlice 1 8 [(.v (.int .i64 0))] (.s 29) (.s 29)), none, 3⟩,
  ⟨(some 13), .p (.mov (.s 30)), none, 0⟩]) c55_17)) c55_18)
def c55_20 : ACode := (.seq (.seq (.ops [
  ⟨(some 23), .p (.mov (.s 12)), none, 0⟩,
  ⟨(some 24), .p (.mov (.s 9)), none, 0⟩,
  ⟨(some 25), .p (.len false (.s 24)), none, 3⟩,
  ⟨(some 26), .p (.bin .lss (.s 23) (.s 25)), none, 0⟩]) c55_0) c55_19)
def c55_21 : ACode := (.block 0 (.loop c55_20))
def c55_22 : ACode := (.seq (.ops [
  ⟨(some 73), .p (.mov (.s 9)), none, 0⟩,
  ⟨(some 74), .p (.mov (.s 11)), none, 0⟩,
  ⟨(some 6), .p (.mov (.s 73)), none, 0⟩,
  ⟨(some 7), .p (.mov (.s 74)), none, 0⟩,
  ⟨(some 8), .p (.mov (.c (.v (.bool true)))), none, 0⟩]) .ret)
def c55_23 : ACode := (.seq (.seq (.ops [
  ⟨(some 12), .p (.mov (.c (.v (.int .i64 0)))), none, 0⟩]) c55_21) c55_22)
def c55_24 : ACode := (.seq (.ops [
  ⟨(some 11), .p (.mov (.c (.v (.slice none 0 0)))), none, 0⟩]) c55_23)
def c55_25 : ACode := (.seq (.ops [
  ⟨(some 20), .m (.ext (.map (.mk))), none, 196611⟩,
  ⟨(some 21), .p (.mov (.s 0)), none, 0⟩,
  ⟨none, .m (.ext (.map (.upd [(.int .i64)] false (.s 20) (.s 21) (.c (.v (.int .i64 0)))))), none, 0⟩,
  ⟨(some 22), .p (.mov (.s 20)), none, 0⟩,
  ⟨(some 10), .p (.mov (.s 22)), none, 0⟩]) c55_24)
def c55_26 : ACode := (.seq (.ops [
  ⟨(some 18), .p (.mov (.s 0)), none, 0⟩,
  ⟨(some 19), .m (.buildSlice 1 1 [(.v (.int .i64 0))] [(0, 1, (.s 18))]), none, 3⟩,
  ⟨(some 9), .p (.mov (.s 19)), none, 0⟩]) c55_25)
def c55 : ACode := (.seq (.ops [
  ⟨(some 6), .p (.mov (.c (.v (.slice none 0 0)))), none, 0⟩,
  ⟨(some 7), .p (.mov (.c (.v (.slice none 0 0)))), none, 0⟩,
  ⟨(some 8), .p (.mov (.c (.v (.bool false)))), none, 0⟩]) c55_26)
theorem t55 : trC Tryd.prog Tryd.f55.ntmps (bodyOf Tryd.f55) = some c55 := by kernel_rfl
theorem r55 : Tryd.f55.results.toList.mapM (trR Tryd.prog) = some [.tmp 6, .tmp 7, .tmp 8] := by kernel_rfl
def i55 : FI := ⟨75, c55, [.tmp 6, .tmp 7, .tmp 8]⟩
theorem k55 : Knows Tryd.prog 55 i55 := ⟨Tryd.f55, bodyOf Tryd.f55, Tryd.func55, by kernel_rfl, by kernel_rfl, t55, r55, by kernel_rfl⟩
-- 56 drover/dfa.Small$1 []
def c56_0 : ACode := (.seq (.draw [
  ⟨(some 8), .m (.load none (.s 2)), none, 0⟩,
  ⟨(some 9), .p (.fieldAddr 1 none (.s 3)), none, 0⟩,
  ⟨(some 10), .m (.load none (.s 9)), none, 0⟩,
  ⟨(some 11), .m (.load none (.s 4)), none, 0⟩,
  ⟨(some 12), .p (.mov (.s 0)), none, 0⟩,
  ⟨(some 13), .m (.ext (.map (.look [(.int .i64)] false false (.v (.int .i64 0)) (.s 11) (.s 12)))), none, 0⟩,
  ⟨(some 14), .p (.adrSl 1 (.s 10) (.s 13)), none, 0⟩,
  ⟨(some 15), .m (.load none (.s 14)), none, 0⟩,
  ⟨(some 16), .p (.mov (.s 1)), none, 0⟩,
  ⟨(some 17), .p (.bin .sub (.s 16) (.c (.v (.int .i64 1)))), none, 0⟩,
  ⟨(some 18), .p (.adrSl 1 (.s 15) (.s 17)), none, 0⟩,
  ⟨(some 19), .m (.load none (.s 18)), none, 0⟩,
  ⟨(some 20), .p (.adrSl 1 (.s 8) (.s 19)), none, 0⟩,
  ⟨(some 21), .m (.load none (.s 20)), none, 0⟩,
  ⟨(some 7), .p (.mov (.s 21)), none, 0⟩]) .ret)
def c56 : ACode := (.seq (.ops [
  ⟨(some 7), .p (.mov (.c (.v (.int .i64 0)))), none, 0⟩]) c56_0)
theorem t56 : trC Tryd.prog Tryd.f56.ntmps (bodyOf Tryd.f56) = some c56 := by kernel_rfl
theorem r56 : Tryd.f56.results.toList.mapM (trR Tryd.prog) = some [.tmp 7] := by kernel_rfl
def i56 : FI := ⟨22, c56, [.tmp 7]⟩
theorem k56 : Knows Tryd.prog 56 i56 := ⟨Tryd.f56, bodyOf Tryd.f56, Tryd.func56, by kernel_rfl, by kernel_rfl, t56, r56, by kernel_rfl⟩
-- 58 drover/dfa.together []
def c58_0 : List AOper := [
  ⟨(some 20), .p (.un .not (.s 19)), (some (17, false)), 0⟩,
  ⟨(some 21), .p (.pick (.s 17) (.c (.v (.bool true))) (.s 20)), none, 0⟩,
  ⟨(some 22), .p (.mov (.s 21)), none, 0⟩,
  ⟨(some 23), .p (.fieldAddr 0 none (.s 3)), (some (22, false)), 0⟩,
  ⟨(some 24), .m (.load none (.s 23)), (some (22, false)), 0⟩,
  ⟨(some 25), .p (.fieldAddr 0 none (.s 4)), (some (22, false)), 0⟩,
  ⟨(some 26), .m (.load none (.s 25)), (some (22, false)), 0⟩,
  ⟨(some 27), .p (.bin .neq (.s 24) (.s 26)), (some (22, false)), 0⟩,
  ⟨(some 28), .p (.pick (.s 22) (.c (.v (.bool true))) (.s 27)), none, 0⟩]
def c58_1 : List AOper := (⟨(some 16), .p (.un .not (.s 15)), none, 0⟩ ::
  ⟨(some 17), .p (.mov (.s 16)), none, 0⟩ ::
  ⟨(some 18), .m (.load (some 3) (.s 4)), (some (17, false)), 0⟩ ::
  ⟨(some 19), .call (.c (.fn 19 [])) [(.s 18)], (some (17, false)), 0⟩ :: c58_0)
def c58_2 : ACode := (.cond (.s 28) (.seq (.ops [
  ⟨(some 29), .p (.build [(.v (.int .i64 0)), (.v (.slice none 0 0)), (.v (.slice none 0 0))] []), none, 0⟩,
  ⟨none, .m (.store (some 3) (.s 6) (.s 29)), none, 0⟩,
  ⟨(some 7), .p (.mov (.c (.v (.int .i64 1)))), none, 0⟩]) .ret) .skip)
def c58_3 : List AOper := [
  ⟨(some 30), .p (.mov (.s 35)), none, 0⟩,
  ⟨(some 36), .p (.extract (.s 30) 0), none, 0⟩,
  ⟨(some 37), .p (.extract (.s 30) 1), none, 0⟩,
  ⟨(some 38), .p (.extract (.s 30) 2), none, 0⟩,
  ⟨(some 8), .p (.mov (.s 36)), none, 0⟩,
  ⟨(some 9), .p (.mov (.s 37)), none, 0⟩,
  ⟨(some 10), .p (.mov (.s 38)), none, 0⟩]
def c58_4 : ACode := (.cond (.s 40) (.seq (.ops [
  ⟨(some 41), .p (.build [(.v (.int .i64 0)), (.v (.slice none 0 0)), (.v (.slice none 0 0))] []), none, 0⟩,
  ⟨none, .m (.store (some 3) (.s 6) (.s 41)), none, 0⟩,
  ⟨(some 7), .p (.mov (.c (.v (.int .i64 44)))), none, 0⟩]) .ret) .skip)
def c58_5 : ACode := (.draw [
  ⟨(some 52), .p (.fieldAddr 2 none (.s 11)), none, 0⟩,
  ⟨(some 53), .m (.load none (.s 52)), none, 0⟩,
  ⟨(some 54), .p (.mov (.s 2)), none, 0⟩,
  ⟨(some 55), .m (.load (some 2) (.s 13)), none, 0⟩,
  ⟨(some 56), .qcall (.s 54) [(.s 55)], none, 0⟩,
  ⟨(some 57), .m (.buildSlice 1 1 [(.v (.bool false))] [(0, 1, (.s 56))]), none, 4⟩,
  ⟨(some 58), .m (.append 1 1 (.s 53) (.s 57)), none, 4⟩,
  ⟨(some 59), .p (.fieldAddr 2 none (.s 11)), none, 0⟩,
  ⟨none, .m (.store none (.s 59) (.s 58)), none, 0⟩])
def c58_6 : ACode := (.ops [
  ⟨(some 60), .p (.bin .add (.s 48) (.c (.v (.int .i64 1)))), none, 0⟩,
  ⟨(some 48), .p (.mov (.s 60)), none, 0⟩])
def c58_7 : ACode := (.seq (.block 1 (.seq (.ops [
  ⟨(some 50), .p (.adrSl 2 (.s 46) (.s 48)), none, 0⟩,
  ⟨(some 51), .m (.load (some 2) (.s 50)), none, 0⟩,
  ⟨(some 13), .m (.alloc [(.v (.int .i64 0)), (.v (.int .i64 0))]), none, 0⟩,
  ⟨none, .m (.store (some 2) (.s 13) (.s 51)), none, 0⟩]) c58_5)) c58_6)
def c58_8 : ACode := (.seq (.cond (.s 49) .skip (.exit 0)) c58_7)
def c58_9 : ACode := (.seq (.ops [
  ⟨(some 49), .p (.bin .lss (.s 48) (.s 47)), none, 0⟩]) c58_8)
def c58_10 : ACode := (.block 0 (.loop c58_9))
def c58_11 : List AOper := [
  ⟨none, .m (.store (some 3) (.s 6) (.s 62)), none, 0⟩,
  ⟨(some 7), .p (.mov (.c (.v (.int .i64 0)))), none, 0⟩]
def c58_12 : ACode := (.seq (.ops (⟨(some 61), .m (.load (some 3) (.s 11)), none, 0⟩ ::
  ⟨(some 62), .call (.c (.fn 28 [])) [(.s 61)], none, 0⟩ :: c58_11)) .ret)
def c58_13 : ACode := (.seq (.seq (.ops [
  ⟨(some 46), .p (.mov (.s 8)), none, 0⟩,
  ⟨(some 47), .p (.len false (.s 46)), none, 93⟩,
  ⟨(some 48), .p (.mov (.c (.v (.int .i64 0)))), none, 0⟩]) c58_10) c58_12)
def c58_14 : ACode := (.seq (.ops [
  ⟨(some 42), .p (.fieldAddr 0 none (.s 3)), none, 0⟩,
  ⟨(some 43), .m (.load none (.s 42)), none, 0⟩,
  ⟨(some 44), .p (.mov (.s 9)), none, 0⟩,
  ⟨(some 45), .p (.build [(.v (.int .i64 0)), (.v (.slice none 0 0)), (.v (.slice none 0 0))] [(0, 1, (.s 43)), (1, 1, (.s 44))]), none, 0⟩,
  ⟨(some 11), .m (.alloc [(.v (.int .i64 0)), (.v (.slice none 0 0)), (.v (.slice none 0 0))]), none, 40⟩,
  ⟨none, .m (.store (some 3) (.s 11) (.s 45)), none, 0⟩]) c58_13)
def c58_15 : ACode := (.seq (.seq (.ops [
  ⟨(some 39), .p (.mov (.s 10)), none, 0⟩,
  ⟨(some 40), .p (.un .not (.s 39)), none, 0⟩]) c58_4) c58_14)
def c58_16 : ACode := (.seq (.ops (⟨(some 31), .p (.build [(.v (.int .i64 0)), (.v (.int .i64 0))] []), none, 0⟩ ::
  ⟨(some 32), .p (.fieldAddr 0 none (.s 3)), none, 0⟩ ::
  ⟨(some 33), .m (.load none (.s 32)), none, 0⟩ ::
  ⟨(some 34), .p (.mkFn 72 [(.s 3), (.s 4)]), none, 0⟩ ::
  ⟨(some 35), .call (.c (.fn 71 [])) [(.s 31), (.s 33), (.s 34)], none, 0⟩ :: c58_3)) c58_15)
def c58_17 : ACode := (.seq (.seq (.ops (⟨(some 14), .m (.load (some 3) (.s 3)), none, 0⟩ ::
  ⟨(some 15), .call (.c (.fn 19 [])) [(.s 14)], none, 0⟩ :: c58_1)) c58_2) c58_16)
def c58 : ACode := (.seq (.ops [
  ⟨(some 3), .m (.box (.s 0)), none, 0⟩,
  ⟨(some 4), .m (.box (.s 1)), none, 0⟩,
  ⟨(some 6), .m (.alloc [(.v (.int .i64 0)), (.v (.slice none 0 0)), (.v (.slice none 0 0))]), none, 40⟩,
  ⟨(some 7), .p (.mov (.c (.v (.int .i64 0)))), none, 0⟩]) c58_17)
theorem t58 : trC Tryd.prog Tryd.f58.ntmps (bodyOf Tryd.f58) = some c58 := by kernel_rfl
theorem r58 : Tryd.f58.results.toList.mapM (trR Tryd.prog) = some [.cell 6 (some 3), .tmp 7] := by kernel_rfl
def i58 : FI := ⟨63, c58, [.cell 6 (some 3), .tmp 7]⟩
theorem k58 : Knows Tryd.prog 58 i58 := ⟨Tryd.f58, bodyOf Tryd.f58, Tryd.func58, by kernel_rfl, by kernel_rfl, t58, r58, by kernel_rfl⟩
-- 59 drover/dfa.Both$1 []
def c59_0 : ACode := (.seq (.ops [
  ⟨(some 5), .p (.fieldAddr 2 none (.s 1)), none, 0⟩,
  ⟨(some 6), .m (.load none (.s 5)), none, 0⟩,
  ⟨(some 7), .p (.fieldAddr 0 none (.s 3)), none, 0⟩,
  ⟨(some 8), .m (.load none (.s 7)), none, 0⟩,
  ⟨(some 9), .p (.adrSl 1 (.s 6) (.s 8)), none, 0⟩,
  ⟨(some 10), .m (.load none (.s 9)), none, 0⟩,
  ⟨(some 11), .p (.mov (.s 10)), none, 0⟩,
  ⟨(some 12), .p (.fieldAddr 2 none (.s 2)), (some (11, true)), 0⟩,
  ⟨(some 13), .m (.load none (.s 12)), (some (11, true)), 0⟩,
  ⟨(some 14), .p (.fieldAddr 1 none (.s 3)), (some (11, true)), 0⟩,
  ⟨(some 15), .m (.load none (.s 14)), (some (11, true)), 0⟩,
  ⟨(some 16), .p (.adrSl 1 (.s 13) (.s 15)), (some (11, true)), 0⟩,
  ⟨(some 17), .m (.load none (.s 16)), (some (11, true)), 0⟩,
  ⟨(some 18), .p (.pick (.s 11) (.s 17) (.c (.v (.bool false)))), none, 0⟩,
  ⟨(some 4), .p (.mov (.s 18)), none, 0⟩]) .ret)
def c59 : ACode := (.seq (.ops [
  ⟨(some 3), .m (.box (.s 0)), none, 0⟩,
  ⟨(some 4), .p (.mov (.c (.v (.bool false)))), none, 0⟩]) c59_0)
theorem t59 : trC Tryd.prog Tryd.f59.ntmps (bodyOf Tryd.f59) = some c59 := by kernel_rfl
theorem r59 : Tryd.f59.results.toList.mapM (trR Tryd.prog) = some [.tmp 4] := by kernel_rfl
def i59 : FI := ⟨19, c59, [.tmp 4]⟩
theorem k59 : Knows Tryd.prog 59 i59 := ⟨Tryd.f59, bodyOf Tryd.f59, Tryd.func59, by kernel_rfl, by kernel_rfl, t59, r59, by kernel_rfl⟩
-- 60 drover/dfa.Less$1 []
def c60_0 : ACode := (.seq (.ops [
  ⟨(some 5), .p (.fieldAddr 2 none (.s 1)), none, 0⟩,
  ⟨(some 6), .m (.load none (.s 5)), none, 0⟩,
  ⟨(some 7), .p (.fieldAddr 0 none (.s 3)), none, 0⟩,
  ⟨(some 8), .m (.load none (.s 7)), none, 0⟩,
  ⟨(some 9), .p (.adrSl 1 (.s 6) (.s 8)), none, 0⟩,
  ⟨(some 10), .m (.load none (.s 9)), none, 0⟩,
  ⟨(some 11), .p (.mov (.s 10)), none, 0⟩,
  ⟨(some 12), .p (.fieldAddr 2 none (.s 2)), (some (11, true)), 0⟩,
  ⟨(some 13), .m (.load none (.s 12)), (some (11, true)), 0⟩,
  ⟨(some 14), .p (.fieldAddr 1 none (.s 3)), (some (11, true)), 0⟩,
  ⟨(some 15), .m (.load none (.s 14)), (some (11, true)), 0⟩,
  ⟨(some 16), .p (.adrSl 1 (.s 13) (.s 15)), (some (11, true)), 0⟩,
  ⟨(some 17), .m (.load none (.s 16)), (some (11, true)), 0⟩,
  ⟨(some 18), .p (.un .not (.s 17)), (some (11, true)), 0⟩,
  ⟨(some 19), .p (.pick (.s 11) (.s 18) (.c (.v (.bool false)))), none, 0⟩,
  ⟨(some 4), .p (.mov (.s 19)), none, 0⟩]) .ret)
def c60 : ACode := (.seq (.ops [
  ⟨(some 3), .m (.box (.s 0)), none, 0⟩,
  ⟨(some 4), .p (.mov (.c (.v (.bool false)))), none, 0⟩]) c60_0)
theorem t60 : trC Tryd.prog Tryd.f60.ntmps (bodyOf Tryd.f60) = some c60 := by kernel_rfl
theorem r60 : Tryd.f60.results.toList.mapM (trR Tryd.prog) = some [.tmp 4] := by kernel_rfl
def i60 : FI := ⟨20, c60, [.tmp 4]⟩
theorem k60 : Knows Tryd.prog 60 i60 := ⟨Tryd.f60, bodyOf Tryd.f60, Tryd.func60, by kernel_rfl, by kernel_rfl, t60, r60, by kernel_rfl⟩
-- 71 drover/dfa.inTurn[drover/dfa.pair] []
def c71_0 : ACode := (.cond (.s 26) .skip (.exit 0))
def c71_1 : List AOper := [
  ⟨(some 15), .m (.alloc [(.v (.int .i64 0)), (.v (.int .i64 0))]), none, 0⟩,
  ⟨none, .m (.store (some 2) (.s 15) (.s 43)), none, 0⟩]
def c71_2 : ACode := (.cond (.s 54) (.seq (.ops [
  ⟨(some 6), .p (.mov (.c (.v (.slice none 0 0)))), none, 0⟩,
  ⟨(some 7), .p (.mov (.c (.v (.slice none 0 0)))), none, 0⟩,
  ⟨(some 8), .p (.mov (.c (.v (.bool false)))), none, 0⟩]) .ret) .skip)
def c71_3 : ACode := (.ops [
  ⟨(some 60), .p (.mov (.s 9)), none, 0⟩,
  ⟨(some 61), .m (.load (some 2) (.s 15)), none, 0⟩,
  ⟨(some 62), .m (.buildSlice 2 1 [(.v (.int .i64 0)), (.v (.int .i64 0))] [(0, 2, (.s 61))]), none, 93⟩,
  ⟨(some 63), .m (.append 2 16 (.s 60) (.s 62)), none, 93⟩,
  ⟨(some 9), .p (.mov (.s 63)), none, 0⟩])
def c71_4 : ACode := (.seq (.ops [
  ⟨(some 57), .p (.mov (.s 10)), none, 0⟩,
  ⟨(some 58), .m (.load (some 2) (.s 15)), none, 0⟩,
  ⟨(some 59), .p (.mov (.s 16)), none, 0⟩,
  ⟨none, .m (.ext (.map (.upd [(.int .i64), (.int .i64)] true (.s 57) (.s 58) (.s 59)))), none, 0⟩]) c71_3)
def c71_5 : ACode := (.seq (.ops [
  ⟨(some 55), .p (.mov (.s 9)), none, 0⟩,
  ⟨(some 56), .p (.len false (.s 55)), none, 93⟩,
  ⟨(some 16), .p (.mov (.s 56)), none, 0⟩]) c71_4)
def c71_6 : ACode := (.cond (.s 51) (.seq (.seq (.ops [
  ⟨(some 52), .p (.mov (.s 9)), none, 0⟩,
  ⟨(some 53), .p (.len false (.s 52)), none, 93⟩,
  ⟨(some 54), .p (.bin .eql (.s 53) (.c (.v (.int .i64 256)))), none, 0⟩]) c71_2) c71_5) .skip)
def c71_7 : ACode := (.ops [
  ⟨(some 64), .p (.mov (.s 13)), none, 0⟩,
  ⟨(some 65), .p (.mov (.s 14)), none, 0⟩,
  ⟨(some 66), .p (.mov (.s 16)), none, 0⟩,
  ⟨(some 67), .p (.adrSl 1 (.s 64) (.s 65)), none, 0⟩,
  ⟨none, .m (.store none (.s 67) (.s 66)), none, 0⟩])
def c71_8 : ACode := (.seq (.seq (.ops [
  ⟨(some 50), .p (.mov (.s 17)), none, 0⟩,
  ⟨(some 51), .p (.un .not (.s 50)), none, 0⟩]) c71_6) c71_7)
def c71_9 : ACode := (.seq (.ops [
  ⟨(some 45), .p (.mov (.s 10)), none, 0⟩,
  ⟨(some 46), .m (.load (some 2) (.s 15)), none, 0⟩,
  ⟨(some 47), .m (.ext (.map (.look [(.int .i64), (.int .i64)] true true (.v (.int .i64 0)) (.s 45) (.s 46)))), none, 0⟩,
  ⟨(some 44), .p (.mov (.s 47)), none, 0⟩,
  ⟨(some 48), .p (.extract (.s 44) 0), none, 0⟩,
  ⟨(some 49), .p (.extract (.s 44) 1), none, 0⟩,
  ⟨(some 16), .p (.mov (.s 48)), none, 0⟩,
  ⟨(some 17), .p (.mov (.s 49)), none, 0⟩]) c71_8)
def c71_10 : ACode := (.seq (.ops (⟨(some 36), .p (.mov (.s 2)), none, 0⟩ ::
  ⟨(some 37), .p (.mov (.s 9)), none, 0⟩ ::
  ⟨(some 38), .p (.mov (.s 12)), none, 0⟩ ::
  ⟨(some 39), .p (.adrSl 2 (.s 37) (.s 38)), none, 0⟩ ::
  ⟨(some 40), .m (.load (some 2) (.s 39)), none, 0⟩ ::
  ⟨(some 41), .p (.mov (.s 14)), none, 0⟩ ::
  ⟨(some 42), .p (.bin .add (.s 41) (.c (.v (.int .i64 1)))), none, 0⟩ ::
  ⟨(some 43), .call (.s 36) [(.s 40), (.s 42)], none, 0⟩ :: c71_1)) c71_9)
def c71_11 : ACode := (.ops [
  ⟨(some 68), .p (.bin .add (.s 33) (.c (.v (.int .i64 1)))), none, 0⟩,
  ⟨(some 33), .p (.mov (.s 68)), none, 0⟩])
def c71_12 : ACode := (.seq (.block 3 (.seq (.ops [
  ⟨(some 35), .p (.mov (.s 33)), none, 0⟩,
  ⟨(some 14), .p (.mov (.s 35)), none, 0⟩]) c71_10)) c71_11)
def c71_13 : ACode := (.seq (.cond (.s 34) .skip (.exit 2)) c71_12)
def c71_14 : ACode := (.seq (.ops [
  ⟨(some 34), .p (.bin .lss (.s 33) (.s 32)), none, 0⟩]) c71_13)
def c71_15 : ACode := (.block 2 (.loop c71_14))
def c71_16 : ACode := (.ops [
  ⟨(some 69), .p (.mov (.s 11)), none, 0⟩,
  ⟨(some 70), .p (.mov (.s 13)), none, 0⟩,
  ⟨(some 71), .m (.buildSlice 1 1 [(.v (.slice none 0 0))] [(0, 1, (.s 70))]), none, 40⟩,
  ⟨(some 72), .m (.append 1 24 (.s 69) (.s 71)), none, 40⟩,
  ⟨(some 11), .p (.mov (.s 72)), none, 0⟩])
def c71_17 : ACode := (.seq (.seq (.ops [
  ⟨(some 31), .p (.mov (.s 13)), none, 0⟩,
  ⟨(some 32), .p (.len false (.s 31)), none, 3⟩,
  ⟨(some 33), .p (.mov (.c (.v (.int .i64 0)))), none, 0⟩]) c71_15) c71_16)
def c71_18 : ACode := (.ops [
  ⟨(some 27), .p (.mov (.s 12)), none, 0⟩,
  ⟨(some 28), .p (.bin .add (.s 27) (.c (.v (.int .i64 1)))), none, 0⟩,
  ⟨(some 12), .p (.mov (.s 28)), none, 0⟩])
def c71_19 : ACode := (.seq (.block 1 (.seq (.ops [
  ⟨(some 29), .p (.mov (.s 1)), none, 0⟩,
  ⟨(some 30), .m (.mkSlice 1 8 [(.v (.int .i64 0))] (.s 29) (.s 29)), none, 3⟩,
  ⟨(some 13), .p (.mov (.s 30)), none, 0⟩]) c71_17)) c71_18)
def c71_20 : ACode := (.seq (.seq (.ops [
  ⟨(some 23), .p (.mov (.s 12)), none, 0⟩,
  ⟨(some 24), .p (.mov (.s 9)), none, 0⟩,
  ⟨(some 25), .p (.len false (.s 24)), none, 93⟩,
  ⟨(some 26), .p (.bin .lss (.s 23) (.s 25)), none, 0⟩]) c71_0) c71_19)
def c71_21 : ACode := (.block 0 (.loop c71_20))
def c71_22 : ACode := (.seq (.ops [
  ⟨(some 73), .p (.mov (.s 9)), none, 0⟩,
  ⟨(some 74), .p (.mov (.s 11)), none, 0⟩,
  ⟨(some 6), .p (.mov (.s 73)), none, 0⟩,
  ⟨(some 7), .p (.mov (.s 74)), none, 0⟩,
  ⟨(some 8), .p (.mov (.c (.v (.bool true)))), none, 0⟩]) .ret)
def c71_23 : ACode := (.seq (.seq (.ops [
  ⟨(some 12), .p (.mov (.c (.v (.int .i64 0)))), none, 0⟩]) c71_21) c71_22)
def c71_24 : ACode := (.seq (.ops [
  ⟨(some 11), .p (.mov (.c (.v (.slice none 0 0)))), none, 0⟩]) c71_23)
def c71_25 : ACode := (.seq (.ops [
  ⟨(some 20), .m (.ext (.map (.mk))), none, 6094851⟩,
  ⟨(some 21), .m (.load (some 2) (.s 3)), none, 0⟩,
  ⟨none, .m (.ext (.map (.upd [(.int .i64), (.int .i64)] true (.s 20) (.s 21) (.c (.v (.int .i64 0)))))), none, 0⟩,
  ⟨(some 22), .p (.mov (.s 20)), none, 0⟩,
  ⟨(some 10), .p (.mov (.s 22)), none, 0⟩]) c71_24)
def c71_26 : ACode := (.seq (.ops [
  ⟨(some 18), .m (.load (some 2) (.s 3)), none, 0⟩,
  ⟨(some 19), .m (.buildSlice 2 1 [(.v (.int .i64 0)), (.v (.int .i64 0))] [(0, 2, (.s 18))]), none, 93⟩,
  ⟨(some 9), .p (.mov (.s 19)), none, 0⟩]) c71_25)
def c71 : ACode := (.seq (.ops [
  ⟨(some 3), .m (.box (.s 0)), none, 0⟩,
  ⟨(some 6), .p (.mov (.c (.v (.slice none 0 0)))), none, 0⟩,
  ⟨(some 7), .p (.mov (.c (.v (.slice none 0 0)))), none, 0⟩,
  ⟨(some 8), .p (.mov (.c (.v (.bool false)))), none, 0⟩]) c71_26)
theorem t71 : trC Tryd.prog Tryd.f71.ntmps (bodyOf Tryd.f71) = some c71 := by kernel_rfl
theorem r71 : Tryd.f71.results.toList.mapM (trR Tryd.prog) = some [.tmp 6, .tmp 7, .tmp 8] := by kernel_rfl
def i71 : FI := ⟨75, c71, [.tmp 6, .tmp 7, .tmp 8]⟩
theorem k71 : Knows Tryd.prog 71 i71 := ⟨Tryd.f71, bodyOf Tryd.f71, Tryd.func71, by kernel_rfl, by kernel_rfl, t71, r71, by kernel_rfl⟩
-- 72 drover/dfa.together$1 []
def c72_0 : ACode := (.seq (.draw [
  ⟨(some 7), .p (.fieldAddr 1 none (.s 2)), none, 0⟩,
  ⟨(some 8), .m (.load none (.s 7)), none, 0⟩,
  ⟨(some 9), .p (.fieldAddr 0 none (.s 4)), none, 0⟩,
  ⟨(some 10), .m (.load none (.s 9)), none, 0⟩,
  ⟨(some 11), .p (.adrSl 1 (.s 8) (.s 10)), none, 0⟩,
  ⟨(some 12), .m (.load none (.s 11)), none, 0⟩,
  ⟨(some 13), .p (.mov (.s 1)), none, 0⟩,
  ⟨(some 14), .p (.bin .sub (.s 13) (.c (.v (.int .i64 1)))), none, 0⟩,
  ⟨(some 15), .p (.adrSl 1 (.s 12) (.s 14)), none, 0⟩,
  ⟨(some 16), .m (.load none (.s 15)), none, 0⟩,
  ⟨(some 17), .p (.fieldAddr 1 none (.s 3)), none, 0⟩,
  ⟨(some 18), .m (.load none (.s 17)), none, 0⟩,
  ⟨(some 19), .p (.fieldAddr 1 none (.s 4)), none, 0⟩,
  ⟨(some 20), .m (.load none (.s 19)), none, 0⟩,
  ⟨(some 21), .p (.adrSl 1 (.s 18) (.s 20)), none, 0⟩,
  ⟨(some 22), .m (.load none (.s 21)), none, 0⟩,
  ⟨(some 23), .p (.mov (.s 1)), none, 0⟩,
  ⟨(some 24), .p (.bin .sub (.s 23) (.c (.v (.int .i64 1)))), none, 0⟩,
  ⟨(some 25), .p (.adrSl 1 (.s 22) (.s 24)), none, 0⟩,
  ⟨(some 26), .m (.load none (.s 25)), none, 0⟩,
  ⟨(some 27), .p (.build [(.v (.int .i64 0)), (.v (.int .i64 0))] [(0, 1, (.s 16)), (1, 1, (.s 26))]), none, 0⟩,
  ⟨none, .m (.store (some 2) (.s 6) (.s 27)), none, 0⟩]) .ret)
def c72 : ACode := (.seq (.ops [
  ⟨(some 4), .m (.box (.s 0)), none, 0⟩,
  ⟨(some 6), .m (.alloc [(.v (.int .i64 0)), (.v (.int .i64 0))]), none, 0⟩]) c72_0)
theorem t72 : trC Tryd.prog Tryd.f72.ntmps (bodyOf Tryd.f72) = some c72 := by kernel_rfl
theorem r72 : Tryd.f72.results.toList.mapM (trR Tryd.prog) = some [.cell 6 (some 2)] := by kernel_rfl
def i72 : FI := ⟨28, c72, [.cell 6 (some 2)]⟩
theorem k72 : Knows Tryd.prog 72 i72 := ⟨Tryd.f72, bodyOf Tryd.f72, Tryd.func72, by kernel_rfl, by kernel_rfl, t72, r72, by kernel_rfl⟩
end Go.Proofs.Dfa
