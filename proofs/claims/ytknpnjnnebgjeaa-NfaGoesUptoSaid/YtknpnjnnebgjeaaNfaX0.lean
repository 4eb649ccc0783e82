/- A part of a law's proof: NfaX0. -/
import Derived.KernelRfl
import Derived.Test.YtknpnjnnebgjeaaProg
import Derived.Test.YtknpnjnnebgjeaaSvCod
set_option linter.unusedSimpArgs false
set_option linter.constructorNameAsVariable false
namespace Go.Proofs.Nfa
open Go Go.Ab Go.Proofs
set_option linter.unusedVariables false
noncomputable abbrev PG : Program := Try.prog
def bodyOf (fn : Func) : Code := fn.body.getD .skip
-- 3 drover/droverlaw18.NfaSteps []
def c3_0 : List AOper := [
  ⟨(some 7), .p (.mov (.s 11)), none, 0⟩]
def c3_1 : ACode := (.seq (.draw [
  ⟨(some 12), .m (.load (some 1) (.s 3)), none, 0⟩,
  ⟨(some 13), .qcall (.c (.fn 7 [])) [(.s 12)], none, 0⟩,
  ⟨(some 14), .m (.load (some 1) (.s 3)), none, 0⟩,
  ⟨(some 15), .call (.c (.fn 8 [])) [(.s 14)], none, 0⟩,
  ⟨(some 16), .p (.eqa false [.bool] false (.s 13) (.s 15)), none, 0⟩,
  ⟨(some 17), .p (.mov (.s 16)), none, 0⟩,
  ⟨(some 18), .p (.mov (.s 7)), (some (17, true)), 0⟩,
  ⟨(some 19), .m (.load (some 1) (.s 3)), (some (17, true)), 0⟩,
  ⟨(some 20), .p (.mov (.s 1)), (some (17, true)), 0⟩,
  ⟨(some 21), .p (.mov (.s 2)), (some (17, true)), 0⟩,
  ⟨(some 22), .call (.c (.fn 10 [])) [(.s 19), (.s 20), (.s 21)], (some (17, true)), 0⟩,
  ⟨(some 23), .call (.c (.fn 9 [])) [(.s 18), (.s 22)], (some (17, true)), 3⟩,
  ⟨(some 24), .p (.pick (.s 17) (.s 23) (.c (.v (.bool false)))), none, 0⟩,
  ⟨(some 25), .p (.mov (.s 24)), none, 0⟩,
  ⟨(some 26), .m (.load (some 1) (.s 3)), (some (25, true)), 0⟩,
  ⟨(some 27), .p (.mov (.s 1)), (some (25, true)), 0⟩,
  ⟨(some 28), .qcall (.c (.fn 11 [])) [(.s 26), (.s 27)], (some (25, true)), 0⟩,
  ⟨(some 29), .m (.load (some 1) (.s 3)), (some (25, true)), 0⟩,
  ⟨(some 30), .p (.mov (.s 1)), (some (25, true)), 0⟩,
  ⟨(some 31), .call (.c (.fn 12 [])) [(.s 29), (.s 30)], (some (25, true)), 0⟩,
  ⟨(some 32), .p (.eqa false [.bool] false (.s 28) (.s 31)), (some (25, true)), 0⟩,
  ⟨(some 33), .p (.pick (.s 25) (.s 32) (.c (.v (.bool false)))), none, 0⟩,
  ⟨(some 34), .p (.mov (.s 33)), none, 0⟩,
  ⟨(some 35), .call (.c (.fn 13 [])) [], (some (34, true)), 0⟩,
  ⟨(some 36), .p (.pick (.s 34) (.s 35) (.c (.v (.bool false)))), none, 0⟩,
  ⟨(some 6), .p (.mov (.s 36)), none, 0⟩]) .ret)
def c3_2 : ACode := (.seq (.ops (⟨(some 8), .m (.load (some 1) (.s 3)), none, 0⟩ ::
  ⟨(some 9), .p (.mov (.s 1)), none, 0⟩ ::
  ⟨(some 10), .p (.mov (.s 2)), none, 0⟩ ::
  ⟨(some 11), .call (.c (.fn 6 [])) [(.s 8), (.s 9), (.s 10)], none, 0⟩ :: c3_0)) c3_1)
def c3 : ACode := (.seq (.ops [
  ⟨(some 3), .m (.box (.s 0)), none, 0⟩,
  ⟨(some 6), .p (.mov (.c (.v (.bool false)))), none, 0⟩]) c3_2)
theorem t3 : trC Try.prog Try.f3.ntmps (bodyOf Try.f3) = some c3 := by kernel_rfl
theorem r3 : Try.f3.results.toList.mapM (trR Try.prog) = some [.tmp 6] := by kernel_rfl
def i3 : FI := ⟨37, c3, [.tmp 6]⟩
theorem k3 : Knows Try.prog 3 i3 := ⟨Try.f3, bodyOf Try.f3, Try.func3, by kernel_rfl, by kernel_rfl, t3, r3, by kernel_rfl⟩
-- 4 drover/droverlaw18.NfaRuns []
def c4_0 : ACode := (.seq (.draw [
  ⟨(some 5), .m (.load (some 1) (.s 2)), none, 0⟩,
  ⟨(some 6), .p (.mov (.s 1)), none, 0⟩,
  ⟨(some 7), .qcall (.c (.fn 14 [])) [(.s 5), (.s 6)], none, 0⟩,
  ⟨(some 8), .m (.load (some 1) (.s 2)), none, 0⟩,
  ⟨(some 9), .p (.mov (.s 1)), none, 0⟩,
  ⟨(some 10), .call (.c (.fn 15 [])) [(.s 8), (.s 9)], none, 0⟩,
  ⟨(some 11), .p (.eqa false [.bool] false (.s 7) (.s 10)), none, 0⟩,
  ⟨(some 12), .p (.mov (.s 11)), none, 0⟩,
  ⟨(some 13), .call (.c (.fn 13 [])) [], (some (12, true)), 0⟩,
  ⟨(some 14), .p (.pick (.s 12) (.s 13) (.c (.v (.bool false)))), none, 0⟩,
  ⟨(some 4), .p (.mov (.s 14)), none, 0⟩]) .ret)
def c4 : ACode := (.seq (.ops [
  ⟨(some 2), .m (.box (.s 0)), none, 0⟩,
  ⟨(some 4), .p (.mov (.c (.v (.bool false)))), none, 0⟩]) c4_0)
theorem t4 : trC Try.prog Try.f4.ntmps (bodyOf Try.f4) = some c4 := by kernel_rfl
theorem r4 : Try.f4.results.toList.mapM (trR Try.prog) = some [.tmp 4] := by kernel_rfl
def i4 : FI := ⟨15, c4, [.tmp 4]⟩
theorem k4 : Knows Try.prog 4 i4 := ⟨Try.f4, bodyOf Try.f4, Try.func4, by kernel_rfl, by kernel_rfl, t4, r4, by kernel_rfl⟩
-- 5 drover/droverlaw18.NfaGoes []
def c5_0 : ACode := (.cond (.s 24) .skip (.exit 0))
def c5_1 : ACode := (.ops [
  ⟨(some 25), .p (.mov (.s 10)), none, 0⟩,
  ⟨(some 26), .p (.bin .add (.s 25) (.c (.v (.int .i64 1)))), none, 0⟩,
  ⟨(some 10), .p (.mov (.s 26)), none, 0⟩])
def c5_2 : ACode := (.seq (.block 1 (.draw [
  ⟨(some 27), .m (.load (some 1) (.s 4)), none, 0⟩,
  ⟨(some 28), .p (.mov (.s 9)), none, 0⟩,
  ⟨(some 29), .p (.mov (.s 3)), none, 0⟩,
  ⟨(some 30), .p (.mov (.s 10)), none, 0⟩,
  ⟨(some 31), .p (.adrSl 1 (.s 29) (.s 30)), none, 0⟩,
  ⟨(some 32), .m (.load none (.s 31)), none, 0⟩,
  ⟨(some 33), .call (.c (.fn 6 [])) [(.s 27), (.s 28), (.s 32)], none, 0⟩,
  ⟨(some 9), .p (.mov (.s 33)), none, 0⟩])) c5_1)
def c5_3 : ACode := (.seq (.seq (.ops [
  ⟨(some 21), .p (.mov (.s 10)), none, 0⟩,
  ⟨(some 22), .p (.mov (.s 3)), none, 0⟩,
  ⟨(some 23), .p (.len false (.s 22)), none, 3⟩,
  ⟨(some 24), .p (.bin .lss (.s 21) (.s 23)), none, 0⟩]) c5_0) c5_2)
def c5_4 : ACode := (.block 0 (.loop c5_3))
def c5_5 : ACode := (.cond (.s 64) (.seq (.ops [
  ⟨(some 8), .p (.mov (.c (.v (.bool false)))), none, 0⟩]) .ret) .skip)
def c5_6 : ACode := (.cond (.s 67) (.ops [
  ⟨(some 68), .p (.mov (.s 3)), none, 0⟩,
  ⟨(some 69), .p (.adrSl 1 (.s 68) (.c (.v (.int .i64 0)))), none, 0⟩,
  ⟨(some 70), .m (.load none (.s 69)), none, 0⟩,
  ⟨(some 11), .p (.mov (.s 70)), none, 0⟩]) .skip)
def c5_7 : List AOper := [
  ⟨(some 13), .p (.mov (.s 80)), none, 0⟩]
def c5_8 : List AOper := [
  ⟨(some 14), .p (.mov (.s 84)), none, 0⟩]
def c5_9 : List AOper := [
  ⟨(some 15), .p (.mov (.s 88)), none, 0⟩]
def c5_10 : ACode := (.cond (.s 92) .skip (.exit 2))
def c5_11 : ACode := (.cond (.s 98) .skip (.exit 4))
def c5_12 : ACode := (.ops [
  ⟨(some 99), .p (.mov (.s 18)), none, 0⟩,
  ⟨(some 100), .p (.bin .add (.s 99) (.c (.v (.int .i64 1)))), none, 0⟩,
  ⟨(some 18), .p (.mov (.s 100)), none, 0⟩])
def c5_13 : ACode := (.seq (.block 5 (.draw [
  ⟨(some 101), .p (.mov (.s 17)), none, 0⟩,
  ⟨(some 102), .p (.mov (.s 101)), none, 0⟩,
  ⟨(some 103), .p (.mov (.s 13)), (some (102, false)), 0⟩,
  ⟨(some 104), .p (.mov (.s 18)), (some (102, false)), 0⟩,
  ⟨(some 105), .p (.adrSl 1 (.s 103) (.s 104)), (some (102, false)), 0⟩,
  ⟨(some 106), .m (.load none (.s 105)), (some (102, false)), 0⟩,
  ⟨(some 107), .p (.mov (.s 15)), (some (102, false)), 0⟩,
  ⟨(some 108), .p (.mov (.s 16)), (some (102, false)), 0⟩,
  ⟨(some 109), .p (.adrSl 1 (.s 107) (.s 108)), (some (102, false)), 0⟩,
  ⟨(some 110), .m (.load none (.s 109)), (some (102, false)), 0⟩,
  ⟨(some 111), .p (.bin .eql (.s 106) (.s 110)), (some (102, false)), 0⟩,
  ⟨(some 112), .p (.pick (.s 102) (.c (.v (.bool true))) (.s 111)), none, 0⟩,
  ⟨(some 17), .p (.mov (.s 112)), none, 0⟩])) c5_12)
def c5_14 : ACode := (.seq (.seq (.ops [
  ⟨(some 95), .p (.mov (.s 18)), none, 0⟩,
  ⟨(some 96), .p (.mov (.s 13)), none, 0⟩,
  ⟨(some 97), .p (.len false (.s 96)), none, 3⟩,
  ⟨(some 98), .p (.bin .lss (.s 95) (.s 97)), none, 0⟩]) c5_11) c5_13)
def c5_15 : ACode := (.block 4 (.loop c5_14))
def c5_16 : ACode := (.cond (.s 116) .skip (.exit 6))
def c5_17 : ACode := (.ops [
  ⟨(some 117), .p (.mov (.s 19)), none, 0⟩,
  ⟨(some 118), .p (.bin .add (.s 117) (.c (.v (.int .i64 1)))), none, 0⟩,
  ⟨(some 19), .p (.mov (.s 118)), none, 0⟩])
def c5_18 : ACode := (.seq (.block 7 (.draw [
  ⟨(some 119), .p (.mov (.s 17)), none, 0⟩,
  ⟨(some 120), .p (.mov (.s 119)), none, 0⟩,
  ⟨(some 121), .p (.mov (.s 14)), (some (120, false)), 0⟩,
  ⟨(some 122), .p (.mov (.s 19)), (some (120, false)), 0⟩,
  ⟨(some 123), .p (.adrSl 1 (.s 121) (.s 122)), (some (120, false)), 0⟩,
  ⟨(some 124), .m (.load none (.s 123)), (some (120, false)), 0⟩,
  ⟨(some 125), .p (.mov (.s 15)), (some (120, false)), 0⟩,
  ⟨(some 126), .p (.mov (.s 16)), (some (120, false)), 0⟩,
  ⟨(some 127), .p (.adrSl 1 (.s 125) (.s 126)), (some (120, false)), 0⟩,
  ⟨(some 128), .m (.load none (.s 127)), (some (120, false)), 0⟩,
  ⟨(some 129), .p (.bin .eql (.s 124) (.s 128)), (some (120, false)), 0⟩,
  ⟨(some 130), .p (.pick (.s 120) (.c (.v (.bool true))) (.s 129)), none, 0⟩,
  ⟨(some 17), .p (.mov (.s 130)), none, 0⟩])) c5_17)
def c5_19 : ACode := (.seq (.seq (.ops [
  ⟨(some 113), .p (.mov (.s 19)), none, 0⟩,
  ⟨(some 114), .p (.mov (.s 14)), none, 0⟩,
  ⟨(some 115), .p (.len false (.s 114)), none, 3⟩,
  ⟨(some 116), .p (.bin .lss (.s 113) (.s 115)), none, 0⟩]) c5_16) c5_18)
def c5_20 : ACode := (.block 6 (.loop c5_19))
def c5_21 : ACode := (.cond (.s 148) (.seq (.ops [
  ⟨(some 8), .p (.mov (.c (.v (.bool false)))), none, 0⟩]) .ret) .skip)
def c5_22 : ACode := (.seq (.draw [
  ⟨(some 131), .p (.mov (.s 17)), none, 0⟩,
  ⟨(some 132), .p (.un .not (.s 131)), none, 0⟩,
  ⟨(some 133), .p (.mov (.s 132)), none, 0⟩,
  ⟨(some 134), .p (.mov (.s 16)), (some (133, false)), 0⟩,
  ⟨(some 135), .p (.bin .gtr (.s 134) (.c (.v (.int .i64 0)))), (some (133, false)), 0⟩,
  ⟨(some 136), .p (.mov (.s 135)), (some (133, false)), 0⟩,
  ⟨(some 137), .p (.mov (.s 15)), (some (136, true)), 0⟩,
  ⟨(some 138), .p (.mov (.s 16)), (some (136, true)), 0⟩,
  ⟨(some 139), .p (.adrSl 1 (.s 137) (.s 138)), (some (136, true)), 0⟩,
  ⟨(some 140), .m (.load none (.s 139)), (some (136, true)), 0⟩,
  ⟨(some 141), .p (.mov (.s 15)), (some (136, true)), 0⟩,
  ⟨(some 142), .p (.mov (.s 16)), (some (136, true)), 0⟩,
  ⟨(some 143), .p (.bin .sub (.s 142) (.c (.v (.int .i64 1)))), (some (136, true)), 0⟩,
  ⟨(some 144), .p (.adrSl 1 (.s 141) (.s 143)), (some (136, true)), 0⟩,
  ⟨(some 145), .m (.load none (.s 144)), (some (136, true)), 0⟩,
  ⟨(some 146), .p (.bin .leq (.s 140) (.s 145)), (some (136, true)), 0⟩,
  ⟨(some 147), .p (.pick (.s 136) (.s 146) (.c (.v (.bool false)))), (some (133, false)), 0⟩,
  ⟨(some 148), .p (.pick (.s 133) (.c (.v (.bool true))) (.s 147)), none, 0⟩]) c5_21)
def c5_23 : ACode := (.seq (.seq (.ops [
  ⟨(some 19), .p (.mov (.c (.v (.int .i64 0)))), none, 0⟩]) c5_20) c5_22)
def c5_24 : ACode := (.seq (.seq (.ops [
  ⟨(some 18), .p (.mov (.c (.v (.int .i64 0)))), none, 0⟩]) c5_15) c5_23)
def c5_25 : ACode := (.ops [
  ⟨(some 93), .p (.mov (.s 16)), none, 0⟩,
  ⟨(some 94), .p (.bin .add (.s 93) (.c (.v (.int .i64 1)))), none, 0⟩,
  ⟨(some 16), .p (.mov (.s 94)), none, 0⟩])
def c5_26 : ACode := (.seq (.block 3 (.seq (.ops [
  ⟨(some 17), .p (.mov (.c (.v (.bool false)))), none, 0⟩]) c5_24)) c5_25)
def c5_27 : ACode := (.seq (.seq (.ops [
  ⟨(some 89), .p (.mov (.s 16)), none, 0⟩,
  ⟨(some 90), .p (.mov (.s 15)), none, 0⟩,
  ⟨(some 91), .p (.len false (.s 90)), none, 3⟩,
  ⟨(some 92), .p (.bin .lss (.s 89) (.s 91)), none, 0⟩]) c5_10) c5_26)
def c5_28 : ACode := (.block 2 (.loop c5_27))
def c5_29 : ACode := (.seq (.draw [
  ⟨(some 149), .p (.mov (.s 13)), none, 0⟩,
  ⟨(some 150), .p (.len false (.s 149)), none, 3⟩,
  ⟨(some 151), .p (.mov (.s 15)), none, 0⟩,
  ⟨(some 152), .p (.len false (.s 151)), none, 3⟩,
  ⟨(some 153), .p (.bin .leq (.s 150) (.s 152)), none, 0⟩,
  ⟨(some 154), .p (.mov (.s 153)), none, 0⟩,
  ⟨(some 155), .p (.mov (.s 14)), (some (154, true)), 0⟩,
  ⟨(some 156), .p (.len false (.s 155)), (some (154, true)), 3⟩,
  ⟨(some 157), .p (.mov (.s 15)), (some (154, true)), 0⟩,
  ⟨(some 158), .p (.len false (.s 157)), (some (154, true)), 3⟩,
  ⟨(some 159), .p (.bin .leq (.s 156) (.s 158)), (some (154, true)), 0⟩,
  ⟨(some 160), .p (.pick (.s 154) (.s 159) (.c (.v (.bool false)))), none, 0⟩,
  ⟨(some 161), .p (.mov (.s 160)), none, 0⟩,
  ⟨(some 162), .p (.mov (.s 15)), (some (161, true)), 0⟩,
  ⟨(some 163), .p (.len false (.s 162)), (some (161, true)), 3⟩,
  ⟨(some 164), .p (.mov (.s 13)), (some (161, true)), 0⟩,
  ⟨(some 165), .p (.len false (.s 164)), (some (161, true)), 3⟩,
  ⟨(some 166), .p (.mov (.s 14)), (some (161, true)), 0⟩,
  ⟨(some 167), .p (.len false (.s 166)), (some (161, true)), 3⟩,
  ⟨(some 168), .p (.bin .add (.s 165) (.s 167)), (some (161, true)), 0⟩,
  ⟨(some 169), .p (.bin .leq (.s 163) (.s 168)), (some (161, true)), 0⟩,
  ⟨(some 170), .p (.pick (.s 161) (.s 169) (.c (.v (.bool false)))), none, 0⟩,
  ⟨(some 171), .p (.mov (.s 170)), none, 0⟩,
  ⟨(some 172), .m (.load (some 1) (.s 4)), (some (171, true)), 0⟩,
  ⟨(some 173), .p (.mov (.s 12)), (some (171, true)), 0⟩,
  ⟨(some 174), .qcall (.c (.fn 11 [])) [(.s 172), (.s 173)], (some (171, true)), 0⟩,
  ⟨(some 175), .m (.load (some 1) (.s 4)), (some (171, true)), 0⟩,
  ⟨(some 176), .p (.mov (.s 1)), (some (171, true)), 0⟩,
  ⟨(some 177), .call (.c (.fn 11 [])) [(.s 175), (.s 176)], (some (171, true)), 0⟩,
  ⟨(some 178), .p (.mov (.s 177)), (some (171, true)), 0⟩,
  ⟨(some 179), .m (.load (some 1) (.s 4)), (some (178, false)), 0⟩,
  ⟨(some 180), .p (.mov (.s 2)), (some (178, false)), 0⟩,
  ⟨(some 181), .call (.c (.fn 11 [])) [(.s 179), (.s 180)], (some (178, false)), 0⟩,
  ⟨(some 182), .p (.pick (.s 178) (.c (.v (.bool true))) (.s 181)), (some (171, true)), 0⟩,
  ⟨(some 183), .p (.eqa false [.bool] false (.s 174) (.s 182)), (some (171, true)), 0⟩,
  ⟨(some 184), .p (.pick (.s 171) (.s 183) (.c (.v (.bool false)))), none, 0⟩,
  ⟨(some 185), .p (.mov (.s 184)), none, 0⟩,
  ⟨(some 186), .call (.c (.fn 13 [])) [], (some (185, true)), 0⟩,
  ⟨(some 187), .p (.pick (.s 185) (.s 186) (.c (.v (.bool false)))), none, 0⟩,
  ⟨(some 8), .p (.mov (.s 187)), none, 0⟩]) .ret)
def c5_30 : ACode := (.seq (.seq (.ops [
  ⟨(some 16), .p (.mov (.c (.v (.int .i64 0)))), none, 0⟩]) c5_28) c5_29)
def c5_31 : ACode := (.seq (.ops (⟨(some 85), .m (.load (some 1) (.s 4)), none, 0⟩ ::
  ⟨(some 86), .p (.mov (.s 12)), none, 0⟩ ::
  ⟨(some 87), .p (.mov (.s 11)), none, 0⟩ ::
  ⟨(some 88), .call (.c (.fn 6 [])) [(.s 85), (.s 86), (.s 87)], none, 0⟩ :: c5_9)) c5_30)
def c5_32 : ACode := (.seq (.ops (⟨(some 81), .m (.load (some 1) (.s 4)), none, 0⟩ ::
  ⟨(some 82), .p (.mov (.s 2)), none, 0⟩ ::
  ⟨(some 83), .p (.mov (.s 11)), none, 0⟩ ::
  ⟨(some 84), .call (.c (.fn 6 [])) [(.s 81), (.s 82), (.s 83)], none, 0⟩ :: c5_8)) c5_31)
def c5_33 : ACode := (.seq (.ops (⟨(some 77), .m (.load (some 1) (.s 4)), none, 0⟩ ::
  ⟨(some 78), .p (.mov (.s 1)), none, 0⟩ ::
  ⟨(some 79), .p (.mov (.s 11)), none, 0⟩ ::
  ⟨(some 80), .call (.c (.fn 6 [])) [(.s 77), (.s 78), (.s 79)], none, 0⟩ :: c5_7)) c5_32)
def c5_34 : ACode := (.seq (.ops [
  ⟨(some 74), .p (.mov (.s 12)), none, 0⟩,
  ⟨(some 75), .p (.mov (.s 2)), none, 0⟩,
  ⟨(some 76), .m (.append 1 8 (.s 74) (.s 75)), none, 3⟩,
  ⟨(some 12), .p (.mov (.s 76)), none, 0⟩]) c5_33)
def c5_35 : ACode := (.seq (.ops [
  ⟨(some 71), .p (.mov (.s 12)), none, 0⟩,
  ⟨(some 72), .p (.mov (.s 1)), none, 0⟩,
  ⟨(some 73), .m (.append 1 8 (.s 71) (.s 72)), none, 3⟩,
  ⟨(some 12), .p (.mov (.s 73)), none, 0⟩]) c5_34)
def c5_36 : ACode := (.seq (.ops [
  ⟨(some 12), .p (.mov (.c (.v (.slice none 0 0)))), none, 0⟩]) c5_35)
def c5_37 : ACode := (.seq (.seq (.ops [
  ⟨(some 65), .p (.mov (.s 3)), none, 0⟩,
  ⟨(some 66), .p (.len false (.s 65)), none, 3⟩,
  ⟨(some 67), .p (.bin .gtr (.s 66) (.c (.v (.int .i64 0)))), none, 0⟩]) c5_6) c5_36)
def c5_38 : ACode := (.seq (.ops [
  ⟨(some 11), .p (.mov (.c (.v (.int .i64 1)))), none, 0⟩]) c5_37)
def c5_39 : ACode := (.seq (.seq (.draw [
  ⟨(some 34), .m (.load (some 1) (.s 4)), none, 0⟩,
  ⟨(some 35), .call (.c (.fn 7 [])) [(.s 34)], none, 0⟩,
  ⟨(some 36), .p (.mov (.s 35)), none, 0⟩,
  ⟨(some 37), .m (.load (some 1) (.s 4)), (some (36, true)), 0⟩,
  ⟨(some 38), .p (.mov (.s 9)), (some (36, true)), 0⟩,
  ⟨(some 39), .qcall (.c (.fn 11 [])) [(.s 37), (.s 38)], (some (36, true)), 0⟩,
  ⟨(some 40), .m (.load (some 1) (.s 4)), (some (36, true)), 0⟩,
  ⟨(some 41), .p (.mov (.s 3)), (some (36, true)), 0⟩,
  ⟨(some 42), .call (.c (.fn 14 [])) [(.s 40), (.s 41)], (some (36, true)), 0⟩,
  ⟨(some 43), .p (.eqa true [.bool] false (.s 39) (.s 42)), (some (36, true)), 0⟩,
  ⟨(some 44), .p (.pick (.s 36) (.s 43) (.c (.v (.bool false)))), none, 0⟩,
  ⟨(some 45), .p (.mov (.s 44)), none, 0⟩,
  ⟨(some 46), .m (.load (some 1) (.s 4)), (some (45, false)), 0⟩,
  ⟨(some 47), .call (.c (.fn 7 [])) [(.s 46)], (some (45, false)), 0⟩,
  ⟨(some 48), .p (.un .not (.s 47)), (some (45, false)), 0⟩,
  ⟨(some 49), .p (.mov (.s 48)), (some (45, false)), 0⟩,
  ⟨(some 50), .m (.load (some 1) (.s 4)), (some (49, true)), 0⟩,
  ⟨(some 51), .p (.mov (.s 3)), (some (49, true)), 0⟩,
  ⟨(some 52), .call (.c (.fn 14 [])) [(.s 50), (.s 51)], (some (49, true)), 0⟩,
  ⟨(some 53), .p (.mov (.s 52)), (some (49, true)), 0⟩,
  ⟨(some 54), .p (.mov (.s 9)), (some (53, false)), 0⟩,
  ⟨(some 55), .p (.len false (.s 54)), (some (53, false)), 3⟩,
  ⟨(some 56), .p (.bin .gtr (.s 55) (.c (.v (.int .i64 0)))), (some (53, false)), 0⟩,
  ⟨(some 57), .p (.mov (.s 56)), (some (53, false)), 0⟩,
  ⟨(some 58), .p (.mov (.s 3)), (some (57, true)), 0⟩,
  ⟨(some 59), .p (.len false (.s 58)), (some (57, true)), 3⟩,
  ⟨(some 60), .p (.bin .gtr (.s 59) (.c (.v (.int .i64 0)))), (some (57, true)), 0⟩,
  ⟨(some 61), .p (.pick (.s 57) (.s 60) (.c (.v (.bool false)))), (some (53, false)), 0⟩,
  ⟨(some 62), .p (.pick (.s 53) (.c (.v (.bool true))) (.s 61)), (some (49, true)), 0⟩,
  ⟨(some 63), .p (.pick (.s 49) (.s 62) (.c (.v (.bool false)))), (some (45, false)), 0⟩,
  ⟨(some 64), .p (.pick (.s 45) (.c (.v (.bool true))) (.s 63)), none, 0⟩]) c5_5) c5_38)
def c5_40 : ACode := (.seq (.seq (.ops [
  ⟨(some 10), .p (.mov (.c (.v (.int .i64 0)))), none, 0⟩]) c5_4) c5_39)
def c5_41 : ACode := (.seq (.ops [
  ⟨(some 20), .m (.buildSlice 1 1 [(.v (.int .i64 0))] [(0, 1, (.c (.v (.int .i64 0))))]), none, 3⟩,
  ⟨(some 9), .p (.mov (.s 20)), none, 0⟩]) c5_40)
def c5 : ACode := (.seq (.ops [
  ⟨(some 4), .m (.box (.s 0)), none, 0⟩,
  ⟨(some 8), .p (.mov (.c (.v (.bool false)))), none, 0⟩]) c5_41)
theorem t5 : trC Try.prog Try.f5.ntmps (bodyOf Try.f5) = some c5 := by kernel_rfl
theorem r5 : Try.f5.results.toList.mapM (trR Try.prog) = some [.tmp 8] := by kernel_rfl
def i5 : FI := ⟨188, c5, [.tmp 8]⟩
theorem k5 : Knows Try.prog 5 i5 := ⟨Try.f5, bodyOf Try.f5, Try.func5, by kernel_rfl, by kernel_rfl, t5, r5, by kernel_rfl⟩
-- 6 drover/nfa.Step []
def c6_0 : List AOper := [
  ⟨(some 9), .p (.un .not (.s 8)), none, 0⟩]
def c6_1 : ACode := (.cond (.s 9) (.seq (.ops [
  ⟨(some 6), .p (.mov (.c (.v (.slice none 0 0)))), none, 0⟩]) .ret) .skip)
def c6_2 : List AOper := [
  ⟨(some 6), .p (.mov (.s 13)), none, 0⟩]
def c6_3 : ACode := (.seq (.ops (⟨(some 10), .m (.load (some 1) (.s 3)), none, 0⟩ ::
  ⟨(some 11), .p (.mov (.s 1)), none, 0⟩ ::
  ⟨(some 12), .p (.mov (.s 2)), none, 0⟩ ::
  ⟨(some 13), .call (.c (.fn 16 [])) [(.s 10), (.s 11), (.s 12)], none, 0⟩ :: c6_2)) .ret)
def c6_4 : ACode := (.seq (.seq (.ops (⟨(some 7), .m (.load (some 1) (.s 3)), none, 0⟩ ::
  ⟨(some 8), .call (.c (.fn 7 [])) [(.s 7)], none, 0⟩ :: c6_0)) c6_1) c6_3)
def c6 : ACode := (.seq (.ops [
  ⟨(some 3), .m (.box (.s 0)), none, 0⟩,
  ⟨(some 6), .p (.mov (.c (.v (.slice none 0 0)))), none, 0⟩]) c6_4)
theorem t6 : trC Try.prog Try.f6.ntmps (bodyOf Try.f6) = some c6 := by kernel_rfl
theorem r6 : Try.f6.results.toList.mapM (trR Try.prog) = some [.tmp 6] := by kernel_rfl
def i6 : FI := ⟨14, c6, [.tmp 6]⟩
theorem k6 : Knows Try.prog 6 i6 := ⟨Try.f6, bodyOf Try.f6, Try.func6, by kernel_rfl, by kernel_rfl, t6, r6, by kernel_rfl⟩
-- 7 drover/nfa.Right []
def c7_0 : ACode := (.cond (.s 25) (.seq (.ops [
  ⟨(some 2), .p (.mov (.c (.v (.bool false)))), none, 0⟩]) .ret) .skip)
def c7_1 : ACode := (.cond (.s 40) (.seq (.ops [
  ⟨(some 2), .p (.mov (.c (.v (.bool false)))), none, 0⟩]) .ret) .skip)
def c7_2 : ACode := (.cond (.s 57) (.seq (.ops [
  ⟨(some 2), .p (.mov (.c (.v (.bool false)))), none, 0⟩]) .ret) .skip)
def c7_3 : ACode := (.ops [
  ⟨(some 58), .p (.mov (.s 7)), none, 0⟩,
  ⟨(some 5), .p (.mov (.s 58)), none, 0⟩])
def c7_4 : ACode := (.seq (.seq (.ops [
  ⟨(some 48), .p (.mov (.s 7)), none, 0⟩,
  ⟨(some 49), .p (.mov (.s 5)), none, 0⟩,
  ⟨(some 50), .p (.bin .leq (.s 48) (.s 49)), none, 0⟩,
  ⟨(some 51), .p (.mov (.s 50)), none, 0⟩,
  ⟨(some 52), .p (.mov (.s 7)), (some (51, false)), 0⟩,
  ⟨(some 53), .p (.fieldAddr 0 none (.s 1)), (some (51, false)), 0⟩,
  ⟨(some 54), .m (.load none (.s 53)), (some (51, false)), 0⟩,
  ⟨(some 55), .p (.len false (.s 54)), (some (51, false)), 34⟩,
  ⟨(some 56), .p (.bin .geq (.s 52) (.s 55)), (some (51, false)), 0⟩,
  ⟨(some 57), .p (.pick (.s 51) (.c (.v (.bool true))) (.s 56)), none, 0⟩]) c7_2) c7_3)
def c7_5 : ACode := (.ops [
  ⟨(some 59), .p (.bin .add (.s 44) (.c (.v (.int .i64 1)))), none, 0⟩,
  ⟨(some 44), .p (.mov (.s 59)), none, 0⟩])
def c7_6 : ACode := (.seq (.block 3 (.seq (.ops [
  ⟨(some 46), .p (.adrSl 1 (.s 42) (.s 44)), none, 0⟩,
  ⟨(some 47), .m (.load none (.s 46)), none, 0⟩,
  ⟨(some 7), .p (.mov (.s 47)), none, 0⟩]) c7_4)) c7_5)
def c7_7 : ACode := (.seq (.cond (.s 45) .skip (.exit 2)) c7_6)
def c7_8 : ACode := (.seq (.ops [
  ⟨(some 45), .p (.bin .lss (.s 44) (.s 43)), none, 0⟩]) c7_7)
def c7_9 : ACode := (.block 2 (.loop c7_8))
def c7_10 : ACode := (.seq (.ops [
  ⟨(some 41), .p (.fieldAddr 2 none (.s 4)), none, 0⟩,
  ⟨(some 42), .m (.load none (.s 41)), none, 0⟩,
  ⟨(some 43), .p (.len false (.s 42)), none, 3⟩,
  ⟨(some 44), .p (.mov (.c (.v (.int .i64 0)))), none, 0⟩]) c7_9)
def c7_11 : ACode := (.seq (.ops [
  ⟨(some 5), .p (.mov (.c (.v (.int .i64 0)))), none, 0⟩]) c7_10)
def c7_12 : ACode := (.seq (.seq (.ops [
  ⟨(some 33), .p (.fieldAddr 0 none (.s 4)), none, 0⟩,
  ⟨(some 34), .m (.load none (.s 33)), none, 0⟩,
  ⟨(some 35), .p (.bin .lss (.s 34) (.c (.v (.int .i64 0)))), none, 0⟩,
  ⟨(some 36), .p (.mov (.s 35)), none, 0⟩,
  ⟨(some 37), .p (.fieldAddr 0 none (.s 4)), (some (36, false)), 0⟩,
  ⟨(some 38), .m (.load none (.s 37)), (some (36, false)), 0⟩,
  ⟨(some 39), .p (.bin .gtr (.s 38) (.c (.v (.int .i64 65535)))), (some (36, false)), 0⟩,
  ⟨(some 40), .p (.pick (.s 36) (.c (.v (.bool true))) (.s 39)), none, 0⟩]) c7_1) c7_11)
def c7_13 : ACode := (.ops [
  ⟨(some 60), .p (.bin .add (.s 29) (.c (.v (.int .i64 1)))), none, 0⟩,
  ⟨(some 29), .p (.mov (.s 60)), none, 0⟩])
def c7_14 : ACode := (.seq (.block 1 (.seq (.ops [
  ⟨(some 31), .p (.adrSl 3 (.s 27) (.s 29)), none, 0⟩,
  ⟨(some 32), .m (.load (some 3) (.s 31)), none, 0⟩,
  ⟨(some 4), .m (.alloc [(.v (.int .i64 0)), (.v (.bool false)), (.v (.slice none 0 0))]), none, 3⟩,
  ⟨none, .m (.store (some 3) (.s 4) (.s 32)), none, 0⟩]) c7_12)) c7_13)
def c7_15 : ACode := (.seq (.cond (.s 30) .skip (.exit 0)) c7_14)
def c7_16 : ACode := (.seq (.ops [
  ⟨(some 30), .p (.bin .lss (.s 29) (.s 28)), none, 0⟩]) c7_15)
def c7_17 : ACode := (.block 0 (.loop c7_16))
def c7_18 : ACode := (.seq (.ops [
  ⟨(some 2), .p (.mov (.c (.v (.bool true)))), none, 0⟩]) .ret)
def c7_19 : ACode := (.seq (.seq (.ops [
  ⟨(some 26), .p (.fieldAddr 0 none (.s 1)), none, 0⟩,
  ⟨(some 27), .m (.load none (.s 26)), none, 0⟩,
  ⟨(some 28), .p (.len false (.s 27)), none, 34⟩,
  ⟨(some 29), .p (.mov (.c (.v (.int .i64 0)))), none, 0⟩]) c7_17) c7_18)
def c7_20 : ACode := (.seq (.seq (.ops [
  ⟨(some 8), .p (.fieldAddr 0 none (.s 1)), none, 0⟩,
  ⟨(some 9), .m (.load none (.s 8)), none, 0⟩,
  ⟨(some 10), .p (.len false (.s 9)), none, 34⟩,
  ⟨(some 11), .p (.bin .eql (.s 10) (.c (.v (.int .i64 0)))), none, 0⟩,
  ⟨(some 12), .p (.mov (.s 11)), none, 0⟩,
  ⟨(some 13), .p (.fieldAddr 0 none (.s 1)), (some (12, false)), 0⟩,
  ⟨(some 14), .m (.load none (.s 13)), (some (12, false)), 0⟩,
  ⟨(some 15), .p (.len false (.s 14)), (some (12, false)), 34⟩,
  ⟨(some 16), .p (.bin .gtr (.s 15) (.c (.v (.int .i64 64)))), (some (12, false)), 0⟩,
  ⟨(some 17), .p (.pick (.s 12) (.c (.v (.bool true))) (.s 16)), none, 0⟩,
  ⟨(some 18), .p (.mov (.s 17)), none, 0⟩,
  ⟨(some 19), .p (.fieldAddr 0 none (.s 1)), (some (18, false)), 0⟩,
  ⟨(some 20), .m (.load none (.s 19)), (some (18, false)), 0⟩,
  ⟨(some 21), .p (.adrSl 3 (.s 20) (.c (.v (.int .i64 0)))), (some (18, false)), 0⟩,
  ⟨(some 22), .p (.fieldAddr 0 none (.s 21)), (some (18, false)), 0⟩,
  ⟨(some 23), .m (.load none (.s 22)), (some (18, false)), 0⟩,
  ⟨(some 24), .p (.bin .neq (.s 23) (.c (.v (.int .i64 0)))), (some (18, false)), 0⟩,
  ⟨(some 25), .p (.pick (.s 18) (.c (.v (.bool true))) (.s 24)), none, 0⟩]) c7_0) c7_19)
def c7 : ACode := (.seq (.ops [
  ⟨(some 1), .m (.box (.s 0)), none, 0⟩,
  ⟨(some 2), .p (.mov (.c (.v (.bool false)))), none, 0⟩]) c7_20)
theorem t7 : trC Try.prog Try.f7.ntmps (bodyOf Try.f7) = some c7 := by kernel_rfl
theorem r7 : Try.f7.results.toList.mapM (trR Try.prog) = some [.tmp 2] := by kernel_rfl
def i7 : FI := ⟨61, c7, [.tmp 2]⟩
theorem k7 : Knows Try.prog 7 i7 := ⟨Try.f7, bodyOf Try.f7, Try.func7, by kernel_rfl, by kernel_rfl, t7, r7, by kernel_rfl⟩
-- 8 drover/droverref18.Right []
def c8_0 : ACode := (.cond (.s 15) (.seq (.ops [
  ⟨(some 2), .p (.mov (.c (.v (.bool false)))), none, 0⟩]) .ret) .skip)
def c8_1 : ACode := (.cond (.s 20) .skip (.exit 0))
def c8_2 : ACode := (.cond (.s 44) (.seq (.ops [
  ⟨(some 2), .p (.mov (.c (.v (.bool false)))), none, 0⟩]) .ret) .skip)
def c8_3 : ACode := (.cond (.s 49) .skip (.exit 2))
def c8_4 : ACode := (.cond (.s 86) (.seq (.ops [
  ⟨(some 2), .p (.mov (.c (.v (.bool false)))), none, 0⟩]) .ret) .skip)
def c8_5 : ACode := (.ops [
  ⟨(some 50), .p (.mov (.s 5)), none, 0⟩,
  ⟨(some 51), .p (.bin .add (.s 50) (.c (.v (.int .i64 1)))), none, 0⟩,
  ⟨(some 5), .p (.mov (.s 51)), none, 0⟩])
def c8_6 : ACode := (.seq (.block 3 (.seq (.draw [
  ⟨(some 52), .p (.fieldAddr 2 none (.s 4)), none, 0⟩,
  ⟨(some 53), .m (.load none (.s 52)), none, 0⟩,
  ⟨(some 54), .p (.mov (.s 5)), none, 0⟩,
  ⟨(some 55), .p (.adrSl 1 (.s 53) (.s 54)), none, 0⟩,
  ⟨(some 56), .m (.load none (.s 55)), none, 0⟩,
  ⟨(some 57), .p (.bin .lss (.s 56) (.c (.v (.int .i64 1)))), none, 0⟩,
  ⟨(some 58), .p (.mov (.s 57)), none, 0⟩,
  ⟨(some 59), .p (.fieldAddr 2 none (.s 4)), (some (58, false)), 0⟩,
  ⟨(some 60), .m (.load none (.s 59)), (some (58, false)), 0⟩,
  ⟨(some 61), .p (.mov (.s 5)), (some (58, false)), 0⟩,
  ⟨(some 62), .p (.adrSl 1 (.s 60) (.s 61)), (some (58, false)), 0⟩,
  ⟨(some 63), .m (.load none (.s 62)), (some (58, false)), 0⟩,
  ⟨(some 64), .p (.fieldAddr 0 none (.s 1)), (some (58, false)), 0⟩,
  ⟨(some 65), .m (.load none (.s 64)), (some (58, false)), 0⟩,
  ⟨(some 66), .p (.len false (.s 65)), (some (58, false)), 34⟩,
  ⟨(some 67), .p (.bin .geq (.s 63) (.s 66)), (some (58, false)), 0⟩,
  ⟨(some 68), .p (.pick (.s 58) (.c (.v (.bool true))) (.s 67)), none, 0⟩,
  ⟨(some 69), .p (.mov (.s 68)), none, 0⟩,
  ⟨(some 70), .p (.mov (.s 5)), (some (69, false)), 0⟩,
  ⟨(some 71), .p (.bin .gtr (.s 70) (.c (.v (.int .i64 0)))), (some (69, false)), 0⟩,
  ⟨(some 72), .p (.mov (.s 71)), (some (69, false)), 0⟩,
  ⟨(some 73), .p (.fieldAddr 2 none (.s 4)), (some (72, true)), 0⟩,
  ⟨(some 74), .m (.load none (.s 73)), (some (72, true)), 0⟩,
  ⟨(some 75), .p (.mov (.s 5)), (some (72, true)), 0⟩,
  ⟨(some 76), .p (.adrSl 1 (.s 74) (.s 75)), (some (72, true)), 0⟩,
  ⟨(some 77), .m (.load none (.s 76)), (some (72, true)), 0⟩,
  ⟨(some 78), .p (.fieldAddr 2 none (.s 4)), (some (72, true)), 0⟩,
  ⟨(some 79), .m (.load none (.s 78)), (some (72, true)), 0⟩,
  ⟨(some 80), .p (.mov (.s 5)), (some (72, true)), 0⟩,
  ⟨(some 81), .p (.bin .sub (.s 80) (.c (.v (.int .i64 1)))), (some (72, true)), 0⟩,
  ⟨(some 82), .p (.adrSl 1 (.s 79) (.s 81)), (some (72, true)), 0⟩,
  ⟨(some 83), .m (.load none (.s 82)), (some (72, true)), 0⟩,
  ⟨(some 84), .p (.bin .leq (.s 77) (.s 83)), (some (72, true)), 0⟩,
  ⟨(some 85), .p (.pick (.s 72) (.s 84) (.c (.v (.bool false)))), (some (69, false)), 0⟩,
  ⟨(some 86), .p (.pick (.s 69) (.c (.v (.bool true))) (.s 85)), none, 0⟩]) c8_4)) c8_5)
def c8_7 : ACode := (.seq (.seq (.ops [
  ⟨(some 45), .p (.mov (.s 5)), none, 0⟩,
  ⟨(some 46), .p (.fieldAddr 2 none (.s 4)), none, 0⟩,
  ⟨(some 47), .m (.load none (.s 46)), none, 0⟩,
  ⟨(some 48), .p (.len false (.s 47)), none, 3⟩,
  ⟨(some 49), .p (.bin .lss (.s 45) (.s 48)), none, 0⟩]) c8_3) c8_6)
def c8_8 : ACode := (.block 2 (.loop c8_7))
def c8_9 : ACode := (.seq (.ops [
  ⟨(some 5), .p (.mov (.c (.v (.int .i64 0)))), none, 0⟩]) c8_8)
def c8_10 : ACode := (.seq (.seq (.ops [
  ⟨(some 28), .p (.fieldAddr 0 none (.s 4)), none, 0⟩,
  ⟨(some 29), .m (.load none (.s 28)), none, 0⟩,
  ⟨(some 30), .p (.bin .lss (.s 29) (.c (.v (.int .i64 0)))), none, 0⟩,
  ⟨(some 31), .p (.mov (.s 30)), none, 0⟩,
  ⟨(some 32), .p (.fieldAddr 0 none (.s 4)), (some (31, false)), 0⟩,
  ⟨(some 33), .m (.load none (.s 32)), (some (31, false)), 0⟩,
  ⟨(some 34), .p (.bin .gtr (.s 33) (.c (.v (.int .i64 65535)))), (some (31, false)), 0⟩,
  ⟨(some 35), .p (.pick (.s 31) (.c (.v (.bool true))) (.s 34)), none, 0⟩,
  ⟨(some 36), .p (.mov (.s 35)), none, 0⟩,
  ⟨(some 37), .p (.mov (.s 3)), (some (36, false)), 0⟩,
  ⟨(some 38), .p (.bin .eql (.s 37) (.c (.v (.int .i64 0)))), (some (36, false)), 0⟩,
  ⟨(some 39), .p (.mov (.s 38)), (some (36, false)), 0⟩,
  ⟨(some 40), .p (.fieldAddr 0 none (.s 4)), (some (39, true)), 0⟩,
  ⟨(some 41), .m (.load none (.s 40)), (some (39, true)), 0⟩,
  ⟨(some 42), .p (.bin .neq (.s 41) (.c (.v (.int .i64 0)))), (some (39, true)), 0⟩,
  ⟨(some 43), .p (.pick (.s 39) (.s 42) (.c (.v (.bool false)))), (some (36, false)), 0⟩,
  ⟨(some 44), .p (.pick (.s 36) (.c (.v (.bool true))) (.s 43)), none, 0⟩]) c8_2) c8_9)
def c8_11 : ACode := (.ops [
  ⟨(some 21), .p (.mov (.s 3)), none, 0⟩,
  ⟨(some 22), .p (.bin .add (.s 21) (.c (.v (.int .i64 1)))), none, 0⟩,
  ⟨(some 3), .p (.mov (.s 22)), none, 0⟩])
def c8_12 : ACode := (.seq (.block 1 (.seq (.ops [
  ⟨(some 23), .p (.fieldAddr 0 none (.s 1)), none, 0⟩,
  ⟨(some 24), .m (.load none (.s 23)), none, 0⟩,
  ⟨(some 25), .p (.mov (.s 3)), none, 0⟩,
  ⟨(some 26), .p (.adrSl 3 (.s 24) (.s 25)), none, 0⟩,
  ⟨(some 27), .m (.load (some 3) (.s 26)), none, 0⟩,
  ⟨(some 4), .m (.alloc [(.v (.int .i64 0)), (.v (.bool false)), (.v (.slice none 0 0))]), none, 3⟩,
  ⟨none, .m (.store (some 3) (.s 4) (.s 27)), none, 0⟩]) c8_10)) c8_11)
def c8_13 : ACode := (.seq (.seq (.ops [
  ⟨(some 16), .p (.mov (.s 3)), none, 0⟩,
  ⟨(some 17), .p (.fieldAddr 0 none (.s 1)), none, 0⟩,
  ⟨(some 18), .m (.load none (.s 17)), none, 0⟩,
  ⟨(some 19), .p (.len false (.s 18)), none, 34⟩,
  ⟨(some 20), .p (.bin .lss (.s 16) (.s 19)), none, 0⟩]) c8_1) c8_12)
def c8_14 : ACode := (.block 0 (.loop c8_13))
def c8_15 : ACode := (.seq (.ops [
  ⟨(some 2), .p (.mov (.c (.v (.bool true)))), none, 0⟩]) .ret)
def c8_16 : ACode := (.seq (.seq (.ops [
  ⟨(some 3), .p (.mov (.c (.v (.int .i64 0)))), none, 0⟩]) c8_14) c8_15)
def c8_17 : ACode := (.seq (.seq (.ops [
  ⟨(some 6), .p (.fieldAddr 0 none (.s 1)), none, 0⟩,
  ⟨(some 7), .m (.load none (.s 6)), none, 0⟩,
  ⟨(some 8), .p (.len false (.s 7)), none, 34⟩,
  ⟨(some 9), .p (.bin .lss (.s 8) (.c (.v (.int .i64 1)))), none, 0⟩,
  ⟨(some 10), .p (.mov (.s 9)), none, 0⟩,
  ⟨(some 11), .p (.fieldAddr 0 none (.s 1)), (some (10, false)), 0⟩,
  ⟨(some 12), .m (.load none (.s 11)), (some (10, false)), 0⟩,
  ⟨(some 13), .p (.len false (.s 12)), (some (10, false)), 34⟩,
  ⟨(some 14), .p (.bin .gtr (.s 13) (.c (.v (.int .i64 64)))), (some (10, false)), 0⟩,
  ⟨(some 15), .p (.pick (.s 10) (.c (.v (.bool true))) (.s 14)), none, 0⟩]) c8_0) c8_16)
def c8 : ACode := (.seq (.ops [
  ⟨(some 1), .m (.box (.s 0)), none, 0⟩,
  ⟨(some 2), .p (.mov (.c (.v (.bool false)))), none, 0⟩]) c8_17)
theorem t8 : trC Try.prog Try.f8.ntmps (bodyOf Try.f8) = some c8 := by kernel_rfl
theorem r8 : Try.f8.results.toList.mapM (trR Try.prog) = some [.tmp 2] := by kernel_rfl
def i8 : FI := ⟨87, c8, [.tmp 2]⟩
theorem k8 : Knows Try.prog 8 i8 := ⟨Try.f8, bodyOf Try.f8, Try.func8, by kernel_rfl, by kernel_rfl, t8, r8, by kernel_rfl⟩
-- 9 drover/droverref18.Ints []
def c9_0 : ACode := (.cond (.s 10) (.seq (.ops [
  ⟨(some 4), .p (.mov (.c (.v (.bool false)))), none, 0⟩]) .ret) .skip)
def c9_1 : ACode := (.cond (.s 14) .skip (.exit 0))
def c9_2 : ACode := (.cond (.s 25) (.seq (.ops [
  ⟨(some 4), .p (.mov (.c (.v (.bool false)))), none, 0⟩]) .ret) .skip)
def c9_3 : ACode := (.ops [
  ⟨(some 15), .p (.mov (.s 5)), none, 0⟩,
  ⟨(some 16), .p (.bin .add (.s 15) (.c (.v (.int .i64 1)))), none, 0⟩,
  ⟨(some 5), .p (.mov (.s 16)), none, 0⟩])
def c9_4 : ACode := (.seq (.block 1 (.seq (.draw [
  ⟨(some 17), .p (.mov (.s 0)), none, 0⟩,
  ⟨(some 18), .p (.mov (.s 5)), none, 0⟩,
  ⟨(some 19), .p (.adrSl 1 (.s 17) (.s 18)), none, 0⟩,
  ⟨(some 20), .m (.load none (.s 19)), none, 0⟩,
  ⟨(some 21), .p (.mov (.s 1)), none, 0⟩,
  ⟨(some 22), .p (.mov (.s 5)), none, 0⟩,
  ⟨(some 23), .p (.adrSl 1 (.s 21) (.s 22)), none, 0⟩,
  ⟨(some 24), .m (.load none (.s 23)), none, 0⟩,
  ⟨(some 25), .p (.bin .neq (.s 20) (.s 24)), none, 0⟩]) c9_2)) c9_3)
def c9_5 : ACode := (.seq (.seq (.ops [
  ⟨(some 11), .p (.mov (.s 5)), none, 0⟩,
  ⟨(some 12), .p (.mov (.s 0)), none, 0⟩,
  ⟨(some 13), .p (.len false (.s 12)), none, 3⟩,
  ⟨(some 14), .p (.bin .lss (.s 11) (.s 13)), none, 0⟩]) c9_1) c9_4)
def c9_6 : ACode := (.block 0 (.loop c9_5))
def c9_7 : ACode := (.seq (.ops [
  ⟨(some 4), .p (.mov (.c (.v (.bool true)))), none, 0⟩]) .ret)
def c9_8 : ACode := (.seq (.seq (.ops [
  ⟨(some 5), .p (.mov (.c (.v (.int .i64 0)))), none, 0⟩]) c9_6) c9_7)
def c9_9 : ACode := (.seq (.seq (.ops [
  ⟨(some 6), .p (.mov (.s 0)), none, 0⟩,
  ⟨(some 7), .p (.len false (.s 6)), none, 3⟩,
  ⟨(some 8), .p (.mov (.s 1)), none, 0⟩,
  ⟨(some 9), .p (.len false (.s 8)), none, 3⟩,
  ⟨(some 10), .p (.bin .neq (.s 7) (.s 9)), none, 0⟩]) c9_0) c9_8)
def c9 : ACode := (.seq (.ops [
  ⟨(some 4), .p (.mov (.c (.v (.bool false)))), none, 0⟩]) c9_9)
theorem t9 : trC Try.prog Try.f9.ntmps (bodyOf Try.f9) = some c9 := by kernel_rfl
theorem r9 : Try.f9.results.toList.mapM (trR Try.prog) = some [.tmp 4] := by kernel_rfl
def i9 : FI := ⟨26, c9, [.tmp 4]⟩
theorem k9 : Knows Try.prog 9 i9 := ⟨Try.f9, bodyOf Try.f9, Try.func9, by kernel_rfl, by kernel_rfl, t9, r9, by kernel_rfl⟩
-- 10 drover/droverref18.Step []
def c10_0 : List AOper := [
  ⟨(some 14), .p (.un .not (.s 13)), none, 0⟩]
def c10_1 : ACode := (.cond (.s 14) (.seq (.ops [
  ⟨(some 6), .p (.mov (.c (.v (.slice none 0 0)))), none, 0⟩]) .ret) .skip)
def c10_2 : ACode := (.cond (.s 18) .skip (.exit 0))
def c10_3 : ACode := (.cond (.s 35) (.exit 1) .skip)
def c10_4 : ACode := (.cond (.s 48) .skip (.exit 2))
def c10_5 : List AOper := [
  ⟨(some 7), .p (.mov (.s 72)), none, 0⟩]
def c10_6 : ACode := (.cond (.s 66) (.ops (⟨(some 67), .p (.mov (.s 7)), none, 0⟩ ::
  ⟨(some 68), .p (.mov (.s 9)), none, 0⟩ ::
  ⟨(some 69), .p (.mov (.s 10)), none, 0⟩ ::
  ⟨(some 70), .p (.adrSl 1 (.s 68) (.s 69)), none, 0⟩ ::
  ⟨(some 71), .m (.load none (.s 70)), none, 0⟩ ::
  ⟨(some 72), .call (.c (.fn 17 [])) [(.s 67), (.s 71)], none, 3⟩ :: c10_5)) .skip)
def c10_7 : ACode := (.seq (.ops [
  ⟨(some 60), .p (.mov (.s 11)), none, 0⟩,
  ⟨(some 61), .p (.bin .eql (.s 60) (.c (.v (.int .i64 0)))), none, 0⟩,
  ⟨(some 62), .p (.mov (.s 61)), none, 0⟩,
  ⟨(some 63), .p (.mov (.s 11)), (some (62, false)), 0⟩,
  ⟨(some 64), .p (.mov (.s 2)), (some (62, false)), 0⟩,
  ⟨(some 65), .p (.bin .eql (.s 63) (.s 64)), (some (62, false)), 0⟩,
  ⟨(some 66), .p (.pick (.s 62) (.c (.v (.bool true))) (.s 65)), none, 0⟩]) c10_6)
def c10_8 : ACode := (.ops [
  ⟨(some 49), .p (.mov (.s 10)), none, 0⟩,
  ⟨(some 50), .p (.bin .add (.s 49) (.c (.v (.int .i64 1)))), none, 0⟩,
  ⟨(some 10), .p (.mov (.s 50)), none, 0⟩])
def c10_9 : ACode := (.seq (.block 3 (.seq (.draw [
  ⟨(some 51), .p (.fieldAddr 0 none (.s 3)), none, 0⟩,
  ⟨(some 52), .m (.load none (.s 51)), none, 0⟩,
  ⟨(some 53), .p (.mov (.s 9)), none, 0⟩,
  ⟨(some 54), .p (.mov (.s 10)), none, 0⟩,
  ⟨(some 55), .p (.adrSl 1 (.s 53) (.s 54)), none, 0⟩,
  ⟨(some 56), .m (.load none (.s 55)), none, 0⟩,
  ⟨(some 57), .p (.adrSl 3 (.s 52) (.s 56)), none, 0⟩,
  ⟨(some 58), .p (.fieldAddr 0 none (.s 57)), none, 0⟩,
  ⟨(some 59), .m (.load none (.s 58)), none, 0⟩,
  ⟨(some 11), .p (.mov (.s 59)), none, 0⟩]) c10_7)) c10_8)
def c10_10 : ACode := (.seq (.seq (.ops [
  ⟨(some 45), .p (.mov (.s 10)), none, 0⟩,
  ⟨(some 46), .p (.mov (.s 9)), none, 0⟩,
  ⟨(some 47), .p (.len false (.s 46)), none, 3⟩,
  ⟨(some 48), .p (.bin .lss (.s 45) (.s 47)), none, 0⟩]) c10_4) c10_9)
def c10_11 : ACode := (.block 2 (.loop c10_10))
def c10_12 : ACode := (.seq (.ops [
  ⟨(some 10), .p (.mov (.c (.v (.int .i64 0)))), none, 0⟩]) c10_11)
def c10_13 : ACode := (.seq (.draw [
  ⟨(some 36), .p (.fieldAddr 0 none (.s 3)), none, 0⟩,
  ⟨(some 37), .m (.load none (.s 36)), none, 0⟩,
  ⟨(some 38), .p (.mov (.s 1)), none, 0⟩,
  ⟨(some 39), .p (.mov (.s 8)), none, 0⟩,
  ⟨(some 40), .p (.adrSl 1 (.s 38) (.s 39)), none, 0⟩,
  ⟨(some 41), .m (.load none (.s 40)), none, 0⟩,
  ⟨(some 42), .p (.adrSl 3 (.s 37) (.s 41)), none, 0⟩,
  ⟨(some 43), .p (.fieldAddr 2 none (.s 42)), none, 0⟩,
  ⟨(some 44), .m (.load none (.s 43)), none, 0⟩,
  ⟨(some 9), .p (.mov (.s 44)), none, 0⟩]) c10_12)
def c10_14 : ACode := (.ops [
  ⟨(some 19), .p (.mov (.s 8)), none, 0⟩,
  ⟨(some 20), .p (.bin .add (.s 19) (.c (.v (.int .i64 1)))), none, 0⟩,
  ⟨(some 8), .p (.mov (.s 20)), none, 0⟩])
def c10_15 : ACode := (.seq (.block 1 (.seq (.seq (.draw [
  ⟨(some 21), .p (.mov (.s 1)), none, 0⟩,
  ⟨(some 22), .p (.mov (.s 8)), none, 0⟩,
  ⟨(some 23), .p (.adrSl 1 (.s 21) (.s 22)), none, 0⟩,
  ⟨(some 24), .m (.load none (.s 23)), none, 0⟩,
  ⟨(some 25), .p (.bin .lss (.s 24) (.c (.v (.int .i64 0)))), none, 0⟩,
  ⟨(some 26), .p (.mov (.s 25)), none, 0⟩,
  ⟨(some 27), .p (.mov (.s 1)), (some (26, false)), 0⟩,
  ⟨(some 28), .p (.mov (.s 8)), (some (26, false)), 0⟩,
  ⟨(some 29), .p (.adrSl 1 (.s 27) (.s 28)), (some (26, false)), 0⟩,
  ⟨(some 30), .m (.load none (.s 29)), (some (26, false)), 0⟩,
  ⟨(some 31), .p (.fieldAddr 0 none (.s 3)), (some (26, false)), 0⟩,
  ⟨(some 32), .m (.load none (.s 31)), (some (26, false)), 0⟩,
  ⟨(some 33), .p (.len false (.s 32)), (some (26, false)), 34⟩,
  ⟨(some 34), .p (.bin .geq (.s 30) (.s 33)), (some (26, false)), 0⟩,
  ⟨(some 35), .p (.pick (.s 26) (.c (.v (.bool true))) (.s 34)), none, 0⟩]) c10_3) c10_13)) c10_14)
def c10_16 : ACode := (.seq (.seq (.ops [
  ⟨(some 15), .p (.mov (.s 8)), none, 0⟩,
  ⟨(some 16), .p (.mov (.s 1)), none, 0⟩,
  ⟨(some 17), .p (.len false (.s 16)), none, 3⟩,
  ⟨(some 18), .p (.bin .lss (.s 15) (.s 17)), none, 0⟩]) c10_2) c10_15)
def c10_17 : ACode := (.block 0 (.loop c10_16))
def c10_18 : ACode := (.seq (.ops [
  ⟨(some 73), .p (.mov (.s 7)), none, 0⟩,
  ⟨(some 6), .p (.mov (.s 73)), none, 0⟩]) .ret)
def c10_19 : ACode := (.seq (.seq (.ops [
  ⟨(some 8), .p (.mov (.c (.v (.int .i64 0)))), none, 0⟩]) c10_17) c10_18)
def c10_20 : ACode := (.seq (.ops [
  ⟨(some 7), .p (.mov (.c (.v (.slice none 0 0)))), none, 0⟩]) c10_19)
def c10_21 : ACode := (.seq (.seq (.ops (⟨(some 12), .m (.load (some 1) (.s 3)), none, 0⟩ ::
  ⟨(some 13), .call (.c (.fn 8 [])) [(.s 12)], none, 0⟩ :: c10_0)) c10_1) c10_20)
def c10 : ACode := (.seq (.ops [
  ⟨(some 3), .m (.box (.s 0)), none, 0⟩,
  ⟨(some 6), .p (.mov (.c (.v (.slice none 0 0)))), none, 0⟩]) c10_21)
theorem t10 : trC Try.prog Try.f10.ntmps (bodyOf Try.f10) = some c10 := by kernel_rfl
theorem r10 : Try.f10.results.toList.mapM (trR Try.prog) = some [.tmp 6] := by kernel_rfl
def i10 : FI := ⟨74, c10, [.tmp 6]⟩
theorem k10 : Knows Try.prog 10 i10 := ⟨Try.f10, bodyOf Try.f10, Try.func10, by kernel_rfl, by kernel_rfl, t10, r10, by kernel_rfl⟩
-- 11 drover/nfa.Ends []
def c11_0 : List AOper := [
  ⟨(some 11), .p (.pick (.s 7) (.s 10) (.c (.v (.bool false)))), none, 0⟩,
  ⟨(some 4), .p (.mov (.s 11)), none, 0⟩]
def c11_1 : List AOper := (⟨(some 7), .p (.mov (.s 6)), none, 0⟩ ::
  ⟨(some 8), .m (.load (some 1) (.s 2)), (some (7, true)), 0⟩ ::
  ⟨(some 9), .p (.mov (.s 1)), (some (7, true)), 0⟩ ::
  ⟨(some 10), .call (.c (.fn 18 [])) [(.s 8), (.s 9)], (some (7, true)), 0⟩ :: c11_0)
def c11_2 : ACode := (.seq (.ops (⟨(some 5), .m (.load (some 1) (.s 2)), none, 0⟩ ::
  ⟨(some 6), .call (.c (.fn 7 [])) [(.s 5)], none, 0⟩ :: c11_1)) .ret)
def c11 : ACode := (.seq (.ops [
  ⟨(some 2), .m (.box (.s 0)), none, 0⟩,
  ⟨(some 4), .p (.mov (.c (.v (.bool false)))), none, 0⟩]) c11_2)
theorem t11 : trC Try.prog Try.f11.ntmps (bodyOf Try.f11) = some c11 := by kernel_rfl
theorem r11 : Try.f11.results.toList.mapM (trR Try.prog) = some [.tmp 4] := by kernel_rfl
def i11 : FI := ⟨12, c11, [.tmp 4]⟩
theorem k11 : Knows Try.prog 11 i11 := ⟨Try.f11, bodyOf Try.f11, Try.func11, by kernel_rfl, by kernel_rfl, t11, r11, by kernel_rfl⟩
-- 12 drover/droverref18.Ends []
def c12_0 : List AOper := [
  ⟨(some 8), .p (.un .not (.s 7)), none, 0⟩]
def c12_1 : ACode := (.cond (.s 8) (.seq (.ops [
  ⟨(some 4), .p (.mov (.c (.v (.bool false)))), none, 0⟩]) .ret) .skip)
def c12_2 : ACode := (.cond (.s 12) .skip (.exit 0))
def c12_3 : ACode := (.cond (.s 40) (.seq (.ops [
  ⟨(some 4), .p (.mov (.c (.v (.bool true)))), none, 0⟩]) .ret) .skip)
def c12_4 : ACode := (.ops [
  ⟨(some 13), .p (.mov (.s 5)), none, 0⟩,
  ⟨(some 14), .p (.bin .add (.s 13) (.c (.v (.int .i64 1)))), none, 0⟩,
  ⟨(some 5), .p (.mov (.s 14)), none, 0⟩])
def c12_5 : ACode := (.seq (.block 1 (.seq (.draw [
  ⟨(some 15), .p (.mov (.s 1)), none, 0⟩,
  ⟨(some 16), .p (.mov (.s 5)), none, 0⟩,
  ⟨(some 17), .p (.adrSl 1 (.s 15) (.s 16)), none, 0⟩,
  ⟨(some 18), .m (.load none (.s 17)), none, 0⟩,
  ⟨(some 19), .p (.bin .geq (.s 18) (.c (.v (.int .i64 0)))), none, 0⟩,
  ⟨(some 20), .p (.mov (.s 19)), none, 0⟩,
  ⟨(some 21), .p (.mov (.s 1)), (some (20, true)), 0⟩,
  ⟨(some 22), .p (.mov (.s 5)), (some (20, true)), 0⟩,
  ⟨(some 23), .p (.adrSl 1 (.s 21) (.s 22)), (some (20, true)), 0⟩,
  ⟨(some 24), .m (.load none (.s 23)), (some (20, true)), 0⟩,
  ⟨(some 25), .p (.fieldAddr 0 none (.s 2)), (some (20, true)), 0⟩,
  ⟨(some 26), .m (.load none (.s 25)), (some (20, true)), 0⟩,
  ⟨(some 27), .p (.len false (.s 26)), (some (20, true)), 34⟩,
  ⟨(some 28), .p (.bin .lss (.s 24) (.s 27)), (some (20, true)), 0⟩,
  ⟨(some 29), .p (.pick (.s 20) (.s 28) (.c (.v (.bool false)))), none, 0⟩,
  ⟨(some 30), .p (.mov (.s 29)), none, 0⟩,
  ⟨(some 31), .p (.fieldAddr 0 none (.s 2)), (some (30, true)), 0⟩,
  ⟨(some 32), .m (.load none (.s 31)), (some (30, true)), 0⟩,
  ⟨(some 33), .p (.mov (.s 1)), (some (30, true)), 0⟩,
  ⟨(some 34), .p (.mov (.s 5)), (some (30, true)), 0⟩,
  ⟨(some 35), .p (.adrSl 1 (.s 33) (.s 34)), (some (30, true)), 0⟩,
  ⟨(some 36), .m (.load none (.s 35)), (some (30, true)), 0⟩,
  ⟨(some 37), .p (.adrSl 3 (.s 32) (.s 36)), (some (30, true)), 0⟩,
  ⟨(some 38), .p (.fieldAddr 1 none (.s 37)), (some (30, true)), 0⟩,
  ⟨(some 39), .m (.load none (.s 38)), (some (30, true)), 0⟩,
  ⟨(some 40), .p (.pick (.s 30) (.s 39) (.c (.v (.bool false)))), none, 0⟩]) c12_3)) c12_4)
def c12_6 : ACode := (.seq (.seq (.ops [
  ⟨(some 9), .p (.mov (.s 5)), none, 0⟩,
  ⟨(some 10), .p (.mov (.s 1)), none, 0⟩,
  ⟨(some 11), .p (.len false (.s 10)), none, 3⟩,
  ⟨(some 12), .p (.bin .lss (.s 9) (.s 11)), none, 0⟩]) c12_2) c12_5)
def c12_7 : ACode := (.block 0 (.loop c12_6))
def c12_8 : ACode := (.seq (.ops [
  ⟨(some 4), .p (.mov (.c (.v (.bool false)))), none, 0⟩]) .ret)
def c12_9 : ACode := (.seq (.seq (.ops [
  ⟨(some 5), .p (.mov (.c (.v (.int .i64 0)))), none, 0⟩]) c12_7) c12_8)
def c12_10 : ACode := (.seq (.seq (.ops (⟨(some 6), .m (.load (some 1) (.s 2)), none, 0⟩ ::
  ⟨(some 7), .call (.c (.fn 8 [])) [(.s 6)], none, 0⟩ :: c12_0)) c12_1) c12_9)
def c12 : ACode := (.seq (.ops [
  ⟨(some 2), .m (.box (.s 0)), none, 0⟩,
  ⟨(some 4), .p (.mov (.c (.v (.bool false)))), none, 0⟩]) c12_10)
theorem t12 : trC Try.prog Try.f12.ntmps (bodyOf Try.f12) = some c12 := by kernel_rfl
theorem r12 : Try.f12.results.toList.mapM (trR Try.prog) = some [.tmp 4] := by kernel_rfl
def i12 : FI := ⟨41, c12, [.tmp 4]⟩
theorem k12 : Knows Try.prog 12 i12 := ⟨Try.f12, bodyOf Try.f12, Try.func12, by kernel_rfl, by kernel_rfl, t12, r12, by kernel_rfl⟩
-- 13 drover/droverlaw18.awake []
def c13_0 : List AOper := [
  ⟨(some 6), .p (.mov (.s 7)), none, 0⟩,
  ⟨(some 8), .p (.extract (.s 6) 0), none, 0⟩,
  ⟨(some 9), .p (.extract (.s 6) 1), none, 0⟩,
  ⟨(some 1), .m (.alloc [(.v (.slice none 0 0))]), none, 73⟩,
  ⟨none, .m (.store (some 1) (.s 1) (.s 8)), none, 0⟩,
  ⟨(some 2), .p (.mov (.s 9)), none, 0⟩]
def c13_1 : List AOper := [
  ⟨(some 10), .p (.mov (.s 12)), none, 0⟩,
  ⟨(some 13), .p (.extract (.s 10) 0), none, 0⟩,
  ⟨(some 14), .p (.extract (.s 10) 1), none, 0⟩,
  ⟨(some 3), .m (.alloc [(.v (.slice none 0 0))]), none, 34⟩,
  ⟨none, .m (.store (some 1) (.s 3) (.s 13)), none, 0⟩,
  ⟨(some 4), .p (.mov (.s 14)), none, 0⟩]
def c13_2 : List AOper := [
  ⟨(some 5), .p (.mov (.s 17)), none, 0⟩]
def c13_3 : List AOper := [
  ⟨(some 55), .p (.un .not (.s 54)), (some (51, true)), 0⟩,
  ⟨(some 56), .p (.pick (.s 51) (.s 55) (.c (.v (.bool false)))), none, 0⟩,
  ⟨(some 0), .p (.mov (.s 56)), none, 0⟩]
def c13_4 : List AOper := (⟨(some 50), .p (.pick (.s 46) (.s 49) (.c (.v (.bool false)))), none, 0⟩ ::
  ⟨(some 51), .p (.mov (.s 50)), none, 0⟩ ::
  ⟨(some 52), .m (.load (some 1) (.s 3)), (some (51, true)), 0⟩ ::
  ⟨(some 53), .p (.mov (.s 5)), (some (51, true)), 0⟩ ::
  ⟨(some 54), .call (.c (.fn 11 [])) [(.s 52), (.s 53)], (some (51, true)), 0⟩ :: c13_3)
def c13_5 : List AOper := (⟨(some 44), .p (.un .not (.s 43)), (some (40, true)), 0⟩ ::
  ⟨(some 45), .p (.pick (.s 40) (.s 44) (.c (.v (.bool false)))), none, 0⟩ ::
  ⟨(some 46), .p (.mov (.s 45)), none, 0⟩ ::
  ⟨(some 47), .m (.load (some 1) (.s 3)), (some (46, true)), 0⟩ ::
  ⟨(some 48), .m (.buildSlice 1 1 [(.v (.int .i64 0))] [(0, 1, (.c (.v (.int .i64 2))))]), (some (46, true)), 3⟩ ::
  ⟨(some 49), .call (.c (.fn 11 [])) [(.s 47), (.s 48)], (some (46, true)), 0⟩ :: c13_4)
def c13_6 : List AOper := (⟨(some 39), .p (.pick (.s 35) (.s 38) (.c (.v (.bool false)))), none, 0⟩ ::
  ⟨(some 40), .p (.mov (.s 39)), none, 0⟩ ::
  ⟨(some 41), .m (.load (some 1) (.s 3)), (some (40, true)), 0⟩ ::
  ⟨(some 42), .m (.buildSlice 1 1 [(.v (.int .i64 0))] [(0, 1, (.c (.v (.int .i64 1))))]), (some (40, true)), 3⟩ ::
  ⟨(some 43), .call (.c (.fn 14 [])) [(.s 41), (.s 42)], (some (40, true)), 0⟩ :: c13_5)
def c13_7 : List AOper := (⟨(some 34), .p (.pick (.s 30) (.s 33) (.c (.v (.bool false)))), none, 0⟩ ::
  ⟨(some 35), .p (.mov (.s 34)), none, 0⟩ ::
  ⟨(some 36), .m (.load (some 1) (.s 3)), (some (35, true)), 0⟩ ::
  ⟨(some 37), .m (.buildSlice 1 2 [(.v (.int .i64 0)), (.v (.int .i64 0))] [(0, 1, (.c (.v (.int .i64 1)))), (1, 1, (.c (.v (.int .i64 2))))]), (some (35, true)), 3⟩ ::
  ⟨(some 38), .call (.c (.fn 14 [])) [(.s 36), (.s 37)], (some (35, true)), 0⟩ :: c13_6)
def c13_8 : List AOper := (⟨(some 29), .p (.pick (.s 26) (.s 28) (.c (.v (.bool false)))), none, 0⟩ ::
  ⟨(some 30), .p (.mov (.s 29)), none, 0⟩ ::
  ⟨(some 31), .p (.mov (.s 5)), (some (30, true)), 0⟩ ::
  ⟨(some 32), .m (.buildSlice 1 1 [(.v (.int .i64 0))] [(0, 1, (.c (.v (.int .i64 1))))]), (some (30, true)), 3⟩ ::
  ⟨(some 33), .call (.c (.fn 9 [])) [(.s 31), (.s 32)], (some (30, true)), 3⟩ :: c13_7)
def c13_9 : ACode := (.seq (.ops (⟨(some 18), .p (.mov (.s 4)), none, 0⟩ ::
  ⟨(some 19), .p (.bin .eql (.s 18) (.c (.v (.int .i64 0)))), none, 0⟩ ::
  ⟨(some 20), .p (.mov (.s 19)), none, 0⟩ ::
  ⟨(some 21), .p (.fieldAddr 0 none (.s 3)), (some (20, true)), 0⟩ ::
  ⟨(some 22), .m (.load none (.s 21)), (some (20, true)), 0⟩ ::
  ⟨(some 23), .p (.len false (.s 22)), (some (20, true)), 34⟩ ::
  ⟨(some 24), .p (.bin .eql (.s 23) (.c (.v (.int .i64 3)))), (some (20, true)), 0⟩ ::
  ⟨(some 25), .p (.pick (.s 20) (.s 24) (.c (.v (.bool false)))), none, 0⟩ ::
  ⟨(some 26), .p (.mov (.s 25)), none, 0⟩ ::
  ⟨(some 27), .m (.load (some 1) (.s 3)), (some (26, true)), 0⟩ ::
  ⟨(some 28), .call (.c (.fn 7 [])) [(.s 27)], (some (26, true)), 0⟩ :: c13_8)) .ret)
def c13_10 : ACode := (.seq (.ops (⟨(some 15), .m (.load (some 1) (.s 3)), none, 0⟩ ::
  ⟨(some 16), .m (.buildSlice 1 1 [(.v (.int .i64 0))] [(0, 1, (.c (.v (.int .i64 0))))]), none, 3⟩ ::
  ⟨(some 17), .call (.c (.fn 6 [])) [(.s 15), (.s 16), (.c (.v (.int .i64 1)))], none, 0⟩ :: c13_2)) c13_9)
def c13_11 : ACode := (.seq (.ops (⟨(some 11), .m (.load (some 1) (.s 1)), none, 0⟩ ::
  ⟨(some 12), .call (.c (.fn 20 [])) [(.s 11)], none, 0⟩ :: c13_1)) c13_10)
def c13_12 : ACode := (.seq (.ops (⟨(some 7), .call (.c (.fn 19 [])) [(.c (.v (.string ⟨#[49, 32, 50]⟩)))], none, 0⟩ :: c13_0)) c13_11)
def c13 : ACode := (.seq (.ops [
  ⟨(some 0), .p (.mov (.c (.v (.bool false)))), none, 0⟩]) c13_12)
theorem t13 : trC Try.prog Try.f13.ntmps (bodyOf Try.f13) = some c13 := by kernel_rfl
theorem r13 : Try.f13.results.toList.mapM (trR Try.prog) = some [.tmp 0] := by kernel_rfl
def i13 : FI := ⟨57, c13, [.tmp 0]⟩
theorem k13 : Knows Try.prog 13 i13 := ⟨Try.f13, bodyOf Try.f13, Try.func13, by kernel_rfl, by kernel_rfl, t13, r13, by kernel_rfl⟩
-- 14 drover/nfa.Run []
def c14_0 : List AOper := [
  ⟨(some 10), .p (.un .not (.s 9)), none, 0⟩]
def c14_1 : ACode := (.cond (.s 10) (.seq (.ops [
  ⟨(some 4), .p (.mov (.c (.v (.bool false)))), none, 0⟩]) .ret) .skip)
def c14_2 : ACode := (.draw [
  ⟨(some 18), .m (.load (some 1) (.s 2)), none, 0⟩,
  ⟨(some 19), .p (.mov (.s 5)), none, 0⟩,
  ⟨(some 20), .qcall (.c (.fn 21 [])) [(.s 19)], none, 3⟩,
  ⟨(some 21), .p (.mov (.s 7)), none, 0⟩,
  ⟨(some 22), .call (.c (.fn 16 [])) [(.s 18), (.s 20), (.s 21)], none, 0⟩,
  ⟨(some 5), .p (.mov (.s 22)), none, 0⟩])
def c14_3 : ACode := (.ops [
  ⟨(some 23), .p (.bin .add (.s 14) (.c (.v (.int .i64 1)))), none, 0⟩,
  ⟨(some 14), .p (.mov (.s 23)), none, 0⟩])
def c14_4 : ACode := (.seq (.block 1 (.seq (.ops [
  ⟨(some 16), .p (.adrSl 1 (.s 12) (.s 14)), none, 0⟩,
  ⟨(some 17), .m (.load none (.s 16)), none, 0⟩,
  ⟨(some 7), .p (.mov (.s 17)), none, 0⟩]) c14_2)) c14_3)
def c14_5 : ACode := (.seq (.cond (.s 15) .skip (.exit 0)) c14_4)
def c14_6 : ACode := (.seq (.ops [
  ⟨(some 15), .p (.bin .lss (.s 14) (.s 13)), none, 0⟩]) c14_5)
def c14_7 : ACode := (.block 0 (.loop c14_6))
def c14_8 : List AOper := [
  ⟨(some 4), .p (.mov (.s 26)), none, 0⟩]
def c14_9 : ACode := (.seq (.ops (⟨(some 24), .m (.load (some 1) (.s 2)), none, 0⟩ ::
  ⟨(some 25), .p (.mov (.s 5)), none, 0⟩ ::
  ⟨(some 26), .call (.c (.fn 18 [])) [(.s 24), (.s 25)], none, 0⟩ :: c14_8)) .ret)
def c14_10 : ACode := (.seq (.seq (.ops [
  ⟨(some 12), .p (.mov (.s 1)), none, 0⟩,
  ⟨(some 13), .p (.len false (.s 12)), none, 3⟩,
  ⟨(some 14), .p (.mov (.c (.v (.int .i64 0)))), none, 0⟩]) c14_7) c14_9)
def c14_11 : ACode := (.seq (.ops [
  ⟨(some 11), .m (.buildSlice 1 1 [(.v (.int .i64 0))] [(0, 1, (.c (.v (.int .i64 0))))]), none, 3⟩,
  ⟨(some 5), .p (.mov (.s 11)), none, 0⟩]) c14_10)
def c14_12 : ACode := (.seq (.seq (.ops (⟨(some 8), .m (.load (some 1) (.s 2)), none, 0⟩ ::
  ⟨(some 9), .call (.c (.fn 7 [])) [(.s 8)], none, 0⟩ :: c14_0)) c14_1) c14_11)
def c14 : ACode := (.seq (.ops [
  ⟨(some 2), .m (.box (.s 0)), none, 0⟩,
  ⟨(some 4), .p (.mov (.c (.v (.bool false)))), none, 0⟩]) c14_12)
theorem t14 : trC Try.prog Try.f14.ntmps (bodyOf Try.f14) = some c14 := by kernel_rfl
theorem r14 : Try.f14.results.toList.mapM (trR Try.prog) = some [.tmp 4] := by kernel_rfl
def i14 : FI := ⟨27, c14, [.tmp 4]⟩
theorem k14 : Knows Try.prog 14 i14 := ⟨Try.f14, bodyOf Try.f14, Try.func14, by kernel_rfl, by kernel_rfl, t14, r14, by kernel_rfl⟩
-- 15 drover/droverref18.Run []
def c15_0 : ACode := (.cond (.s 11) .skip (.exit 0))
def c15_1 : ACode := (.ops [
  ⟨(some 12), .p (.mov (.s 6)), none, 0⟩,
  ⟨(some 13), .p (.bin .add (.s 12) (.c (.v (.int .i64 1)))), none, 0⟩,
  ⟨(some 6), .p (.mov (.s 13)), none, 0⟩])
def c15_2 : ACode := (.seq (.block 1 (.draw [
  ⟨(some 14), .m (.load (some 1) (.s 2)), none, 0⟩,
  ⟨(some 15), .p (.mov (.s 5)), none, 0⟩,
  ⟨(some 16), .p (.mov (.s 1)), none, 0⟩,
  ⟨(some 17), .p (.mov (.s 6)), none, 0⟩,
  ⟨(some 18), .p (.adrSl 1 (.s 16) (.s 17)), none, 0⟩,
  ⟨(some 19), .m (.load none (.s 18)), none, 0⟩,
  ⟨(some 20), .call (.c (.fn 10 [])) [(.s 14), (.s 15), (.s 19)], none, 0⟩,
  ⟨(some 5), .p (.mov (.s 20)), none, 0⟩])) c15_1)
def c15_3 : ACode := (.seq (.seq (.ops [
  ⟨(some 8), .p (.mov (.s 6)), none, 0⟩,
  ⟨(some 9), .p (.mov (.s 1)), none, 0⟩,
  ⟨(some 10), .p (.len false (.s 9)), none, 3⟩,
  ⟨(some 11), .p (.bin .lss (.s 8) (.s 10)), none, 0⟩]) c15_0) c15_2)
def c15_4 : ACode := (.block 0 (.loop c15_3))
def c15_5 : List AOper := [
  ⟨(some 4), .p (.mov (.s 23)), none, 0⟩]
def c15_6 : ACode := (.seq (.ops (⟨(some 21), .m (.load (some 1) (.s 2)), none, 0⟩ ::
  ⟨(some 22), .p (.mov (.s 5)), none, 0⟩ ::
  ⟨(some 23), .call (.c (.fn 12 [])) [(.s 21), (.s 22)], none, 0⟩ :: c15_5)) .ret)
def c15_7 : ACode := (.seq (.seq (.ops [
  ⟨(some 6), .p (.mov (.c (.v (.int .i64 0)))), none, 0⟩]) c15_4) c15_6)
def c15_8 : ACode := (.seq (.ops [
  ⟨(some 7), .m (.buildSlice 1 1 [(.v (.int .i64 0))] [(0, 1, (.c (.v (.int .i64 0))))]), none, 3⟩,
  ⟨(some 5), .p (.mov (.s 7)), none, 0⟩]) c15_7)
def c15 : ACode := (.seq (.ops [
  ⟨(some 2), .m (.box (.s 0)), none, 0⟩,
  ⟨(some 4), .p (.mov (.c (.v (.bool false)))), none, 0⟩]) c15_8)
theorem t15 : trC Try.prog Try.f15.ntmps (bodyOf Try.f15) = some c15 := by kernel_rfl
theorem r15 : Try.f15.results.toList.mapM (trR Try.prog) = some [.tmp 4] := by kernel_rfl
def i15 : FI := ⟨24, c15, [.tmp 4]⟩
theorem k15 : Knows Try.prog 15 i15 := ⟨Try.f15, bodyOf Try.f15, Try.func15, by kernel_rfl, by kernel_rfl, t15, r15, by kernel_rfl⟩
-- 16 drover/nfa.step []
def c16_0 : ACode := (.cond (.s 28) (.exit 1) .skip)
def c16_1 : ACode := (.cond (.s 52) (.ops [
  ⟨(some 53), .p (.mov (.s 7)), none, 0⟩,
  ⟨(some 54), .p (.mov (.s 11)), none, 0⟩,
  ⟨(some 55), .p (.bin .shl (.c (.v (.int .u64 1))) (.s 54)), none, 0⟩,
  ⟨(some 56), .p (.bin .or (.s 53) (.s 55)), none, 0⟩,
  ⟨(some 7), .p (.mov (.s 56)), none, 0⟩]) .skip)
def c16_2 : ACode := (.seq (.ops [
  ⟨(some 46), .p (.mov (.s 12)), none, 0⟩,
  ⟨(some 47), .p (.bin .eql (.s 46) (.c (.v (.int .i64 0)))), none, 0⟩,
  ⟨(some 48), .p (.mov (.s 47)), none, 0⟩,
  ⟨(some 49), .p (.mov (.s 12)), (some (48, false)), 0⟩,
  ⟨(some 50), .p (.mov (.s 2)), (some (48, false)), 0⟩,
  ⟨(some 51), .p (.bin .eql (.s 49) (.s 50)), (some (48, false)), 0⟩,
  ⟨(some 52), .p (.pick (.s 48) (.c (.v (.bool true))) (.s 51)), none, 0⟩]) c16_1)
def c16_3 : ACode := (.seq (.ops [
  ⟨(some 40), .p (.fieldAddr 0 none (.s 3)), none, 0⟩,
  ⟨(some 41), .m (.load none (.s 40)), none, 0⟩,
  ⟨(some 42), .p (.mov (.s 11)), none, 0⟩,
  ⟨(some 43), .p (.adrSl 3 (.s 41) (.s 42)), none, 0⟩,
  ⟨(some 44), .p (.fieldAddr 0 none (.s 43)), none, 0⟩,
  ⟨(some 45), .m (.load none (.s 44)), none, 0⟩,
  ⟨(some 12), .p (.mov (.s 45)), none, 0⟩]) c16_2)
def c16_4 : ACode := (.ops [
  ⟨(some 57), .p (.bin .add (.s 36) (.c (.v (.int .i64 1)))), none, 0⟩,
  ⟨(some 36), .p (.mov (.s 57)), none, 0⟩])
def c16_5 : ACode := (.seq (.block 3 (.seq (.ops [
  ⟨(some 38), .p (.adrSl 1 (.s 34) (.s 36)), none, 0⟩,
  ⟨(some 39), .m (.load none (.s 38)), none, 0⟩,
  ⟨(some 11), .p (.mov (.s 39)), none, 0⟩]) c16_3)) c16_4)
def c16_6 : ACode := (.seq (.cond (.s 37) .skip (.exit 2)) c16_5)
def c16_7 : ACode := (.seq (.ops [
  ⟨(some 37), .p (.bin .lss (.s 36) (.s 35)), none, 0⟩]) c16_6)
def c16_8 : ACode := (.block 2 (.loop c16_7))
def c16_9 : ACode := (.seq (.ops [
  ⟨(some 29), .p (.fieldAddr 0 none (.s 3)), none, 0⟩,
  ⟨(some 30), .m (.load none (.s 29)), none, 0⟩,
  ⟨(some 31), .p (.mov (.s 9)), none, 0⟩,
  ⟨(some 32), .p (.adrSl 3 (.s 30) (.s 31)), none, 0⟩,
  ⟨(some 33), .p (.fieldAddr 2 none (.s 32)), none, 0⟩,
  ⟨(some 34), .m (.load none (.s 33)), none, 0⟩,
  ⟨(some 35), .p (.len false (.s 34)), none, 3⟩,
  ⟨(some 36), .p (.mov (.c (.v (.int .i64 0)))), none, 0⟩]) c16_8)
def c16_10 : ACode := (.seq (.seq (.ops [
  ⟨(some 20), .p (.mov (.s 9)), none, 0⟩,
  ⟨(some 21), .p (.bin .lss (.s 20) (.c (.v (.int .i64 0)))), none, 0⟩,
  ⟨(some 22), .p (.mov (.s 21)), none, 0⟩,
  ⟨(some 23), .p (.mov (.s 9)), (some (22, false)), 0⟩,
  ⟨(some 24), .p (.fieldAddr 0 none (.s 3)), (some (22, false)), 0⟩,
  ⟨(some 25), .m (.load none (.s 24)), (some (22, false)), 0⟩,
  ⟨(some 26), .p (.len false (.s 25)), (some (22, false)), 34⟩,
  ⟨(some 27), .p (.bin .geq (.s 23) (.s 26)), (some (22, false)), 0⟩,
  ⟨(some 28), .p (.pick (.s 22) (.c (.v (.bool true))) (.s 27)), none, 0⟩]) c16_0) c16_9)
def c16_11 : ACode := (.ops [
  ⟨(some 58), .p (.bin .add (.s 16) (.c (.v (.int .i64 1)))), none, 0⟩,
  ⟨(some 16), .p (.mov (.s 58)), none, 0⟩])
def c16_12 : ACode := (.seq (.block 1 (.seq (.ops [
  ⟨(some 18), .p (.adrSl 1 (.s 14) (.s 16)), none, 0⟩,
  ⟨(some 19), .m (.load none (.s 18)), none, 0⟩,
  ⟨(some 9), .p (.mov (.s 19)), none, 0⟩]) c16_10)) c16_11)
def c16_13 : ACode := (.seq (.cond (.s 17) .skip (.exit 0)) c16_12)
def c16_14 : ACode := (.seq (.ops [
  ⟨(some 17), .p (.bin .lss (.s 16) (.s 15)), none, 0⟩]) c16_13)
def c16_15 : ACode := (.block 0 (.loop c16_14))
def c16_16 : ACode := (.seq (.ops [
  ⟨(some 62), .m (.load none (.s 13)), none, 0⟩,
  ⟨(some 6), .p (.mov (.s 62)), none, 0⟩]) .ret)
def c16_17 : ACode := (.seq (.ops [
  ⟨(some 59), .p (.mov (.s 7)), none, 0⟩,
  ⟨(some 60), .p (.mkFn 23 [(.s 13)]), none, 0⟩,
  ⟨(some 61), .call (.c (.fn 22 [])) [(.s 59), (.s 60)], none, 0⟩]) c16_16)
def c16_18 : ACode := (.seq (.ops [
  ⟨(some 13), .m (.alloc [(.v (.slice none 0 0))]), none, 0⟩]) c16_17)
def c16_19 : ACode := (.seq (.seq (.ops [
  ⟨(some 14), .p (.mov (.s 1)), none, 0⟩,
  ⟨(some 15), .p (.len false (.s 14)), none, 3⟩,
  ⟨(some 16), .p (.mov (.c (.v (.int .i64 0)))), none, 0⟩]) c16_15) c16_18)
def c16_20 : ACode := (.seq (.ops [
  ⟨(some 7), .p (.mov (.c (.v (.int .u64 0)))), none, 0⟩]) c16_19)
def c16 : ACode := (.seq (.ops [
  ⟨(some 3), .m (.box (.s 0)), none, 0⟩,
  ⟨(some 6), .p (.mov (.c (.v (.slice none 0 0)))), none, 0⟩]) c16_20)
theorem t16 : trC Try.prog Try.f16.ntmps (bodyOf Try.f16) = some c16 := by kernel_rfl
theorem r16 : Try.f16.results.toList.mapM (trR Try.prog) = some [.tmp 6] := by kernel_rfl
def i16 : FI := ⟨63, c16, [.tmp 6]⟩
theorem k16 : Knows Try.prog 16 i16 := ⟨Try.f16, bodyOf Try.f16, Try.func16, by kernel_rfl, by kernel_rfl, t16, r16, by kernel_rfl⟩
-- 17 drover/droverref18.with []
def c17_0 : ACode := (.cond (.s 11) .skip (.exit 0))
def c17_1 : ACode := (.cond (.s 19) (.seq (.ops [
  ⟨(some 20), .p (.mov (.s 0)), none, 0⟩,
  ⟨(some 4), .p (.mov (.s 20)), none, 0⟩]) .ret) .skip)
def c17_2 : ACode := (.ops [
  ⟨(some 6), .p (.mov (.c (.v (.bool true)))), none, 0⟩])
def c17_3 : ACode := (.cond (.s 30) (.seq (.ops [
  ⟨(some 31), .p (.mov (.s 5)), none, 0⟩,
  ⟨(some 32), .p (.mov (.s 1)), none, 0⟩,
  ⟨(some 33), .m (.buildSlice 1 1 [(.v (.int .i64 0))] [(0, 1, (.s 32))]), none, 3⟩,
  ⟨(some 34), .m (.append 1 8 (.s 31) (.s 33)), none, 3⟩,
  ⟨(some 5), .p (.mov (.s 34)), none, 0⟩]) c17_2) .skip)
def c17_4 : ACode := (.ops [
  ⟨(some 35), .p (.mov (.s 5)), none, 0⟩,
  ⟨(some 36), .p (.mov (.s 0)), none, 0⟩,
  ⟨(some 37), .p (.mov (.s 7)), none, 0⟩,
  ⟨(some 38), .p (.adrSl 1 (.s 36) (.s 37)), none, 0⟩,
  ⟨(some 39), .m (.load none (.s 38)), none, 0⟩,
  ⟨(some 40), .m (.buildSlice 1 1 [(.v (.int .i64 0))] [(0, 1, (.s 39))]), none, 3⟩,
  ⟨(some 41), .m (.append 1 8 (.s 35) (.s 40)), none, 3⟩,
  ⟨(some 5), .p (.mov (.s 41)), none, 0⟩])
def c17_5 : ACode := (.seq (.seq (.ops [
  ⟨(some 21), .p (.mov (.s 6)), none, 0⟩,
  ⟨(some 22), .p (.un .not (.s 21)), none, 0⟩,
  ⟨(some 23), .p (.mov (.s 22)), none, 0⟩,
  ⟨(some 24), .p (.mov (.s 0)), (some (23, true)), 0⟩,
  ⟨(some 25), .p (.mov (.s 7)), (some (23, true)), 0⟩,
  ⟨(some 26), .p (.adrSl 1 (.s 24) (.s 25)), (some (23, true)), 0⟩,
  ⟨(some 27), .m (.load none (.s 26)), (some (23, true)), 0⟩,
  ⟨(some 28), .p (.mov (.s 1)), (some (23, true)), 0⟩,
  ⟨(some 29), .p (.bin .gtr (.s 27) (.s 28)), (some (23, true)), 0⟩,
  ⟨(some 30), .p (.pick (.s 23) (.s 29) (.c (.v (.bool false)))), none, 0⟩]) c17_3) c17_4)
def c17_6 : ACode := (.ops [
  ⟨(some 12), .p (.mov (.s 7)), none, 0⟩,
  ⟨(some 13), .p (.bin .add (.s 12) (.c (.v (.int .i64 1)))), none, 0⟩,
  ⟨(some 7), .p (.mov (.s 13)), none, 0⟩])
def c17_7 : ACode := (.seq (.block 1 (.seq (.seq (.ops [
  ⟨(some 14), .p (.mov (.s 0)), none, 0⟩,
  ⟨(some 15), .p (.mov (.s 7)), none, 0⟩,
  ⟨(some 16), .p (.adrSl 1 (.s 14) (.s 15)), none, 0⟩,
  ⟨(some 17), .m (.load none (.s 16)), none, 0⟩,
  ⟨(some 18), .p (.mov (.s 1)), none, 0⟩,
  ⟨(some 19), .p (.bin .eql (.s 17) (.s 18)), none, 0⟩]) c17_1) c17_5)) c17_6)
def c17_8 : ACode := (.seq (.seq (.ops [
  ⟨(some 8), .p (.mov (.s 7)), none, 0⟩,
  ⟨(some 9), .p (.mov (.s 0)), none, 0⟩,
  ⟨(some 10), .p (.len false (.s 9)), none, 3⟩,
  ⟨(some 11), .p (.bin .lss (.s 8) (.s 10)), none, 0⟩]) c17_0) c17_7)
def c17_9 : ACode := (.block 0 (.loop c17_8))
def c17_10 : ACode := (.cond (.s 43) (.ops [
  ⟨(some 44), .p (.mov (.s 5)), none, 0⟩,
  ⟨(some 45), .p (.mov (.s 1)), none, 0⟩,
  ⟨(some 46), .m (.buildSlice 1 1 [(.v (.int .i64 0))] [(0, 1, (.s 45))]), none, 3⟩,
  ⟨(some 47), .m (.append 1 8 (.s 44) (.s 46)), none, 3⟩,
  ⟨(some 5), .p (.mov (.s 47)), none, 0⟩]) .skip)
def c17_11 : ACode := (.seq (.ops [
  ⟨(some 48), .p (.mov (.s 5)), none, 0⟩,
  ⟨(some 4), .p (.mov (.s 48)), none, 0⟩]) .ret)
def c17_12 : ACode := (.seq (.seq (.ops [
  ⟨(some 42), .p (.mov (.s 6)), none, 0⟩,
  ⟨(some 43), .p (.un .not (.s 42)), none, 0⟩]) c17_10) c17_11)
def c17_13 : ACode := (.seq (.seq (.ops [
  ⟨(some 7), .p (.mov (.c (.v (.int .i64 0)))), none, 0⟩]) c17_9) c17_12)
def c17_14 : ACode := (.seq (.ops [
  ⟨(some 6), .p (.mov (.c (.v (.bool false)))), none, 0⟩]) c17_13)
def c17_15 : ACode := (.seq (.ops [
  ⟨(some 5), .p (.mov (.c (.v (.slice none 0 0)))), none, 0⟩]) c17_14)
def c17 : ACode := (.seq (.ops [
  ⟨(some 4), .p (.mov (.c (.v (.slice none 0 0)))), none, 0⟩]) c17_15)
theorem t17 : trC Try.prog Try.f17.ntmps (bodyOf Try.f17) = some c17 := by kernel_rfl
theorem r17 : Try.f17.results.toList.mapM (trR Try.prog) = some [.tmp 4] := by kernel_rfl
def i17 : FI := ⟨49, c17, [.tmp 4]⟩
theorem k17 : Knows Try.prog 17 i17 := ⟨Try.f17, bodyOf Try.f17, Try.func17, by kernel_rfl, by kernel_rfl, t17, r17, by kernel_rfl⟩
-- 18 drover/nfa.ends []
def c18_0 : ACode := (.cond (.s 30) (.seq (.ops [
  ⟨(some 5), .p (.mov (.c (.v (.bool true)))), none, 0⟩]) (.exit 0)) .skip)
def c18_1 : ACode := (.seq (.ops [
  ⟨(some 24), .p (.mov (.s 8)), none, 0⟩,
  ⟨(some 25), .p (.mov (.s 7)), none, 0⟩,
  ⟨(some 26), .p (.bin .eql (.s 24) (.s 25)), none, 0⟩,
  ⟨(some 27), .p (.mov (.s 26)), none, 0⟩,
  ⟨(some 28), .p (.fieldAddr 1 none (.s 9)), (some (27, true)), 0⟩,
  ⟨(some 29), .m (.load none (.s 28)), (some (27, true)), 0⟩,
  ⟨(some 30), .p (.pick (.s 27) (.s 29) (.c (.v (.bool false)))), none, 0⟩]) c18_0)
def c18_2 : ACode := (.ops [
  ⟨(some 31), .p (.bin .add (.s 19) (.c (.v (.int .i64 1)))), none, 0⟩,
  ⟨(some 19), .p (.mov (.s 31)), none, 0⟩])
def c18_3 : ACode := (.seq (.block 3 (.seq (.ops [
  ⟨(some 21), .p (.mov (.s 19)), none, 0⟩,
  ⟨(some 22), .p (.adrSl 3 (.s 17) (.s 19)), none, 0⟩,
  ⟨(some 23), .m (.load (some 3) (.s 22)), none, 0⟩,
  ⟨(some 9), .m (.alloc [(.v (.int .i64 0)), (.v (.bool false)), (.v (.slice none 0 0))]), none, 3⟩,
  ⟨(some 8), .p (.mov (.s 21)), none, 0⟩,
  ⟨none, .m (.store (some 3) (.s 9) (.s 23)), none, 0⟩]) c18_1)) c18_2)
def c18_4 : ACode := (.seq (.cond (.s 20) .skip (.exit 2)) c18_3)
def c18_5 : ACode := (.seq (.ops [
  ⟨(some 20), .p (.bin .lss (.s 19) (.s 18)), none, 0⟩]) c18_4)
def c18_6 : ACode := (.block 2 (.loop c18_5))
def c18_7 : ACode := (.seq (.ops [
  ⟨(some 16), .p (.fieldAddr 0 none (.s 2)), none, 0⟩,
  ⟨(some 17), .m (.load none (.s 16)), none, 0⟩,
  ⟨(some 18), .p (.len false (.s 17)), none, 34⟩,
  ⟨(some 19), .p (.mov (.c (.v (.int .i64 0)))), none, 0⟩]) c18_6)
def c18_8 : ACode := (.ops [
  ⟨(some 32), .p (.bin .add (.s 12) (.c (.v (.int .i64 1)))), none, 0⟩,
  ⟨(some 12), .p (.mov (.s 32)), none, 0⟩])
def c18_9 : ACode := (.seq (.block 1 (.seq (.ops [
  ⟨(some 14), .p (.adrSl 1 (.s 10) (.s 12)), none, 0⟩,
  ⟨(some 15), .m (.load none (.s 14)), none, 0⟩,
  ⟨(some 7), .p (.mov (.s 15)), none, 0⟩]) c18_7)) c18_8)
def c18_10 : ACode := (.seq (.cond (.s 13) .skip (.exit 0)) c18_9)
def c18_11 : ACode := (.seq (.ops [
  ⟨(some 13), .p (.bin .lss (.s 12) (.s 11)), none, 0⟩]) c18_10)
def c18_12 : ACode := (.block 0 (.loop c18_11))
def c18_13 : ACode := (.seq (.ops [
  ⟨(some 33), .p (.mov (.s 5)), none, 0⟩,
  ⟨(some 4), .p (.mov (.s 33)), none, 0⟩]) .ret)
def c18_14 : ACode := (.seq (.seq (.ops [
  ⟨(some 10), .p (.mov (.s 1)), none, 0⟩,
  ⟨(some 11), .p (.len false (.s 10)), none, 3⟩,
  ⟨(some 12), .p (.mov (.c (.v (.int .i64 0)))), none, 0⟩]) c18_12) c18_13)
def c18_15 : ACode := (.seq .skip c18_14)
def c18_16 : ACode := (.seq (.ops [
  ⟨(some 5), .p (.mov (.c (.v (.bool false)))), none, 0⟩]) c18_15)
def c18 : ACode := (.seq (.ops [
  ⟨(some 2), .m (.box (.s 0)), none, 0⟩,
  ⟨(some 4), .p (.mov (.c (.v (.bool false)))), none, 0⟩]) c18_16)
theorem t18 : trC Try.prog Try.f18.ntmps (bodyOf Try.f18) = some c18 := by kernel_rfl
theorem r18 : Try.f18.results.toList.mapM (trR Try.prog) = some [.tmp 4] := by kernel_rfl
def i18 : FI := ⟨34, c18, [.tmp 4]⟩
theorem k18 : Knows Try.prog 18 i18 := ⟨Try.f18, bodyOf Try.f18, Try.func18, by kernel_rfl, by kernel_rfl, t18, r18, by kernel_rfl⟩
-- 21 slices.Clone[[]int,int] []
def c21_0 : ACode := (.cond (.s 4) (.seq (.ops [
  ⟨(some 2), .p (.mov (.c (.v (.slice none 0 0)))), none, 0⟩]) .ret) .skip)
def c21_1 : ACode := (.seq (.ops [
  ⟨(some 5), .m (.buildSlice 1 0 [] []), none, 3⟩,
  ⟨(some 6), .p (.mov (.s 0)), none, 0⟩,
  ⟨(some 7), .m (.append 1 8 (.s 5) (.s 6)), none, 3⟩,
  ⟨(some 2), .p (.mov (.s 7)), none, 0⟩]) .ret)
def c21_2 : ACode := (.seq (.seq (.ops [
  ⟨(some 3), .p (.mov (.s 0)), none, 0⟩,
  ⟨(some 4), .p (.eqn false (.slice 3) (.s 3)), none, 0⟩]) c21_0) c21_1)
def c21 : ACode := (.seq (.ops [
  ⟨(some 2), .p (.mov (.c (.v (.slice none 0 0)))), none, 0⟩]) c21_2)
theorem t21 : trC Try.prog Try.f21.ntmps (bodyOf Try.f21) = some c21 := by kernel_rfl
theorem r21 : Try.f21.results.toList.mapM (trR Try.prog) = some [.tmp 2] := by kernel_rfl
def i21 : FI := ⟨8, c21, [.tmp 2]⟩
theorem k21 : Knows Try.prog 21 i21 := ⟨Try.f21, bodyOf Try.f21, Try.func21, by kernel_rfl, by kernel_rfl, t21, r21, by kernel_rfl⟩
-- 22 (drover/nfa.marks).each []
def c22_0 : ACode := (.cond (.s 12) (.ops [
  ⟨(some 13), .p (.mov (.s 1)), none, 0⟩,
  ⟨(some 14), .p (.mov (.s 4)), none, 0⟩,
  ⟨(some 15), .call (.s 13) [(.s 14)], none, 0⟩]) .skip)
def c22_1 : ACode := (.seq (.ops [
  ⟨(some 8), .p (.mov (.s 0)), none, 0⟩,
  ⟨(some 9), .p (.mov (.s 4)), none, 0⟩,
  ⟨(some 10), .p (.bin .shr (.s 8) (.s 9)), none, 0⟩,
  ⟨(some 11), .p (.bin .and (.s 10) (.c (.v (.int .u64 1)))), none, 0⟩,
  ⟨(some 12), .p (.bin .eql (.s 11) (.c (.v (.int .u64 1)))), none, 0⟩]) c22_0)
def c22_2 : ACode := (.ops [
  ⟨(some 16), .p (.bin .add (.s 5) (.c (.v (.int .i64 1)))), none, 0⟩,
  ⟨(some 5), .p (.mov (.s 16)), none, 0⟩])
def c22_3 : ACode := (.seq (.block 1 (.seq (.ops [
  ⟨(some 7), .p (.mov (.s 5)), none, 0⟩,
  ⟨(some 4), .p (.mov (.s 7)), none, 0⟩]) c22_1)) c22_2)
def c22_4 : ACode := (.seq (.cond (.s 6) .skip (.exit 0)) c22_3)
def c22_5 : ACode := (.seq (.ops [
  ⟨(some 6), .p (.bin .lss (.s 5) (.c (.v (.int .i64 64)))), none, 0⟩]) c22_4)
def c22_6 : ACode := (.block 0 (.loop c22_5))
def c22 : ACode := (.seq (.ops [
  ⟨(some 5), .p (.mov (.c (.v (.int .i64 0)))), none, 0⟩]) c22_6)
theorem t22 : trC Try.prog Try.f22.ntmps (bodyOf Try.f22) = some c22 := by kernel_rfl
theorem r22 : Try.f22.results.toList.mapM (trR Try.prog) = some [] := by kernel_rfl
def i22 : FI := ⟨17, c22, []⟩
theorem k22 : Knows Try.prog 22 i22 := ⟨Try.f22, bodyOf Try.f22, Try.func22, by kernel_rfl, by kernel_rfl, t22, r22, by kernel_rfl⟩
-- 23 drover/nfa.step$1 []
def c23 : ACode := (.ops [
  ⟨(some 3), .m (.load none (.s 1)), none, 0⟩,
  ⟨(some 4), .p (.mov (.s 0)), none, 0⟩,
  ⟨(some 5), .m (.buildSlice 1 1 [(.v (.int .i64 0))] [(0, 1, (.s 4))]), none, 3⟩,
  ⟨(some 6), .m (.append 1 8 (.s 3) (.s 5)), none, 3⟩,
  ⟨none, .m (.store none (.s 1) (.s 6)), none, 0⟩])
theorem t23 : trC Try.prog Try.f23.ntmps (bodyOf Try.f23) = some c23 := by kernel_rfl
theorem r23 : Try.f23.results.toList.mapM (trR Try.prog) = some [] := by kernel_rfl
def i23 : FI := ⟨7, c23, []⟩
theorem k23 : Knows Try.prog 23 i23 := ⟨Try.f23, bodyOf Try.f23, Try.func23, by kernel_rfl, by kernel_rfl, t23, r23, by kernel_rfl⟩
end Go.Proofs.Nfa
