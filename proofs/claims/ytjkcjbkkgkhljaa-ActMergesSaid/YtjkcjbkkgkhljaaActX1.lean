/- A part of a law's proof: ActX1. -/
import Derived.KernelRfl
import Derived.Test.YtjkcjbkkgkhljaaActX0
import Derived.Test.YtjkcjbkkgkhljaaProg
import Derived.Test.YtjkcjbkkgkhljaaSvCod
set_option linter.unusedSimpArgs false
set_option linter.constructorNameAsVariable false
namespace Go.Proofs.Act
open Go Go.Ab Go.Proofs
set_option linter.unusedVariables false
-- 36 slices.insertionSortCmpFunc[drover/api.Action] []
def c36_0 : ACode := (.cond (.s 14) .skip (.exit 0))
def c36_1 : ACode := (.draw [
  ⟨(some 33), .p (.bin .lss (.s 32) (.c (.v (.int .i64 0)))), (some (21, true)), 0⟩,
  ⟨(some 34), .p (.pick (.s 21) (.s 33) (.c (.v (.bool false)))), none, 0⟩])
def c36_2 : ACode := (.seq (.ops [
  ⟨(some 32), .call (.s 22) [(.s 26), (.s 31)], (some (21, true)), 0⟩]) c36_1)
def c36_3 : ACode := (.cond (.s 34) .skip (.exit 2))
def c36_4 : ACode := (.ops [
  ⟨(some 35), .p (.mov (.s 9)), none, 0⟩,
  ⟨(some 36), .p (.bin .sub (.s 35) (.c (.v (.int .i64 1)))), none, 0⟩,
  ⟨(some 9), .p (.mov (.s 36)), none, 0⟩])
def c36_5 : ACode := (.seq (.block 3 (.draw [
  ⟨(some 37), .p (.mov (.s 0)), none, 0⟩,
  ⟨(some 38), .p (.mov (.s 9)), none, 0⟩,
  ⟨(some 39), .p (.mov (.s 0)), none, 0⟩,
  ⟨(some 40), .p (.mov (.s 9)), none, 0⟩,
  ⟨(some 41), .p (.bin .sub (.s 40) (.c (.v (.int .i64 1)))), none, 0⟩,
  ⟨(some 42), .p (.mov (.s 0)), none, 0⟩,
  ⟨(some 43), .p (.mov (.s 9)), none, 0⟩,
  ⟨(some 44), .p (.bin .sub (.s 43) (.c (.v (.int .i64 1)))), none, 0⟩,
  ⟨(some 45), .p (.adrSl 3 (.s 42) (.s 44)), none, 0⟩,
  ⟨(some 46), .m (.load (some 3) (.s 45)), none, 0⟩,
  ⟨(some 47), .p (.mov (.s 0)), none, 0⟩,
  ⟨(some 48), .p (.mov (.s 9)), none, 0⟩,
  ⟨(some 49), .p (.adrSl 3 (.s 47) (.s 48)), none, 0⟩,
  ⟨(some 50), .m (.load (some 3) (.s 49)), none, 0⟩,
  ⟨(some 51), .p (.adrSl 3 (.s 37) (.s 38)), none, 0⟩,
  ⟨none, .m (.store (some 3) (.s 51) (.s 46)), none, 0⟩,
  ⟨(some 52), .p (.adrSl 3 (.s 39) (.s 41)), none, 0⟩,
  ⟨none, .m (.store (some 3) (.s 52) (.s 50)), none, 0⟩])) c36_4)
def c36_6 : ACode := (.seq (.seq (.seq (.draw [
  ⟨(some 18), .p (.mov (.s 9)), none, 0⟩,
  ⟨(some 19), .p (.mov (.s 1)), none, 0⟩,
  ⟨(some 20), .p (.bin .gtr (.s 18) (.s 19)), none, 0⟩,
  ⟨(some 21), .p (.mov (.s 20)), none, 0⟩,
  ⟨(some 22), .p (.mov (.s 3)), (some (21, true)), 0⟩,
  ⟨(some 23), .p (.mov (.s 0)), (some (21, true)), 0⟩,
  ⟨(some 24), .p (.mov (.s 9)), (some (21, true)), 0⟩,
  ⟨(some 25), .p (.adrSl 3 (.s 23) (.s 24)), (some (21, true)), 0⟩,
  ⟨(some 26), .m (.load (some 3) (.s 25)), (some (21, true)), 0⟩,
  ⟨(some 27), .p (.mov (.s 0)), (some (21, true)), 0⟩,
  ⟨(some 28), .p (.mov (.s 9)), (some (21, true)), 0⟩,
  ⟨(some 29), .p (.bin .sub (.s 28) (.c (.v (.int .i64 1)))), (some (21, true)), 0⟩,
  ⟨(some 30), .p (.adrSl 3 (.s 27) (.s 29)), (some (21, true)), 0⟩,
  ⟨(some 31), .m (.load (some 3) (.s 30)), (some (21, true)), 0⟩]) c36_2) c36_3) c36_5)
def c36_7 : ACode := (.block 2 (.loop c36_6))
def c36_8 : ACode := (.ops [
  ⟨(some 15), .p (.mov (.s 8)), none, 0⟩,
  ⟨(some 16), .p (.bin .add (.s 15) (.c (.v (.int .i64 1)))), none, 0⟩,
  ⟨(some 8), .p (.mov (.s 16)), none, 0⟩])
def c36_9 : ACode := (.seq (.block 1 (.seq (.ops [
  ⟨(some 17), .p (.mov (.s 8)), none, 0⟩,
  ⟨(some 9), .p (.mov (.s 17)), none, 0⟩]) c36_7)) c36_8)
def c36_10 : ACode := (.seq (.seq (.ops [
  ⟨(some 12), .p (.mov (.s 8)), none, 0⟩,
  ⟨(some 13), .p (.mov (.s 2)), none, 0⟩,
  ⟨(some 14), .p (.bin .lss (.s 12) (.s 13)), none, 0⟩]) c36_0) c36_9)
def c36_11 : ACode := (.block 0 (.loop c36_10))
def c36 : ACode := (.seq (.ops [
  ⟨(some 10), .p (.mov (.s 1)), none, 0⟩,
  ⟨(some 11), .p (.bin .add (.s 10) (.c (.v (.int .i64 1)))), none, 0⟩,
  ⟨(some 8), .p (.mov (.s 11)), none, 0⟩]) c36_11)
theorem t36 : trC Try.prog Try.f36.ntmps (bodyOf Try.f36) = some c36 := by kernel_rfl
theorem r36 : Try.f36.results.toList.mapM (trR Try.prog) = some [] := by kernel_rfl
def i36 : FI := ⟨53, c36, []⟩
theorem k36 : Knows Try.prog 36 i36 := ⟨Try.f36, bodyOf Try.f36, Try.func36, by kernel_rfl, by kernel_rfl, t36, r36, by kernel_rfl⟩
-- 37 slices.symMergeCmpFunc[drover/api.Action] []
def c37_0 : ACode := (.cond (.s 33) .skip (.exit 0))
def c37_1 : ACode := (.draw [
  ⟨(some 50), .p (.bin .lss (.s 49) (.c (.v (.int .i64 0)))), none, 0⟩])
def c37_2 : ACode := (.seq (.ops [
  ⟨(some 49), .call (.s 40) [(.s 44), (.s 48)], none, 0⟩]) c37_1)
def c37_3 : ACode := (.cond (.s 50) (.ops [
  ⟨(some 51), .p (.mov (.s 12)), none, 0⟩,
  ⟨(some 52), .p (.bin .add (.s 51) (.c (.v (.int .i64 1)))), none, 0⟩,
  ⟨(some 10), .p (.mov (.s 52)), none, 0⟩]) (.ops [
  ⟨(some 53), .p (.mov (.s 12)), none, 0⟩,
  ⟨(some 11), .p (.mov (.s 53)), none, 0⟩]))
def c37_4 : ACode := (.seq (.seq (.draw [
  ⟨(some 40), .p (.mov (.s 4)), none, 0⟩,
  ⟨(some 41), .p (.mov (.s 0)), none, 0⟩,
  ⟨(some 42), .p (.mov (.s 12)), none, 0⟩,
  ⟨(some 43), .p (.adrSl 3 (.s 41) (.s 42)), none, 0⟩,
  ⟨(some 44), .m (.load (some 3) (.s 43)), none, 0⟩,
  ⟨(some 45), .p (.mov (.s 0)), none, 0⟩,
  ⟨(some 46), .p (.mov (.s 1)), none, 0⟩,
  ⟨(some 47), .p (.adrSl 3 (.s 45) (.s 46)), none, 0⟩,
  ⟨(some 48), .m (.load (some 3) (.s 47)), none, 0⟩]) c37_2) c37_3)
def c37_5 : ACode := (.block 1 (.seq (.ops [
  ⟨(some 34), .p (.mov (.s 10)), none, 0⟩,
  ⟨(some 35), .p (.mov (.s 11)), none, 0⟩,
  ⟨(some 36), .p (.bin .add (.s 34) (.s 35)), none, 0⟩,
  ⟨(some 37), .p (.cint .u64 (.s 36)), none, 0⟩,
  ⟨(some 38), .p (.bin .shr (.s 37) (.c (.v (.int .u64 1)))), none, 0⟩,
  ⟨(some 39), .p (.cint .i64 (.s 38)), none, 0⟩,
  ⟨(some 12), .p (.mov (.s 39)), none, 0⟩]) c37_4))
def c37_6 : ACode := (.seq (.seq (.ops [
  ⟨(some 31), .p (.mov (.s 10)), none, 0⟩,
  ⟨(some 32), .p (.mov (.s 11)), none, 0⟩,
  ⟨(some 33), .p (.bin .lss (.s 31) (.s 32)), none, 0⟩]) c37_0) c37_5)
def c37_7 : ACode := (.cond (.s 58) .skip (.exit 2))
def c37_8 : ACode := (.ops [
  ⟨(some 59), .p (.mov (.s 13)), none, 0⟩,
  ⟨(some 60), .p (.bin .add (.s 59) (.c (.v (.int .i64 1)))), none, 0⟩,
  ⟨(some 13), .p (.mov (.s 60)), none, 0⟩])
def c37_9 : ACode := (.seq (.block 3 (.draw [
  ⟨(some 61), .p (.mov (.s 0)), none, 0⟩,
  ⟨(some 62), .p (.mov (.s 13)), none, 0⟩,
  ⟨(some 63), .p (.mov (.s 0)), none, 0⟩,
  ⟨(some 64), .p (.mov (.s 13)), none, 0⟩,
  ⟨(some 65), .p (.bin .add (.s 64) (.c (.v (.int .i64 1)))), none, 0⟩,
  ⟨(some 66), .p (.mov (.s 0)), none, 0⟩,
  ⟨(some 67), .p (.mov (.s 13)), none, 0⟩,
  ⟨(some 68), .p (.bin .add (.s 67) (.c (.v (.int .i64 1)))), none, 0⟩,
  ⟨(some 69), .p (.adrSl 3 (.s 66) (.s 68)), none, 0⟩,
  ⟨(some 70), .m (.load (some 3) (.s 69)), none, 0⟩,
  ⟨(some 71), .p (.mov (.s 0)), none, 0⟩,
  ⟨(some 72), .p (.mov (.s 13)), none, 0⟩,
  ⟨(some 73), .p (.adrSl 3 (.s 71) (.s 72)), none, 0⟩,
  ⟨(some 74), .m (.load (some 3) (.s 73)), none, 0⟩,
  ⟨(some 75), .p (.adrSl 3 (.s 61) (.s 62)), none, 0⟩,
  ⟨none, .m (.store (some 3) (.s 75) (.s 70)), none, 0⟩,
  ⟨(some 76), .p (.adrSl 3 (.s 63) (.s 65)), none, 0⟩,
  ⟨none, .m (.store (some 3) (.s 76) (.s 74)), none, 0⟩])) c37_8)
def c37_10 : ACode := (.seq (.seq (.ops [
  ⟨(some 55), .p (.mov (.s 13)), none, 0⟩,
  ⟨(some 56), .p (.mov (.s 10)), none, 0⟩,
  ⟨(some 57), .p (.bin .sub (.s 56) (.c (.v (.int .i64 1)))), none, 0⟩,
  ⟨(some 58), .p (.bin .lss (.s 55) (.s 57)), none, 0⟩]) c37_7) c37_9)
def c37_11 : ACode := (.block 2 (.loop c37_10))
def c37_12 : ACode := (.seq (.seq (.ops [
  ⟨(some 54), .p (.mov (.s 1)), none, 0⟩,
  ⟨(some 13), .p (.mov (.s 54)), none, 0⟩]) c37_11) .ret)
def c37_13 : ACode := (.seq (.block 0 (.loop c37_6)) c37_12)
def c37_14 : ACode := (.seq (.ops [
  ⟨(some 30), .p (.mov (.s 3)), none, 0⟩,
  ⟨(some 11), .p (.mov (.s 30)), none, 0⟩]) c37_13)
def c37_15 : ACode := (.cond (.s 28) (.seq (.ops [
  ⟨(some 29), .p (.mov (.s 2)), none, 0⟩,
  ⟨(some 10), .p (.mov (.s 29)), none, 0⟩]) c37_14) .skip)
def c37_16 : ACode := (.cond (.s 85) .skip (.exit 4))
def c37_17 : ACode := (.draw [
  ⟨(some 102), .p (.bin .lss (.s 101) (.c (.v (.int .i64 0)))), none, 0⟩,
  ⟨(some 103), .p (.un .not (.s 102)), none, 0⟩])
def c37_18 : ACode := (.seq (.ops [
  ⟨(some 101), .call (.s 92) [(.s 96), (.s 100)], none, 0⟩]) c37_17)
def c37_19 : ACode := (.cond (.s 103) (.ops [
  ⟨(some 104), .p (.mov (.s 16)), none, 0⟩,
  ⟨(some 105), .p (.bin .add (.s 104) (.c (.v (.int .i64 1)))), none, 0⟩,
  ⟨(some 14), .p (.mov (.s 105)), none, 0⟩]) (.ops [
  ⟨(some 106), .p (.mov (.s 16)), none, 0⟩,
  ⟨(some 15), .p (.mov (.s 106)), none, 0⟩]))
def c37_20 : ACode := (.seq (.seq (.draw [
  ⟨(some 92), .p (.mov (.s 4)), none, 0⟩,
  ⟨(some 93), .p (.mov (.s 0)), none, 0⟩,
  ⟨(some 94), .p (.mov (.s 2)), none, 0⟩,
  ⟨(some 95), .p (.adrSl 3 (.s 93) (.s 94)), none, 0⟩,
  ⟨(some 96), .m (.load (some 3) (.s 95)), none, 0⟩,
  ⟨(some 97), .p (.mov (.s 0)), none, 0⟩,
  ⟨(some 98), .p (.mov (.s 16)), none, 0⟩,
  ⟨(some 99), .p (.adrSl 3 (.s 97) (.s 98)), none, 0⟩,
  ⟨(some 100), .m (.load (some 3) (.s 99)), none, 0⟩]) c37_18) c37_19)
def c37_21 : ACode := (.block 5 (.seq (.ops [
  ⟨(some 86), .p (.mov (.s 14)), none, 0⟩,
  ⟨(some 87), .p (.mov (.s 15)), none, 0⟩,
  ⟨(some 88), .p (.bin .add (.s 86) (.s 87)), none, 0⟩,
  ⟨(some 89), .p (.cint .u64 (.s 88)), none, 0⟩,
  ⟨(some 90), .p (.bin .shr (.s 89) (.c (.v (.int .u64 1)))), none, 0⟩,
  ⟨(some 91), .p (.cint .i64 (.s 90)), none, 0⟩,
  ⟨(some 16), .p (.mov (.s 91)), none, 0⟩]) c37_20))
def c37_22 : ACode := (.seq (.seq (.ops [
  ⟨(some 83), .p (.mov (.s 14)), none, 0⟩,
  ⟨(some 84), .p (.mov (.s 15)), none, 0⟩,
  ⟨(some 85), .p (.bin .lss (.s 83) (.s 84)), none, 0⟩]) c37_16) c37_21)
def c37_23 : ACode := (.cond (.s 110) .skip (.exit 6))
def c37_24 : ACode := (.ops [
  ⟨(some 111), .p (.mov (.s 17)), none, 0⟩,
  ⟨(some 112), .p (.bin .sub (.s 111) (.c (.v (.int .i64 1)))), none, 0⟩,
  ⟨(some 17), .p (.mov (.s 112)), none, 0⟩])
def c37_25 : ACode := (.seq (.block 7 (.draw [
  ⟨(some 113), .p (.mov (.s 0)), none, 0⟩,
  ⟨(some 114), .p (.mov (.s 17)), none, 0⟩,
  ⟨(some 115), .p (.mov (.s 0)), none, 0⟩,
  ⟨(some 116), .p (.mov (.s 17)), none, 0⟩,
  ⟨(some 117), .p (.bin .sub (.s 116) (.c (.v (.int .i64 1)))), none, 0⟩,
  ⟨(some 118), .p (.mov (.s 0)), none, 0⟩,
  ⟨(some 119), .p (.mov (.s 17)), none, 0⟩,
  ⟨(some 120), .p (.bin .sub (.s 119) (.c (.v (.int .i64 1)))), none, 0⟩,
  ⟨(some 121), .p (.adrSl 3 (.s 118) (.s 120)), none, 0⟩,
  ⟨(some 122), .m (.load (some 3) (.s 121)), none, 0⟩,
  ⟨(some 123), .p (.mov (.s 0)), none, 0⟩,
  ⟨(some 124), .p (.mov (.s 17)), none, 0⟩,
  ⟨(some 125), .p (.adrSl 3 (.s 123) (.s 124)), none, 0⟩,
  ⟨(some 126), .m (.load (some 3) (.s 125)), none, 0⟩,
  ⟨(some 127), .p (.adrSl 3 (.s 113) (.s 114)), none, 0⟩,
  ⟨none, .m (.store (some 3) (.s 127) (.s 122)), none, 0⟩,
  ⟨(some 128), .p (.adrSl 3 (.s 115) (.s 117)), none, 0⟩,
  ⟨none, .m (.store (some 3) (.s 128) (.s 126)), none, 0⟩])) c37_24)
def c37_26 : ACode := (.seq (.seq (.ops [
  ⟨(some 108), .p (.mov (.s 17)), none, 0⟩,
  ⟨(some 109), .p (.mov (.s 14)), none, 0⟩,
  ⟨(some 110), .p (.bin .gtr (.s 108) (.s 109)), none, 0⟩]) c37_23) c37_25)
def c37_27 : ACode := (.block 6 (.loop c37_26))
def c37_28 : ACode := (.seq (.seq (.ops [
  ⟨(some 107), .p (.mov (.s 2)), none, 0⟩,
  ⟨(some 17), .p (.mov (.s 107)), none, 0⟩]) c37_27) .ret)
def c37_29 : ACode := (.seq (.block 4 (.loop c37_22)) c37_28)
def c37_30 : ACode := (.seq (.ops [
  ⟨(some 82), .p (.mov (.s 2)), none, 0⟩,
  ⟨(some 15), .p (.mov (.s 82)), none, 0⟩]) c37_29)
def c37_31 : ACode := (.cond (.s 80) (.seq (.ops [
  ⟨(some 81), .p (.mov (.s 1)), none, 0⟩,
  ⟨(some 14), .p (.mov (.s 81)), none, 0⟩]) c37_30) .skip)
def c37_32 : ACode := (.ops [
  ⟨(some 144), .p (.mov (.s 18)), none, 0⟩,
  ⟨(some 21), .p (.mov (.s 144)), none, 0⟩])
def c37_33 : ACode := (.ops [
  ⟨(some 146), .p (.mov (.s 2)), none, 0⟩,
  ⟨(some 21), .p (.mov (.s 146)), none, 0⟩])
def c37_34 : ACode := (.cond (.s 140) (.seq (.ops [
  ⟨(some 141), .p (.mov (.s 19)), none, 0⟩,
  ⟨(some 142), .p (.mov (.s 3)), none, 0⟩,
  ⟨(some 143), .p (.bin .sub (.s 141) (.s 142)), none, 0⟩,
  ⟨(some 20), .p (.mov (.s 143)), none, 0⟩]) c37_32) (.seq (.ops [
  ⟨(some 145), .p (.mov (.s 1)), none, 0⟩,
  ⟨(some 20), .p (.mov (.s 145)), none, 0⟩]) c37_33))
def c37_35 : ACode := (.cond (.s 151) .skip (.exit 8))
def c37_36 : ACode := (.draw [
  ⟨(some 170), .p (.bin .lss (.s 169) (.c (.v (.int .i64 0)))), none, 0⟩,
  ⟨(some 171), .p (.un .not (.s 170)), none, 0⟩])
def c37_37 : ACode := (.seq (.ops [
  ⟨(some 169), .call (.s 158) [(.s 164), (.s 168)], none, 0⟩]) c37_36)
def c37_38 : ACode := (.cond (.s 171) (.ops [
  ⟨(some 172), .p (.mov (.s 23)), none, 0⟩,
  ⟨(some 173), .p (.bin .add (.s 172) (.c (.v (.int .i64 1)))), none, 0⟩,
  ⟨(some 20), .p (.mov (.s 173)), none, 0⟩]) (.ops [
  ⟨(some 174), .p (.mov (.s 23)), none, 0⟩,
  ⟨(some 21), .p (.mov (.s 174)), none, 0⟩]))
def c37_39 : ACode := (.seq (.seq (.draw [
  ⟨(some 158), .p (.mov (.s 4)), none, 0⟩,
  ⟨(some 159), .p (.mov (.s 0)), none, 0⟩,
  ⟨(some 160), .p (.mov (.s 22)), none, 0⟩,
  ⟨(some 161), .p (.mov (.s 23)), none, 0⟩,
  ⟨(some 162), .p (.bin .sub (.s 160) (.s 161)), none, 0⟩,
  ⟨(some 163), .p (.adrSl 3 (.s 159) (.s 162)), none, 0⟩,
  ⟨(some 164), .m (.load (some 3) (.s 163)), none, 0⟩,
  ⟨(some 165), .p (.mov (.s 0)), none, 0⟩,
  ⟨(some 166), .p (.mov (.s 23)), none, 0⟩,
  ⟨(some 167), .p (.adrSl 3 (.s 165) (.s 166)), none, 0⟩,
  ⟨(some 168), .m (.load (some 3) (.s 167)), none, 0⟩]) c37_37) c37_38)
def c37_40 : ACode := (.block 9 (.seq (.ops [
  ⟨(some 152), .p (.mov (.s 20)), none, 0⟩,
  ⟨(some 153), .p (.mov (.s 21)), none, 0⟩,
  ⟨(some 154), .p (.bin .add (.s 152) (.s 153)), none, 0⟩,
  ⟨(some 155), .p (.cint .u64 (.s 154)), none, 0⟩,
  ⟨(some 156), .p (.bin .shr (.s 155) (.c (.v (.int .u64 1)))), none, 0⟩,
  ⟨(some 157), .p (.cint .i64 (.s 156)), none, 0⟩,
  ⟨(some 23), .p (.mov (.s 157)), none, 0⟩]) c37_39))
def c37_41 : ACode := (.seq (.seq (.ops [
  ⟨(some 149), .p (.mov (.s 20)), none, 0⟩,
  ⟨(some 150), .p (.mov (.s 21)), none, 0⟩,
  ⟨(some 151), .p (.bin .lss (.s 149) (.s 150)), none, 0⟩]) c37_35) c37_40)
def c37_42 : ACode := (.cond (.s 185) (.ops [
  ⟨(some 186), .p (.mov (.s 0)), none, 0⟩,
  ⟨(some 187), .p (.mov (.s 20)), none, 0⟩,
  ⟨(some 188), .p (.mov (.s 2)), none, 0⟩,
  ⟨(some 189), .p (.mov (.s 24)), none, 0⟩,
  ⟨(some 190), .p (.mov (.s 4)), none, 0⟩,
  ⟨(some 191), .call (.c (.fn 45 [])) [(.s 186), (.s 187), (.s 188), (.s 189), (.s 190)], none, 29⟩]) .skip)
def c37_43 : ACode := (.cond (.s 199) (.ops [
  ⟨(some 200), .p (.mov (.s 0)), none, 0⟩,
  ⟨(some 201), .p (.mov (.s 1)), none, 0⟩,
  ⟨(some 202), .p (.mov (.s 20)), none, 0⟩,
  ⟨(some 203), .p (.mov (.s 18)), none, 0⟩,
  ⟨(some 204), .p (.mov (.s 4)), none, 0⟩,
  ⟨(some 205), .call (.c (.fn 37 [])) [(.s 200), (.s 201), (.s 202), (.s 203), (.s 204)], none, 29⟩]) .skip)
def c37_44 : ACode := (.cond (.s 213) (.ops [
  ⟨(some 214), .p (.mov (.s 0)), none, 0⟩,
  ⟨(some 215), .p (.mov (.s 18)), none, 0⟩,
  ⟨(some 216), .p (.mov (.s 24)), none, 0⟩,
  ⟨(some 217), .p (.mov (.s 3)), none, 0⟩,
  ⟨(some 218), .p (.mov (.s 4)), none, 0⟩,
  ⟨(some 219), .call (.c (.fn 37 [])) [(.s 214), (.s 215), (.s 216), (.s 217), (.s 218)], none, 29⟩]) .skip)
def c37_45 : ACode := (.seq (.ops [
  ⟨(some 206), .p (.mov (.s 18)), none, 0⟩,
  ⟨(some 207), .p (.mov (.s 24)), none, 0⟩,
  ⟨(some 208), .p (.bin .lss (.s 206) (.s 207)), none, 0⟩,
  ⟨(some 209), .p (.mov (.s 208)), none, 0⟩,
  ⟨(some 210), .p (.mov (.s 24)), (some (209, true)), 0⟩,
  ⟨(some 211), .p (.mov (.s 3)), (some (209, true)), 0⟩,
  ⟨(some 212), .p (.bin .lss (.s 210) (.s 211)), (some (209, true)), 0⟩,
  ⟨(some 213), .p (.pick (.s 209) (.s 212) (.c (.v (.bool false)))), none, 0⟩]) c37_44)
def c37_46 : ACode := (.seq (.seq (.ops [
  ⟨(some 192), .p (.mov (.s 1)), none, 0⟩,
  ⟨(some 193), .p (.mov (.s 20)), none, 0⟩,
  ⟨(some 194), .p (.bin .lss (.s 192) (.s 193)), none, 0⟩,
  ⟨(some 195), .p (.mov (.s 194)), none, 0⟩,
  ⟨(some 196), .p (.mov (.s 20)), (some (195, true)), 0⟩,
  ⟨(some 197), .p (.mov (.s 18)), (some (195, true)), 0⟩,
  ⟨(some 198), .p (.bin .lss (.s 196) (.s 197)), (some (195, true)), 0⟩,
  ⟨(some 199), .p (.pick (.s 195) (.s 198) (.c (.v (.bool false)))), none, 0⟩]) c37_43) c37_45)
def c37_47 : ACode := (.seq (.seq (.ops [
  ⟨(some 178), .p (.mov (.s 20)), none, 0⟩,
  ⟨(some 179), .p (.mov (.s 2)), none, 0⟩,
  ⟨(some 180), .p (.bin .lss (.s 178) (.s 179)), none, 0⟩,
  ⟨(some 181), .p (.mov (.s 180)), none, 0⟩,
  ⟨(some 182), .p (.mov (.s 2)), (some (181, true)), 0⟩,
  ⟨(some 183), .p (.mov (.s 24)), (some (181, true)), 0⟩,
  ⟨(some 184), .p (.bin .lss (.s 182) (.s 183)), (some (181, true)), 0⟩,
  ⟨(some 185), .p (.pick (.s 181) (.s 184) (.c (.v (.bool false)))), none, 0⟩]) c37_42) c37_46)
def c37_48 : ACode := (.seq (.ops [
  ⟨(some 175), .p (.mov (.s 19)), none, 0⟩,
  ⟨(some 176), .p (.mov (.s 20)), none, 0⟩,
  ⟨(some 177), .p (.bin .sub (.s 175) (.s 176)), none, 0⟩,
  ⟨(some 24), .p (.mov (.s 177)), none, 0⟩]) c37_47)
def c37_49 : ACode := (.seq (.block 8 (.loop c37_41)) c37_48)
def c37_50 : ACode := (.seq (.ops [
  ⟨(some 147), .p (.mov (.s 19)), none, 0⟩,
  ⟨(some 148), .p (.bin .sub (.s 147) (.c (.v (.int .i64 1)))), none, 0⟩,
  ⟨(some 22), .p (.mov (.s 148)), none, 0⟩]) c37_49)
def c37_51 : ACode := (.seq (.seq (.ops [
  ⟨(some 138), .p (.mov (.s 2)), none, 0⟩,
  ⟨(some 139), .p (.mov (.s 18)), none, 0⟩,
  ⟨(some 140), .p (.bin .gtr (.s 138) (.s 139)), none, 0⟩]) c37_34) c37_50)
def c37_52 : ACode := (.seq (.ops [
  ⟨(some 20), .p (.mov (.c (.v (.int .i64 0)))), none, 0⟩,
  ⟨(some 21), .p (.mov (.c (.v (.int .i64 0)))), none, 0⟩]) c37_51)
def c37_53 : ACode := (.seq (.ops [
  ⟨(some 135), .p (.mov (.s 18)), none, 0⟩,
  ⟨(some 136), .p (.mov (.s 2)), none, 0⟩,
  ⟨(some 137), .p (.bin .add (.s 135) (.s 136)), none, 0⟩,
  ⟨(some 19), .p (.mov (.s 137)), none, 0⟩]) c37_52)
def c37_54 : ACode := (.seq (.ops [
  ⟨(some 129), .p (.mov (.s 1)), none, 0⟩,
  ⟨(some 130), .p (.mov (.s 3)), none, 0⟩,
  ⟨(some 131), .p (.bin .add (.s 129) (.s 130)), none, 0⟩,
  ⟨(some 132), .p (.cint .u64 (.s 131)), none, 0⟩,
  ⟨(some 133), .p (.bin .shr (.s 132) (.c (.v (.int .u64 1)))), none, 0⟩,
  ⟨(some 134), .p (.cint .i64 (.s 133)), none, 0⟩,
  ⟨(some 18), .p (.mov (.s 134)), none, 0⟩]) c37_53)
def c37_55 : ACode := (.seq (.seq (.ops [
  ⟨(some 77), .p (.mov (.s 3)), none, 0⟩,
  ⟨(some 78), .p (.mov (.s 2)), none, 0⟩,
  ⟨(some 79), .p (.bin .sub (.s 77) (.s 78)), none, 0⟩,
  ⟨(some 80), .p (.bin .eql (.s 79) (.c (.v (.int .i64 1)))), none, 0⟩]) c37_31) c37_54)
def c37 : ACode := (.seq (.seq (.ops [
  ⟨(some 25), .p (.mov (.s 2)), none, 0⟩,
  ⟨(some 26), .p (.mov (.s 1)), none, 0⟩,
  ⟨(some 27), .p (.bin .sub (.s 25) (.s 26)), none, 0⟩,
  ⟨(some 28), .p (.bin .eql (.s 27) (.c (.v (.int .i64 1)))), none, 0⟩]) c37_15) c37_55)
theorem t37 : trC Try.prog Try.f37.ntmps (bodyOf Try.f37) = some c37 := by kernel_rfl
theorem r37 : Try.f37.results.toList.mapM (trR Try.prog) = some [] := by kernel_rfl
def i37 : FI := ⟨220, c37, []⟩
theorem k37 : Knows Try.prog 37 i37 := ⟨Try.f37, bodyOf Try.f37, Try.func37, by kernel_rfl, by kernel_rfl, t37, r37, by kernel_rfl⟩
-- 38 cmp.isNaN[int] []
def c38_0 : ACode := (.seq (.ops [
  ⟨(some 3), .p (.mov (.s 0)), none, 0⟩,
  ⟨(some 4), .p (.mov (.s 0)), none, 0⟩,
  ⟨(some 5), .p (.bin .neq (.s 3) (.s 4)), none, 0⟩,
  ⟨(some 2), .p (.mov (.s 5)), none, 0⟩]) .ret)
def c38 : ACode := (.seq (.ops [
  ⟨(some 2), .p (.mov (.c (.v (.bool false)))), none, 0⟩]) c38_0)
theorem t38 : trC Try.prog Try.f38.ntmps (bodyOf Try.f38) = some c38 := by kernel_rfl
theorem r38 : Try.f38.results.toList.mapM (trR Try.prog) = some [.tmp 2] := by kernel_rfl
def i38 : FI := ⟨6, c38, [.tmp 2]⟩
theorem k38 : Knows Try.prog 38 i38 := ⟨Try.f38, bodyOf Try.f38, Try.func38, by kernel_rfl, by kernel_rfl, t38, r38, by kernel_rfl⟩
-- 40 drover/nums.Put []
def c40_0 : ACode := (.cond (.s 24) (.seq (.ops [
  ⟨(some 4), .p (.mov (.c (.v (.string ⟨#[]⟩)))), none, 0⟩,
  ⟨(some 5), .p (.mov (.c (.v (.int .i64 1)))), none, 0⟩]) .ret) .skip)
def c40_1 : ACode := (.ops [
  ⟨(some 32), .p (.mov (.s 6)), none, 0⟩,
  ⟨(some 33), .p (.mov (.s 1)), none, 0⟩,
  ⟨(some 34), .p (.bin .sub (.s 33) (.c (.v (.int .i64 1)))), none, 0⟩,
  ⟨(some 35), .p (.mov (.s 7)), none, 0⟩,
  ⟨(some 36), .p (.bin .sub (.s 34) (.s 35)), none, 0⟩,
  ⟨(some 37), .p (.mov (.s 0)), none, 0⟩,
  ⟨(some 38), .p (.mov (.s 7)), none, 0⟩,
  ⟨(some 39), .p (.bin .mul (.c (.v (.int .i64 8))) (.s 38)), none, 0⟩,
  ⟨(some 40), .p (.bin .shr (.s 37) (.s 39)), none, 0⟩,
  ⟨(some 41), .p (.cint .u8 (.s 40)), none, 0⟩,
  ⟨(some 42), .p (.adrSl 1 (.s 32) (.s 36)), none, 0⟩,
  ⟨none, .m (.store none (.s 42) (.s 41)), none, 0⟩])
def c40_2 : ACode := (.ops [
  ⟨(some 43), .p (.bin .add (.s 29) (.c (.v (.int .i64 1)))), none, 0⟩,
  ⟨(some 29), .p (.mov (.s 43)), none, 0⟩])
def c40_3 : ACode := (.seq (.block 1 (.seq (.ops [
  ⟨(some 31), .p (.mov (.s 29)), none, 0⟩,
  ⟨(some 7), .p (.mov (.s 31)), none, 0⟩]) c40_1)) c40_2)
def c40_4 : ACode := (.seq (.cond (.s 30) .skip (.exit 0)) c40_3)
def c40_5 : ACode := (.seq (.ops [
  ⟨(some 30), .p (.bin .lss (.s 29) (.s 28)), none, 0⟩]) c40_4)
def c40_6 : ACode := (.block 0 (.loop c40_5))
def c40_7 : ACode := (.seq (.ops [
  ⟨(some 44), .p (.mov (.s 6)), none, 0⟩,
  ⟨(some 45), .m (.b2s (.s 44)), none, 0⟩,
  ⟨(some 4), .p (.mov (.s 45)), none, 0⟩,
  ⟨(some 5), .p (.mov (.c (.v (.int .i64 0)))), none, 0⟩]) .ret)
def c40_8 : ACode := (.seq (.seq (.ops [
  ⟨(some 27), .p (.mov (.s 6)), none, 0⟩,
  ⟨(some 28), .p (.len false (.s 27)), none, 5⟩,
  ⟨(some 29), .p (.mov (.c (.v (.int .i64 0)))), none, 0⟩]) c40_6) c40_7)
def c40_9 : ACode := (.seq (.ops [
  ⟨(some 25), .p (.mov (.s 1)), none, 0⟩,
  ⟨(some 26), .m (.mkSlice 1 1 [(.v (.int .u8 0))] (.s 25) (.s 25)), none, 5⟩,
  ⟨(some 6), .p (.mov (.s 26)), none, 0⟩]) c40_8)
def c40_10 : ACode := (.seq (.seq (.ops [
  ⟨(some 8), .p (.mov (.s 1)), none, 0⟩,
  ⟨(some 9), .p (.bin .lss (.s 8) (.c (.v (.int .i64 1)))), none, 0⟩,
  ⟨(some 10), .p (.mov (.s 9)), none, 0⟩,
  ⟨(some 11), .p (.mov (.s 1)), (some (10, false)), 0⟩,
  ⟨(some 12), .p (.bin .gtr (.s 11) (.c (.v (.int .i64 8)))), (some (10, false)), 0⟩,
  ⟨(some 13), .p (.pick (.s 10) (.c (.v (.bool true))) (.s 12)), none, 0⟩,
  ⟨(some 14), .p (.mov (.s 13)), none, 0⟩,
  ⟨(some 15), .p (.mov (.s 1)), (some (14, false)), 0⟩,
  ⟨(some 16), .p (.bin .lss (.s 15) (.c (.v (.int .i64 8)))), (some (14, false)), 0⟩,
  ⟨(some 17), .p (.mov (.s 16)), (some (14, false)), 0⟩,
  ⟨(some 18), .p (.mov (.s 0)), (some (17, true)), 0⟩,
  ⟨(some 19), .p (.mov (.s 1)), (some (17, true)), 0⟩,
  ⟨(some 20), .p (.bin .mul (.c (.v (.int .i64 8))) (.s 19)), (some (17, true)), 0⟩,
  ⟨(some 21), .p (.bin .shr (.s 18) (.s 20)), (some (17, true)), 0⟩,
  ⟨(some 22), .p (.bin .gtr (.s 21) (.c (.v (.int .u64 0)))), (some (17, true)), 0⟩,
  ⟨(some 23), .p (.pick (.s 17) (.s 22) (.c (.v (.bool false)))), (some (14, false)), 0⟩,
  ⟨(some 24), .p (.pick (.s 14) (.c (.v (.bool true))) (.s 23)), none, 0⟩]) c40_0) c40_9)
def c40 : ACode := (.seq (.ops [
  ⟨(some 4), .p (.mov (.c (.v (.string ⟨#[]⟩)))), none, 0⟩,
  ⟨(some 5), .p (.mov (.c (.v (.int .i64 0)))), none, 0⟩]) c40_10)
theorem t40 : trC Try.prog Try.f40.ntmps (bodyOf Try.f40) = some c40 := by kernel_rfl
theorem r40 : Try.f40.results.toList.mapM (trR Try.prog) = some [.tmp 4, .tmp 5] := by kernel_rfl
def i40 : FI := ⟨46, c40, [.tmp 4, .tmp 5]⟩
theorem k40 : Knows Try.prog 40 i40 := ⟨Try.f40, bodyOf Try.f40, Try.func40, by kernel_rfl, by kernel_rfl, t40, r40, by kernel_rfl⟩
-- 41 math/bits.Mul []
def c41_0 : List AOper := [
  ⟨(some 10), .p (.mov (.s 15)), none, 0⟩,
  ⟨(some 16), .p (.extract (.s 10) 0), none, 0⟩,
  ⟨(some 17), .p (.extract (.s 10) 1), none, 0⟩,
  ⟨(some 6), .p (.mov (.s 16)), none, 0⟩,
  ⟨(some 7), .p (.mov (.s 17)), none, 0⟩]
def c41_1 : ACode := (.seq (.ops [
  ⟨(some 18), .p (.mov (.s 6)), none, 0⟩,
  ⟨(some 19), .p (.cint .u64 (.s 18)), none, 0⟩,
  ⟨(some 20), .p (.mov (.s 7)), none, 0⟩,
  ⟨(some 21), .p (.cint .u64 (.s 20)), none, 0⟩,
  ⟨(some 4), .p (.mov (.s 19)), none, 0⟩,
  ⟨(some 5), .p (.mov (.s 21)), none, 0⟩]) .ret)
def c41_2 : List AOper := [
  ⟨(some 22), .p (.mov (.s 25)), none, 0⟩,
  ⟨(some 26), .p (.extract (.s 22) 0), none, 0⟩,
  ⟨(some 27), .p (.extract (.s 22) 1), none, 0⟩,
  ⟨(some 8), .p (.mov (.s 26)), none, 0⟩,
  ⟨(some 9), .p (.mov (.s 27)), none, 0⟩]
def c41_3 : ACode := (.seq (.ops [
  ⟨(some 28), .p (.mov (.s 8)), none, 0⟩,
  ⟨(some 29), .p (.mov (.s 9)), none, 0⟩,
  ⟨(some 4), .p (.mov (.s 28)), none, 0⟩,
  ⟨(some 5), .p (.mov (.s 29)), none, 0⟩]) .ret)
def c41_4 : ACode := (.seq (.ops (⟨(some 23), .p (.mov (.s 0)), none, 0⟩ ::
  ⟨(some 24), .p (.mov (.s 1)), none, 0⟩ ::
  ⟨(some 25), .call (.c (.fn 47 [])) [(.s 23), (.s 24)], none, 0⟩ :: c41_2)) c41_3)
def c41_5 : ACode := (.seq (.cond (.c (.v (.bool false))) (.seq (.ops (⟨(some 11), .p (.mov (.s 0)), none, 0⟩ ::
  ⟨(some 12), .p (.cint .u32 (.s 11)), none, 0⟩ ::
  ⟨(some 13), .p (.mov (.s 1)), none, 0⟩ ::
  ⟨(some 14), .p (.cint .u32 (.s 13)), none, 0⟩ ::
  ⟨(some 15), .call (.c (.fn 46 [])) [(.s 12), (.s 14)], none, 0⟩ :: c41_0)) c41_1) .skip) c41_4)
def c41 : ACode := (.seq (.ops [
  ⟨(some 4), .p (.mov (.c (.v (.int .u64 0)))), none, 0⟩,
  ⟨(some 5), .p (.mov (.c (.v (.int .u64 0)))), none, 0⟩]) c41_5)
theorem t41 : trC Try.prog Try.f41.ntmps (bodyOf Try.f41) = some c41 := by kernel_rfl
theorem r41 : Try.f41.results.toList.mapM (trR Try.prog) = some [.tmp 4, .tmp 5] := by kernel_rfl
def i41 : FI := ⟨30, c41, [.tmp 4, .tmp 5]⟩
theorem k41 : Knows Try.prog 41 i41 := ⟨Try.f41, bodyOf Try.f41, Try.func41, by kernel_rfl, by kernel_rfl, t41, r41, by kernel_rfl⟩
-- 45 slices.rotateCmpFunc[drover/api.Action] []
def c45_0 : ACode := (.cond (.s 20) .skip (.exit 0))
def c45_1 : ACode := (.ops [
  ⟨(some 32), .p (.mov (.s 10)), none, 0⟩,
  ⟨(some 33), .p (.mov (.s 11)), none, 0⟩,
  ⟨(some 34), .p (.bin .sub (.s 32) (.s 33)), none, 0⟩,
  ⟨(some 10), .p (.mov (.s 34)), none, 0⟩])
def c45_2 : ACode := (.ops [
  ⟨(some 47), .p (.mov (.s 11)), none, 0⟩,
  ⟨(some 48), .p (.mov (.s 10)), none, 0⟩,
  ⟨(some 49), .p (.bin .sub (.s 47) (.s 48)), none, 0⟩,
  ⟨(some 11), .p (.mov (.s 49)), none, 0⟩])
def c45_3 : ACode := (.cond (.s 23) (.seq (.ops [
  ⟨(some 24), .p (.mov (.s 0)), none, 0⟩,
  ⟨(some 25), .p (.mov (.s 2)), none, 0⟩,
  ⟨(some 26), .p (.mov (.s 10)), none, 0⟩,
  ⟨(some 27), .p (.bin .sub (.s 25) (.s 26)), none, 0⟩,
  ⟨(some 28), .p (.mov (.s 2)), none, 0⟩,
  ⟨(some 29), .p (.mov (.s 11)), none, 0⟩,
  ⟨(some 30), .p (.mov (.s 4)), none, 0⟩,
  ⟨(some 31), .call (.c (.fn 50 [])) [(.s 24), (.s 27), (.s 28), (.s 29), (.s 30)], none, 29⟩]) c45_1) (.seq (.ops [
  ⟨(some 35), .p (.mov (.s 0)), none, 0⟩,
  ⟨(some 36), .p (.mov (.s 2)), none, 0⟩,
  ⟨(some 37), .p (.mov (.s 10)), none, 0⟩,
  ⟨(some 38), .p (.bin .sub (.s 36) (.s 37)), none, 0⟩,
  ⟨(some 39), .p (.mov (.s 2)), none, 0⟩,
  ⟨(some 40), .p (.mov (.s 11)), none, 0⟩,
  ⟨(some 41), .p (.bin .add (.s 39) (.s 40)), none, 0⟩,
  ⟨(some 42), .p (.mov (.s 10)), none, 0⟩,
  ⟨(some 43), .p (.bin .sub (.s 41) (.s 42)), none, 0⟩,
  ⟨(some 44), .p (.mov (.s 10)), none, 0⟩,
  ⟨(some 45), .p (.mov (.s 4)), none, 0⟩,
  ⟨(some 46), .call (.c (.fn 50 [])) [(.s 35), (.s 38), (.s 43), (.s 44), (.s 45)], none, 29⟩]) c45_2))
def c45_4 : ACode := (.block 1 (.seq (.ops [
  ⟨(some 21), .p (.mov (.s 10)), none, 0⟩,
  ⟨(some 22), .p (.mov (.s 11)), none, 0⟩,
  ⟨(some 23), .p (.bin .gtr (.s 21) (.s 22)), none, 0⟩]) c45_3))
def c45_5 : ACode := (.seq (.seq (.ops [
  ⟨(some 18), .p (.mov (.s 10)), none, 0⟩,
  ⟨(some 19), .p (.mov (.s 11)), none, 0⟩,
  ⟨(some 20), .p (.bin .neq (.s 18) (.s 19)), none, 0⟩]) c45_0) c45_4)
def c45_6 : ACode := (.ops [
  ⟨(some 50), .p (.mov (.s 0)), none, 0⟩,
  ⟨(some 51), .p (.mov (.s 2)), none, 0⟩,
  ⟨(some 52), .p (.mov (.s 10)), none, 0⟩,
  ⟨(some 53), .p (.bin .sub (.s 51) (.s 52)), none, 0⟩,
  ⟨(some 54), .p (.mov (.s 2)), none, 0⟩,
  ⟨(some 55), .p (.mov (.s 10)), none, 0⟩,
  ⟨(some 56), .p (.mov (.s 4)), none, 0⟩,
  ⟨(some 57), .call (.c (.fn 50 [])) [(.s 50), (.s 53), (.s 54), (.s 55), (.s 56)], none, 29⟩])
def c45_7 : ACode := (.seq (.block 0 (.loop c45_5)) c45_6)
def c45_8 : ACode := (.seq (.ops [
  ⟨(some 15), .p (.mov (.s 3)), none, 0⟩,
  ⟨(some 16), .p (.mov (.s 2)), none, 0⟩,
  ⟨(some 17), .p (.bin .sub (.s 15) (.s 16)), none, 0⟩,
  ⟨(some 11), .p (.mov (.s 17)), none, 0⟩]) c45_7)
def c45 : ACode := (.seq (.ops [
  ⟨(some 12), .p (.mov (.s 2)), none, 0⟩,
  ⟨(some 13), .p (.mov (.s 1)), none, 0⟩,
  ⟨(some 14), .p (.bin .sub (.s 12) (.s 13)), none, 0⟩,
  ⟨(some 10), .p (.mov (.s 14)), none, 0⟩]) c45_8)
theorem t45 : trC Try.prog Try.f45.ntmps (bodyOf Try.f45) = some c45 := by kernel_rfl
theorem r45 : Try.f45.results.toList.mapM (trR Try.prog) = some [] := by kernel_rfl
def i45 : FI := ⟨58, c45, []⟩
theorem k45 : Knows Try.prog 45 i45 := ⟨Try.f45, bodyOf Try.f45, Try.func45, by kernel_rfl, by kernel_rfl, t45, r45, by kernel_rfl⟩
-- 46 math/bits.Mul32 []
def c46_0 : ACode := (.seq (.ops [
  ⟨(some 12), .p (.mov (.s 6)), none, 0⟩,
  ⟨(some 13), .p (.bin .shr (.s 12) (.c (.v (.int .u64 32)))), none, 0⟩,
  ⟨(some 14), .p (.cint .u32 (.s 13)), none, 0⟩,
  ⟨(some 15), .p (.mov (.s 6)), none, 0⟩,
  ⟨(some 16), .p (.cint .u32 (.s 15)), none, 0⟩,
  ⟨(some 4), .p (.mov (.s 14)), none, 0⟩,
  ⟨(some 5), .p (.mov (.s 16)), none, 0⟩]) .ret)
def c46_1 : ACode := (.seq (.ops [
  ⟨(some 7), .p (.mov (.s 0)), none, 0⟩,
  ⟨(some 8), .p (.cint .u64 (.s 7)), none, 0⟩,
  ⟨(some 9), .p (.mov (.s 1)), none, 0⟩,
  ⟨(some 10), .p (.cint .u64 (.s 9)), none, 0⟩,
  ⟨(some 11), .p (.bin .mul (.s 8) (.s 10)), none, 0⟩,
  ⟨(some 6), .p (.mov (.s 11)), none, 0⟩]) c46_0)
def c46 : ACode := (.seq (.ops [
  ⟨(some 4), .p (.mov (.c (.v (.int .u32 0)))), none, 0⟩,
  ⟨(some 5), .p (.mov (.c (.v (.int .u32 0)))), none, 0⟩]) c46_1)
theorem t46 : trC Try.prog Try.f46.ntmps (bodyOf Try.f46) = some c46 := by kernel_rfl
theorem r46 : Try.f46.results.toList.mapM (trR Try.prog) = some [.tmp 4, .tmp 5] := by kernel_rfl
def i46 : FI := ⟨17, c46, [.tmp 4, .tmp 5]⟩
theorem k46 : Knows Try.prog 46 i46 := ⟨Try.f46, bodyOf Try.f46, Try.func46, by kernel_rfl, by kernel_rfl, t46, r46, by kernel_rfl⟩
-- 47 math/bits.Mul64 []
def c47_0 : ACode := (.seq (.ops [
  ⟨(some 48), .p (.mov (.s 0)), none, 0⟩,
  ⟨(some 49), .p (.mov (.s 1)), none, 0⟩,
  ⟨(some 50), .p (.bin .mul (.s 48) (.s 49)), none, 0⟩,
  ⟨(some 5), .p (.mov (.s 50)), none, 0⟩]) .ret)
def c47_1 : ACode := (.seq (.ops [
  ⟨(some 40), .p (.mov (.s 7)), none, 0⟩,
  ⟨(some 41), .p (.mov (.s 9)), none, 0⟩,
  ⟨(some 42), .p (.bin .mul (.s 40) (.s 41)), none, 0⟩,
  ⟨(some 43), .p (.mov (.s 13)), none, 0⟩,
  ⟨(some 44), .p (.bin .add (.s 42) (.s 43)), none, 0⟩,
  ⟨(some 45), .p (.mov (.s 12)), none, 0⟩,
  ⟨(some 46), .p (.bin .shr (.s 45) (.c (.v (.int .u64 32)))), none, 0⟩,
  ⟨(some 47), .p (.bin .add (.s 44) (.s 46)), none, 0⟩,
  ⟨(some 4), .p (.mov (.s 47)), none, 0⟩]) c47_0)
def c47_2 : ACode := (.seq (.ops [
  ⟨(some 35), .p (.mov (.s 12)), none, 0⟩,
  ⟨(some 36), .p (.mov (.s 6)), none, 0⟩,
  ⟨(some 37), .p (.mov (.s 9)), none, 0⟩,
  ⟨(some 38), .p (.bin .mul (.s 36) (.s 37)), none, 0⟩,
  ⟨(some 39), .p (.bin .add (.s 35) (.s 38)), none, 0⟩,
  ⟨(some 12), .p (.mov (.s 39)), none, 0⟩]) c47_1)
def c47_3 : ACode := (.seq (.ops [
  ⟨(some 33), .p (.mov (.s 11)), none, 0⟩,
  ⟨(some 34), .p (.bin .shr (.s 33) (.c (.v (.int .u64 32)))), none, 0⟩,
  ⟨(some 13), .p (.mov (.s 34)), none, 0⟩]) c47_2)
def c47_4 : ACode := (.seq (.ops [
  ⟨(some 31), .p (.mov (.s 11)), none, 0⟩,
  ⟨(some 32), .p (.bin .and (.s 31) (.c (.v (.int .u64 4294967295)))), none, 0⟩,
  ⟨(some 12), .p (.mov (.s 32)), none, 0⟩]) c47_3)
def c47_5 : ACode := (.seq (.ops [
  ⟨(some 25), .p (.mov (.s 7)), none, 0⟩,
  ⟨(some 26), .p (.mov (.s 8)), none, 0⟩,
  ⟨(some 27), .p (.bin .mul (.s 25) (.s 26)), none, 0⟩,
  ⟨(some 28), .p (.mov (.s 10)), none, 0⟩,
  ⟨(some 29), .p (.bin .shr (.s 28) (.c (.v (.int .u64 32)))), none, 0⟩,
  ⟨(some 30), .p (.bin .add (.s 27) (.s 29)), none, 0⟩,
  ⟨(some 11), .p (.mov (.s 30)), none, 0⟩]) c47_4)
def c47_6 : ACode := (.seq (.ops [
  ⟨(some 22), .p (.mov (.s 6)), none, 0⟩,
  ⟨(some 23), .p (.mov (.s 8)), none, 0⟩,
  ⟨(some 24), .p (.bin .mul (.s 22) (.s 23)), none, 0⟩,
  ⟨(some 10), .p (.mov (.s 24)), none, 0⟩]) c47_5)
def c47_7 : ACode := (.seq (.ops [
  ⟨(some 20), .p (.mov (.s 1)), none, 0⟩,
  ⟨(some 21), .p (.bin .shr (.s 20) (.c (.v (.int .u64 32)))), none, 0⟩,
  ⟨(some 9), .p (.mov (.s 21)), none, 0⟩]) c47_6)
def c47_8 : ACode := (.seq (.ops [
  ⟨(some 18), .p (.mov (.s 1)), none, 0⟩,
  ⟨(some 19), .p (.bin .and (.s 18) (.c (.v (.int .u64 4294967295)))), none, 0⟩,
  ⟨(some 8), .p (.mov (.s 19)), none, 0⟩]) c47_7)
def c47_9 : ACode := (.seq (.ops [
  ⟨(some 16), .p (.mov (.s 0)), none, 0⟩,
  ⟨(some 17), .p (.bin .shr (.s 16) (.c (.v (.int .u64 32)))), none, 0⟩,
  ⟨(some 7), .p (.mov (.s 17)), none, 0⟩]) c47_8)
def c47_10 : ACode := (.seq (.ops [
  ⟨(some 14), .p (.mov (.s 0)), none, 0⟩,
  ⟨(some 15), .p (.bin .and (.s 14) (.c (.v (.int .u64 4294967295)))), none, 0⟩,
  ⟨(some 6), .p (.mov (.s 15)), none, 0⟩]) c47_9)
def c47 : ACode := (.seq (.ops [
  ⟨(some 4), .p (.mov (.c (.v (.int .u64 0)))), none, 0⟩,
  ⟨(some 5), .p (.mov (.c (.v (.int .u64 0)))), none, 0⟩]) c47_10)
theorem t47 : trC Try.prog Try.f47.ntmps (bodyOf Try.f47) = some c47 := by kernel_rfl
theorem r47 : Try.f47.results.toList.mapM (trR Try.prog) = some [.tmp 4, .tmp 5] := by kernel_rfl
def i47 : FI := ⟨51, c47, [.tmp 4, .tmp 5]⟩
theorem k47 : Knows Try.prog 47 i47 := ⟨Try.f47, bodyOf Try.f47, Try.func47, by kernel_rfl, by kernel_rfl, t47, r47, by kernel_rfl⟩
-- 50 slices.swapRangeCmpFunc[drover/api.Action] []
def c50_0 : ACode := (.cond (.s 13) .skip (.exit 0))
def c50_1 : ACode := (.ops [
  ⟨(some 14), .p (.mov (.s 10)), none, 0⟩,
  ⟨(some 15), .p (.bin .add (.s 14) (.c (.v (.int .i64 1)))), none, 0⟩,
  ⟨(some 10), .p (.mov (.s 15)), none, 0⟩])
def c50_2 : ACode := (.seq (.block 1 (.draw [
  ⟨(some 16), .p (.mov (.s 0)), none, 0⟩,
  ⟨(some 17), .p (.mov (.s 1)), none, 0⟩,
  ⟨(some 18), .p (.mov (.s 10)), none, 0⟩,
  ⟨(some 19), .p (.bin .add (.s 17) (.s 18)), none, 0⟩,
  ⟨(some 20), .p (.mov (.s 0)), none, 0⟩,
  ⟨(some 21), .p (.mov (.s 2)), none, 0⟩,
  ⟨(some 22), .p (.mov (.s 10)), none, 0⟩,
  ⟨(some 23), .p (.bin .add (.s 21) (.s 22)), none, 0⟩,
  ⟨(some 24), .p (.mov (.s 0)), none, 0⟩,
  ⟨(some 25), .p (.mov (.s 2)), none, 0⟩,
  ⟨(some 26), .p (.mov (.s 10)), none, 0⟩,
  ⟨(some 27), .p (.bin .add (.s 25) (.s 26)), none, 0⟩,
  ⟨(some 28), .p (.adrSl 3 (.s 24) (.s 27)), none, 0⟩,
  ⟨(some 29), .m (.load (some 3) (.s 28)), none, 0⟩,
  ⟨(some 30), .p (.mov (.s 0)), none, 0⟩,
  ⟨(some 31), .p (.mov (.s 1)), none, 0⟩,
  ⟨(some 32), .p (.mov (.s 10)), none, 0⟩,
  ⟨(some 33), .p (.bin .add (.s 31) (.s 32)), none, 0⟩,
  ⟨(some 34), .p (.adrSl 3 (.s 30) (.s 33)), none, 0⟩,
  ⟨(some 35), .m (.load (some 3) (.s 34)), none, 0⟩,
  ⟨(some 36), .p (.adrSl 3 (.s 16) (.s 19)), none, 0⟩,
  ⟨none, .m (.store (some 3) (.s 36) (.s 29)), none, 0⟩,
  ⟨(some 37), .p (.adrSl 3 (.s 20) (.s 23)), none, 0⟩,
  ⟨none, .m (.store (some 3) (.s 37) (.s 35)), none, 0⟩])) c50_1)
def c50_3 : ACode := (.seq (.seq (.ops [
  ⟨(some 11), .p (.mov (.s 10)), none, 0⟩,
  ⟨(some 12), .p (.mov (.s 3)), none, 0⟩,
  ⟨(some 13), .p (.bin .lss (.s 11) (.s 12)), none, 0⟩]) c50_0) c50_2)
def c50_4 : ACode := (.block 0 (.loop c50_3))
def c50 : ACode := (.seq (.ops [
  ⟨(some 10), .p (.mov (.c (.v (.int .i64 0)))), none, 0⟩]) c50_4)
theorem t50 : trC Try.prog Try.f50.ntmps (bodyOf Try.f50) = some c50 := by kernel_rfl
theorem r50 : Try.f50.results.toList.mapM (trR Try.prog) = some [] := by kernel_rfl
def i50 : FI := ⟨38, c50, []⟩
theorem k50 : Knows Try.prog 50 i50 := ⟨Try.f50, bodyOf Try.f50, Try.func50, by kernel_rfl, by kernel_rfl, t50, r50, by kernel_rfl⟩
end Go.Proofs.Act
