/- A part of a law's proof: ActX0. -/
import Derived.KernelRfl
import Derived.Test.YtngoeofpjpdpoaaProg
import Derived.Test.YtngoeofpjpdpoaaSvCod
set_option linter.unusedSimpArgs false
set_option linter.constructorNameAsVariable false
namespace Go.Proofs.Act
open Go Go.Ab Go.Proofs
set_option linter.unusedVariables false
noncomputable abbrev PG : Program := Try.prog
def bodyOf (fn : Func) : Code := fn.body.getD .skip
-- 3 drover/droverlaw06.ActEncodes []
def c3_0 : List AOper := [
  ⟨(some 2), .p (.mov (.s 11)), none, 0⟩]
def c3_1 : ACode := (.cond (.s 10) (.seq (.ops (⟨(some 11), .call (.c (.fn 11 [])) [], none, 0⟩ :: c3_0)) .ret) .skip)
def c3_2 : List AOper := [
  ⟨(some 12), .p (.mov (.s 14)), none, 0⟩,
  ⟨(some 15), .p (.extract (.s 12) 0), none, 0⟩,
  ⟨(some 16), .p (.extract (.s 12) 1), none, 0⟩,
  ⟨(some 3), .p (.mov (.s 15)), none, 0⟩,
  ⟨(some 4), .p (.mov (.s 16)), none, 0⟩]
def c3_3 : List AOper := [
  ⟨(some 17), .p (.mov (.s 19)), none, 0⟩,
  ⟨(some 20), .p (.extract (.s 17) 0), none, 0⟩,
  ⟨(some 21), .p (.extract (.s 17) 1), none, 0⟩,
  ⟨(some 5), .p (.mov (.s 20)), none, 0⟩,
  ⟨(some 6), .p (.mov (.s 21)), none, 0⟩]
def c3_4 : ACode := (.cond (.s 29) (.seq (.ops [
  ⟨(some 2), .p (.mov (.c (.v (.bool false)))), none, 0⟩]) .ret) .skip)
def c3_5 : ACode := (.cond (.s 33) .skip (.exit 0))
def c3_6 : ACode := (.cond (.s 46) (.seq (.ops [
  ⟨(some 2), .p (.mov (.c (.v (.bool false)))), none, 0⟩]) .ret) .skip)
def c3_7 : ACode := (.ops [
  ⟨(some 34), .p (.mov (.s 7)), none, 0⟩,
  ⟨(some 35), .p (.bin .add (.s 34) (.c (.v (.int .i64 1)))), none, 0⟩,
  ⟨(some 7), .p (.mov (.s 35)), none, 0⟩])
def c3_8 : ACode := (.seq (.block 1 (.seq (.draw [
  ⟨(some 36), .p (.mov (.s 0)), none, 0⟩,
  ⟨(some 37), .p (.mov (.s 7)), none, 0⟩,
  ⟨(some 38), .p (.adrSl 3 (.s 36) (.s 37)), none, 0⟩,
  ⟨(some 39), .m (.load (some 3) (.s 38)), none, 0⟩,
  ⟨(some 40), .qcall (.c (.fn 14 [])) [(.s 39)], none, 0⟩,
  ⟨(some 41), .p (.mov (.s 0)), none, 0⟩,
  ⟨(some 42), .p (.mov (.s 7)), none, 0⟩,
  ⟨(some 43), .p (.adrSl 3 (.s 41) (.s 42)), none, 0⟩,
  ⟨(some 44), .m (.load (some 3) (.s 43)), none, 0⟩,
  ⟨(some 45), .call (.c (.fn 15 [])) [(.s 44)], none, 0⟩,
  ⟨(some 46), .p (.eqa true [.bool] false (.s 40) (.s 45)), none, 0⟩]) c3_6)) c3_7)
def c3_9 : ACode := (.seq (.seq (.ops [
  ⟨(some 30), .p (.mov (.s 7)), none, 0⟩,
  ⟨(some 31), .p (.mov (.s 0)), none, 0⟩,
  ⟨(some 32), .p (.len false (.s 31)), none, 31⟩,
  ⟨(some 33), .p (.bin .lss (.s 30) (.s 32)), none, 0⟩]) c3_5) c3_8)
def c3_10 : ACode := (.block 0 (.loop c3_9))
def c3_11 : List AOper := [
  ⟨(some 2), .p (.mov (.s 47)), none, 0⟩]
def c3_12 : ACode := (.seq (.ops (⟨(some 47), .call (.c (.fn 11 [])) [], none, 0⟩ :: c3_11)) .ret)
def c3_13 : ACode := (.seq (.seq (.ops [
  ⟨(some 7), .p (.mov (.c (.v (.int .i64 0)))), none, 0⟩]) c3_10) c3_12)
def c3_14 : ACode := (.seq (.seq (.ops [
  ⟨(some 22), .p (.mov (.s 3)), none, 0⟩,
  ⟨(some 23), .p (.mov (.s 5)), none, 0⟩,
  ⟨(some 24), .p (.bin .neq (.s 22) (.s 23)), none, 0⟩,
  ⟨(some 25), .p (.mov (.s 24)), none, 0⟩,
  ⟨(some 26), .p (.mov (.s 4)), (some (25, false)), 0⟩,
  ⟨(some 27), .p (.mov (.s 6)), (some (25, false)), 0⟩,
  ⟨(some 28), .p (.bin .neq (.s 26) (.s 27)), (some (25, false)), 0⟩,
  ⟨(some 29), .p (.pick (.s 25) (.c (.v (.bool true))) (.s 28)), none, 0⟩]) c3_4) c3_13)
def c3_15 : ACode := (.seq (.ops (⟨(some 18), .p (.mov (.s 0)), none, 0⟩ ::
  ⟨(some 19), .call (.c (.fn 13 [])) [(.s 18)], none, 31⟩ :: c3_3)) c3_14)
def c3_16 : ACode := (.seq (.ops (⟨(some 13), .p (.mov (.s 0)), none, 0⟩ ::
  ⟨(some 14), .call (.c (.fn 12 [])) [(.s 13)], none, 31⟩ :: c3_2)) c3_15)
def c3_17 : ACode := (.seq (.seq (.ops [
  ⟨(some 8), .p (.mov (.s 0)), none, 0⟩,
  ⟨(some 9), .p (.len false (.s 8)), none, 31⟩,
  ⟨(some 10), .p (.bin .gtr (.s 9) (.c (.v (.int .i64 60)))), none, 0⟩]) c3_1) c3_16)
def c3 : ACode := (.seq (.ops [
  ⟨(some 2), .p (.mov (.c (.v (.bool false)))), none, 0⟩]) c3_17)
theorem t3 : trC Try.prog Try.f3.ntmps (bodyOf Try.f3) = some c3 := by kernel_rfl
theorem r3 : Try.f3.results.toList.mapM (trR Try.prog) = some [.tmp 2] := by kernel_rfl
def i3 : FI := ⟨48, c3, [.tmp 2]⟩
theorem k3 : Knows Try.prog 3 i3 := ⟨Try.f3, bodyOf Try.f3, Try.func3, by kernel_rfl, by kernel_rfl, t3, r3, by kernel_rfl⟩
-- 4 drover/droverlaw06.ActMerges []
def c4_0 : List AOper := [
  ⟨(some 4), .p (.mov (.s 14)), none, 0⟩]
def c4_1 : ACode := (.cond (.s 13) (.seq (.ops (⟨(some 14), .call (.c (.fn 11 [])) [], none, 0⟩ :: c4_0)) .ret) .skip)
def c4_2 : List AOper := [
  ⟨(some 32), .p (.pick (.s 30) (.s 31) (.c (.v (.bool false)))), none, 0⟩,
  ⟨(some 4), .p (.mov (.s 32)), none, 0⟩]
def c4_3 : List AOper := (⟨(some 29), .p (.pick (.s 25) (.s 28) (.c (.v (.bool false)))), none, 0⟩ ::
  ⟨(some 30), .p (.mov (.s 29)), none, 0⟩ ::
  ⟨(some 31), .call (.c (.fn 11 [])) [], (some (30, true)), 0⟩ :: c4_2)
def c4_4 : List AOper := (⟨(some 25), .p (.mov (.s 24)), none, 0⟩ ::
  ⟨(some 26), .p (.mov (.s 5)), (some (25, true)), 0⟩ ::
  ⟨(some 27), .p (.mov (.s 0)), (some (25, true)), 0⟩ ::
  ⟨(some 28), .call (.c (.fn 16 [])) [(.s 26), (.s 27)], (some (25, true)), 31⟩ :: c4_3)
def c4_5 : List AOper := (⟨(some 24), .call (.c (.fn 16 [])) [(.s 20), (.s 23)], none, 31⟩ :: c4_4)
def c4_6 : List AOper := (⟨(some 21), .p (.mov (.s 0)), none, 0⟩ ::
  ⟨(some 22), .p (.mov (.s 1)), none, 0⟩ ::
  ⟨(some 23), .call (.c (.fn 18 [])) [(.s 21), (.s 22)], none, 31⟩ :: c4_5)
def c4_7 : ACode := (.seq (.ops (⟨(some 18), .p (.mov (.s 5)), none, 0⟩ ::
  ⟨(some 19), .p (.mov (.s 1)), none, 0⟩ ::
  ⟨(some 20), .call (.c (.fn 17 [])) [(.s 18), (.s 19)], none, 31⟩ :: c4_6)) .ret)
def c4_8 : ACode := (.seq (.ops [
  ⟨(some 15), .m (.buildSlice 3 0 [] []), none, 31⟩,
  ⟨(some 16), .p (.mov (.s 0)), none, 0⟩,
  ⟨(some 17), .m (.append 3 24 (.s 15) (.s 16)), none, 31⟩,
  ⟨(some 5), .p (.mov (.s 17)), none, 0⟩]) c4_7)
def c4_9 : ACode := (.seq (.seq (.ops [
  ⟨(some 6), .p (.mov (.s 0)), none, 0⟩,
  ⟨(some 7), .p (.len false (.s 6)), none, 31⟩,
  ⟨(some 8), .p (.bin .gtr (.s 7) (.c (.v (.int .i64 60)))), none, 0⟩,
  ⟨(some 9), .p (.mov (.s 8)), none, 0⟩,
  ⟨(some 10), .p (.mov (.s 1)), (some (9, false)), 0⟩,
  ⟨(some 11), .p (.len false (.s 10)), (some (9, false)), 31⟩,
  ⟨(some 12), .p (.bin .gtr (.s 11) (.c (.v (.int .i64 60)))), (some (9, false)), 0⟩,
  ⟨(some 13), .p (.pick (.s 9) (.c (.v (.bool true))) (.s 12)), none, 0⟩]) c4_1) c4_8)
def c4 : ACode := (.seq (.ops [
  ⟨(some 4), .p (.mov (.c (.v (.bool false)))), none, 0⟩]) c4_9)
theorem t4 : trC Try.prog Try.f4.ntmps (bodyOf Try.f4) = some c4 := by kernel_rfl
theorem r4 : Try.f4.results.toList.mapM (trR Try.prog) = some [.tmp 4] := by kernel_rfl
def i4 : FI := ⟨33, c4, [.tmp 4]⟩
theorem k4 : Knows Try.prog 4 i4 := ⟨Try.f4, bodyOf Try.f4, Try.func4, by kernel_rfl, by kernel_rfl, t4, r4, by kernel_rfl⟩
-- 5 drover/droverlaw06.ActSets []
def c5_0 : List AOper := [
  ⟨(some 6), .p (.mov (.s 23)), none, 0⟩]
def c5_1 : ACode := (.cond (.s 22) (.seq (.ops (⟨(some 23), .call (.c (.fn 11 [])) [], none, 0⟩ :: c5_0)) .ret) .skip)
def c5_2 : List AOper := [
  ⟨(some 8), .p (.mov (.s 32)), none, 0⟩]
def c5_3 : List AOper := [
  ⟨(some 47), .p (.un .not (.s 46)), (some (41, false)), 0⟩,
  ⟨(some 48), .p (.pick (.s 41) (.c (.v (.bool true))) (.s 47)), none, 0⟩]
def c5_4 : List AOper := (⟨(some 45), .p (.mov (.s 8)), (some (41, false)), 0⟩ ::
  ⟨(some 46), .call (.c (.fn 16 [])) [(.s 44), (.s 45)], (some (41, false)), 31⟩ :: c5_3)
def c5_5 : List AOper := (⟨(some 40), .p (.un .not (.s 39)), none, 0⟩ ::
  ⟨(some 41), .p (.mov (.s 40)), none, 0⟩ ::
  ⟨(some 42), .p (.mov (.s 8)), (some (41, false)), 0⟩ ::
  ⟨(some 43), .p (.mov (.s 8)), (some (41, false)), 0⟩ ::
  ⟨(some 44), .call (.c (.fn 17 [])) [(.s 42), (.s 43)], (some (41, false)), 31⟩ :: c5_4)
def c5_6 : List AOper := (⟨(some 38), .p (.mov (.s 8)), none, 0⟩ ::
  ⟨(some 39), .call (.c (.fn 16 [])) [(.s 37), (.s 38)], none, 31⟩ :: c5_5)
def c5_7 : List AOper := (⟨(some 36), .p (.mov (.s 2)), none, 0⟩ ::
  ⟨(some 37), .call (.c (.fn 17 [])) [(.s 35), (.s 36)], none, 31⟩ :: c5_6)
def c5_8 : ACode := (.cond (.s 48) (.seq (.ops [
  ⟨(some 6), .p (.mov (.c (.v (.bool false)))), none, 0⟩]) .ret) .skip)
def c5_9 : ACode := (.cond (.s 52) .skip (.exit 0))
def c5_10 : ACode := (.cond (.s 88) (.seq (.ops [
  ⟨(some 6), .p (.mov (.c (.v (.bool false)))), none, 0⟩]) .ret) .skip)
def c5_11 : ACode := (.ops [
  ⟨(some 53), .p (.mov (.s 9)), none, 0⟩,
  ⟨(some 54), .p (.bin .add (.s 53) (.c (.v (.int .i64 1)))), none, 0⟩,
  ⟨(some 9), .p (.mov (.s 54)), none, 0⟩])
def c5_12 : ACode := (.seq (.block 1 (.seq (.draw [
  ⟨(some 55), .p (.mov (.s 8)), none, 0⟩,
  ⟨(some 56), .p (.mov (.s 9)), none, 0⟩,
  ⟨(some 57), .p (.adrSl 3 (.s 55) (.s 56)), none, 0⟩,
  ⟨(some 58), .p (.fieldAddr 0 none (.s 57)), none, 0⟩,
  ⟨(some 59), .m (.load none (.s 58)), none, 0⟩,
  ⟨(some 60), .p (.mov (.s 8)), none, 0⟩,
  ⟨(some 61), .p (.mov (.s 9)), none, 0⟩,
  ⟨(some 62), .p (.bin .sub (.s 61) (.c (.v (.int .i64 1)))), none, 0⟩,
  ⟨(some 63), .p (.adrSl 3 (.s 60) (.s 62)), none, 0⟩,
  ⟨(some 64), .p (.fieldAddr 0 none (.s 63)), none, 0⟩,
  ⟨(some 65), .m (.load none (.s 64)), none, 0⟩,
  ⟨(some 66), .p (.bin .eql (.s 59) (.s 65)), none, 0⟩,
  ⟨(some 67), .p (.mov (.s 66)), none, 0⟩,
  ⟨(some 68), .p (.mov (.s 8)), (some (67, true)), 0⟩,
  ⟨(some 69), .p (.mov (.s 9)), (some (67, true)), 0⟩,
  ⟨(some 70), .p (.adrSl 3 (.s 68) (.s 69)), (some (67, true)), 0⟩,
  ⟨(some 71), .p (.fieldAddr 0 none (.s 70)), (some (67, true)), 0⟩,
  ⟨(some 72), .m (.load none (.s 71)), (some (67, true)), 0⟩,
  ⟨(some 73), .p (.bin .neq (.s 72) (.c (.v (.int .i64 5)))), (some (67, true)), 0⟩,
  ⟨(some 74), .p (.mov (.s 73)), (some (67, true)), 0⟩,
  ⟨(some 75), .p (.mov (.s 8)), (some (74, false)), 0⟩,
  ⟨(some 76), .p (.mov (.s 9)), (some (74, false)), 0⟩,
  ⟨(some 77), .p (.bin .sub (.s 76) (.c (.v (.int .i64 1)))), (some (74, false)), 0⟩,
  ⟨(some 78), .p (.adrSl 3 (.s 75) (.s 77)), (some (74, false)), 0⟩,
  ⟨(some 79), .p (.fieldAddr 1 none (.s 78)), (some (74, false)), 0⟩,
  ⟨(some 80), .m (.load none (.s 79)), (some (74, false)), 0⟩,
  ⟨(some 81), .p (.mov (.s 8)), (some (74, false)), 0⟩,
  ⟨(some 82), .p (.mov (.s 9)), (some (74, false)), 0⟩,
  ⟨(some 83), .p (.adrSl 3 (.s 81) (.s 82)), (some (74, false)), 0⟩,
  ⟨(some 84), .p (.fieldAddr 1 none (.s 83)), (some (74, false)), 0⟩,
  ⟨(some 85), .m (.load none (.s 84)), (some (74, false)), 0⟩,
  ⟨(some 86), .p (.bin .geq (.s 80) (.s 85)), (some (74, false)), 0⟩,
  ⟨(some 87), .p (.pick (.s 74) (.c (.v (.bool true))) (.s 86)), (some (67, true)), 0⟩,
  ⟨(some 88), .p (.pick (.s 67) (.s 87) (.c (.v (.bool false)))), none, 0⟩]) c5_10)) c5_11)
def c5_13 : ACode := (.seq (.seq (.ops [
  ⟨(some 49), .p (.mov (.s 9)), none, 0⟩,
  ⟨(some 50), .p (.mov (.s 8)), none, 0⟩,
  ⟨(some 51), .p (.len false (.s 50)), none, 31⟩,
  ⟨(some 52), .p (.bin .lss (.s 49) (.s 51)), none, 0⟩]) c5_9) c5_12)
def c5_14 : ACode := (.block 0 (.loop c5_13))
def c5_15 : List AOper := [
  ⟨(some 6), .p (.mov (.s 89)), none, 0⟩]
def c5_16 : ACode := (.seq (.ops (⟨(some 89), .call (.c (.fn 11 [])) [], none, 0⟩ :: c5_15)) .ret)
def c5_17 : ACode := (.seq (.seq (.ops [
  ⟨(some 9), .p (.mov (.c (.v (.int .i64 1)))), none, 0⟩]) c5_14) c5_16)
def c5_18 : ACode := (.seq (.seq (.ops (⟨(some 33), .p (.mov (.s 0)), none, 0⟩ ::
  ⟨(some 34), .p (.mov (.s 1)), none, 0⟩ ::
  ⟨(some 35), .call (.c (.fn 17 [])) [(.s 33), (.s 34)], none, 31⟩ :: c5_7)) c5_8) c5_17)
def c5_19 : ACode := (.seq (.ops (⟨(some 31), .p (.mov (.s 7)), none, 0⟩ ::
  ⟨(some 32), .call (.c (.fn 17 [])) [(.c (.v (.slice none 0 0))), (.s 31)], none, 31⟩ :: c5_2)) c5_18)
def c5_20 : ACode := (.seq (.ops [
  ⟨(some 24), .m (.buildSlice 3 0 [] []), none, 31⟩,
  ⟨(some 25), .p (.mov (.s 0)), none, 0⟩,
  ⟨(some 26), .m (.append 3 24 (.s 24) (.s 25)), none, 31⟩,
  ⟨(some 27), .p (.mov (.s 1)), none, 0⟩,
  ⟨(some 28), .m (.append 3 24 (.s 26) (.s 27)), none, 31⟩,
  ⟨(some 29), .p (.mov (.s 2)), none, 0⟩,
  ⟨(some 30), .m (.append 3 24 (.s 28) (.s 29)), none, 31⟩,
  ⟨(some 7), .p (.mov (.s 30)), none, 0⟩]) c5_19)
def c5_21 : ACode := (.seq (.seq (.ops [
  ⟨(some 10), .p (.mov (.s 0)), none, 0⟩,
  ⟨(some 11), .p (.len false (.s 10)), none, 31⟩,
  ⟨(some 12), .p (.bin .gtr (.s 11) (.c (.v (.int .i64 40)))), none, 0⟩,
  ⟨(some 13), .p (.mov (.s 12)), none, 0⟩,
  ⟨(some 14), .p (.mov (.s 1)), (some (13, false)), 0⟩,
  ⟨(some 15), .p (.len false (.s 14)), (some (13, false)), 31⟩,
  ⟨(some 16), .p (.bin .gtr (.s 15) (.c (.v (.int .i64 40)))), (some (13, false)), 0⟩,
  ⟨(some 17), .p (.pick (.s 13) (.c (.v (.bool true))) (.s 16)), none, 0⟩,
  ⟨(some 18), .p (.mov (.s 17)), none, 0⟩,
  ⟨(some 19), .p (.mov (.s 2)), (some (18, false)), 0⟩,
  ⟨(some 20), .p (.len false (.s 19)), (some (18, false)), 31⟩,
  ⟨(some 21), .p (.bin .gtr (.s 20) (.c (.v (.int .i64 40)))), (some (18, false)), 0⟩,
  ⟨(some 22), .p (.pick (.s 18) (.c (.v (.bool true))) (.s 21)), none, 0⟩]) c5_1) c5_20)
def c5 : ACode := (.seq (.ops [
  ⟨(some 6), .p (.mov (.c (.v (.bool false)))), none, 0⟩]) c5_21)
theorem t5 : trC Try.prog Try.f5.ntmps (bodyOf Try.f5) = some c5 := by kernel_rfl
theorem r5 : Try.f5.results.toList.mapM (trR Try.prog) = some [.tmp 6] := by kernel_rfl
def i5 : FI := ⟨90, c5, [.tmp 6]⟩
theorem k5 : Knows Try.prog 5 i5 := ⟨Try.f5, bodyOf Try.f5, Try.func5, by kernel_rfl, by kernel_rfl, t5, r5, by kernel_rfl⟩
-- 6 drover/droverlaw06.ActChanges []
def c6_0 : ACode := (.seq (.draw [
  ⟨(some 5), .m (.load (some 13) (.s 2)), none, 0⟩,
  ⟨(some 6), .m (.load (some 3) (.s 3)), none, 0⟩,
  ⟨(some 7), .qcall (.c (.fn 20 [])) [(.s 5), (.s 6)], none, 0⟩,
  ⟨(some 8), .qcall (.c (.fn 19 [])) [(.s 7)], none, 0⟩,
  ⟨(some 9), .m (.load (some 13) (.s 2)), none, 0⟩,
  ⟨(some 10), .qcall (.c (.fn 19 [])) [(.s 9)], none, 0⟩,
  ⟨(some 11), .m (.load (some 3) (.s 3)), none, 0⟩,
  ⟨(some 12), .call (.c (.fn 21 [])) [(.s 10), (.s 11)], none, 0⟩,
  ⟨(some 13), .p (.eqa false [(.int .i64), (.int .u64), (.int .u64), (.int .u64), (.int .i64), (.int .i64), (.int .u32), (.int .u32), (.int .i64), (.int .i64), (.int .i64), (.int .i64), .str] true (.s 8) (.s 12)), none, 0⟩,
  ⟨(some 14), .p (.mov (.s 13)), none, 0⟩,
  ⟨(some 15), .call (.c (.fn 11 [])) [], (some (14, true)), 0⟩,
  ⟨(some 16), .p (.pick (.s 14) (.s 15) (.c (.v (.bool false)))), none, 0⟩,
  ⟨(some 4), .p (.mov (.s 16)), none, 0⟩]) .ret)
def c6 : ACode := (.seq (.ops [
  ⟨(some 2), .m (.box (.s 0)), none, 0⟩,
  ⟨(some 3), .m (.box (.s 1)), none, 0⟩,
  ⟨(some 4), .p (.mov (.c (.v (.bool false)))), none, 0⟩]) c6_0)
theorem t6 : trC Try.prog Try.f6.ntmps (bodyOf Try.f6) = some c6 := by kernel_rfl
theorem r6 : Try.f6.results.toList.mapM (trR Try.prog) = some [.tmp 4] := by kernel_rfl
def i6 : FI := ⟨17, c6, [.tmp 4]⟩
theorem k6 : Knows Try.prog 6 i6 := ⟨Try.f6, bodyOf Try.f6, Try.func6, by kernel_rfl, by kernel_rfl, t6, r6, by kernel_rfl⟩
-- 7 drover/droverlaw06.ActOne []
def c7_0 : List AOper := [
  ⟨(some 8), .p (.mov (.s 11)), none, 0⟩,
  ⟨(some 12), .p (.extract (.s 8) 0), none, 0⟩,
  ⟨(some 13), .p (.extract (.s 8) 1), none, 0⟩,
  ⟨(some 5), .p (.mov (.s 12)), none, 0⟩,
  ⟨(some 6), .p (.mov (.s 13)), none, 0⟩]
def c7_1 : List AOper := [
  ⟨(some 25), .p (.pick (.s 23) (.s 24) (.c (.v (.bool false)))), none, 0⟩,
  ⟨(some 4), .p (.mov (.s 25)), none, 0⟩]
def c7_2 : List AOper := (⟨(some 18), .p (.un .not (.s 17)), none, 0⟩ ::
  ⟨(some 19), .p (.mov (.s 18)), none, 0⟩ ::
  ⟨(some 20), .p (.mov (.s 5)), (some (19, true)), 0⟩ ::
  ⟨(some 21), .p (.bin .eql (.s 20) (.c (.v (.string ⟨#[]⟩)))), (some (19, true)), 0⟩ ::
  ⟨(some 22), .p (.pick (.s 19) (.s 21) (.c (.v (.bool false)))), none, 0⟩ ::
  ⟨(some 23), .p (.mov (.s 22)), none, 0⟩ ::
  ⟨(some 24), .call (.c (.fn 11 [])) [], (some (23, true)), 0⟩ :: c7_1)
def c7_3 : ACode := (.cond (.s 15) (.seq (.ops (⟨(some 16), .m (.load (some 3) (.s 2)), none, 0⟩ ::
  ⟨(some 17), .call (.c (.fn 14 [])) [(.s 16)], none, 0⟩ :: c7_2)) .ret) .skip)
def c7_4 : ACode := (.cond (.s 33) (.ops [
  ⟨(some 7), .p (.mov (.c (.v (.int .i64 16)))), none, 0⟩]) .skip)
def c7_5 : ACode := (.seq (.draw [
  ⟨(some 34), .p (.mov (.s 5)), none, 0⟩,
  ⟨(some 35), .p (.len true (.s 34)), none, 0⟩,
  ⟨(some 36), .p (.mov (.s 7)), none, 0⟩,
  ⟨(some 37), .p (.bin .eql (.s 35) (.s 36)), none, 0⟩,
  ⟨(some 38), .p (.mov (.s 37)), none, 0⟩,
  ⟨(some 39), .p (.fieldAddr 0 none (.s 2)), (some (38, true)), 0⟩,
  ⟨(some 40), .m (.load none (.s 39)), (some (38, true)), 0⟩,
  ⟨(some 41), .p (.bin .neq (.s 40) (.c (.v (.int .i64 1)))), (some (38, true)), 0⟩,
  ⟨(some 42), .p (.mov (.s 41)), (some (38, true)), 0⟩,
  ⟨(some 43), .p (.fieldAddr 0 none (.s 2)), (some (42, true)), 0⟩,
  ⟨(some 44), .m (.load none (.s 43)), (some (42, true)), 0⟩,
  ⟨(some 45), .p (.bin .neq (.s 44) (.c (.v (.int .i64 2)))), (some (42, true)), 0⟩,
  ⟨(some 46), .p (.pick (.s 42) (.s 45) (.c (.v (.bool false)))), (some (38, true)), 0⟩,
  ⟨(some 47), .p (.mov (.s 46)), (some (38, true)), 0⟩,
  ⟨(some 48), .m (.load (some 13) (.s 3)), (some (47, false)), 0⟩,
  ⟨(some 49), .m (.load (some 3) (.s 2)), (some (47, false)), 0⟩,
  ⟨(some 50), .qcall (.c (.fn 20 [])) [(.s 48), (.s 49)], (some (47, false)), 0⟩,
  ⟨(some 51), .m (.load (some 13) (.s 3)), (some (47, false)), 0⟩,
  ⟨(some 52), .p (.eqa false [(.int .i64), (.int .u64), (.int .u64), (.int .u64), (.int .i64), (.int .i64), (.int .u32), (.int .u32), (.int .i64), (.int .i64), (.int .i64), (.int .i64), .str] true (.s 50) (.s 51)), (some (47, false)), 0⟩,
  ⟨(some 53), .p (.pick (.s 47) (.c (.v (.bool true))) (.s 52)), (some (38, true)), 0⟩,
  ⟨(some 54), .p (.pick (.s 38) (.s 53) (.c (.v (.bool false)))), none, 0⟩,
  ⟨(some 55), .p (.mov (.s 54)), none, 0⟩,
  ⟨(some 56), .call (.c (.fn 11 [])) [], (some (55, true)), 0⟩,
  ⟨(some 57), .p (.pick (.s 55) (.s 56) (.c (.v (.bool false)))), none, 0⟩,
  ⟨(some 4), .p (.mov (.s 57)), none, 0⟩]) .ret)
def c7_6 : ACode := (.seq (.seq (.ops [
  ⟨(some 26), .p (.fieldAddr 0 none (.s 2)), none, 0⟩,
  ⟨(some 27), .m (.load none (.s 26)), none, 0⟩,
  ⟨(some 28), .p (.bin .eql (.s 27) (.c (.v (.int .i64 1)))), none, 0⟩,
  ⟨(some 29), .p (.mov (.s 28)), none, 0⟩,
  ⟨(some 30), .p (.fieldAddr 0 none (.s 2)), (some (29, false)), 0⟩,
  ⟨(some 31), .m (.load none (.s 30)), (some (29, false)), 0⟩,
  ⟨(some 32), .p (.bin .eql (.s 31) (.c (.v (.int .i64 5)))), (some (29, false)), 0⟩,
  ⟨(some 33), .p (.pick (.s 29) (.c (.v (.bool true))) (.s 32)), none, 0⟩]) c7_4) c7_5)
def c7_7 : ACode := (.seq (.ops [
  ⟨(some 7), .p (.mov (.c (.v (.int .i64 8)))), none, 0⟩]) c7_6)
def c7_8 : ACode := (.seq (.seq (.ops [
  ⟨(some 14), .p (.mov (.s 6)), none, 0⟩,
  ⟨(some 15), .p (.bin .neq (.s 14) (.c (.v (.int .i64 0)))), none, 0⟩]) c7_3) c7_7)
def c7_9 : ACode := (.seq (.ops (⟨(some 9), .m (.load (some 3) (.s 2)), none, 0⟩ ::
  ⟨(some 10), .m (.buildSlice 3 1 [(.v (.int .i64 0)), (.v (.int .i64 0)), (.v (.int .u64 0))] [(0, 3, (.s 9))]), none, 31⟩ ::
  ⟨(some 11), .call (.c (.fn 12 [])) [(.s 10)], none, 31⟩ :: c7_0)) c7_8)
def c7 : ACode := (.seq (.ops [
  ⟨(some 2), .m (.box (.s 0)), none, 0⟩,
  ⟨(some 3), .m (.box (.s 1)), none, 0⟩,
  ⟨(some 4), .p (.mov (.c (.v (.bool false)))), none, 0⟩]) c7_9)
theorem t7 : trC Try.prog Try.f7.ntmps (bodyOf Try.f7) = some c7 := by kernel_rfl
theorem r7 : Try.f7.results.toList.mapM (trR Try.prog) = some [.tmp 4] := by kernel_rfl
def i7 : FI := ⟨58, c7, [.tmp 4]⟩
theorem k7 : Knows Try.prog 7 i7 := ⟨Try.f7, bodyOf Try.f7, Try.func7, by kernel_rfl, by kernel_rfl, t7, r7, by kernel_rfl⟩
-- 8 drover/droverlaw06.ActDecodes []
def c8_0 : List AOper := [
  ⟨(some 2), .p (.mov (.s 10)), none, 0⟩]
def c8_1 : ACode := (.cond (.s 9) (.seq (.ops (⟨(some 10), .call (.c (.fn 11 [])) [], none, 0⟩ :: c8_0)) .ret) .skip)
def c8_2 : List AOper := [
  ⟨(some 11), .p (.mov (.s 13)), none, 0⟩,
  ⟨(some 14), .p (.extract (.s 11) 0), none, 0⟩,
  ⟨(some 15), .p (.extract (.s 11) 1), none, 0⟩,
  ⟨(some 3), .p (.mov (.s 14)), none, 0⟩,
  ⟨(some 4), .p (.mov (.s 15)), none, 0⟩]
def c8_3 : List AOper := [
  ⟨(some 16), .p (.mov (.s 18)), none, 0⟩,
  ⟨(some 19), .p (.extract (.s 16) 0), none, 0⟩,
  ⟨(some 20), .p (.extract (.s 16) 1), none, 0⟩,
  ⟨(some 5), .p (.mov (.s 19)), none, 0⟩,
  ⟨(some 6), .p (.mov (.s 20)), none, 0⟩]
def c8_4 : List AOper := [
  ⟨(some 31), .p (.pick (.s 29) (.s 30) (.c (.v (.bool false)))), none, 0⟩,
  ⟨(some 2), .p (.mov (.s 31)), none, 0⟩]
def c8_5 : List AOper := (⟨(some 24), .p (.mov (.s 23)), none, 0⟩ ::
  ⟨(some 25), .p (.mov (.s 4)), (some (24, true)), 0⟩ ::
  ⟨(some 26), .p (.mov (.s 6)), (some (24, true)), 0⟩ ::
  ⟨(some 27), .p (.bin .eql (.s 25) (.s 26)), (some (24, true)), 0⟩ ::
  ⟨(some 28), .p (.pick (.s 24) (.s 27) (.c (.v (.bool false)))), none, 0⟩ ::
  ⟨(some 29), .p (.mov (.s 28)), none, 0⟩ ::
  ⟨(some 30), .call (.c (.fn 11 [])) [], (some (29, true)), 0⟩ :: c8_4)
def c8_6 : ACode := (.seq (.ops (⟨(some 21), .p (.mov (.s 3)), none, 0⟩ ::
  ⟨(some 22), .p (.mov (.s 5)), none, 0⟩ ::
  ⟨(some 23), .call (.c (.fn 16 [])) [(.s 21), (.s 22)], none, 31⟩ :: c8_5)) .ret)
def c8_7 : ACode := (.seq (.ops (⟨(some 17), .p (.mov (.s 0)), none, 0⟩ ::
  ⟨(some 18), .call (.c (.fn 23 [])) [(.s 17)], none, 0⟩ :: c8_3)) c8_6)
def c8_8 : ACode := (.seq (.ops (⟨(some 12), .p (.mov (.s 0)), none, 0⟩ ::
  ⟨(some 13), .call (.c (.fn 22 [])) [(.s 12)], none, 0⟩ :: c8_2)) c8_7)
def c8_9 : ACode := (.seq (.seq (.ops [
  ⟨(some 7), .p (.mov (.s 0)), none, 0⟩,
  ⟨(some 8), .p (.len true (.s 7)), none, 0⟩,
  ⟨(some 9), .p (.bin .gtr (.s 8) (.c (.v (.int .i64 2000)))), none, 0⟩]) c8_1) c8_8)
def c8 : ACode := (.seq (.ops [
  ⟨(some 2), .p (.mov (.c (.v (.bool false)))), none, 0⟩]) c8_9)
theorem t8 : trC Try.prog Try.f8.ntmps (bodyOf Try.f8) = some c8 := by kernel_rfl
theorem r8 : Try.f8.results.toList.mapM (trR Try.prog) = some [.tmp 2] := by kernel_rfl
def i8 : FI := ⟨32, c8, [.tmp 2]⟩
theorem k8 : Knows Try.prog 8 i8 := ⟨Try.f8, bodyOf Try.f8, Try.func8, by kernel_rfl, by kernel_rfl, t8, r8, by kernel_rfl⟩
-- 9 drover/droverlaw06.ActBack []
def c9_0 : List AOper := [
  ⟨(some 4), .p (.mov (.s 19)), none, 0⟩]
def c9_1 : ACode := (.cond (.s 18) (.seq (.ops (⟨(some 19), .call (.c (.fn 11 [])) [], none, 0⟩ :: c9_0)) .ret) .skip)
def c9_2 : List AOper := [
  ⟨(some 20), .p (.mov (.s 22)), none, 0⟩,
  ⟨(some 23), .p (.extract (.s 20) 0), none, 0⟩,
  ⟨(some 24), .p (.extract (.s 20) 1), none, 0⟩,
  ⟨(some 5), .p (.mov (.s 23)), none, 0⟩,
  ⟨(some 6), .p (.mov (.s 24)), none, 0⟩]
def c9_3 : List AOper := [
  ⟨(some 27), .p (.mov (.s 29)), none, 0⟩,
  ⟨(some 30), .p (.extract (.s 27) 0), none, 0⟩,
  ⟨(some 31), .p (.extract (.s 27) 1), none, 0⟩,
  ⟨(some 7), .p (.mov (.s 30)), none, 0⟩,
  ⟨(some 8), .p (.mov (.s 31)), none, 0⟩]
def c9_4 : List AOper := [
  ⟨(some 38), .p (.un .not (.s 37)), (some (34, false)), 0⟩,
  ⟨(some 39), .p (.pick (.s 34) (.c (.v (.bool true))) (.s 38)), none, 0⟩]
def c9_5 : ACode := (.cond (.s 39) (.seq (.ops [
  ⟨(some 4), .p (.mov (.c (.v (.bool false)))), none, 0⟩]) .ret) .skip)
def c9_6 : ACode := (.seq (.ops (⟨(some 32), .p (.mov (.s 8)), none, 0⟩ ::
  ⟨(some 33), .p (.bin .neq (.s 32) (.c (.v (.int .i64 0)))), none, 0⟩ ::
  ⟨(some 34), .p (.mov (.s 33)), none, 0⟩ ::
  ⟨(some 35), .p (.mov (.s 0)), (some (34, false)), 0⟩ ::
  ⟨(some 36), .p (.mov (.s 7)), (some (34, false)), 0⟩ ::
  ⟨(some 37), .call (.c (.fn 16 [])) [(.s 35), (.s 36)], (some (34, false)), 31⟩ :: c9_4)) c9_5)
def c9_7 : ACode := (.cond (.s 41) (.seq (.ops [
  ⟨(some 4), .p (.mov (.c (.v (.bool false)))), none, 0⟩]) .ret) .skip)
def c9_8 : ACode := (.cond (.s 26) (.seq (.ops (⟨(some 28), .p (.mov (.s 5)), none, 0⟩ ::
  ⟨(some 29), .call (.c (.fn 22 [])) [(.s 28)], none, 0⟩ :: c9_3)) c9_6) (.seq (.ops [
  ⟨(some 40), .p (.mov (.s 5)), none, 0⟩,
  ⟨(some 41), .p (.bin .neq (.s 40) (.c (.v (.string ⟨#[]⟩)))), none, 0⟩]) c9_7))
def c9_9 : List AOper := [
  ⟨(some 42), .p (.mov (.s 44)), none, 0⟩,
  ⟨(some 45), .p (.extract (.s 42) 0), none, 0⟩,
  ⟨(some 46), .p (.extract (.s 42) 1), none, 0⟩,
  ⟨(some 9), .p (.mov (.s 45)), none, 0⟩,
  ⟨(some 10), .p (.mov (.s 46)), none, 0⟩]
def c9_10 : List AOper := [
  ⟨(some 54), .p (.pick (.s 52) (.s 53) (.c (.v (.bool false)))), none, 0⟩,
  ⟨(some 4), .p (.mov (.s 54)), none, 0⟩]
def c9_11 : ACode := (.cond (.s 48) (.seq (.ops (⟨(some 49), .p (.mov (.s 9)), none, 0⟩ ::
  ⟨(some 50), .p (.len false (.s 49)), none, 31⟩ ::
  ⟨(some 51), .p (.bin .eql (.s 50) (.c (.v (.int .i64 0)))), none, 0⟩ ::
  ⟨(some 52), .p (.mov (.s 51)), none, 0⟩ ::
  ⟨(some 53), .call (.c (.fn 11 [])) [], (some (52, true)), 0⟩ :: c9_10)) .ret) .skip)
def c9_12 : List AOper := [
  ⟨(some 55), .p (.mov (.s 57)), none, 0⟩,
  ⟨(some 58), .p (.extract (.s 55) 0), none, 0⟩,
  ⟨(some 59), .p (.extract (.s 55) 1), none, 0⟩,
  ⟨(some 5), .p (.mov (.s 58)), none, 0⟩,
  ⟨(some 6), .p (.mov (.s 59)), none, 0⟩]
def c9_13 : List AOper := [
  ⟨(some 69), .p (.pick (.s 67) (.s 68) (.c (.v (.bool false)))), none, 0⟩,
  ⟨(some 4), .p (.mov (.s 69)), none, 0⟩]
def c9_14 : ACode := (.seq (.ops (⟨(some 60), .p (.mov (.s 6)), none, 0⟩ ::
  ⟨(some 61), .p (.bin .eql (.s 60) (.c (.v (.int .i64 0)))), none, 0⟩ ::
  ⟨(some 62), .p (.mov (.s 61)), none, 0⟩ ::
  ⟨(some 63), .p (.mov (.s 5)), (some (62, true)), 0⟩ ::
  ⟨(some 64), .p (.mov (.s 1)), (some (62, true)), 0⟩ ::
  ⟨(some 65), .p (.bin .eql (.s 63) (.s 64)), (some (62, true)), 0⟩ ::
  ⟨(some 66), .p (.pick (.s 62) (.s 65) (.c (.v (.bool false)))), none, 0⟩ ::
  ⟨(some 67), .p (.mov (.s 66)), none, 0⟩ ::
  ⟨(some 68), .call (.c (.fn 11 [])) [], (some (67, true)), 0⟩ :: c9_13)) .ret)
def c9_15 : ACode := (.seq (.ops (⟨(some 56), .p (.mov (.s 9)), none, 0⟩ ::
  ⟨(some 57), .call (.c (.fn 12 [])) [(.s 56)], none, 31⟩ :: c9_12)) c9_14)
def c9_16 : ACode := (.seq (.seq (.ops [
  ⟨(some 47), .p (.mov (.s 10)), none, 0⟩,
  ⟨(some 48), .p (.bin .neq (.s 47) (.c (.v (.int .i64 0)))), none, 0⟩]) c9_11) c9_15)
def c9_17 : ACode := (.seq (.ops (⟨(some 43), .p (.mov (.s 1)), none, 0⟩ ::
  ⟨(some 44), .call (.c (.fn 22 [])) [(.s 43)], none, 0⟩ :: c9_9)) c9_16)
def c9_18 : ACode := (.seq (.seq (.ops [
  ⟨(some 25), .p (.mov (.s 6)), none, 0⟩,
  ⟨(some 26), .p (.bin .eql (.s 25) (.c (.v (.int .i64 0)))), none, 0⟩]) c9_8) c9_17)
def c9_19 : ACode := (.seq (.ops (⟨(some 21), .p (.mov (.s 0)), none, 0⟩ ::
  ⟨(some 22), .call (.c (.fn 12 [])) [(.s 21)], none, 31⟩ :: c9_2)) c9_18)
def c9_20 : ACode := (.seq (.seq (.ops [
  ⟨(some 11), .p (.mov (.s 0)), none, 0⟩,
  ⟨(some 12), .p (.len false (.s 11)), none, 31⟩,
  ⟨(some 13), .p (.bin .gtr (.s 12) (.c (.v (.int .i64 60)))), none, 0⟩,
  ⟨(some 14), .p (.mov (.s 13)), none, 0⟩,
  ⟨(some 15), .p (.mov (.s 1)), (some (14, false)), 0⟩,
  ⟨(some 16), .p (.len true (.s 15)), (some (14, false)), 0⟩,
  ⟨(some 17), .p (.bin .gtr (.s 16) (.c (.v (.int .i64 2000)))), (some (14, false)), 0⟩,
  ⟨(some 18), .p (.pick (.s 14) (.c (.v (.bool true))) (.s 17)), none, 0⟩]) c9_1) c9_19)
def c9 : ACode := (.seq (.ops [
  ⟨(some 4), .p (.mov (.c (.v (.bool false)))), none, 0⟩]) c9_20)
theorem t9 : trC Try.prog Try.f9.ntmps (bodyOf Try.f9) = some c9 := by kernel_rfl
theorem r9 : Try.f9.results.toList.mapM (trR Try.prog) = some [.tmp 4] := by kernel_rfl
def i9 : FI := ⟨70, c9, [.tmp 4]⟩
theorem k9 : Knows Try.prog 9 i9 := ⟨Try.f9, bodyOf Try.f9, Try.func9, by kernel_rfl, by kernel_rfl, t9, r9, by kernel_rfl⟩
-- 10 drover/droverlaw06.ActRight []
def c10_0 : List AOper := [
  ⟨(some 18), .p (.un .not (.s 17)), (some (15, false)), 0⟩,
  ⟨(some 19), .p (.pick (.s 15) (.c (.v (.bool true))) (.s 18)), none, 0⟩]
def c10_1 : List AOper := [
  ⟨(some 4), .p (.mov (.s 20)), none, 0⟩]
def c10_2 : ACode := (.cond (.s 19) (.seq (.ops (⟨(some 20), .call (.c (.fn 11 [])) [], none, 0⟩ :: c10_1)) .ret) .skip)
def c10_3 : List AOper := [
  ⟨(some 21), .p (.mov (.s 24)), none, 0⟩,
  ⟨(some 25), .p (.extract (.s 21) 0), none, 0⟩,
  ⟨(some 26), .p (.extract (.s 21) 1), none, 0⟩,
  ⟨(some 5), .p (.mov (.s 25)), none, 0⟩,
  ⟨(some 6), .p (.mov (.s 26)), none, 0⟩]
def c10_4 : List AOper := [
  ⟨(some 7), .m (.alloc [(.v (.int .i64 0)), (.v (.int .u64 0)), (.v (.int .u64 0)), (.v (.int .u64 0)), (.v (.int .i64 0)), (.v (.int .i64 0)), (.v (.int .u32 0)), (.v (.int .u32 0)), (.v (.int .i64 0)), (.v (.int .i64 0)), (.v (.int .i64 0)), (.v (.int .i64 0)), (.v (.string ⟨#[]⟩))]), none, 0⟩,
  ⟨none, .m (.store (some 13) (.s 7) (.s 29)), none, 0⟩]
def c10_5 : List AOper := [
  ⟨(some 30), .p (.mov (.s 33)), none, 0⟩,
  ⟨(some 34), .p (.extract (.s 30) 0), none, 0⟩,
  ⟨(some 35), .p (.extract (.s 30) 1), none, 0⟩,
  ⟨(some 8), .p (.mov (.s 34)), none, 0⟩,
  ⟨(some 9), .p (.mov (.s 35)), none, 0⟩]
def c10_6 : List AOper := [
  ⟨(some 60), .p (.pick (.s 58) (.s 59) (.c (.v (.bool false)))), none, 0⟩,
  ⟨(some 4), .p (.mov (.s 60)), none, 0⟩]
def c10_7 : ACode := (.seq (.ops (⟨(some 36), .p (.mov (.s 6)), none, 0⟩ ::
  ⟨(some 37), .p (.bin .neq (.s 36) (.c (.v (.int .i64 0)))), none, 0⟩ ::
  ⟨(some 38), .p (.mov (.s 37)), none, 0⟩ ::
  ⟨(some 39), .p (.mov (.s 9)), (some (38, false)), 0⟩ ::
  ⟨(some 40), .p (.bin .eql (.s 39) (.c (.v (.int .i64 0)))), (some (38, false)), 0⟩ ::
  ⟨(some 41), .p (.pick (.s 38) (.c (.v (.bool true))) (.s 40)), none, 0⟩ ::
  ⟨(some 42), .p (.mov (.s 41)), none, 0⟩ ::
  ⟨(some 43), .p (.fieldAddr 0 none (.s 7)), (some (42, true)), 0⟩ ::
  ⟨(some 44), .m (.load none (.s 43)), (some (42, true)), 0⟩ ::
  ⟨(some 45), .p (.fieldAddr 0 none (.s 2)), (some (42, true)), 0⟩ ::
  ⟨(some 46), .m (.load none (.s 45)), (some (42, true)), 0⟩ ::
  ⟨(some 47), .p (.bin .eql (.s 44) (.s 46)), (some (42, true)), 0⟩ ::
  ⟨(some 48), .p (.pick (.s 42) (.s 47) (.c (.v (.bool false)))), none, 0⟩ ::
  ⟨(some 49), .p (.mov (.s 48)), none, 0⟩ ::
  ⟨(some 50), .p (.fieldAddr 2 (some 11) (.s 7)), (some (49, true)), 0⟩ ::
  ⟨(some 51), .p (.fieldAddr 10 none (.s 50)), (some (49, true)), 0⟩ ::
  ⟨(some 52), .m (.load none (.s 51)), (some (49, true)), 0⟩ ::
  ⟨(some 53), .p (.fieldAddr 2 (some 11) (.s 2)), (some (49, true)), 0⟩ ::
  ⟨(some 54), .p (.fieldAddr 10 none (.s 53)), (some (49, true)), 0⟩ ::
  ⟨(some 55), .m (.load none (.s 54)), (some (49, true)), 0⟩ ::
  ⟨(some 56), .p (.bin .eql (.s 52) (.s 55)), (some (49, true)), 0⟩ ::
  ⟨(some 57), .p (.pick (.s 49) (.s 56) (.c (.v (.bool false)))), none, 0⟩ ::
  ⟨(some 58), .p (.mov (.s 57)), none, 0⟩ ::
  ⟨(some 59), .call (.c (.fn 11 [])) [], (some (58, true)), 0⟩ :: c10_6)) .ret)
def c10_8 : ACode := (.seq (.ops (⟨(some 31), .p (.fieldAddr 2 (some 11) (.s 7)), none, 0⟩ ::
  ⟨(some 32), .m (.load (some 11) (.s 31)), none, 0⟩ ::
  ⟨(some 33), .call (.c (.fn 24 [])) [(.s 32)], none, 0⟩ :: c10_5)) c10_7)
def c10_9 : ACode := (.seq (.ops (⟨(some 27), .m (.load (some 13) (.s 2)), none, 0⟩ ::
  ⟨(some 28), .m (.load (some 3) (.s 3)), none, 0⟩ ::
  ⟨(some 29), .call (.c (.fn 20 [])) [(.s 27), (.s 28)], none, 0⟩ :: c10_4)) c10_8)
def c10_10 : ACode := (.seq (.ops (⟨(some 22), .p (.fieldAddr 2 (some 11) (.s 2)), none, 0⟩ ::
  ⟨(some 23), .m (.load (some 11) (.s 22)), none, 0⟩ ::
  ⟨(some 24), .call (.c (.fn 24 [])) [(.s 23)], none, 0⟩ :: c10_3)) c10_9)
def c10_11 : ACode := (.seq (.seq (.ops (⟨(some 10), .p (.fieldAddr 2 (some 11) (.s 2)), none, 0⟩ ::
  ⟨(some 11), .p (.fieldAddr 10 none (.s 10)), none, 0⟩ ::
  ⟨(some 12), .m (.load none (.s 11)), none, 0⟩ ::
  ⟨(some 13), .p (.len true (.s 12)), none, 0⟩ ::
  ⟨(some 14), .p (.bin .gtr (.s 13) (.c (.v (.int .i64 1000)))), none, 0⟩ ::
  ⟨(some 15), .p (.mov (.s 14)), none, 0⟩ ::
  ⟨(some 16), .m (.load (some 3) (.s 3)), (some (15, false)), 0⟩ ::
  ⟨(some 17), .call (.c (.fn 14 [])) [(.s 16)], (some (15, false)), 0⟩ :: c10_0)) c10_2) c10_10)
def c10 : ACode := (.seq (.ops [
  ⟨(some 2), .m (.box (.s 0)), none, 0⟩,
  ⟨(some 3), .m (.box (.s 1)), none, 0⟩,
  ⟨(some 4), .p (.mov (.c (.v (.bool false)))), none, 0⟩]) c10_11)
theorem t10 : trC Try.prog Try.f10.ntmps (bodyOf Try.f10) = some c10 := by kernel_rfl
theorem r10 : Try.f10.results.toList.mapM (trR Try.prog) = some [.tmp 4] := by kernel_rfl
def i10 : FI := ⟨61, c10, [.tmp 4]⟩
theorem k10 : Knows Try.prog 10 i10 := ⟨Try.f10, bodyOf Try.f10, Try.func10, by kernel_rfl, by kernel_rfl, t10, r10, by kernel_rfl⟩
-- 11 drover/droverlaw06.awake []
def c11_0 : List AOper := [
  ⟨(some 4), .p (.mov (.s 7)), none, 0⟩,
  ⟨(some 8), .p (.extract (.s 4) 0), none, 0⟩,
  ⟨(some 9), .p (.extract (.s 4) 1), none, 0⟩,
  ⟨(some 1), .p (.mov (.s 8)), none, 0⟩,
  ⟨(some 2), .p (.mov (.s 9)), none, 0⟩]
def c11_1 : List AOper := (⟨(some 6), .m (.buildSlice 3 1 [(.v (.int .i64 0)), (.v (.int .i64 0)), (.v (.int .u64 0))] [(0, 3, (.s 5))]), none, 31⟩ ::
  ⟨(some 7), .call (.c (.fn 12 [])) [(.s 6)], none, 31⟩ :: c11_0)
def c11_2 : List AOper := [
  ⟨(some 3), .p (.mov (.s 15)), none, 0⟩]
def c11_3 : List AOper := (⟨(some 14), .m (.buildSlice 3 2 [(.v (.int .i64 0)), (.v (.int .i64 0)), (.v (.int .u64 0)), (.v (.int .i64 0)), (.v (.int .i64 0)), (.v (.int .u64 0))] [(0, 3, (.s 12)), (3, 3, (.s 13))]), none, 31⟩ ::
  ⟨(some 15), .call (.c (.fn 17 [])) [(.s 11), (.s 14)], none, 31⟩ :: c11_2)
def c11_4 : List AOper := (⟨(some 11), .m (.buildSlice 3 1 [(.v (.int .i64 0)), (.v (.int .i64 0)), (.v (.int .u64 0))] [(0, 3, (.s 10))]), none, 31⟩ ::
  ⟨(some 12), .p (.build [(.v (.int .i64 0)), (.v (.int .i64 0)), (.v (.int .u64 0))] [(0, 1, (.c (.v (.int .i64 4))))]), none, 0⟩ ::
  ⟨(some 13), .call (.c (.fn 25 [])) [(.c (.v (.int .u64 2)))], none, 0⟩ :: c11_3)
def c11_5 : List AOper := [
  ⟨(some 28), .p (.pick (.s 22) (.s 27) (.c (.v (.bool false)))), none, 0⟩,
  ⟨(some 0), .p (.mov (.s 28)), none, 0⟩]
def c11_6 : List AOper := (⟨(some 26), .m (.buildSlice 3 2 [(.v (.int .i64 0)), (.v (.int .i64 0)), (.v (.int .u64 0)), (.v (.int .i64 0)), (.v (.int .i64 0)), (.v (.int .u64 0))] [(0, 3, (.s 24)), (3, 3, (.s 25))]), (some (22, true)), 31⟩ ::
  ⟨(some 27), .call (.c (.fn 16 [])) [(.s 23), (.s 26)], (some (22, true)), 31⟩ :: c11_5)
def c11_7 : ACode := (.seq (.ops (⟨(some 16), .p (.mov (.s 2)), none, 0⟩ ::
  ⟨(some 17), .p (.bin .eql (.s 16) (.c (.v (.int .i64 0)))), none, 0⟩ ::
  ⟨(some 18), .p (.mov (.s 17)), none, 0⟩ ::
  ⟨(some 19), .p (.mov (.s 1)), (some (18, true)), 0⟩ ::
  ⟨(some 20), .p (.bin .eql (.s 19) (.c (.v (.string ⟨#[0, 0, 0, 16, 0, 0, 0, 1, 255, 255, 0, 0, 0, 0, 0, 0]⟩)))), (some (18, true)), 0⟩ ::
  ⟨(some 21), .p (.pick (.s 18) (.s 20) (.c (.v (.bool false)))), none, 0⟩ ::
  ⟨(some 22), .p (.mov (.s 21)), none, 0⟩ ::
  ⟨(some 23), .p (.mov (.s 3)), (some (22, true)), 0⟩ ::
  ⟨(some 24), .p (.build [(.v (.int .i64 0)), (.v (.int .i64 0)), (.v (.int .u64 0))] [(0, 1, (.c (.v (.int .i64 4))))]), (some (22, true)), 0⟩ ::
  ⟨(some 25), .call (.c (.fn 25 [])) [(.c (.v (.int .u64 2)))], (some (22, true)), 0⟩ :: c11_6)) .ret)
def c11_8 : ACode := (.seq (.ops (⟨(some 10), .call (.c (.fn 25 [])) [(.c (.v (.int .u64 1)))], none, 0⟩ :: c11_4)) c11_7)
def c11_9 : ACode := (.seq (.ops (⟨(some 5), .call (.c (.fn 25 [])) [(.c (.v (.int .u64 1)))], none, 0⟩ :: c11_1)) c11_8)
def c11 : ACode := (.seq (.ops [
  ⟨(some 0), .p (.mov (.c (.v (.bool false)))), none, 0⟩]) c11_9)
theorem t11 : trC Try.prog Try.f11.ntmps (bodyOf Try.f11) = some c11 := by kernel_rfl
theorem r11 : Try.f11.results.toList.mapM (trR Try.prog) = some [.tmp 0] := by kernel_rfl
def i11 : FI := ⟨29, c11, [.tmp 0]⟩
theorem k11 : Knows Try.prog 11 i11 := ⟨Try.f11, bodyOf Try.f11, Try.func11, by kernel_rfl, by kernel_rfl, t11, r11, by kernel_rfl⟩
-- 12 drover/act.Encode []
def c12_0 : List AOper := [
  ⟨(some 7), .p (.mov (.s 9)), none, 0⟩]
def c12_1 : ACode := (.cond (.s 10) (.seq (.ops [
  ⟨(some 2), .p (.mov (.c (.v (.string ⟨#[]⟩)))), none, 0⟩,
  ⟨(some 3), .p (.mov (.c (.v (.int .i64 44)))), none, 0⟩]) .ret) .skip)
def c12_2 : ACode := (.cond (.s 7) (.seq (.ops [
  ⟨(some 2), .p (.mov (.c (.v (.string ⟨#[]⟩)))), none, 0⟩,
  ⟨(some 3), .p (.mov (.c (.v (.int .i64 22)))), none, 0⟩]) .ret) (.seq (.ops [
  ⟨(some 11), .p (.mov (.s 0)), none, 0⟩,
  ⟨(some 12), .p (.len false (.s 11)), none, 31⟩,
  ⟨(some 13), .p (.bin .gtr (.s 12) (.c (.v (.int .i64 32)))), none, 0⟩,
  ⟨(some 10), .p (.mov (.s 13)), none, 0⟩]) c12_1))
def c12_3 : List AOper := [
  ⟨(some 22), .call (.c (.fn 28 [])) [(.s 4), (.s 21)], none, 0⟩]
def c12_4 : ACode := (.ops (⟨(some 20), .m (.load (some 3) (.s 6)), none, 0⟩ ::
  ⟨(some 21), .call (.c (.fn 29 [])) [(.s 20)], none, 0⟩ :: c12_3))
def c12_5 : ACode := (.ops [
  ⟨(some 23), .p (.bin .add (.s 16) (.c (.v (.int .i64 1)))), none, 0⟩,
  ⟨(some 16), .p (.mov (.s 23)), none, 0⟩])
def c12_6 : ACode := (.seq (.block 2 (.seq (.ops [
  ⟨(some 18), .p (.adrSl 3 (.s 14) (.s 16)), none, 0⟩,
  ⟨(some 19), .m (.load (some 3) (.s 18)), none, 0⟩,
  ⟨(some 6), .m (.alloc [(.v (.int .i64 0)), (.v (.int .i64 0)), (.v (.int .u64 0))]), none, 0⟩,
  ⟨none, .m (.store (some 3) (.s 6) (.s 19)), none, 0⟩]) c12_4)) c12_5)
def c12_7 : ACode := (.seq (.cond (.s 17) .skip (.exit 1)) c12_6)
def c12_8 : ACode := (.seq (.ops [
  ⟨(some 17), .p (.bin .lss (.s 16) (.s 15)), none, 0⟩]) c12_7)
def c12_9 : ACode := (.block 1 (.loop c12_8))
def c12_10 : List AOper := [
  ⟨(some 2), .p (.mov (.s 24)), none, 0⟩,
  ⟨(some 3), .p (.mov (.c (.v (.int .i64 0)))), none, 0⟩]
def c12_11 : ACode := (.seq (.ops (⟨(some 24), .call (.c (.fn 30 [])) [(.s 4)], none, 0⟩ :: c12_10)) .ret)
def c12_12 : ACode := (.seq (.seq (.ops [
  ⟨(some 14), .p (.mov (.s 0)), none, 0⟩,
  ⟨(some 15), .p (.len false (.s 14)), none, 31⟩,
  ⟨(some 16), .p (.mov (.c (.v (.int .i64 0)))), none, 0⟩]) c12_9) c12_11)
def c12_13 : ACode := (.seq (.ops [
  ⟨(some 4), .m (.ext (.allocT 58 [(.v (.pointer none)), (.v (.slice none 0 0))])), none, 5⟩]) c12_12)
def c12_14 : ACode := (.seq (.block 0 (.seq (.ops (⟨(some 8), .p (.mov (.s 0)), none, 0⟩ ::
  ⟨(some 9), .call (.c (.fn 26 [])) [(.s 8), (.c (.fn 27 []))], none, 31⟩ :: c12_0)) c12_2)) c12_13)
def c12 : ACode := (.seq (.ops [
  ⟨(some 2), .p (.mov (.c (.v (.string ⟨#[]⟩)))), none, 0⟩,
  ⟨(some 3), .p (.mov (.c (.v (.int .i64 0)))), none, 0⟩]) c12_14)
theorem t12 : trC Try.prog Try.f12.ntmps (bodyOf Try.f12) = some c12 := by kernel_rfl
theorem r12 : Try.f12.results.toList.mapM (trR Try.prog) = some [.tmp 2, .tmp 3] := by kernel_rfl
def i12 : FI := ⟨25, c12, [.tmp 2, .tmp 3]⟩
theorem k12 : Knows Try.prog 12 i12 := ⟨Try.f12, bodyOf Try.f12, Try.func12, by kernel_rfl, by kernel_rfl, t12, r12, by kernel_rfl⟩
-- 13 drover/droverref06.Encode []
def c13_0 : ACode := (.cond (.s 10) .skip (.exit 0))
def c13_1 : List AOper := [
  ⟨(some 18), .p (.un .not (.s 17)), none, 0⟩]
def c13_2 : ACode := (.cond (.s 18) (.seq (.ops [
  ⟨(some 2), .p (.mov (.c (.v (.string ⟨#[]⟩)))), none, 0⟩,
  ⟨(some 3), .p (.mov (.c (.v (.int .i64 22)))), none, 0⟩]) .ret) .skip)
def c13_3 : ACode := (.ops [
  ⟨(some 11), .p (.mov (.s 4)), none, 0⟩,
  ⟨(some 12), .p (.bin .add (.s 11) (.c (.v (.int .i64 1)))), none, 0⟩,
  ⟨(some 4), .p (.mov (.s 12)), none, 0⟩])
def c13_4 : ACode := (.seq (.block 1 (.seq (.ops (⟨(some 13), .p (.mov (.s 0)), none, 0⟩ ::
  ⟨(some 14), .p (.mov (.s 4)), none, 0⟩ ::
  ⟨(some 15), .p (.adrSl 3 (.s 13) (.s 14)), none, 0⟩ ::
  ⟨(some 16), .m (.load (some 3) (.s 15)), none, 0⟩ ::
  ⟨(some 17), .call (.c (.fn 15 [])) [(.s 16)], none, 0⟩ :: c13_1)) c13_2)) c13_3)
def c13_5 : ACode := (.seq (.seq (.ops [
  ⟨(some 7), .p (.mov (.s 4)), none, 0⟩,
  ⟨(some 8), .p (.mov (.s 0)), none, 0⟩,
  ⟨(some 9), .p (.len false (.s 8)), none, 31⟩,
  ⟨(some 10), .p (.bin .lss (.s 7) (.s 9)), none, 0⟩]) c13_0) c13_4)
def c13_6 : ACode := (.block 0 (.loop c13_5))
def c13_7 : ACode := (.cond (.s 21) (.seq (.ops [
  ⟨(some 2), .p (.mov (.c (.v (.string ⟨#[]⟩)))), none, 0⟩,
  ⟨(some 3), .p (.mov (.c (.v (.int .i64 44)))), none, 0⟩]) .ret) .skip)
def c13_8 : ACode := (.cond (.s 25) .skip (.exit 2))
def c13_9 : List AOper := [
  ⟨(some 34), .p (.bin .add (.s 28) (.s 33)), none, 0⟩,
  ⟨(some 5), .p (.mov (.s 34)), none, 0⟩]
def c13_10 : ACode := (.ops [
  ⟨(some 26), .p (.mov (.s 6)), none, 0⟩,
  ⟨(some 27), .p (.bin .add (.s 26) (.c (.v (.int .i64 1)))), none, 0⟩,
  ⟨(some 6), .p (.mov (.s 27)), none, 0⟩])
def c13_11 : ACode := (.seq (.block 3 (.ops (⟨(some 28), .p (.mov (.s 5)), none, 0⟩ ::
  ⟨(some 29), .p (.mov (.s 0)), none, 0⟩ ::
  ⟨(some 30), .p (.mov (.s 6)), none, 0⟩ ::
  ⟨(some 31), .p (.adrSl 3 (.s 29) (.s 30)), none, 0⟩ ::
  ⟨(some 32), .m (.load (some 3) (.s 31)), none, 0⟩ ::
  ⟨(some 33), .call (.c (.fn 31 [])) [(.s 32)], none, 0⟩ :: c13_9))) c13_10)
def c13_12 : ACode := (.seq (.seq (.ops [
  ⟨(some 22), .p (.mov (.s 6)), none, 0⟩,
  ⟨(some 23), .p (.mov (.s 0)), none, 0⟩,
  ⟨(some 24), .p (.len false (.s 23)), none, 31⟩,
  ⟨(some 25), .p (.bin .lss (.s 22) (.s 24)), none, 0⟩]) c13_8) c13_11)
def c13_13 : ACode := (.block 2 (.loop c13_12))
def c13_14 : ACode := (.seq (.ops [
  ⟨(some 35), .p (.mov (.s 5)), none, 0⟩,
  ⟨(some 2), .p (.mov (.s 35)), none, 0⟩,
  ⟨(some 3), .p (.mov (.c (.v (.int .i64 0)))), none, 0⟩]) .ret)
def c13_15 : ACode := (.seq (.seq (.ops [
  ⟨(some 6), .p (.mov (.c (.v (.int .i64 0)))), none, 0⟩]) c13_13) c13_14)
def c13_16 : ACode := (.seq (.ops [
  ⟨(some 5), .p (.mov (.c (.v (.string ⟨#[]⟩)))), none, 0⟩]) c13_15)
def c13_17 : ACode := (.seq (.seq (.ops [
  ⟨(some 19), .p (.mov (.s 0)), none, 0⟩,
  ⟨(some 20), .p (.len false (.s 19)), none, 31⟩,
  ⟨(some 21), .p (.bin .gtr (.s 20) (.c (.v (.int .i64 32)))), none, 0⟩]) c13_7) c13_16)
def c13_18 : ACode := (.seq (.seq (.ops [
  ⟨(some 4), .p (.mov (.c (.v (.int .i64 0)))), none, 0⟩]) c13_6) c13_17)
def c13 : ACode := (.seq (.ops [
  ⟨(some 2), .p (.mov (.c (.v (.string ⟨#[]⟩)))), none, 0⟩,
  ⟨(some 3), .p (.mov (.c (.v (.int .i64 0)))), none, 0⟩]) c13_18)
theorem t13 : trC Try.prog Try.f13.ntmps (bodyOf Try.f13) = some c13 := by kernel_rfl
theorem r13 : Try.f13.results.toList.mapM (trR Try.prog) = some [.tmp 2, .tmp 3] := by kernel_rfl
def i13 : FI := ⟨36, c13, [.tmp 2, .tmp 3]⟩
theorem k13 : Knows Try.prog 13 i13 := ⟨Try.f13, bodyOf Try.f13, Try.func13, by kernel_rfl, by kernel_rfl, t13, r13, by kernel_rfl⟩
-- 14 drover/act.Right []
def c14_0 : ACode := (.cond (.s 7) .skip (.ops [
  ⟨(some 9), .p (.bin .eql (.s 6) (.c (.v (.int .i64 2)))), none, 0⟩,
  ⟨(some 7), .p (.mov (.s 9)), none, 0⟩]))
def c14_1 : ACode := (.cond (.s 24) .skip (.ops [
  ⟨(some 26), .p (.bin .eql (.s 6) (.c (.v (.int .i64 4)))), none, 0⟩,
  ⟨(some 24), .p (.mov (.s 26)), none, 0⟩]))
def c14_2 : List AOper := [
  ⟨(some 37), .p (.mov (.s 40)), none, 0⟩,
  ⟨(some 41), .p (.extract (.s 37) 0), none, 0⟩,
  ⟨(some 42), .p (.extract (.s 37) 1), none, 0⟩,
  ⟨(some 3), .p (.mov (.s 41)), none, 0⟩,
  ⟨(some 4), .p (.mov (.s 42)), none, 0⟩]
def c14_3 : ACode := (.seq (.draw [
  ⟨(some 43), .p (.mov (.s 4)), none, 0⟩,
  ⟨(some 44), .p (.bin .gtr (.s 43) (.c (.v (.int .i64 0)))), none, 0⟩,
  ⟨(some 45), .p (.mov (.s 44)), none, 0⟩,
  ⟨(some 46), .p (.fieldAddr 2 none (.s 1)), (some (45, true)), 0⟩,
  ⟨(some 47), .m (.load none (.s 46)), (some (45, true)), 0⟩,
  ⟨(some 48), .p (.fieldAddr 1 none (.s 1)), (some (45, true)), 0⟩,
  ⟨(some 49), .m (.load none (.s 48)), (some (45, true)), 0⟩,
  ⟨(some 50), .qcall (.c (.fn 33 [])) [(.s 49)], (some (45, true)), 0⟩,
  ⟨(some 51), .p (.bin .shr (.s 47) (.s 50)), (some (45, true)), 0⟩,
  ⟨(some 52), .p (.bin .eql (.s 51) (.c (.v (.int .u64 0)))), (some (45, true)), 0⟩,
  ⟨(some 53), .p (.pick (.s 45) (.s 52) (.c (.v (.bool false)))), none, 0⟩,
  ⟨(some 54), .p (.mov (.s 53)), none, 0⟩,
  ⟨(some 55), .p (.fieldAddr 1 none (.s 1)), (some (54, true)), 0⟩,
  ⟨(some 56), .m (.load none (.s 55)), (some (54, true)), 0⟩,
  ⟨(some 57), .p (.bin .neq (.s 56) (.c (.v (.int .i64 3)))), (some (54, true)), 0⟩,
  ⟨(some 58), .p (.mov (.s 57)), (some (54, true)), 0⟩,
  ⟨(some 59), .p (.fieldAddr 2 none (.s 1)), (some (58, false)), 0⟩,
  ⟨(some 60), .m (.load none (.s 59)), (some (58, false)), 0⟩,
  ⟨(some 61), .p (.bin .geq (.s 60) (.c (.v (.int .u64 4096)))), (some (58, false)), 0⟩,
  ⟨(some 62), .p (.pick (.s 58) (.c (.v (.bool true))) (.s 61)), (some (54, true)), 0⟩,
  ⟨(some 63), .p (.pick (.s 54) (.s 62) (.c (.v (.bool false)))), none, 0⟩,
  ⟨(some 2), .p (.mov (.s 63)), none, 0⟩]) .ret)
def c14_4 : ACode := (.cond (.s 35) (.seq (.ops (⟨(some 38), .p (.fieldAddr 1 none (.s 1)), none, 0⟩ ::
  ⟨(some 39), .m (.load none (.s 38)), none, 0⟩ ::
  ⟨(some 40), .call (.c (.fn 32 [])) [(.s 39)], none, 0⟩ :: c14_2)) c14_3) .skip)
def c14_5 : ACode := (.cond (.s 24) (.seq (.ops [
  ⟨(some 27), .p (.fieldAddr 1 none (.s 1)), none, 0⟩,
  ⟨(some 28), .m (.load none (.s 27)), none, 0⟩,
  ⟨(some 29), .p (.bin .eql (.s 28) (.c (.v (.int .i64 0)))), none, 0⟩,
  ⟨(some 30), .p (.mov (.s 29)), none, 0⟩,
  ⟨(some 31), .p (.fieldAddr 2 none (.s 1)), (some (30, true)), 0⟩,
  ⟨(some 32), .m (.load none (.s 31)), (some (30, true)), 0⟩,
  ⟨(some 33), .p (.bin .eql (.s 32) (.c (.v (.int .u64 0)))), (some (30, true)), 0⟩,
  ⟨(some 34), .p (.pick (.s 30) (.s 33) (.c (.v (.bool false)))), none, 0⟩,
  ⟨(some 2), .p (.mov (.s 34)), none, 0⟩]) .ret) (.seq (.ops [
  ⟨(some 36), .p (.bin .eql (.s 6) (.c (.v (.int .i64 5)))), none, 0⟩,
  ⟨(some 35), .p (.mov (.s 36)), none, 0⟩]) c14_4))
def c14_6 : ACode := (.cond (.s 7) (.seq (.ops [
  ⟨(some 10), .p (.fieldAddr 1 none (.s 1)), none, 0⟩,
  ⟨(some 11), .m (.load none (.s 10)), none, 0⟩,
  ⟨(some 12), .p (.bin .eql (.s 11) (.c (.v (.int .i64 0)))), none, 0⟩,
  ⟨(some 13), .p (.mov (.s 12)), none, 0⟩,
  ⟨(some 14), .p (.fieldAddr 2 none (.s 1)), (some (13, true)), 0⟩,
  ⟨(some 15), .m (.load none (.s 14)), (some (13, true)), 0⟩,
  ⟨(some 16), .p (.bin .geq (.s 15) (.c (.v (.int .u64 1)))), (some (13, true)), 0⟩,
  ⟨(some 17), .p (.pick (.s 13) (.s 16) (.c (.v (.bool false)))), none, 0⟩,
  ⟨(some 18), .p (.mov (.s 17)), none, 0⟩,
  ⟨(some 19), .p (.fieldAddr 2 none (.s 1)), (some (18, true)), 0⟩,
  ⟨(some 20), .m (.load none (.s 19)), (some (18, true)), 0⟩,
  ⟨(some 21), .p (.bin .shr (.s 20) (.c (.v (.int .u64 32)))), (some (18, true)), 0⟩,
  ⟨(some 22), .p (.bin .eql (.s 21) (.c (.v (.int .u64 0)))), (some (18, true)), 0⟩,
  ⟨(some 23), .p (.pick (.s 18) (.s 22) (.c (.v (.bool false)))), none, 0⟩,
  ⟨(some 2), .p (.mov (.s 23)), none, 0⟩]) .ret) (.seq (.seq (.ops [
  ⟨(some 25), .p (.bin .eql (.s 6) (.c (.v (.int .i64 3)))), none, 0⟩,
  ⟨(some 24), .p (.mov (.s 25)), none, 0⟩]) c14_1) c14_5))
def c14_7 : ACode := (.block 0 (.seq (.seq (.ops [
  ⟨(some 8), .p (.bin .eql (.s 6) (.c (.v (.int .i64 1)))), none, 0⟩,
  ⟨(some 7), .p (.mov (.s 8)), none, 0⟩]) c14_0) c14_6))
def c14_8 : ACode := (.seq (.ops [
  ⟨(some 2), .p (.mov (.c (.v (.bool false)))), none, 0⟩]) .ret)
def c14_9 : ACode := (.seq (.seq (.ops [
  ⟨(some 5), .p (.fieldAddr 0 none (.s 1)), none, 0⟩,
  ⟨(some 6), .m (.load none (.s 5)), none, 0⟩]) c14_7) c14_8)
def c14 : ACode := (.seq (.ops [
  ⟨(some 1), .m (.box (.s 0)), none, 0⟩,
  ⟨(some 2), .p (.mov (.c (.v (.bool false)))), none, 0⟩]) c14_9)
theorem t14 : trC Try.prog Try.f14.ntmps (bodyOf Try.f14) = some c14 := by kernel_rfl
theorem r14 : Try.f14.results.toList.mapM (trR Try.prog) = some [.tmp 2] := by kernel_rfl
def i14 : FI := ⟨64, c14, [.tmp 2]⟩
theorem k14 : Knows Try.prog 14 i14 := ⟨Try.f14, bodyOf Try.f14, Try.func14, by kernel_rfl, by kernel_rfl, t14, r14, by kernel_rfl⟩
-- 15 drover/droverref06.Right []
def c15_0 : ACode := (.cond (.s 5) .skip (.ops [
  ⟨(some 7), .p (.bin .eql (.s 4) (.c (.v (.int .i64 2)))), none, 0⟩,
  ⟨(some 5), .p (.mov (.s 7)), none, 0⟩]))
def c15_1 : ACode := (.cond (.s 21) .skip (.ops [
  ⟨(some 23), .p (.bin .eql (.s 4) (.c (.v (.int .i64 4)))), none, 0⟩,
  ⟨(some 21), .p (.mov (.s 23)), none, 0⟩]))
def c15_2 : ACode := (.cond (.s 36) (.seq (.ops [
  ⟨(some 37), .p (.fieldAddr 2 none (.s 1)), none, 0⟩,
  ⟨(some 38), .m (.load none (.s 37)), none, 0⟩,
  ⟨(some 39), .p (.bin .geq (.s 38) (.c (.v (.int .u64 4096)))), none, 0⟩,
  ⟨(some 40), .p (.mov (.s 39)), none, 0⟩,
  ⟨(some 41), .p (.fieldAddr 2 none (.s 1)), (some (40, true)), 0⟩,
  ⟨(some 42), .m (.load none (.s 41)), (some (40, true)), 0⟩,
  ⟨(some 43), .p (.bin .leq (.s 42) (.c (.v (.int .u64 8191)))), (some (40, true)), 0⟩,
  ⟨(some 44), .p (.pick (.s 40) (.s 43) (.c (.v (.bool false)))), none, 0⟩,
  ⟨(some 2), .p (.mov (.s 44)), none, 0⟩]) .ret) .skip)
def c15_3 : ACode := (.cond (.s 52) (.seq (.ops [
  ⟨(some 53), .p (.fieldAddr 2 none (.s 1)), none, 0⟩,
  ⟨(some 54), .m (.load none (.s 53)), none, 0⟩,
  ⟨(some 55), .p (.bin .leq (.s 54) (.c (.v (.int .u64 4294967295)))), none, 0⟩,
  ⟨(some 2), .p (.mov (.s 55)), none, 0⟩]) .ret) .skip)
def c15_4 : ACode := (.seq (.ops [
  ⟨(some 56), .p (.fieldAddr 1 none (.s 1)), none, 0⟩,
  ⟨(some 57), .m (.load none (.s 56)), none, 0⟩,
  ⟨(some 58), .p (.bin .eql (.s 57) (.c (.v (.int .i64 8)))), none, 0⟩,
  ⟨(some 59), .p (.mov (.s 58)), none, 0⟩,
  ⟨(some 60), .p (.fieldAddr 1 none (.s 1)), (some (59, false)), 0⟩,
  ⟨(some 61), .m (.load none (.s 60)), (some (59, false)), 0⟩,
  ⟨(some 62), .p (.bin .eql (.s 61) (.c (.v (.int .i64 9)))), (some (59, false)), 0⟩,
  ⟨(some 63), .p (.pick (.s 59) (.c (.v (.bool true))) (.s 62)), none, 0⟩,
  ⟨(some 64), .p (.mov (.s 63)), none, 0⟩,
  ⟨(some 65), .p (.fieldAddr 2 none (.s 1)), (some (64, true)), 0⟩,
  ⟨(some 66), .m (.load none (.s 65)), (some (64, true)), 0⟩,
  ⟨(some 67), .p (.bin .leq (.s 66) (.c (.v (.int .u64 65535)))), (some (64, true)), 0⟩,
  ⟨(some 68), .p (.pick (.s 64) (.s 67) (.c (.v (.bool false)))), none, 0⟩,
  ⟨(some 2), .p (.mov (.s 68)), none, 0⟩]) .ret)
def c15_5 : ACode := (.seq (.seq (.ops [
  ⟨(some 45), .p (.fieldAddr 1 none (.s 1)), none, 0⟩,
  ⟨(some 46), .m (.load none (.s 45)), none, 0⟩,
  ⟨(some 47), .p (.bin .eql (.s 46) (.c (.v (.int .i64 5)))), none, 0⟩,
  ⟨(some 48), .p (.mov (.s 47)), none, 0⟩,
  ⟨(some 49), .p (.fieldAddr 1 none (.s 1)), (some (48, false)), 0⟩,
  ⟨(some 50), .m (.load none (.s 49)), (some (48, false)), 0⟩,
  ⟨(some 51), .p (.bin .eql (.s 50) (.c (.v (.int .i64 6)))), (some (48, false)), 0⟩,
  ⟨(some 52), .p (.pick (.s 48) (.c (.v (.bool true))) (.s 51)), none, 0⟩]) c15_3) c15_4)
def c15_6 : ACode := (.cond (.s 32) (.seq (.seq (.ops [
  ⟨(some 34), .p (.fieldAddr 1 none (.s 1)), none, 0⟩,
  ⟨(some 35), .m (.load none (.s 34)), none, 0⟩,
  ⟨(some 36), .p (.bin .eql (.s 35) (.c (.v (.int .i64 3)))), none, 0⟩]) c15_2) c15_5) .skip)
def c15_7 : ACode := (.cond (.s 21) (.seq (.ops [
  ⟨(some 24), .p (.fieldAddr 1 none (.s 1)), none, 0⟩,
  ⟨(some 25), .m (.load none (.s 24)), none, 0⟩,
  ⟨(some 26), .p (.bin .eql (.s 25) (.c (.v (.int .i64 0)))), none, 0⟩,
  ⟨(some 27), .p (.mov (.s 26)), none, 0⟩,
  ⟨(some 28), .p (.fieldAddr 2 none (.s 1)), (some (27, true)), 0⟩,
  ⟨(some 29), .m (.load none (.s 28)), (some (27, true)), 0⟩,
  ⟨(some 30), .p (.bin .eql (.s 29) (.c (.v (.int .u64 0)))), (some (27, true)), 0⟩,
  ⟨(some 31), .p (.pick (.s 27) (.s 30) (.c (.v (.bool false)))), none, 0⟩,
  ⟨(some 2), .p (.mov (.s 31)), none, 0⟩]) .ret) (.seq (.ops [
  ⟨(some 33), .p (.bin .eql (.s 4) (.c (.v (.int .i64 5)))), none, 0⟩,
  ⟨(some 32), .p (.mov (.s 33)), none, 0⟩]) c15_6))
def c15_8 : ACode := (.cond (.s 5) (.seq (.ops [
  ⟨(some 8), .p (.fieldAddr 1 none (.s 1)), none, 0⟩,
  ⟨(some 9), .m (.load none (.s 8)), none, 0⟩,
  ⟨(some 10), .p (.bin .eql (.s 9) (.c (.v (.int .i64 0)))), none, 0⟩,
  ⟨(some 11), .p (.mov (.s 10)), none, 0⟩,
  ⟨(some 12), .p (.fieldAddr 2 none (.s 1)), (some (11, true)), 0⟩,
  ⟨(some 13), .m (.load none (.s 12)), (some (11, true)), 0⟩,
  ⟨(some 14), .p (.bin .geq (.s 13) (.c (.v (.int .u64 1)))), (some (11, true)), 0⟩,
  ⟨(some 15), .p (.pick (.s 11) (.s 14) (.c (.v (.bool false)))), none, 0⟩,
  ⟨(some 16), .p (.mov (.s 15)), none, 0⟩,
  ⟨(some 17), .p (.fieldAddr 2 none (.s 1)), (some (16, true)), 0⟩,
  ⟨(some 18), .m (.load none (.s 17)), (some (16, true)), 0⟩,
  ⟨(some 19), .p (.bin .leq (.s 18) (.c (.v (.int .u64 4294967295)))), (some (16, true)), 0⟩,
  ⟨(some 20), .p (.pick (.s 16) (.s 19) (.c (.v (.bool false)))), none, 0⟩,
  ⟨(some 2), .p (.mov (.s 20)), none, 0⟩]) .ret) (.seq (.seq (.ops [
  ⟨(some 22), .p (.bin .eql (.s 4) (.c (.v (.int .i64 3)))), none, 0⟩,
  ⟨(some 21), .p (.mov (.s 22)), none, 0⟩]) c15_1) c15_7))
def c15_9 : ACode := (.block 0 (.seq (.seq (.ops [
  ⟨(some 6), .p (.bin .eql (.s 4) (.c (.v (.int .i64 1)))), none, 0⟩,
  ⟨(some 5), .p (.mov (.s 6)), none, 0⟩]) c15_0) c15_8))
def c15_10 : ACode := (.seq (.ops [
  ⟨(some 2), .p (.mov (.c (.v (.bool false)))), none, 0⟩]) .ret)
def c15_11 : ACode := (.seq (.seq (.ops [
  ⟨(some 3), .p (.fieldAddr 0 none (.s 1)), none, 0⟩,
  ⟨(some 4), .m (.load none (.s 3)), none, 0⟩]) c15_9) c15_10)
def c15 : ACode := (.seq (.ops [
  ⟨(some 1), .m (.box (.s 0)), none, 0⟩,
  ⟨(some 2), .p (.mov (.c (.v (.bool false)))), none, 0⟩]) c15_11)
theorem t15 : trC Try.prog Try.f15.ntmps (bodyOf Try.f15) = some c15 := by kernel_rfl
theorem r15 : Try.f15.results.toList.mapM (trR Try.prog) = some [.tmp 2] := by kernel_rfl
def i15 : FI := ⟨69, c15, [.tmp 2]⟩
theorem k15 : Knows Try.prog 15 i15 := ⟨Try.f15, bodyOf Try.f15, Try.func15, by kernel_rfl, by kernel_rfl, t15, r15, by kernel_rfl⟩
-- 16 drover/droverref06.Same []
def c16_0 : ACode := (.cond (.s 10) (.seq (.ops [
  ⟨(some 4), .p (.mov (.c (.v (.bool false)))), none, 0⟩]) .ret) .skip)
def c16_1 : ACode := (.cond (.s 14) .skip (.exit 0))
def c16_2 : ACode := (.cond (.s 25) (.seq (.ops [
  ⟨(some 4), .p (.mov (.c (.v (.bool false)))), none, 0⟩]) .ret) .skip)
def c16_3 : ACode := (.ops [
  ⟨(some 15), .p (.mov (.s 5)), none, 0⟩,
  ⟨(some 16), .p (.bin .add (.s 15) (.c (.v (.int .i64 1)))), none, 0⟩,
  ⟨(some 5), .p (.mov (.s 16)), none, 0⟩])
def c16_4 : ACode := (.seq (.block 1 (.seq (.draw [
  ⟨(some 17), .p (.mov (.s 0)), none, 0⟩,
  ⟨(some 18), .p (.mov (.s 5)), none, 0⟩,
  ⟨(some 19), .p (.adrSl 3 (.s 17) (.s 18)), none, 0⟩,
  ⟨(some 20), .m (.load (some 3) (.s 19)), none, 0⟩,
  ⟨(some 21), .p (.mov (.s 1)), none, 0⟩,
  ⟨(some 22), .p (.mov (.s 5)), none, 0⟩,
  ⟨(some 23), .p (.adrSl 3 (.s 21) (.s 22)), none, 0⟩,
  ⟨(some 24), .m (.load (some 3) (.s 23)), none, 0⟩,
  ⟨(some 25), .p (.eqa true [(.int .i64), (.int .i64), (.int .u64)] true (.s 20) (.s 24)), none, 0⟩]) c16_2)) c16_3)
def c16_5 : ACode := (.seq (.seq (.ops [
  ⟨(some 11), .p (.mov (.s 5)), none, 0⟩,
  ⟨(some 12), .p (.mov (.s 0)), none, 0⟩,
  ⟨(some 13), .p (.len false (.s 12)), none, 31⟩,
  ⟨(some 14), .p (.bin .lss (.s 11) (.s 13)), none, 0⟩]) c16_1) c16_4)
def c16_6 : ACode := (.block 0 (.loop c16_5))
def c16_7 : ACode := (.seq (.ops [
  ⟨(some 4), .p (.mov (.c (.v (.bool true)))), none, 0⟩]) .ret)
def c16_8 : ACode := (.seq (.seq (.ops [
  ⟨(some 5), .p (.mov (.c (.v (.int .i64 0)))), none, 0⟩]) c16_6) c16_7)
def c16_9 : ACode := (.seq (.seq (.ops [
  ⟨(some 6), .p (.mov (.s 0)), none, 0⟩,
  ⟨(some 7), .p (.len false (.s 6)), none, 31⟩,
  ⟨(some 8), .p (.mov (.s 1)), none, 0⟩,
  ⟨(some 9), .p (.len false (.s 8)), none, 31⟩,
  ⟨(some 10), .p (.bin .neq (.s 7) (.s 9)), none, 0⟩]) c16_0) c16_8)
def c16 : ACode := (.seq (.ops [
  ⟨(some 4), .p (.mov (.c (.v (.bool false)))), none, 0⟩]) c16_9)
theorem t16 : trC Try.prog Try.f16.ntmps (bodyOf Try.f16) = some c16 := by kernel_rfl
theorem r16 : Try.f16.results.toList.mapM (trR Try.prog) = some [.tmp 4] := by kernel_rfl
def i16 : FI := ⟨26, c16, [.tmp 4]⟩
theorem k16 : Knows Try.prog 16 i16 := ⟨Try.f16, bodyOf Try.f16, Try.func16, by kernel_rfl, by kernel_rfl, t16, r16, by kernel_rfl⟩
-- 17 drover/act.Merge []
def c17_0 : List AOper := [
  ⟨(some 5), .p (.mov (.s 12)), none, 0⟩]
def c17_1 : List AOper := [
  ⟨(some 5), .p (.mov (.s 14)), none, 0⟩]
def c17_2 : ACode := (.cond (.s 38) (.ops [
  ⟨(some 39), .p (.mov (.s 6)), none, 0⟩,
  ⟨(some 40), .m (.load (some 3) (.s 8)), none, 0⟩,
  ⟨(some 41), .m (.buildSlice 3 1 [(.v (.int .i64 0)), (.v (.int .i64 0)), (.v (.int .u64 0))] [(0, 3, (.s 40))]), none, 31⟩,
  ⟨(some 42), .m (.append 3 24 (.s 39) (.s 41)), none, 31⟩,
  ⟨(some 6), .p (.mov (.s 42)), none, 0⟩]) .skip)
def c17_3 : ACode := (.seq (.draw [
  ⟨(some 24), .p (.mov (.s 7)), none, 0⟩,
  ⟨(some 25), .p (.bin .add (.s 24) (.c (.v (.int .i64 1)))), none, 0⟩,
  ⟨(some 26), .p (.mov (.s 5)), none, 0⟩,
  ⟨(some 27), .p (.len false (.s 26)), none, 31⟩,
  ⟨(some 28), .p (.bin .eql (.s 25) (.s 27)), none, 0⟩,
  ⟨(some 29), .p (.mov (.s 28)), none, 0⟩,
  ⟨(some 30), .m (.load (some 3) (.s 8)), (some (29, false)), 0⟩,
  ⟨(some 31), .p (.mov (.s 5)), (some (29, false)), 0⟩,
  ⟨(some 32), .p (.mov (.s 7)), (some (29, false)), 0⟩,
  ⟨(some 33), .p (.bin .add (.s 32) (.c (.v (.int .i64 1)))), (some (29, false)), 0⟩,
  ⟨(some 34), .p (.adrSl 3 (.s 31) (.s 33)), (some (29, false)), 0⟩,
  ⟨(some 35), .m (.load (some 3) (.s 34)), (some (29, false)), 0⟩,
  ⟨(some 36), .call (.c (.fn 39 [])) [(.s 30), (.s 35)], (some (29, false)), 0⟩,
  ⟨(some 37), .p (.bin .neq (.s 36) (.c (.v (.int .i64 0)))), (some (29, false)), 0⟩,
  ⟨(some 38), .p (.pick (.s 29) (.c (.v (.bool true))) (.s 37)), none, 0⟩]) c17_2)
def c17_4 : ACode := (.ops [
  ⟨(some 43), .p (.bin .add (.s 19) (.c (.v (.int .i64 1)))), none, 0⟩,
  ⟨(some 19), .p (.mov (.s 43)), none, 0⟩])
def c17_5 : ACode := (.seq (.block 1 (.seq (.ops [
  ⟨(some 21), .p (.mov (.s 19)), none, 0⟩,
  ⟨(some 22), .p (.adrSl 3 (.s 17) (.s 19)), none, 0⟩,
  ⟨(some 23), .m (.load (some 3) (.s 22)), none, 0⟩,
  ⟨(some 8), .m (.alloc [(.v (.int .i64 0)), (.v (.int .i64 0)), (.v (.int .u64 0))]), none, 0⟩,
  ⟨(some 7), .p (.mov (.s 21)), none, 0⟩,
  ⟨none, .m (.store (some 3) (.s 8) (.s 23)), none, 0⟩]) c17_3)) c17_4)
def c17_6 : ACode := (.seq (.cond (.s 20) .skip (.exit 0)) c17_5)
def c17_7 : ACode := (.seq (.ops [
  ⟨(some 20), .p (.bin .lss (.s 19) (.s 18)), none, 0⟩]) c17_6)
def c17_8 : ACode := (.block 0 (.loop c17_7))
def c17_9 : ACode := (.seq (.ops [
  ⟨(some 44), .p (.mov (.s 6)), none, 0⟩,
  ⟨(some 4), .p (.mov (.s 44)), none, 0⟩]) .ret)
def c17_10 : ACode := (.seq (.seq (.ops [
  ⟨(some 17), .p (.mov (.s 5)), none, 0⟩,
  ⟨(some 18), .p (.len false (.s 17)), none, 31⟩,
  ⟨(some 19), .p (.mov (.c (.v (.int .i64 0)))), none, 0⟩]) c17_8) c17_9)
def c17_11 : ACode := (.seq (.ops [
  ⟨(some 6), .p (.mov (.c (.v (.slice none 0 0)))), none, 0⟩]) c17_10)
def c17_12 : ACode := (.seq (.ops [
  ⟨(some 15), .p (.mov (.s 5)), none, 0⟩,
  ⟨(some 16), .call (.c (.fn 38 [])) [(.s 15), (.c (.fn 39 []))], none, 31⟩]) c17_11)
def c17_13 : ACode := (.seq (.ops (⟨(some 13), .p (.mov (.s 5)), none, 0⟩ ::
  ⟨(some 14), .call (.c (.fn 35 [])) [(.s 13), (.c (.fn 36 []))], none, 31⟩ :: c17_1)) c17_12)
def c17_14 : ACode := (.seq (.ops (⟨(some 9), .p (.mov (.s 0)), none, 0⟩ ::
  ⟨(some 10), .p (.mov (.s 1)), none, 0⟩ ::
  ⟨(some 11), .m (.buildSlice 1 2 [(.v (.slice none 0 0)), (.v (.slice none 0 0))] [(0, 1, (.s 9)), (1, 1, (.s 10))]), none, 22⟩ ::
  ⟨(some 12), .call (.c (.fn 34 [])) [(.s 11)], none, 22⟩ :: c17_0)) c17_13)
def c17 : ACode := (.seq (.ops [
  ⟨(some 4), .p (.mov (.c (.v (.slice none 0 0)))), none, 0⟩]) c17_14)
theorem t17 : trC Try.prog Try.f17.ntmps (bodyOf Try.f17) = some c17 := by kernel_rfl
theorem r17 : Try.f17.results.toList.mapM (trR Try.prog) = some [.tmp 4] := by kernel_rfl
def i17 : FI := ⟨45, c17, [.tmp 4]⟩
theorem k17 : Knows Try.prog 17 i17 := ⟨Try.f17, bodyOf Try.f17, Try.func17, by kernel_rfl, by kernel_rfl, t17, r17, by kernel_rfl⟩
-- 18 drover/droverref06.Merge []
def c18_0 : ACode := (.cond (.s 21) .skip (.exit 0))
def c18_1 : List AOper := [
  ⟨(some 29), .p (.bin .geq (.s 28) (.c (.v (.int .i64 0)))), none, 0⟩,
  ⟨(some 8), .p (.mov (.s 29)), none, 0⟩]
def c18_2 : ACode := (.cond (.s 35) .skip (.exit 2))
def c18_3 : ACode := (.ops [
  ⟨(some 36), .p (.mov (.s 9)), none, 0⟩,
  ⟨(some 37), .p (.bin .add (.s 36) (.c (.v (.int .i64 1)))), none, 0⟩,
  ⟨(some 9), .p (.mov (.s 37)), none, 0⟩])
def c18_4 : ACode := (.seq (.block 3 (.draw [
  ⟨(some 38), .p (.mov (.s 8)), none, 0⟩,
  ⟨(some 39), .p (.mov (.s 38)), none, 0⟩,
  ⟨(some 40), .p (.mov (.s 5)), (some (39, true)), 0⟩,
  ⟨(some 41), .p (.mov (.s 7)), (some (39, true)), 0⟩,
  ⟨(some 42), .p (.adrSl 3 (.s 40) (.s 41)), (some (39, true)), 0⟩,
  ⟨(some 43), .m (.load (some 3) (.s 42)), (some (39, true)), 0⟩,
  ⟨(some 44), .p (.mov (.s 5)), (some (39, true)), 0⟩,
  ⟨(some 45), .p (.mov (.s 9)), (some (39, true)), 0⟩,
  ⟨(some 46), .p (.adrSl 3 (.s 44) (.s 45)), (some (39, true)), 0⟩,
  ⟨(some 47), .m (.load (some 3) (.s 46)), (some (39, true)), 0⟩,
  ⟨(some 48), .call (.c (.fn 41 [])) [(.s 43), (.s 47)], (some (39, true)), 0⟩,
  ⟨(some 49), .p (.un .not (.s 48)), (some (39, true)), 0⟩,
  ⟨(some 50), .p (.pick (.s 39) (.s 49) (.c (.v (.bool false)))), none, 0⟩,
  ⟨(some 8), .p (.mov (.s 50)), none, 0⟩])) c18_3)
def c18_5 : ACode := (.seq (.seq (.ops [
  ⟨(some 32), .p (.mov (.s 9)), none, 0⟩,
  ⟨(some 33), .p (.mov (.s 5)), none, 0⟩,
  ⟨(some 34), .p (.len false (.s 33)), none, 31⟩,
  ⟨(some 35), .p (.bin .lss (.s 32) (.s 34)), none, 0⟩]) c18_2) c18_4)
def c18_6 : ACode := (.block 2 (.loop c18_5))
def c18_7 : ACode := (.cond (.s 52) (.exit 1) .skip)
def c18_8 : ACode := (.cond (.s 67) .skip (.exit 4))
def c18_9 : ACode := (.block 5 (.ops [
  ⟨(some 68), .p (.mov (.s 10)), none, 0⟩,
  ⟨(some 69), .p (.bin .add (.s 68) (.c (.v (.int .i64 1)))), none, 0⟩,
  ⟨(some 10), .p (.mov (.s 69)), none, 0⟩]))
def c18_10 : ACode := (.seq (.seq (.draw [
  ⟨(some 53), .p (.mov (.s 10)), none, 0⟩,
  ⟨(some 54), .p (.mov (.s 6)), none, 0⟩,
  ⟨(some 55), .p (.len false (.s 54)), none, 31⟩,
  ⟨(some 56), .p (.bin .lss (.s 53) (.s 55)), none, 0⟩,
  ⟨(some 57), .p (.mov (.s 56)), none, 0⟩,
  ⟨(some 58), .p (.mov (.s 6)), (some (57, true)), 0⟩,
  ⟨(some 59), .p (.mov (.s 10)), (some (57, true)), 0⟩,
  ⟨(some 60), .p (.adrSl 3 (.s 58) (.s 59)), (some (57, true)), 0⟩,
  ⟨(some 61), .m (.load (some 3) (.s 60)), (some (57, true)), 0⟩,
  ⟨(some 62), .p (.mov (.s 5)), (some (57, true)), 0⟩,
  ⟨(some 63), .p (.mov (.s 7)), (some (57, true)), 0⟩,
  ⟨(some 64), .p (.adrSl 3 (.s 62) (.s 63)), (some (57, true)), 0⟩,
  ⟨(some 65), .m (.load (some 3) (.s 64)), (some (57, true)), 0⟩,
  ⟨(some 66), .call (.c (.fn 42 [])) [(.s 61), (.s 65)], (some (57, true)), 0⟩,
  ⟨(some 67), .p (.pick (.s 57) (.s 66) (.c (.v (.bool false)))), none, 0⟩]) c18_8) c18_9)
def c18_11 : ACode := (.ops [
  ⟨(some 82), .p (.mov (.s 11)), none, 0⟩,
  ⟨(some 83), .p (.mov (.s 6)), none, 0⟩,
  ⟨(some 84), .p (.mov (.s 10)), none, 0⟩,
  ⟨(some 85), .p (.slSl 3 (.s 83) (some (.s 84)) none none), none, 0⟩,
  ⟨(some 86), .m (.append 3 24 (.s 82) (.s 85)), none, 31⟩,
  ⟨(some 6), .p (.mov (.s 86)), none, 0⟩])
def c18_12 : ACode := (.seq (.ops [
  ⟨(some 75), .p (.mov (.s 11)), none, 0⟩,
  ⟨(some 76), .p (.mov (.s 5)), none, 0⟩,
  ⟨(some 77), .p (.mov (.s 7)), none, 0⟩,
  ⟨(some 78), .p (.adrSl 3 (.s 76) (.s 77)), none, 0⟩,
  ⟨(some 79), .m (.load (some 3) (.s 78)), none, 0⟩,
  ⟨(some 80), .m (.buildSlice 3 1 [(.v (.int .i64 0)), (.v (.int .i64 0)), (.v (.int .u64 0))] [(0, 3, (.s 79))]), none, 31⟩,
  ⟨(some 81), .m (.append 3 24 (.s 75) (.s 80)), none, 31⟩,
  ⟨(some 11), .p (.mov (.s 81)), none, 0⟩]) c18_11)
def c18_13 : ACode := (.seq (.ops [
  ⟨(some 70), .p (.mov (.s 11)), none, 0⟩,
  ⟨(some 71), .p (.mov (.s 6)), none, 0⟩,
  ⟨(some 72), .p (.mov (.s 10)), none, 0⟩,
  ⟨(some 73), .p (.slSl 3 (.s 71) none (some (.s 72)) none), none, 0⟩,
  ⟨(some 74), .m (.append 3 24 (.s 70) (.s 73)), none, 31⟩,
  ⟨(some 11), .p (.mov (.s 74)), none, 0⟩]) c18_12)
def c18_14 : ACode := (.seq (.ops [
  ⟨(some 11), .p (.mov (.c (.v (.slice none 0 0)))), none, 0⟩]) c18_13)
def c18_15 : ACode := (.seq (.block 4 (.loop c18_10)) c18_14)
def c18_16 : ACode := (.seq (.ops [
  ⟨(some 10), .p (.mov (.c (.v (.int .i64 0)))), none, 0⟩]) c18_15)
def c18_17 : ACode := (.seq (.seq (.ops [
  ⟨(some 51), .p (.mov (.s 8)), none, 0⟩,
  ⟨(some 52), .p (.un .not (.s 51)), none, 0⟩]) c18_7) c18_16)
def c18_18 : ACode := (.seq (.seq (.ops [
  ⟨(some 30), .p (.mov (.s 7)), none, 0⟩,
  ⟨(some 31), .p (.bin .add (.s 30) (.c (.v (.int .i64 1)))), none, 0⟩,
  ⟨(some 9), .p (.mov (.s 31)), none, 0⟩]) c18_6) c18_17)
def c18_19 : ACode := (.ops [
  ⟨(some 22), .p (.mov (.s 7)), none, 0⟩,
  ⟨(some 23), .p (.bin .add (.s 22) (.c (.v (.int .i64 1)))), none, 0⟩,
  ⟨(some 7), .p (.mov (.s 23)), none, 0⟩])
def c18_20 : ACode := (.seq (.block 1 (.seq (.ops (⟨(some 24), .p (.mov (.s 5)), none, 0⟩ ::
  ⟨(some 25), .p (.mov (.s 7)), none, 0⟩ ::
  ⟨(some 26), .p (.adrSl 3 (.s 24) (.s 25)), none, 0⟩ ::
  ⟨(some 27), .m (.load (some 3) (.s 26)), none, 0⟩ ::
  ⟨(some 28), .call (.c (.fn 40 [])) [(.s 27)], none, 0⟩ :: c18_1)) c18_18)) c18_19)
def c18_21 : ACode := (.seq (.seq (.ops [
  ⟨(some 18), .p (.mov (.s 7)), none, 0⟩,
  ⟨(some 19), .p (.mov (.s 5)), none, 0⟩,
  ⟨(some 20), .p (.len false (.s 19)), none, 31⟩,
  ⟨(some 21), .p (.bin .lss (.s 18) (.s 20)), none, 0⟩]) c18_0) c18_20)
def c18_22 : ACode := (.block 0 (.loop c18_21))
def c18_23 : ACode := (.seq (.ops [
  ⟨(some 87), .p (.mov (.s 6)), none, 0⟩,
  ⟨(some 4), .p (.mov (.s 87)), none, 0⟩]) .ret)
def c18_24 : ACode := (.seq (.seq (.ops [
  ⟨(some 7), .p (.mov (.c (.v (.int .i64 0)))), none, 0⟩]) c18_22) c18_23)
def c18_25 : ACode := (.seq (.ops [
  ⟨(some 6), .p (.mov (.c (.v (.slice none 0 0)))), none, 0⟩]) c18_24)
def c18_26 : ACode := (.seq (.ops [
  ⟨(some 15), .p (.mov (.s 5)), none, 0⟩,
  ⟨(some 16), .p (.mov (.s 1)), none, 0⟩,
  ⟨(some 17), .m (.append 3 24 (.s 15) (.s 16)), none, 31⟩,
  ⟨(some 5), .p (.mov (.s 17)), none, 0⟩]) c18_25)
def c18_27 : ACode := (.seq (.ops [
  ⟨(some 12), .p (.mov (.s 5)), none, 0⟩,
  ⟨(some 13), .p (.mov (.s 0)), none, 0⟩,
  ⟨(some 14), .m (.append 3 24 (.s 12) (.s 13)), none, 31⟩,
  ⟨(some 5), .p (.mov (.s 14)), none, 0⟩]) c18_26)
def c18_28 : ACode := (.seq (.ops [
  ⟨(some 5), .p (.mov (.c (.v (.slice none 0 0)))), none, 0⟩]) c18_27)
def c18 : ACode := (.seq (.ops [
  ⟨(some 4), .p (.mov (.c (.v (.slice none 0 0)))), none, 0⟩]) c18_28)
theorem t18 : trC Try.prog Try.f18.ntmps (bodyOf Try.f18) = some c18 := by kernel_rfl
theorem r18 : Try.f18.results.toList.mapM (trR Try.prog) = some [.tmp 4] := by kernel_rfl
def i18 : FI := ⟨88, c18, [.tmp 4]⟩
theorem k18 : Knows Try.prog 18 i18 := ⟨Try.f18, bodyOf Try.f18, Try.func18, by kernel_rfl, by kernel_rfl, t18, r18, by kernel_rfl⟩
-- 19 drover/droverlaw04.Plain []
def c19_0 : ACode := (.seq (.ops [
  ⟨(some 3), .p (.fieldAddr 0 none (.s 1)), none, 0⟩,
  ⟨(some 4), .m (.load none (.s 3)), none, 0⟩,
  ⟨(some 5), .p (.fieldAddr 1 none (.s 1)), none, 0⟩,
  ⟨(some 6), .m (.load none (.s 5)), none, 0⟩,
  ⟨(some 7), .p (.fieldAddr 2 (some 11) (.s 1)), none, 0⟩,
  ⟨(some 8), .m (.load (some 11) (.s 7)), none, 0⟩,
  ⟨(some 9), .p (.build [(.v (.int .i64 0)), (.v (.int .u64 0)), (.v (.int .u64 0)), (.v (.int .u64 0)), (.v (.int .i64 0)), (.v (.int .i64 0)), (.v (.int .u32 0)), (.v (.int .u32 0)), (.v (.int .i64 0)), (.v (.int .i64 0)), (.v (.int .i64 0)), (.v (.int .i64 0)), (.v (.string ⟨#[]⟩))] [(0, 1, (.s 4)), (1, 1, (.s 6)), (2, 11, (.s 8))]), none, 0⟩,
  ⟨none, .m (.store (some 13) (.s 2) (.s 9)), none, 0⟩]) .ret)
def c19 : ACode := (.seq (.ops [
  ⟨(some 1), .m (.box (.s 0)), none, 0⟩,
  ⟨(some 2), .m (.alloc [(.v (.int .i64 0)), (.v (.int .u64 0)), (.v (.int .u64 0)), (.v (.int .u64 0)), (.v (.int .i64 0)), (.v (.int .i64 0)), (.v (.int .u32 0)), (.v (.int .u32 0)), (.v (.int .i64 0)), (.v (.int .i64 0)), (.v (.int .i64 0)), (.v (.int .i64 0)), (.v (.string ⟨#[]⟩))]), none, 0⟩]) c19_0)
theorem t19 : trC Try.prog Try.f19.ntmps (bodyOf Try.f19) = some c19 := by kernel_rfl
theorem r19 : Try.f19.results.toList.mapM (trR Try.prog) = some [.cell 2 (some 13)] := by kernel_rfl
def i19 : FI := ⟨10, c19, [.cell 2 (some 13)]⟩
theorem k19 : Knows Try.prog 19 i19 := ⟨Try.f19, bodyOf Try.f19, Try.func19, by kernel_rfl, by kernel_rfl, t19, r19, by kernel_rfl⟩
-- 20 drover/act.Change []
def c20_0 : List AOper := [
  ⟨(some 12), .p (.mov (.s 14)), none, 0⟩,
  ⟨(some 15), .p (.extract (.s 12) 0), none, 0⟩,
  ⟨(some 16), .p (.extract (.s 12) 1), none, 0⟩,
  ⟨none, .m (.store (some 13) (.s 5) (.s 15)), none, 0⟩,
  ⟨(some 6), .p (.mov (.s 16)), none, 0⟩]
def c20_1 : List AOper := [
  ⟨(some 19), .p (.mov (.s 21)), none, 0⟩,
  ⟨(some 22), .p (.extract (.s 19) 0), none, 0⟩,
  ⟨(some 23), .p (.extract (.s 19) 1), none, 0⟩,
  ⟨none, .m (.store (some 13) (.s 5) (.s 22)), none, 0⟩,
  ⟨(some 6), .p (.mov (.s 23)), none, 0⟩]
def c20_2 : List AOper := [
  ⟨(some 26), .p (.mov (.s 32)), none, 0⟩,
  ⟨(some 33), .p (.extract (.s 26) 0), none, 0⟩,
  ⟨(some 34), .p (.extract (.s 26) 1), none, 0⟩,
  ⟨none, .m (.store (some 13) (.s 5) (.s 33)), none, 0⟩,
  ⟨(some 6), .p (.mov (.s 34)), none, 0⟩]
def c20_3 : ACode := (.cond (.s 24) (.ops (⟨(some 27), .m (.load (some 13) (.s 2)), none, 0⟩ ::
  ⟨(some 28), .p (.fieldAddr 1 none (.s 3)), none, 0⟩ ::
  ⟨(some 29), .m (.load none (.s 28)), none, 0⟩ ::
  ⟨(some 30), .p (.fieldAddr 2 none (.s 3)), none, 0⟩ ::
  ⟨(some 31), .m (.load none (.s 30)), none, 0⟩ ::
  ⟨(some 32), .call (.c (.fn 45 [])) [(.s 27), (.s 29), (.s 31)], none, 0⟩ :: c20_2)) .skip)
def c20_4 : ACode := (.cond (.s 17) (.ops (⟨(some 20), .m (.load (some 13) (.s 2)), none, 0⟩ ::
  ⟨(some 21), .call (.c (.fn 44 [])) [(.s 20)], none, 0⟩ :: c20_1)) (.seq (.ops [
  ⟨(some 25), .p (.bin .eql (.s 9) (.c (.v (.int .i64 5)))), none, 0⟩,
  ⟨(some 24), .p (.mov (.s 25)), none, 0⟩]) c20_3))
def c20_5 : ACode := (.cond (.s 10) (.ops (⟨(some 13), .m (.load (some 13) (.s 2)), none, 0⟩ ::
  ⟨(some 14), .call (.c (.fn 43 [])) [(.s 13), (.c (.v (.int .u64 0)))], none, 0⟩ :: c20_0)) (.seq (.ops [
  ⟨(some 18), .p (.bin .eql (.s 9) (.c (.v (.int .i64 4)))), none, 0⟩,
  ⟨(some 17), .p (.mov (.s 18)), none, 0⟩]) c20_4))
def c20_6 : ACode := (.block 0 (.seq (.ops [
  ⟨(some 11), .p (.bin .eql (.s 9) (.c (.v (.int .i64 3)))), none, 0⟩,
  ⟨(some 10), .p (.mov (.s 11)), none, 0⟩]) c20_5))
def c20_7 : ACode := (.cond (.s 36) (.seq (.ops [
  ⟨(some 37), .m (.load (some 13) (.s 2)), none, 0⟩,
  ⟨none, .m (.store (some 13) (.s 4) (.s 37)), none, 0⟩]) .ret) .skip)
def c20_8 : ACode := (.seq (.ops [
  ⟨(some 38), .m (.load (some 13) (.s 5)), none, 0⟩,
  ⟨none, .m (.store (some 13) (.s 4) (.s 38)), none, 0⟩]) .ret)
def c20_9 : ACode := (.seq (.seq (.ops [
  ⟨(some 35), .p (.mov (.s 6)), none, 0⟩,
  ⟨(some 36), .p (.bin .neq (.s 35) (.c (.v (.int .i64 0)))), none, 0⟩]) c20_7) c20_8)
def c20_10 : ACode := (.seq (.seq (.ops [
  ⟨(some 8), .p (.fieldAddr 0 none (.s 3)), none, 0⟩,
  ⟨(some 9), .m (.load none (.s 8)), none, 0⟩]) c20_6) c20_9)
def c20_11 : ACode := (.seq (.ops [
  ⟨(some 7), .m (.load (some 13) (.s 2)), none, 0⟩,
  ⟨(some 5), .m (.alloc [(.v (.int .i64 0)), (.v (.int .u64 0)), (.v (.int .u64 0)), (.v (.int .u64 0)), (.v (.int .i64 0)), (.v (.int .i64 0)), (.v (.int .u32 0)), (.v (.int .u32 0)), (.v (.int .i64 0)), (.v (.int .i64 0)), (.v (.int .i64 0)), (.v (.int .i64 0)), (.v (.string ⟨#[]⟩))]), none, 0⟩,
  ⟨none, .m (.store (some 13) (.s 5) (.s 7)), none, 0⟩,
  ⟨(some 6), .p (.mov (.c (.v (.int .i64 0)))), none, 0⟩]) c20_10)
def c20 : ACode := (.seq (.ops [
  ⟨(some 2), .m (.box (.s 0)), none, 0⟩,
  ⟨(some 3), .m (.box (.s 1)), none, 0⟩,
  ⟨(some 4), .m (.alloc [(.v (.int .i64 0)), (.v (.int .u64 0)), (.v (.int .u64 0)), (.v (.int .u64 0)), (.v (.int .i64 0)), (.v (.int .i64 0)), (.v (.int .u32 0)), (.v (.int .u32 0)), (.v (.int .i64 0)), (.v (.int .i64 0)), (.v (.int .i64 0)), (.v (.int .i64 0)), (.v (.string ⟨#[]⟩))]), none, 0⟩]) c20_11)
theorem t20 : trC Try.prog Try.f20.ntmps (bodyOf Try.f20) = some c20 := by kernel_rfl
theorem r20 : Try.f20.results.toList.mapM (trR Try.prog) = some [.cell 4 (some 13)] := by kernel_rfl
def i20 : FI := ⟨39, c20, [.cell 4 (some 13)]⟩
theorem k20 : Knows Try.prog 20 i20 := ⟨Try.f20, bodyOf Try.f20, Try.func20, by kernel_rfl, by kernel_rfl, t20, r20, by kernel_rfl⟩
-- 21 drover/droverref06.Change []
def c21_0 : List AOper := [
  ⟨(some 12), .p (.mov (.s 14)), none, 0⟩,
  ⟨(some 15), .p (.extract (.s 12) 0), none, 0⟩,
  ⟨(some 16), .p (.extract (.s 12) 1), none, 0⟩,
  ⟨none, .m (.store (some 13) (.s 5) (.s 15)), none, 0⟩,
  ⟨(some 6), .p (.mov (.s 16)), none, 0⟩]
def c21_1 : List AOper := [
  ⟨(some 19), .p (.mov (.s 21)), none, 0⟩,
  ⟨(some 22), .p (.extract (.s 19) 0), none, 0⟩,
  ⟨(some 23), .p (.extract (.s 19) 1), none, 0⟩,
  ⟨none, .m (.store (some 13) (.s 5) (.s 22)), none, 0⟩,
  ⟨(some 6), .p (.mov (.s 23)), none, 0⟩]
def c21_2 : List AOper := [
  ⟨(some 26), .p (.mov (.s 32)), none, 0⟩,
  ⟨(some 33), .p (.extract (.s 26) 0), none, 0⟩,
  ⟨(some 34), .p (.extract (.s 26) 1), none, 0⟩,
  ⟨none, .m (.store (some 13) (.s 5) (.s 33)), none, 0⟩,
  ⟨(some 6), .p (.mov (.s 34)), none, 0⟩]
def c21_3 : ACode := (.cond (.s 24) (.ops (⟨(some 27), .m (.load (some 13) (.s 2)), none, 0⟩ ::
  ⟨(some 28), .p (.fieldAddr 1 none (.s 3)), none, 0⟩ ::
  ⟨(some 29), .m (.load none (.s 28)), none, 0⟩ ::
  ⟨(some 30), .p (.fieldAddr 2 none (.s 3)), none, 0⟩ ::
  ⟨(some 31), .m (.load none (.s 30)), none, 0⟩ ::
  ⟨(some 32), .call (.c (.fn 48 [])) [(.s 27), (.s 29), (.s 31)], none, 0⟩ :: c21_2)) .skip)
def c21_4 : ACode := (.cond (.s 17) (.ops (⟨(some 20), .m (.load (some 13) (.s 2)), none, 0⟩ ::
  ⟨(some 21), .call (.c (.fn 47 [])) [(.s 20)], none, 0⟩ :: c21_1)) (.seq (.ops [
  ⟨(some 25), .p (.bin .eql (.s 9) (.c (.v (.int .i64 5)))), none, 0⟩,
  ⟨(some 24), .p (.mov (.s 25)), none, 0⟩]) c21_3))
def c21_5 : ACode := (.cond (.s 10) (.ops (⟨(some 13), .m (.load (some 13) (.s 2)), none, 0⟩ ::
  ⟨(some 14), .call (.c (.fn 46 [])) [(.s 13), (.c (.v (.int .u64 0)))], none, 0⟩ :: c21_0)) (.seq (.ops [
  ⟨(some 18), .p (.bin .eql (.s 9) (.c (.v (.int .i64 4)))), none, 0⟩,
  ⟨(some 17), .p (.mov (.s 18)), none, 0⟩]) c21_4))
def c21_6 : ACode := (.block 0 (.seq (.ops [
  ⟨(some 11), .p (.bin .eql (.s 9) (.c (.v (.int .i64 3)))), none, 0⟩,
  ⟨(some 10), .p (.mov (.s 11)), none, 0⟩]) c21_5))
def c21_7 : ACode := (.cond (.s 36) (.seq (.ops [
  ⟨(some 37), .m (.load (some 13) (.s 2)), none, 0⟩,
  ⟨none, .m (.store (some 13) (.s 4) (.s 37)), none, 0⟩]) .ret) .skip)
def c21_8 : ACode := (.seq (.ops [
  ⟨(some 38), .m (.load (some 13) (.s 5)), none, 0⟩,
  ⟨none, .m (.store (some 13) (.s 4) (.s 38)), none, 0⟩]) .ret)
def c21_9 : ACode := (.seq (.seq (.ops [
  ⟨(some 35), .p (.mov (.s 6)), none, 0⟩,
  ⟨(some 36), .p (.bin .neq (.s 35) (.c (.v (.int .i64 0)))), none, 0⟩]) c21_7) c21_8)
def c21_10 : ACode := (.seq (.seq (.ops [
  ⟨(some 8), .p (.fieldAddr 0 none (.s 3)), none, 0⟩,
  ⟨(some 9), .m (.load none (.s 8)), none, 0⟩]) c21_6) c21_9)
def c21_11 : ACode := (.seq (.ops [
  ⟨(some 6), .p (.mov (.c (.v (.int .i64 22)))), none, 0⟩]) c21_10)
def c21_12 : ACode := (.seq (.ops [
  ⟨(some 7), .m (.load (some 13) (.s 2)), none, 0⟩,
  ⟨(some 5), .m (.alloc [(.v (.int .i64 0)), (.v (.int .u64 0)), (.v (.int .u64 0)), (.v (.int .u64 0)), (.v (.int .i64 0)), (.v (.int .i64 0)), (.v (.int .u32 0)), (.v (.int .u32 0)), (.v (.int .i64 0)), (.v (.int .i64 0)), (.v (.int .i64 0)), (.v (.int .i64 0)), (.v (.string ⟨#[]⟩))]), none, 0⟩,
  ⟨none, .m (.store (some 13) (.s 5) (.s 7)), none, 0⟩]) c21_11)
def c21 : ACode := (.seq (.ops [
  ⟨(some 2), .m (.box (.s 0)), none, 0⟩,
  ⟨(some 3), .m (.box (.s 1)), none, 0⟩,
  ⟨(some 4), .m (.alloc [(.v (.int .i64 0)), (.v (.int .u64 0)), (.v (.int .u64 0)), (.v (.int .u64 0)), (.v (.int .i64 0)), (.v (.int .i64 0)), (.v (.int .u32 0)), (.v (.int .u32 0)), (.v (.int .i64 0)), (.v (.int .i64 0)), (.v (.int .i64 0)), (.v (.int .i64 0)), (.v (.string ⟨#[]⟩))]), none, 0⟩]) c21_12)
theorem t21 : trC Try.prog Try.f21.ntmps (bodyOf Try.f21) = some c21 := by kernel_rfl
theorem r21 : Try.f21.results.toList.mapM (trR Try.prog) = some [.cell 4 (some 13)] := by kernel_rfl
def i21 : FI := ⟨39, c21, [.cell 4 (some 13)]⟩
theorem k21 : Knows Try.prog 21 i21 := ⟨Try.f21, bodyOf Try.f21, Try.func21, by kernel_rfl, by kernel_rfl, t21, r21, by kernel_rfl⟩
end Go.Proofs.Act
