/- A part of a law's proof: ActX0. -/
import Derived.KernelRfl
import Derived.Test.YtjkcjbkkgkhljaaProg
import Derived.Test.YtjkcjbkkgkhljaaSvCod
set_option linter.unusedSimpArgs false
set_option linter.constructorNameAsVariable false
namespace Go.Proofs.Act
open Go Go.Ab Go.Proofs
set_option linter.unusedVariables false
def bodyOf (fn : Func) : Code := fn.body.getD .skip
-- 3 drover/droverlaw06.ActMerges []
def c3_0 : List AOper := [
  ⟨(some 4), .p (.mov (.s 14)), none, 0⟩]
def c3_1 : ACode := (.cond (.s 13) (.seq (.ops (⟨(some 14), .call (.c (.fn 5 [])) [], none, 0⟩ :: c3_0)) .ret) .skip)
def c3_2 : List AOper := [
  ⟨(some 32), .p (.pick (.s 30) (.s 31) (.c (.v (.bool false)))), none, 0⟩,
  ⟨(some 4), .p (.mov (.s 32)), none, 0⟩]
def c3_3 : List AOper := (⟨(some 29), .p (.pick (.s 25) (.s 28) (.c (.v (.bool false)))), none, 0⟩ ::
  ⟨(some 30), .p (.mov (.s 29)), none, 0⟩ ::
  ⟨(some 31), .call (.c (.fn 5 [])) [], (some (30, true)), 0⟩ :: c3_2)
def c3_4 : List AOper := (⟨(some 25), .p (.mov (.s 24)), none, 0⟩ ::
  ⟨(some 26), .p (.mov (.s 5)), (some (25, true)), 0⟩ ::
  ⟨(some 27), .p (.mov (.s 0)), (some (25, true)), 0⟩ ::
  ⟨(some 28), .call (.c (.fn 6 [])) [(.s 26), (.s 27)], (some (25, true)), 29⟩ :: c3_3)
def c3_5 : List AOper := (⟨(some 24), .call (.c (.fn 6 [])) [(.s 20), (.s 23)], none, 29⟩ :: c3_4)
def c3_6 : List AOper := (⟨(some 21), .p (.mov (.s 0)), none, 0⟩ ::
  ⟨(some 22), .p (.mov (.s 1)), none, 0⟩ ::
  ⟨(some 23), .call (.c (.fn 8 [])) [(.s 21), (.s 22)], none, 29⟩ :: c3_5)
def c3_7 : ACode := (.seq (.ops (⟨(some 18), .p (.mov (.s 5)), none, 0⟩ ::
  ⟨(some 19), .p (.mov (.s 1)), none, 0⟩ ::
  ⟨(some 20), .call (.c (.fn 7 [])) [(.s 18), (.s 19)], none, 29⟩ :: c3_6)) .ret)
def c3_8 : ACode := (.seq (.ops [
  ⟨(some 15), .m (.buildSlice 3 0 [] []), none, 29⟩,
  ⟨(some 16), .p (.mov (.s 0)), none, 0⟩,
  ⟨(some 17), .m (.append 3 24 (.s 15) (.s 16)), none, 29⟩,
  ⟨(some 5), .p (.mov (.s 17)), none, 0⟩]) c3_7)
def c3_9 : ACode := (.seq (.seq (.ops [
  ⟨(some 6), .p (.mov (.s 0)), none, 0⟩,
  ⟨(some 7), .p (.len false (.s 6)), none, 29⟩,
  ⟨(some 8), .p (.bin .gtr (.s 7) (.c (.v (.int .i64 60)))), none, 0⟩,
  ⟨(some 9), .p (.mov (.s 8)), none, 0⟩,
  ⟨(some 10), .p (.mov (.s 1)), (some (9, false)), 0⟩,
  ⟨(some 11), .p (.len false (.s 10)), (some (9, false)), 29⟩,
  ⟨(some 12), .p (.bin .gtr (.s 11) (.c (.v (.int .i64 60)))), (some (9, false)), 0⟩,
  ⟨(some 13), .p (.pick (.s 9) (.c (.v (.bool true))) (.s 12)), none, 0⟩]) c3_1) c3_8)
def c3 : ACode := (.seq (.ops [
  ⟨(some 4), .p (.mov (.c (.v (.bool false)))), none, 0⟩]) c3_9)
theorem t3 : trC Try.prog Try.f3.ntmps (bodyOf Try.f3) = some c3 := by kernel_rfl
theorem r3 : Try.f3.results.toList.mapM (trR Try.prog) = some [.tmp 4] := by kernel_rfl
def i3 : FI := ⟨33, c3, [.tmp 4]⟩
theorem k3 : Knows Try.prog 3 i3 := ⟨Try.f3, bodyOf Try.f3, Try.func3, by kernel_rfl, by kernel_rfl, t3, r3, by kernel_rfl⟩
-- 4 drover/droverlaw06.ActSets []
def c4_0 : List AOper := [
  ⟨(some 6), .p (.mov (.s 23)), none, 0⟩]
def c4_1 : ACode := (.cond (.s 22) (.seq (.ops (⟨(some 23), .call (.c (.fn 5 [])) [], none, 0⟩ :: c4_0)) .ret) .skip)
def c4_2 : List AOper := [
  ⟨(some 8), .p (.mov (.s 32)), none, 0⟩]
def c4_3 : List AOper := [
  ⟨(some 47), .p (.un .not (.s 46)), (some (41, false)), 0⟩,
  ⟨(some 48), .p (.pick (.s 41) (.c (.v (.bool true))) (.s 47)), none, 0⟩]
def c4_4 : List AOper := (⟨(some 45), .p (.mov (.s 8)), (some (41, false)), 0⟩ ::
  ⟨(some 46), .call (.c (.fn 6 [])) [(.s 44), (.s 45)], (some (41, false)), 29⟩ :: c4_3)
def c4_5 : List AOper := (⟨(some 40), .p (.un .not (.s 39)), none, 0⟩ ::
  ⟨(some 41), .p (.mov (.s 40)), none, 0⟩ ::
  ⟨(some 42), .p (.mov (.s 8)), (some (41, false)), 0⟩ ::
  ⟨(some 43), .p (.mov (.s 8)), (some (41, false)), 0⟩ ::
  ⟨(some 44), .call (.c (.fn 7 [])) [(.s 42), (.s 43)], (some (41, false)), 29⟩ :: c4_4)
def c4_6 : List AOper := (⟨(some 38), .p (.mov (.s 8)), none, 0⟩ ::
  ⟨(some 39), .call (.c (.fn 6 [])) [(.s 37), (.s 38)], none, 29⟩ :: c4_5)
def c4_7 : List AOper := (⟨(some 36), .p (.mov (.s 2)), none, 0⟩ ::
  ⟨(some 37), .call (.c (.fn 7 [])) [(.s 35), (.s 36)], none, 29⟩ :: c4_6)
def c4_8 : ACode := (.cond (.s 48) (.seq (.ops [
  ⟨(some 6), .p (.mov (.c (.v (.bool false)))), none, 0⟩]) .ret) .skip)
def c4_9 : ACode := (.cond (.s 52) .skip (.exit 0))
def c4_10 : ACode := (.cond (.s 88) (.seq (.ops [
  ⟨(some 6), .p (.mov (.c (.v (.bool false)))), none, 0⟩]) .ret) .skip)
def c4_11 : ACode := (.ops [
  ⟨(some 53), .p (.mov (.s 9)), none, 0⟩,
  ⟨(some 54), .p (.bin .add (.s 53) (.c (.v (.int .i64 1)))), none, 0⟩,
  ⟨(some 9), .p (.mov (.s 54)), none, 0⟩])
def c4_12 : ACode := (.seq (.block 1 (.seq (.draw [
  ⟨(some 55), .p (.mov (.s 8)), none, 0⟩,
  ⟨(some 56), .p (.mov (.s 9)), none, 0⟩,
  ⟨(some 57), .p (.adrSl 3 (.s 55) (.s 56)), none, 0⟩,
  ⟨(some 58), .p (.fieldAddr 0 none (.s 57)), none, 0⟩,
  ⟨(some 59), .m (.load none (.s 58)), none, 0⟩,
  ⟨(some 60), .p (.mov (.s 8)), none, 0⟩,
  ⟨(some 61), .p (.mov (.s 9)), none, 0⟩,
  ⟨(some 62), .p (.bin .sub (.s 61) (.c (.v (.int .i64 1)))), none, 0⟩,
  ⟨(some 63), .p (.adrSl 3 (.s 60) (.s 62)), none, 0⟩,
  ⟨(some 64), .p (.fieldAddr 0 none (.s 63)), none, 0⟩,
  ⟨(some 65), .m (.load none (.s 64)), none, 0⟩,
  ⟨(some 66), .p (.bin .eql (.s 59) (.s 65)), none, 0⟩,
  ⟨(some 67), .p (.mov (.s 66)), none, 0⟩,
  ⟨(some 68), .p (.mov (.s 8)), (some (67, true)), 0⟩,
  ⟨(some 69), .p (.mov (.s 9)), (some (67, true)), 0⟩,
  ⟨(some 70), .p (.adrSl 3 (.s 68) (.s 69)), (some (67, true)), 0⟩,
  ⟨(some 71), .p (.fieldAddr 0 none (.s 70)), (some (67, true)), 0⟩,
  ⟨(some 72), .m (.load none (.s 71)), (some (67, true)), 0⟩,
  ⟨(some 73), .p (.bin .neq (.s 72) (.c (.v (.int .i64 5)))), (some (67, true)), 0⟩,
  ⟨(some 74), .p (.mov (.s 73)), (some (67, true)), 0⟩,
  ⟨(some 75), .p (.mov (.s 8)), (some (74, false)), 0⟩,
  ⟨(some 76), .p (.mov (.s 9)), (some (74, false)), 0⟩,
  ⟨(some 77), .p (.bin .sub (.s 76) (.c (.v (.int .i64 1)))), (some (74, false)), 0⟩,
  ⟨(some 78), .p (.adrSl 3 (.s 75) (.s 77)), (some (74, false)), 0⟩,
  ⟨(some 79), .p (.fieldAddr 1 none (.s 78)), (some (74, false)), 0⟩,
  ⟨(some 80), .m (.load none (.s 79)), (some (74, false)), 0⟩,
  ⟨(some 81), .p (.mov (.s 8)), (some (74, false)), 0⟩,
  ⟨(some 82), .p (.mov (.s 9)), (some (74, false)), 0⟩,
  ⟨(some 83), .p (.adrSl 3 (.s 81) (.s 82)), (some (74, false)), 0⟩,
  ⟨(some 84), .p (.fieldAddr 1 none (.s 83)), (some (74, false)), 0⟩,
  ⟨(some 85), .m (.load none (.s 84)), (some (74, false)), 0⟩,
  ⟨(some 86), .p (.bin .geq (.s 80) (.s 85)), (some (74, false)), 0⟩,
  ⟨(some 87), .p (.pick (.s 74) (.c (.v (.bool true))) (.s 86)), (some (67, true)), 0⟩,
  ⟨(some 88), .p (.pick (.s 67) (.s 87) (.c (.v (.bool false)))), none, 0⟩]) c4_10)) c4_11)
def c4_13 : ACode := (.seq (.seq (.ops [
  ⟨(some 49), .p (.mov (.s 9)), none, 0⟩,
  ⟨(some 50), .p (.mov (.s 8)), none, 0⟩,
  ⟨(some 51), .p (.len false (.s 50)), none, 29⟩,
  ⟨(some 52), .p (.bin .lss (.s 49) (.s 51)), none, 0⟩]) c4_9) c4_12)
def c4_14 : ACode := (.block 0 (.loop c4_13))
def c4_15 : List AOper := [
  ⟨(some 6), .p (.mov (.s 89)), none, 0⟩]
def c4_16 : ACode := (.seq (.ops (⟨(some 89), .call (.c (.fn 5 [])) [], none, 0⟩ :: c4_15)) .ret)
def c4_17 : ACode := (.seq (.seq (.ops [
  ⟨(some 9), .p (.mov (.c (.v (.int .i64 1)))), none, 0⟩]) c4_14) c4_16)
def c4_18 : ACode := (.seq (.seq (.ops (⟨(some 33), .p (.mov (.s 0)), none, 0⟩ ::
  ⟨(some 34), .p (.mov (.s 1)), none, 0⟩ ::
  ⟨(some 35), .call (.c (.fn 7 [])) [(.s 33), (.s 34)], none, 29⟩ :: c4_7)) c4_8) c4_17)
def c4_19 : ACode := (.seq (.ops (⟨(some 31), .p (.mov (.s 7)), none, 0⟩ ::
  ⟨(some 32), .call (.c (.fn 7 [])) [(.c (.v (.slice none 0 0))), (.s 31)], none, 29⟩ :: c4_2)) c4_18)
def c4_20 : ACode := (.seq (.ops [
  ⟨(some 24), .m (.buildSlice 3 0 [] []), none, 29⟩,
  ⟨(some 25), .p (.mov (.s 0)), none, 0⟩,
  ⟨(some 26), .m (.append 3 24 (.s 24) (.s 25)), none, 29⟩,
  ⟨(some 27), .p (.mov (.s 1)), none, 0⟩,
  ⟨(some 28), .m (.append 3 24 (.s 26) (.s 27)), none, 29⟩,
  ⟨(some 29), .p (.mov (.s 2)), none, 0⟩,
  ⟨(some 30), .m (.append 3 24 (.s 28) (.s 29)), none, 29⟩,
  ⟨(some 7), .p (.mov (.s 30)), none, 0⟩]) c4_19)
def c4_21 : ACode := (.seq (.seq (.ops [
  ⟨(some 10), .p (.mov (.s 0)), none, 0⟩,
  ⟨(some 11), .p (.len false (.s 10)), none, 29⟩,
  ⟨(some 12), .p (.bin .gtr (.s 11) (.c (.v (.int .i64 40)))), none, 0⟩,
  ⟨(some 13), .p (.mov (.s 12)), none, 0⟩,
  ⟨(some 14), .p (.mov (.s 1)), (some (13, false)), 0⟩,
  ⟨(some 15), .p (.len false (.s 14)), (some (13, false)), 29⟩,
  ⟨(some 16), .p (.bin .gtr (.s 15) (.c (.v (.int .i64 40)))), (some (13, false)), 0⟩,
  ⟨(some 17), .p (.pick (.s 13) (.c (.v (.bool true))) (.s 16)), none, 0⟩,
  ⟨(some 18), .p (.mov (.s 17)), none, 0⟩,
  ⟨(some 19), .p (.mov (.s 2)), (some (18, false)), 0⟩,
  ⟨(some 20), .p (.len false (.s 19)), (some (18, false)), 29⟩,
  ⟨(some 21), .p (.bin .gtr (.s 20) (.c (.v (.int .i64 40)))), (some (18, false)), 0⟩,
  ⟨(some 22), .p (.pick (.s 18) (.c (.v (.bool true))) (.s 21)), none, 0⟩]) c4_1) c4_20)
def c4 : ACode := (.seq (.ops [
  ⟨(some 6), .p (.mov (.c (.v (.bool false)))), none, 0⟩]) c4_21)
theorem t4 : trC Try.prog Try.f4.ntmps (bodyOf Try.f4) = some c4 := by kernel_rfl
theorem r4 : Try.f4.results.toList.mapM (trR Try.prog) = some [.tmp 6] := by kernel_rfl
def i4 : FI := ⟨90, c4, [.tmp 6]⟩
theorem k4 : Knows Try.prog 4 i4 := ⟨Try.f4, bodyOf Try.f4, Try.func4, by kernel_rfl, by kernel_rfl, t4, r4, by kernel_rfl⟩
-- 5 drover/droverlaw06.awake []
def c5_0 : List AOper := [
  ⟨(some 4), .p (.mov (.s 7)), none, 0⟩,
  ⟨(some 8), .p (.extract (.s 4) 0), none, 0⟩,
  ⟨(some 9), .p (.extract (.s 4) 1), none, 0⟩,
  ⟨(some 1), .p (.mov (.s 8)), none, 0⟩,
  ⟨(some 2), .p (.mov (.s 9)), none, 0⟩]
def c5_1 : List AOper := (⟨(some 6), .m (.buildSlice 3 1 [(.v (.int .i64 0)), (.v (.int .i64 0)), (.v (.int .u64 0))] [(0, 3, (.s 5))]), none, 29⟩ ::
  ⟨(some 7), .call (.c (.fn 9 [])) [(.s 6)], none, 29⟩ :: c5_0)
def c5_2 : List AOper := [
  ⟨(some 3), .p (.mov (.s 15)), none, 0⟩]
def c5_3 : List AOper := (⟨(some 14), .m (.buildSlice 3 2 [(.v (.int .i64 0)), (.v (.int .i64 0)), (.v (.int .u64 0)), (.v (.int .i64 0)), (.v (.int .i64 0)), (.v (.int .u64 0))] [(0, 3, (.s 12)), (3, 3, (.s 13))]), none, 29⟩ ::
  ⟨(some 15), .call (.c (.fn 7 [])) [(.s 11), (.s 14)], none, 29⟩ :: c5_2)
def c5_4 : List AOper := (⟨(some 11), .m (.buildSlice 3 1 [(.v (.int .i64 0)), (.v (.int .i64 0)), (.v (.int .u64 0))] [(0, 3, (.s 10))]), none, 29⟩ ::
  ⟨(some 12), .p (.build [(.v (.int .i64 0)), (.v (.int .i64 0)), (.v (.int .u64 0))] [(0, 1, (.c (.v (.int .i64 4))))]), none, 0⟩ ::
  ⟨(some 13), .call (.c (.fn 10 [])) [(.c (.v (.int .u64 2)))], none, 0⟩ :: c5_3)
def c5_5 : List AOper := [
  ⟨(some 28), .p (.pick (.s 22) (.s 27) (.c (.v (.bool false)))), none, 0⟩,
  ⟨(some 0), .p (.mov (.s 28)), none, 0⟩]
def c5_6 : List AOper := (⟨(some 26), .m (.buildSlice 3 2 [(.v (.int .i64 0)), (.v (.int .i64 0)), (.v (.int .u64 0)), (.v (.int .i64 0)), (.v (.int .i64 0)), (.v (.int .u64 0))] [(0, 3, (.s 24)), (3, 3, (.s 25))]), (some (22, true)), 29⟩ ::
  ⟨(some 27), .call (.c (.fn 6 [])) [(.s 23), (.s 26)], (some (22, true)), 29⟩ :: c5_5)
def c5_7 : ACode := (.seq (.ops (⟨(some 16), .p (.mov (.s 2)), none, 0⟩ ::
  ⟨(some 17), .p (.bin .eql (.s 16) (.c (.v (.int .i64 0)))), none, 0⟩ ::
  ⟨(some 18), .p (.mov (.s 17)), none, 0⟩ ::
  ⟨(some 19), .p (.mov (.s 1)), (some (18, true)), 0⟩ ::
  ⟨(some 20), .p (.bin .eql (.s 19) (.c (.v (.string ⟨#[0, 0, 0, 16, 0, 0, 0, 1, 255, 255, 0, 0, 0, 0, 0, 0]⟩)))), (some (18, true)), 0⟩ ::
  ⟨(some 21), .p (.pick (.s 18) (.s 20) (.c (.v (.bool false)))), none, 0⟩ ::
  ⟨(some 22), .p (.mov (.s 21)), none, 0⟩ ::
  ⟨(some 23), .p (.mov (.s 3)), (some (22, true)), 0⟩ ::
  ⟨(some 24), .p (.build [(.v (.int .i64 0)), (.v (.int .i64 0)), (.v (.int .u64 0))] [(0, 1, (.c (.v (.int .i64 4))))]), (some (22, true)), 0⟩ ::
  ⟨(some 25), .call (.c (.fn 10 [])) [(.c (.v (.int .u64 2)))], (some (22, true)), 0⟩ :: c5_6)) .ret)
def c5_8 : ACode := (.seq (.ops (⟨(some 10), .call (.c (.fn 10 [])) [(.c (.v (.int .u64 1)))], none, 0⟩ :: c5_4)) c5_7)
def c5_9 : ACode := (.seq (.ops (⟨(some 5), .call (.c (.fn 10 [])) [(.c (.v (.int .u64 1)))], none, 0⟩ :: c5_1)) c5_8)
def c5 : ACode := (.seq (.ops [
  ⟨(some 0), .p (.mov (.c (.v (.bool false)))), none, 0⟩]) c5_9)
theorem t5 : trC Try.prog Try.f5.ntmps (bodyOf Try.f5) = some c5 := by kernel_rfl
theorem r5 : Try.f5.results.toList.mapM (trR Try.prog) = some [.tmp 0] := by kernel_rfl
def i5 : FI := ⟨29, c5, [.tmp 0]⟩
theorem k5 : Knows Try.prog 5 i5 := ⟨Try.f5, bodyOf Try.f5, Try.func5, by kernel_rfl, by kernel_rfl, t5, r5, by kernel_rfl⟩
-- 6 drover/droverref06.Same []
def c6_0 : ACode := (.cond (.s 10) (.seq (.ops [
  ⟨(some 4), .p (.mov (.c (.v (.bool false)))), none, 0⟩]) .ret) .skip)
def c6_1 : ACode := (.cond (.s 14) .skip (.exit 0))
def c6_2 : ACode := (.cond (.s 25) (.seq (.ops [
  ⟨(some 4), .p (.mov (.c (.v (.bool false)))), none, 0⟩]) .ret) .skip)
def c6_3 : ACode := (.ops [
  ⟨(some 15), .p (.mov (.s 5)), none, 0⟩,
  ⟨(some 16), .p (.bin .add (.s 15) (.c (.v (.int .i64 1)))), none, 0⟩,
  ⟨(some 5), .p (.mov (.s 16)), none, 0⟩])
def c6_4 : ACode := (.seq (.block 1 (.seq (.draw [
  ⟨(some 17), .p (.mov (.s 0)), none, 0⟩,
  ⟨(some 18), .p (.mov (.s 5)), none, 0⟩,
  ⟨(some 19), .p (.adrSl 3 (.s 17) (.s 18)), none, 0⟩,
  ⟨(some 20), .m (.load (some 3) (.s 19)), none, 0⟩,
  ⟨(some 21), .p (.mov (.s 1)), none, 0⟩,
  ⟨(some 22), .p (.mov (.s 5)), none, 0⟩,
  ⟨(some 23), .p (.adrSl 3 (.s 21) (.s 22)), none, 0⟩,
  ⟨(some 24), .m (.load (some 3) (.s 23)), none, 0⟩,
  ⟨(some 25), .p (.eqa true [(.int .i64), (.int .i64), (.int .u64)] true (.s 20) (.s 24)), none, 0⟩]) c6_2)) c6_3)
def c6_5 : ACode := (.seq (.seq (.ops [
  ⟨(some 11), .p (.mov (.s 5)), none, 0⟩,
  ⟨(some 12), .p (.mov (.s 0)), none, 0⟩,
  ⟨(some 13), .p (.len false (.s 12)), none, 29⟩,
  ⟨(some 14), .p (.bin .lss (.s 11) (.s 13)), none, 0⟩]) c6_1) c6_4)
def c6_6 : ACode := (.block 0 (.loop c6_5))
def c6_7 : ACode := (.seq (.ops [
  ⟨(some 4), .p (.mov (.c (.v (.bool true)))), none, 0⟩]) .ret)
def c6_8 : ACode := (.seq (.seq (.ops [
  ⟨(some 5), .p (.mov (.c (.v (.int .i64 0)))), none, 0⟩]) c6_6) c6_7)
def c6_9 : ACode := (.seq (.seq (.ops [
  ⟨(some 6), .p (.mov (.s 0)), none, 0⟩,
  ⟨(some 7), .p (.len false (.s 6)), none, 29⟩,
  ⟨(some 8), .p (.mov (.s 1)), none, 0⟩,
  ⟨(some 9), .p (.len false (.s 8)), none, 29⟩,
  ⟨(some 10), .p (.bin .neq (.s 7) (.s 9)), none, 0⟩]) c6_0) c6_8)
def c6 : ACode := (.seq (.ops [
  ⟨(some 4), .p (.mov (.c (.v (.bool false)))), none, 0⟩]) c6_9)
theorem t6 : trC Try.prog Try.f6.ntmps (bodyOf Try.f6) = some c6 := by kernel_rfl
theorem r6 : Try.f6.results.toList.mapM (trR Try.prog) = some [.tmp 4] := by kernel_rfl
def i6 : FI := ⟨26, c6, [.tmp 4]⟩
theorem k6 : Knows Try.prog 6 i6 := ⟨Try.f6, bodyOf Try.f6, Try.func6, by kernel_rfl, by kernel_rfl, t6, r6, by kernel_rfl⟩
-- 7 drover/act.Merge []
def c7_0 : List AOper := [
  ⟨(some 5), .p (.mov (.s 12)), none, 0⟩]
def c7_1 : List AOper := [
  ⟨(some 5), .p (.mov (.s 14)), none, 0⟩]
def c7_2 : ACode := (.draw [
  ⟨(some 37), .p (.bin .neq (.s 36) (.c (.v (.int .i64 0)))), (some (29, false)), 0⟩,
  ⟨(some 38), .p (.pick (.s 29) (.c (.v (.bool true))) (.s 37)), none, 0⟩])
def c7_3 : ACode := (.seq (.ops [
  ⟨(some 36), .call (.c (.fn 16 [])) [(.s 30), (.s 35)], (some (29, false)), 0⟩]) c7_2)
def c7_4 : ACode := (.cond (.s 38) (.ops [
  ⟨(some 39), .p (.mov (.s 6)), none, 0⟩,
  ⟨(some 40), .m (.load (some 3) (.s 8)), none, 0⟩,
  ⟨(some 41), .m (.buildSlice 3 1 [(.v (.int .i64 0)), (.v (.int .i64 0)), (.v (.int .u64 0))] [(0, 3, (.s 40))]), none, 29⟩,
  ⟨(some 42), .m (.append 3 24 (.s 39) (.s 41)), none, 29⟩,
  ⟨(some 6), .p (.mov (.s 42)), none, 0⟩]) .skip)
def c7_5 : ACode := (.seq (.seq (.draw [
  ⟨(some 24), .p (.mov (.s 7)), none, 0⟩,
  ⟨(some 25), .p (.bin .add (.s 24) (.c (.v (.int .i64 1)))), none, 0⟩,
  ⟨(some 26), .p (.mov (.s 5)), none, 0⟩,
  ⟨(some 27), .p (.len false (.s 26)), none, 29⟩,
  ⟨(some 28), .p (.bin .eql (.s 25) (.s 27)), none, 0⟩,
  ⟨(some 29), .p (.mov (.s 28)), none, 0⟩,
  ⟨(some 30), .m (.load (some 3) (.s 8)), (some (29, false)), 0⟩,
  ⟨(some 31), .p (.mov (.s 5)), (some (29, false)), 0⟩,
  ⟨(some 32), .p (.mov (.s 7)), (some (29, false)), 0⟩,
  ⟨(some 33), .p (.bin .add (.s 32) (.c (.v (.int .i64 1)))), (some (29, false)), 0⟩,
  ⟨(some 34), .p (.adrSl 3 (.s 31) (.s 33)), (some (29, false)), 0⟩,
  ⟨(some 35), .m (.load (some 3) (.s 34)), (some (29, false)), 0⟩]) c7_3) c7_4)
def c7_6 : ACode := (.ops [
  ⟨(some 43), .p (.bin .add (.s 19) (.c (.v (.int .i64 1)))), none, 0⟩,
  ⟨(some 19), .p (.mov (.s 43)), none, 0⟩])
def c7_7 : ACode := (.seq (.block 1 (.seq (.ops [
  ⟨(some 21), .p (.mov (.s 19)), none, 0⟩,
  ⟨(some 22), .p (.adrSl 3 (.s 17) (.s 19)), none, 0⟩,
  ⟨(some 23), .m (.load (some 3) (.s 22)), none, 0⟩,
  ⟨(some 8), .m (.alloc [(.v (.int .i64 0)), (.v (.int .i64 0)), (.v (.int .u64 0))]), none, 0⟩,
  ⟨(some 7), .p (.mov (.s 21)), none, 0⟩,
  ⟨none, .m (.store (some 3) (.s 8) (.s 23)), none, 0⟩]) c7_5)) c7_6)
def c7_8 : ACode := (.seq (.cond (.s 20) .skip (.exit 0)) c7_7)
def c7_9 : ACode := (.seq (.ops [
  ⟨(some 20), .p (.bin .lss (.s 19) (.s 18)), none, 0⟩]) c7_8)
def c7_10 : ACode := (.block 0 (.loop c7_9))
def c7_11 : ACode := (.seq (.ops [
  ⟨(some 44), .p (.mov (.s 6)), none, 0⟩,
  ⟨(some 4), .p (.mov (.s 44)), none, 0⟩]) .ret)
def c7_12 : ACode := (.seq (.seq (.ops [
  ⟨(some 17), .p (.mov (.s 5)), none, 0⟩,
  ⟨(some 18), .p (.len false (.s 17)), none, 29⟩,
  ⟨(some 19), .p (.mov (.c (.v (.int .i64 0)))), none, 0⟩]) c7_10) c7_11)
def c7_13 : ACode := (.seq (.ops [
  ⟨(some 6), .p (.mov (.c (.v (.slice none 0 0)))), none, 0⟩]) c7_12)
def c7_14 : ACode := (.seq (.ops [
  ⟨(some 15), .p (.mov (.s 5)), none, 0⟩,
  ⟨(some 16), .call (.c (.fn 15 [])) [(.s 15), (.c (.fn 16 []))], none, 29⟩]) c7_13)
def c7_15 : ACode := (.seq (.ops (⟨(some 13), .p (.mov (.s 5)), none, 0⟩ ::
  ⟨(some 14), .call (.c (.fn 12 [])) [(.s 13), (.c (.fn 13 []))], none, 29⟩ :: c7_1)) c7_14)
def c7_16 : ACode := (.seq (.ops (⟨(some 9), .p (.mov (.s 0)), none, 0⟩ ::
  ⟨(some 10), .p (.mov (.s 1)), none, 0⟩ ::
  ⟨(some 11), .m (.buildSlice 1 2 [(.v (.slice none 0 0)), (.v (.slice none 0 0))] [(0, 1, (.s 9)), (1, 1, (.s 10))]), none, 22⟩ ::
  ⟨(some 12), .call (.c (.fn 11 [])) [(.s 11)], none, 22⟩ :: c7_0)) c7_15)
def c7 : ACode := (.seq (.ops [
  ⟨(some 4), .p (.mov (.c (.v (.slice none 0 0)))), none, 0⟩]) c7_16)
theorem t7 : trC Try.prog Try.f7.ntmps (bodyOf Try.f7) = some c7 := by kernel_rfl
theorem r7 : Try.f7.results.toList.mapM (trR Try.prog) = some [.tmp 4] := by kernel_rfl
def i7 : FI := ⟨45, c7, [.tmp 4]⟩
theorem k7 : Knows Try.prog 7 i7 := ⟨Try.f7, bodyOf Try.f7, Try.func7, by kernel_rfl, by kernel_rfl, t7, r7, by kernel_rfl⟩
-- 8 drover/droverref06.Merge []
def c8_0 : ACode := (.cond (.s 21) .skip (.exit 0))
def c8_1 : List AOper := [
  ⟨(some 29), .p (.bin .geq (.s 28) (.c (.v (.int .i64 0)))), none, 0⟩,
  ⟨(some 8), .p (.mov (.s 29)), none, 0⟩]
def c8_2 : ACode := (.cond (.s 35) .skip (.exit 2))
def c8_3 : ACode := (.draw [
  ⟨(some 49), .p (.un .not (.s 48)), (some (39, true)), 0⟩,
  ⟨(some 50), .p (.pick (.s 39) (.s 49) (.c (.v (.bool false)))), none, 0⟩,
  ⟨(some 8), .p (.mov (.s 50)), none, 0⟩])
def c8_4 : ACode := (.seq (.ops [
  ⟨(some 48), .call (.c (.fn 18 [])) [(.s 43), (.s 47)], (some (39, true)), 0⟩]) c8_3)
def c8_5 : ACode := (.ops [
  ⟨(some 36), .p (.mov (.s 9)), none, 0⟩,
  ⟨(some 37), .p (.bin .add (.s 36) (.c (.v (.int .i64 1)))), none, 0⟩,
  ⟨(some 9), .p (.mov (.s 37)), none, 0⟩])
def c8_6 : ACode := (.seq (.block 3 (.seq (.draw [
  ⟨(some 38), .p (.mov (.s 8)), none, 0⟩,
  ⟨(some 39), .p (.mov (.s 38)), none, 0⟩,
  ⟨(some 40), .p (.mov (.s 5)), (some (39, true)), 0⟩,
  ⟨(some 41), .p (.mov (.s 7)), (some (39, true)), 0⟩,
  ⟨(some 42), .p (.adrSl 3 (.s 40) (.s 41)), (some (39, true)), 0⟩,
  ⟨(some 43), .m (.load (some 3) (.s 42)), (some (39, true)), 0⟩,
  ⟨(some 44), .p (.mov (.s 5)), (some (39, true)), 0⟩,
  ⟨(some 45), .p (.mov (.s 9)), (some (39, true)), 0⟩,
  ⟨(some 46), .p (.adrSl 3 (.s 44) (.s 45)), (some (39, true)), 0⟩,
  ⟨(some 47), .m (.load (some 3) (.s 46)), (some (39, true)), 0⟩]) c8_4)) c8_5)
def c8_7 : ACode := (.seq (.seq (.ops [
  ⟨(some 32), .p (.mov (.s 9)), none, 0⟩,
  ⟨(some 33), .p (.mov (.s 5)), none, 0⟩,
  ⟨(some 34), .p (.len false (.s 33)), none, 29⟩,
  ⟨(some 35), .p (.bin .lss (.s 32) (.s 34)), none, 0⟩]) c8_2) c8_6)
def c8_8 : ACode := (.block 2 (.loop c8_7))
def c8_9 : ACode := (.cond (.s 52) (.exit 1) .skip)
def c8_10 : ACode := (.draw [
  ⟨(some 67), .p (.pick (.s 57) (.s 66) (.c (.v (.bool false)))), none, 0⟩])
def c8_11 : ACode := (.seq (.ops [
  ⟨(some 66), .call (.c (.fn 19 [])) [(.s 61), (.s 65)], (some (57, true)), 0⟩]) c8_10)
def c8_12 : ACode := (.cond (.s 67) .skip (.exit 4))
def c8_13 : ACode := (.block 5 (.ops [
  ⟨(some 68), .p (.mov (.s 10)), none, 0⟩,
  ⟨(some 69), .p (.bin .add (.s 68) (.c (.v (.int .i64 1)))), none, 0⟩,
  ⟨(some 10), .p (.mov (.s 69)), none, 0⟩]))
def c8_14 : ACode := (.seq (.seq (.seq (.draw [
  ⟨(some 53), .p (.mov (.s 10)), none, 0⟩,
  ⟨(some 54), .p (.mov (.s 6)), none, 0⟩,
  ⟨(some 55), .p (.len false (.s 54)), none, 29⟩,
  ⟨(some 56), .p (.bin .lss (.s 53) (.s 55)), none, 0⟩,
  ⟨(some 57), .p (.mov (.s 56)), none, 0⟩,
  ⟨(some 58), .p (.mov (.s 6)), (some (57, true)), 0⟩,
  ⟨(some 59), .p (.mov (.s 10)), (some (57, true)), 0⟩,
  ⟨(some 60), .p (.adrSl 3 (.s 58) (.s 59)), (some (57, true)), 0⟩,
  ⟨(some 61), .m (.load (some 3) (.s 60)), (some (57, true)), 0⟩,
  ⟨(some 62), .p (.mov (.s 5)), (some (57, true)), 0⟩,
  ⟨(some 63), .p (.mov (.s 7)), (some (57, true)), 0⟩,
  ⟨(some 64), .p (.adrSl 3 (.s 62) (.s 63)), (some (57, true)), 0⟩,
  ⟨(some 65), .m (.load (some 3) (.s 64)), (some (57, true)), 0⟩]) c8_11) c8_12) c8_13)
def c8_15 : ACode := (.ops [
  ⟨(some 82), .p (.mov (.s 11)), none, 0⟩,
  ⟨(some 83), .p (.mov (.s 6)), none, 0⟩,
  ⟨(some 84), .p (.mov (.s 10)), none, 0⟩,
  ⟨(some 85), .p (.slSl 3 (.s 83) (some (.s 84)) none none), none, 0⟩,
  ⟨(some 86), .m (.append 3 24 (.s 82) (.s 85)), none, 29⟩,
  ⟨(some 6), .p (.mov (.s 86)), none, 0⟩])
def c8_16 : ACode := (.seq (.ops [
  ⟨(some 75), .p (.mov (.s 11)), none, 0⟩,
  ⟨(some 76), .p (.mov (.s 5)), none, 0⟩,
  ⟨(some 77), .p (.mov (.s 7)), none, 0⟩,
  ⟨(some 78), .p (.adrSl 3 (.s 76) (.s 77)), none, 0⟩,
  ⟨(some 79), .m (.load (some 3) (.s 78)), none, 0⟩,
  ⟨(some 80), .m (.buildSlice 3 1 [(.v (.int .i64 0)), (.v (.int .i64 0)), (.v (.int .u64 0))] [(0, 3, (.s 79))]), none, 29⟩,
  ⟨(some 81), .m (.append 3 24 (.s 75) (.s 80)), none, 29⟩,
  ⟨(some 11), .p (.mov (.s 81)), none, 0⟩]) c8_15)
def c8_17 : ACode := (.seq (.ops [
  ⟨(some 70), .p (.mov (.s 11)), none, 0⟩,
  ⟨(some 71), .p (.mov (.s 6)), none, 0⟩,
  ⟨(some 72), .p (.mov (.s 10)), none, 0⟩,
  ⟨(some 73), .p (.slSl 3 (.s 71) none (some (.s 72)) none), none, 0⟩,
  ⟨(some 74), .m (.append 3 24 (.s 70) (.s 73)), none, 29⟩,
  ⟨(some 11), .p (.mov (.s 74)), none, 0⟩]) c8_16)
def c8_18 : ACode := (.seq (.ops [
  ⟨(some 11), .p (.mov (.c (.v (.slice none 0 0)))), none, 0⟩]) c8_17)
def c8_19 : ACode := (.seq (.block 4 (.loop c8_14)) c8_18)
def c8_20 : ACode := (.seq (.ops [
  ⟨(some 10), .p (.mov (.c (.v (.int .i64 0)))), none, 0⟩]) c8_19)
def c8_21 : ACode := (.seq (.seq (.ops [
  ⟨(some 51), .p (.mov (.s 8)), none, 0⟩,
  ⟨(some 52), .p (.un .not (.s 51)), none, 0⟩]) c8_9) c8_20)
def c8_22 : ACode := (.seq (.seq (.ops [
  ⟨(some 30), .p (.mov (.s 7)), none, 0⟩,
  ⟨(some 31), .p (.bin .add (.s 30) (.c (.v (.int .i64 1)))), none, 0⟩,
  ⟨(some 9), .p (.mov (.s 31)), none, 0⟩]) c8_8) c8_21)
def c8_23 : ACode := (.ops [
  ⟨(some 22), .p (.mov (.s 7)), none, 0⟩,
  ⟨(some 23), .p (.bin .add (.s 22) (.c (.v (.int .i64 1)))), none, 0⟩,
  ⟨(some 7), .p (.mov (.s 23)), none, 0⟩])
def c8_24 : ACode := (.seq (.block 1 (.seq (.ops (⟨(some 24), .p (.mov (.s 5)), none, 0⟩ ::
  ⟨(some 25), .p (.mov (.s 7)), none, 0⟩ ::
  ⟨(some 26), .p (.adrSl 3 (.s 24) (.s 25)), none, 0⟩ ::
  ⟨(some 27), .m (.load (some 3) (.s 26)), none, 0⟩ ::
  ⟨(some 28), .call (.c (.fn 17 [])) [(.s 27)], none, 0⟩ :: c8_1)) c8_22)) c8_23)
def c8_25 : ACode := (.seq (.seq (.ops [
  ⟨(some 18), .p (.mov (.s 7)), none, 0⟩,
  ⟨(some 19), .p (.mov (.s 5)), none, 0⟩,
  ⟨(some 20), .p (.len false (.s 19)), none, 29⟩,
  ⟨(some 21), .p (.bin .lss (.s 18) (.s 20)), none, 0⟩]) c8_0) c8_24)
def c8_26 : ACode := (.block 0 (.loop c8_25))
def c8_27 : ACode := (.seq (.ops [
  ⟨(some 87), .p (.mov (.s 6)), none, 0⟩,
  ⟨(some 4), .p (.mov (.s 87)), none, 0⟩]) .ret)
def c8_28 : ACode := (.seq (.seq (.ops [
  ⟨(some 7), .p (.mov (.c (.v (.int .i64 0)))), none, 0⟩]) c8_26) c8_27)
def c8_29 : ACode := (.seq (.ops [
  ⟨(some 6), .p (.mov (.c (.v (.slice none 0 0)))), none, 0⟩]) c8_28)
def c8_30 : ACode := (.seq (.ops [
  ⟨(some 15), .p (.mov (.s 5)), none, 0⟩,
  ⟨(some 16), .p (.mov (.s 1)), none, 0⟩,
  ⟨(some 17), .m (.append 3 24 (.s 15) (.s 16)), none, 29⟩,
  ⟨(some 5), .p (.mov (.s 17)), none, 0⟩]) c8_29)
def c8_31 : ACode := (.seq (.ops [
  ⟨(some 12), .p (.mov (.s 5)), none, 0⟩,
  ⟨(some 13), .p (.mov (.s 0)), none, 0⟩,
  ⟨(some 14), .m (.append 3 24 (.s 12) (.s 13)), none, 29⟩,
  ⟨(some 5), .p (.mov (.s 14)), none, 0⟩]) c8_30)
def c8_32 : ACode := (.seq (.ops [
  ⟨(some 5), .p (.mov (.c (.v (.slice none 0 0)))), none, 0⟩]) c8_31)
def c8 : ACode := (.seq (.ops [
  ⟨(some 4), .p (.mov (.c (.v (.slice none 0 0)))), none, 0⟩]) c8_32)
theorem t8 : trC Try.prog Try.f8.ntmps (bodyOf Try.f8) = some c8 := by kernel_rfl
theorem r8 : Try.f8.results.toList.mapM (trR Try.prog) = some [.tmp 4] := by kernel_rfl
def i8 : FI := ⟨88, c8, [.tmp 4]⟩
theorem k8 : Knows Try.prog 8 i8 := ⟨Try.f8, bodyOf Try.f8, Try.func8, by kernel_rfl, by kernel_rfl, t8, r8, by kernel_rfl⟩
-- 9 drover/act.Encode []
def c9_0 : List AOper := [
  ⟨(some 7), .p (.mov (.s 9)), none, 0⟩]
def c9_1 : ACode := (.cond (.s 10) (.seq (.ops [
  ⟨(some 2), .p (.mov (.c (.v (.string ⟨#[]⟩)))), none, 0⟩,
  ⟨(some 3), .p (.mov (.c (.v (.int .i64 44)))), none, 0⟩]) .ret) .skip)
def c9_2 : ACode := (.cond (.s 7) (.seq (.ops [
  ⟨(some 2), .p (.mov (.c (.v (.string ⟨#[]⟩)))), none, 0⟩,
  ⟨(some 3), .p (.mov (.c (.v (.int .i64 22)))), none, 0⟩]) .ret) (.seq (.ops [
  ⟨(some 11), .p (.mov (.s 0)), none, 0⟩,
  ⟨(some 12), .p (.len false (.s 11)), none, 29⟩,
  ⟨(some 13), .p (.bin .gtr (.s 12) (.c (.v (.int .i64 32)))), none, 0⟩,
  ⟨(some 10), .p (.mov (.s 13)), none, 0⟩]) c9_1))
def c9_3 : List AOper := [
  ⟨(some 22), .call (.c (.fn 23 [])) [(.s 4), (.s 21)], none, 0⟩]
def c9_4 : ACode := (.ops (⟨(some 20), .m (.load (some 3) (.s 6)), none, 0⟩ ::
  ⟨(some 21), .call (.c (.fn 24 [])) [(.s 20)], none, 0⟩ :: c9_3))
def c9_5 : ACode := (.ops [
  ⟨(some 23), .p (.bin .add (.s 16) (.c (.v (.int .i64 1)))), none, 0⟩,
  ⟨(some 16), .p (.mov (.s 23)), none, 0⟩])
def c9_6 : ACode := (.seq (.block 2 (.seq (.ops [
  ⟨(some 18), .p (.adrSl 3 (.s 14) (.s 16)), none, 0⟩,
  ⟨(some 19), .m (.load (some 3) (.s 18)), none, 0⟩,
  ⟨(some 6), .m (.alloc [(.v (.int .i64 0)), (.v (.int .i64 0)), (.v (.int .u64 0))]), none, 0⟩,
  ⟨none, .m (.store (some 3) (.s 6) (.s 19)), none, 0⟩]) c9_4)) c9_5)
def c9_7 : ACode := (.seq (.cond (.s 17) .skip (.exit 1)) c9_6)
def c9_8 : ACode := (.seq (.ops [
  ⟨(some 17), .p (.bin .lss (.s 16) (.s 15)), none, 0⟩]) c9_7)
def c9_9 : ACode := (.block 1 (.loop c9_8))
def c9_10 : List AOper := [
  ⟨(some 2), .p (.mov (.s 24)), none, 0⟩,
  ⟨(some 3), .p (.mov (.c (.v (.int .i64 0)))), none, 0⟩]
def c9_11 : ACode := (.seq (.ops (⟨(some 24), .call (.c (.fn 25 [])) [(.s 4)], none, 0⟩ :: c9_10)) .ret)
def c9_12 : ACode := (.seq (.seq (.ops [
  ⟨(some 14), .p (.mov (.s 0)), none, 0⟩,
  ⟨(some 15), .p (.len false (.s 14)), none, 29⟩,
  ⟨(some 16), .p (.mov (.c (.v (.int .i64 0)))), none, 0⟩]) c9_9) c9_11)
def c9_13 : ACode := (.seq (.ops [
  ⟨(some 4), .m (.ext (.allocT 46 [(.v (.pointer none)), (.v (.slice none 0 0))])), none, 5⟩]) c9_12)
def c9_14 : ACode := (.seq (.block 0 (.seq (.ops (⟨(some 8), .p (.mov (.s 0)), none, 0⟩ ::
  ⟨(some 9), .call (.c (.fn 20 [])) [(.s 8), (.c (.fn 21 []))], none, 29⟩ :: c9_0)) c9_2)) c9_13)
def c9 : ACode := (.seq (.ops [
  ⟨(some 2), .p (.mov (.c (.v (.string ⟨#[]⟩)))), none, 0⟩,
  ⟨(some 3), .p (.mov (.c (.v (.int .i64 0)))), none, 0⟩]) c9_14)
theorem t9 : trC Try.prog Try.f9.ntmps (bodyOf Try.f9) = some c9 := by kernel_rfl
theorem r9 : Try.f9.results.toList.mapM (trR Try.prog) = some [.tmp 2, .tmp 3] := by kernel_rfl
def i9 : FI := ⟨25, c9, [.tmp 2, .tmp 3]⟩
theorem k9 : Knows Try.prog 9 i9 := ⟨Try.f9, bodyOf Try.f9, Try.func9, by kernel_rfl, by kernel_rfl, t9, r9, by kernel_rfl⟩
-- 10 drover/droverlaw06.out []
def c10_0 : ACode := (.seq (.ops [
  ⟨(some 3), .p (.mov (.s 0)), none, 0⟩,
  ⟨(some 4), .p (.build [(.v (.int .i64 0)), (.v (.int .i64 0)), (.v (.int .u64 0))] [(0, 1, (.c (.v (.int .i64 1)))), (2, 1, (.s 3))]), none, 0⟩,
  ⟨none, .m (.store (some 3) (.s 2) (.s 4)), none, 0⟩]) .ret)
def c10 : ACode := (.seq (.ops [
  ⟨(some 2), .m (.alloc [(.v (.int .i64 0)), (.v (.int .i64 0)), (.v (.int .u64 0))]), none, 0⟩]) c10_0)
theorem t10 : trC Try.prog Try.f10.ntmps (bodyOf Try.f10) = some c10 := by kernel_rfl
theorem r10 : Try.f10.results.toList.mapM (trR Try.prog) = some [.cell 2 (some 3)] := by kernel_rfl
def i10 : FI := ⟨5, c10, [.cell 2 (some 3)]⟩
theorem k10 : Knows Try.prog 10 i10 := ⟨Try.f10, bodyOf Try.f10, Try.func10, by kernel_rfl, by kernel_rfl, t10, r10, by kernel_rfl⟩
-- 11 slices.Concat[[]drover/api.Action,drover/api.Action] []
def c11_0 : ACode := (.cond (.s 20) (.ops [
  ⟨(some 21), .p (.mkIfc 9 (.c (.v (.string ⟨#[108, 101, 110, 32, 111, 117, 116, 32, 111, 102, 32, 114, 97, 110, 103, 101]⟩)))), none, 0⟩,
  ⟨none, .never, none, 0⟩]) .skip)
def c11_1 : ACode := (.seq (.ops [
  ⟨(some 19), .p (.mov (.s 3)), none, 0⟩,
  ⟨(some 20), .p (.bin .lss (.s 19) (.c (.v (.int .i64 0)))), none, 0⟩]) c11_0)
def c11_2 : ACode := (.seq (.ops [
  ⟨(some 15), .p (.mov (.s 3)), none, 0⟩,
  ⟨(some 16), .p (.mov (.s 5)), none, 0⟩,
  ⟨(some 17), .p (.len false (.s 16)), none, 29⟩,
  ⟨(some 18), .p (.bin .add (.s 15) (.s 17)), none, 0⟩,
  ⟨(some 3), .p (.mov (.s 18)), none, 0⟩]) c11_1)
def c11_3 : ACode := (.ops [
  ⟨(some 22), .p (.bin .add (.s 11) (.c (.v (.int .i64 1)))), none, 0⟩,
  ⟨(some 11), .p (.mov (.s 22)), none, 0⟩])
def c11_4 : ACode := (.seq (.block 1 (.seq (.ops [
  ⟨(some 13), .p (.adrSl 1 (.s 9) (.s 11)), none, 0⟩,
  ⟨(some 14), .m (.load none (.s 13)), none, 0⟩,
  ⟨(some 5), .p (.mov (.s 14)), none, 0⟩]) c11_2)) c11_3)
def c11_5 : ACode := (.seq (.cond (.s 12) .skip (.exit 0)) c11_4)
def c11_6 : ACode := (.seq (.ops [
  ⟨(some 12), .p (.bin .lss (.s 11) (.s 10)), none, 0⟩]) c11_5)
def c11_7 : ACode := (.block 0 (.loop c11_6))
def c11_8 : List AOper := [
  ⟨(some 6), .p (.mov (.s 24)), none, 0⟩]
def c11_9 : ACode := (.ops [
  ⟨(some 31), .p (.mov (.s 6)), none, 0⟩,
  ⟨(some 32), .p (.mov (.s 8)), none, 0⟩,
  ⟨(some 33), .m (.append 3 24 (.s 31) (.s 32)), none, 29⟩,
  ⟨(some 6), .p (.mov (.s 33)), none, 0⟩])
def c11_10 : ACode := (.ops [
  ⟨(some 34), .p (.bin .add (.s 27) (.c (.v (.int .i64 1)))), none, 0⟩,
  ⟨(some 27), .p (.mov (.s 34)), none, 0⟩])
def c11_11 : ACode := (.seq (.block 3 (.seq (.ops [
  ⟨(some 29), .p (.adrSl 1 (.s 25) (.s 27)), none, 0⟩,
  ⟨(some 30), .m (.load none (.s 29)), none, 0⟩,
  ⟨(some 8), .p (.mov (.s 30)), none, 0⟩]) c11_9)) c11_10)
def c11_12 : ACode := (.seq (.cond (.s 28) .skip (.exit 2)) c11_11)
def c11_13 : ACode := (.seq (.ops [
  ⟨(some 28), .p (.bin .lss (.s 27) (.s 26)), none, 0⟩]) c11_12)
def c11_14 : ACode := (.block 2 (.loop c11_13))
def c11_15 : ACode := (.seq (.ops [
  ⟨(some 35), .p (.mov (.s 6)), none, 0⟩,
  ⟨(some 2), .p (.mov (.s 35)), none, 0⟩]) .ret)
def c11_16 : ACode := (.seq (.seq (.ops [
  ⟨(some 25), .p (.mov (.s 0)), none, 0⟩,
  ⟨(some 26), .p (.len false (.s 25)), none, 22⟩,
  ⟨(some 27), .p (.mov (.c (.v (.int .i64 0)))), none, 0⟩]) c11_14) c11_15)
def c11_17 : ACode := (.seq (.ops (⟨(some 23), .p (.mov (.s 3)), none, 0⟩ ::
  ⟨(some 24), .call (.c (.fn 26 [])) [(.c (.v (.slice none 0 0))), (.s 23)], none, 29⟩ :: c11_8)) c11_16)
def c11_18 : ACode := (.seq (.seq (.ops [
  ⟨(some 9), .p (.mov (.s 0)), none, 0⟩,
  ⟨(some 10), .p (.len false (.s 9)), none, 22⟩,
  ⟨(some 11), .p (.mov (.c (.v (.int .i64 0)))), none, 0⟩]) c11_7) c11_17)
def c11_19 : ACode := (.seq (.ops [
  ⟨(some 3), .p (.mov (.c (.v (.int .i64 0)))), none, 0⟩]) c11_18)
def c11 : ACode := (.seq (.ops [
  ⟨(some 2), .p (.mov (.c (.v (.slice none 0 0)))), none, 0⟩]) c11_19)
theorem t11 : trC Try.prog Try.f11.ntmps (bodyOf Try.f11) = some c11 := by kernel_rfl
theorem r11 : Try.f11.results.toList.mapM (trR Try.prog) = some [.tmp 2] := by kernel_rfl
def i11 : FI := ⟨36, c11, [.tmp 2]⟩
theorem k11 : Knows Try.prog 11 i11 := ⟨Try.f11, bodyOf Try.f11, Try.func11, by kernel_rfl, by kernel_rfl, t11, r11, by kernel_rfl⟩
-- 12 slices.DeleteFunc[[]drover/api.Action,drover/api.Action] []
def c12_0 : List AOper := [
  ⟨(some 5), .p (.mov (.s 10)), none, 0⟩]
def c12_1 : ACode := (.cond (.s 12) (.seq (.ops [
  ⟨(some 13), .p (.mov (.s 0)), none, 0⟩,
  ⟨(some 4), .p (.mov (.s 13)), none, 0⟩]) .ret) .skip)
def c12_2 : ACode := (.cond (.s 19) .skip (.exit 0))
def c12_3 : List AOper := [
  ⟨(some 29), .p (.un .not (.s 28)), none, 0⟩]
def c12_4 : ACode := (.ops [
  ⟨(some 34), .p (.mov (.s 5)), none, 0⟩,
  ⟨(some 35), .p (.bin .add (.s 34) (.c (.v (.int .i64 1)))), none, 0⟩,
  ⟨(some 5), .p (.mov (.s 35)), none, 0⟩])
def c12_5 : ACode := (.cond (.s 29) (.seq (.ops [
  ⟨(some 30), .p (.mov (.s 0)), none, 0⟩,
  ⟨(some 31), .p (.mov (.s 5)), none, 0⟩,
  ⟨(some 32), .m (.load (some 3) (.s 7)), none, 0⟩,
  ⟨(some 33), .p (.adrSl 3 (.s 30) (.s 31)), none, 0⟩,
  ⟨none, .m (.store (some 3) (.s 33) (.s 32)), none, 0⟩]) c12_4) .skip)
def c12_6 : ACode := (.seq (.ops (⟨(some 26), .p (.mov (.s 1)), none, 0⟩ ::
  ⟨(some 27), .m (.load (some 3) (.s 7)), none, 0⟩ ::
  ⟨(some 28), .call (.s 26) [(.s 27)], none, 0⟩ :: c12_3)) c12_5)
def c12_7 : ACode := (.ops [
  ⟨(some 20), .p (.mov (.s 6)), none, 0⟩,
  ⟨(some 21), .p (.bin .add (.s 20) (.c (.v (.int .i64 1)))), none, 0⟩,
  ⟨(some 6), .p (.mov (.s 21)), none, 0⟩])
def c12_8 : ACode := (.seq (.block 1 (.seq (.ops [
  ⟨(some 22), .p (.mov (.s 0)), none, 0⟩,
  ⟨(some 23), .p (.mov (.s 6)), none, 0⟩,
  ⟨(some 24), .p (.adrSl 3 (.s 22) (.s 23)), none, 0⟩,
  ⟨(some 25), .m (.load (some 3) (.s 24)), none, 0⟩,
  ⟨(some 7), .m (.alloc [(.v (.int .i64 0)), (.v (.int .i64 0)), (.v (.int .u64 0))]), none, 0⟩,
  ⟨none, .m (.store (some 3) (.s 7) (.s 25)), none, 0⟩]) c12_6)) c12_7)
def c12_9 : ACode := (.seq (.seq (.ops [
  ⟨(some 16), .p (.mov (.s 6)), none, 0⟩,
  ⟨(some 17), .p (.mov (.s 0)), none, 0⟩,
  ⟨(some 18), .p (.len false (.s 17)), none, 29⟩,
  ⟨(some 19), .p (.bin .lss (.s 16) (.s 18)), none, 0⟩]) c12_2) c12_8)
def c12_10 : ACode := (.block 0 (.loop c12_9))
def c12_11 : ACode := (.seq (.ops [
  ⟨(some 39), .p (.mov (.s 0)), none, 0⟩,
  ⟨(some 40), .p (.mov (.s 5)), none, 0⟩,
  ⟨(some 41), .p (.slSl 3 (.s 39) none (some (.s 40)) none), none, 0⟩,
  ⟨(some 4), .p (.mov (.s 41)), none, 0⟩]) .ret)
def c12_12 : ACode := (.seq (.ops [
  ⟨(some 36), .p (.mov (.s 0)), none, 0⟩,
  ⟨(some 37), .p (.mov (.s 5)), none, 0⟩,
  ⟨(some 38), .p (.slSl 3 (.s 36) (some (.s 37)) none none), none, 0⟩,
  ⟨none, .m (.ext (.clear 3 [(.v (.int .i64 0)), (.v (.int .i64 0)), (.v (.int .u64 0))] (.s 38))), none, 29⟩]) c12_11)
def c12_13 : ACode := (.seq (.seq (.ops [
  ⟨(some 14), .p (.mov (.s 5)), none, 0⟩,
  ⟨(some 15), .p (.bin .add (.s 14) (.c (.v (.int .i64 1)))), none, 0⟩,
  ⟨(some 6), .p (.mov (.s 15)), none, 0⟩]) c12_10) c12_12)
def c12_14 : ACode := (.seq (.seq (.ops [
  ⟨(some 11), .p (.mov (.s 5)), none, 0⟩,
  ⟨(some 12), .p (.bin .eql (.s 11) (.c (.v (.int .i64 (-1))))), none, 0⟩]) c12_1) c12_13)
def c12_15 : ACode := (.seq (.ops (⟨(some 8), .p (.mov (.s 0)), none, 0⟩ ::
  ⟨(some 9), .p (.mov (.s 1)), none, 0⟩ ::
  ⟨(some 10), .call (.c (.fn 27 [])) [(.s 8), (.s 9)], none, 29⟩ :: c12_0)) c12_14)
def c12 : ACode := (.seq (.ops [
  ⟨(some 4), .p (.mov (.c (.v (.slice none 0 0)))), none, 0⟩]) c12_15)
theorem t12 : trC Try.prog Try.f12.ntmps (bodyOf Try.f12) = some c12 := by kernel_rfl
theorem r12 : Try.f12.results.toList.mapM (trR Try.prog) = some [.tmp 4] := by kernel_rfl
def i12 : FI := ⟨42, c12, [.tmp 4]⟩
theorem k12 : Knows Try.prog 12 i12 := ⟨Try.f12, bodyOf Try.f12, Try.func12, by kernel_rfl, by kernel_rfl, t12, r12, by kernel_rfl⟩
-- 13 drover/act.Merge$1 []
def c13_0 : List AOper := [
  ⟨(some 5), .p (.bin .lss (.s 4) (.c (.v (.int .i64 1)))), none, 0⟩,
  ⟨(some 2), .p (.mov (.s 5)), none, 0⟩]
def c13_1 : ACode := (.seq (.ops (⟨(some 3), .m (.load (some 3) (.s 1)), none, 0⟩ ::
  ⟨(some 4), .call (.c (.fn 14 [])) [(.s 3)], none, 0⟩ :: c13_0)) .ret)
def c13 : ACode := (.seq (.ops [
  ⟨(some 1), .m (.box (.s 0)), none, 0⟩,
  ⟨(some 2), .p (.mov (.c (.v (.bool false)))), none, 0⟩]) c13_1)
theorem t13 : trC Try.prog Try.f13.ntmps (bodyOf Try.f13) = some c13 := by kernel_rfl
theorem r13 : Try.f13.results.toList.mapM (trR Try.prog) = some [.tmp 2] := by kernel_rfl
def i13 : FI := ⟨6, c13, [.tmp 2]⟩
theorem k13 : Knows Try.prog 13 i13 := ⟨Try.f13, bodyOf Try.f13, Try.func13, by kernel_rfl, by kernel_rfl, t13, r13, by kernel_rfl⟩
-- 14 drover/act.place []
def c14_0 : List AOper := [
  ⟨(some 2), .p (.mov (.s 6)), none, 0⟩]
def c14_1 : ACode := (.seq (.ops (⟨(some 3), .m (.buildSlice 1 6 [(.v (.int .i64 0)), (.v (.int .i64 0)), (.v (.int .i64 0)), (.v (.int .i64 0)), (.v (.int .i64 0)), (.v (.int .i64 0))] [(0, 1, (.c (.v (.int .i64 0)))), (1, 1, (.c (.v (.int .i64 4)))), (2, 1, (.c (.v (.int .i64 3)))), (3, 1, (.c (.v (.int .i64 5)))), (4, 1, (.c (.v (.int .i64 2)))), (5, 1, (.c (.v (.int .i64 1))))]), none, 3⟩ ::
  ⟨(some 4), .p (.fieldAddr 0 none (.s 1)), none, 0⟩ ::
  ⟨(some 5), .m (.load none (.s 4)), none, 0⟩ ::
  ⟨(some 6), .call (.c (.fn 28 [])) [(.s 3), (.s 5)], none, 3⟩ :: c14_0)) .ret)
def c14 : ACode := (.seq (.ops [
  ⟨(some 1), .m (.box (.s 0)), none, 0⟩,
  ⟨(some 2), .p (.mov (.c (.v (.int .i64 0)))), none, 0⟩]) c14_1)
theorem t14 : trC Try.prog Try.f14.ntmps (bodyOf Try.f14) = some c14 := by kernel_rfl
theorem r14 : Try.f14.results.toList.mapM (trR Try.prog) = some [.tmp 2] := by kernel_rfl
def i14 : FI := ⟨7, c14, [.tmp 2]⟩
theorem k14 : Knows Try.prog 14 i14 := ⟨Try.f14, bodyOf Try.f14, Try.func14, by kernel_rfl, by kernel_rfl, t14, r14, by kernel_rfl⟩
-- 15 slices.SortStableFunc[[]drover/api.Action,drover/api.Action] []
def c15 : ACode := (.ops [
  ⟨(some 4), .p (.mov (.s 0)), none, 0⟩,
  ⟨(some 5), .p (.mov (.s 0)), none, 0⟩,
  ⟨(some 6), .p (.len false (.s 5)), none, 29⟩,
  ⟨(some 7), .p (.mov (.s 1)), none, 0⟩,
  ⟨(some 8), .call (.c (.fn 29 [])) [(.s 4), (.s 6), (.s 7)], none, 29⟩])
theorem t15 : trC Try.prog Try.f15.ntmps (bodyOf Try.f15) = some c15 := by kernel_rfl
theorem r15 : Try.f15.results.toList.mapM (trR Try.prog) = some [] := by kernel_rfl
def i15 : FI := ⟨9, c15, []⟩
theorem k15 : Knows Try.prog 15 i15 := ⟨Try.f15, bodyOf Try.f15, Try.func15, by kernel_rfl, by kernel_rfl, t15, r15, by kernel_rfl⟩
-- 16 drover/act.rank []
def c16_0 : ACode := (.draw [
  ⟨(some 10), .call (.c (.fn 30 [])) [(.s 7), (.s 9)], none, 0⟩,
  ⟨(some 5), .p (.mov (.s 10)), none, 0⟩])
def c16_1 : ACode := (.seq (.ops [
  ⟨(some 9), .call (.c (.fn 14 [])) [(.s 8)], none, 0⟩]) c16_0)
def c16_2 : ACode := (.cond (.s 17) (.seq (.ops [
  ⟨(some 18), .p (.mov (.s 5)), none, 0⟩,
  ⟨(some 4), .p (.mov (.s 18)), none, 0⟩]) .ret) .skip)
def c16_3 : ACode := (.seq (.ops [
  ⟨(some 11), .p (.mov (.s 5)), none, 0⟩,
  ⟨(some 12), .p (.bin .neq (.s 11) (.c (.v (.int .i64 0)))), none, 0⟩,
  ⟨(some 13), .p (.mov (.s 12)), none, 0⟩,
  ⟨(some 14), .p (.fieldAddr 0 none (.s 2)), (some (13, false)), 0⟩,
  ⟨(some 15), .m (.load none (.s 14)), (some (13, false)), 0⟩,
  ⟨(some 16), .p (.bin .neq (.s 15) (.c (.v (.int .i64 5)))), (some (13, false)), 0⟩,
  ⟨(some 17), .p (.pick (.s 13) (.c (.v (.bool true))) (.s 16)), none, 0⟩]) c16_2)
def c16_4 : List AOper := [
  ⟨(some 4), .p (.mov (.s 23)), none, 0⟩]
def c16_5 : ACode := (.seq (.ops (⟨(some 19), .p (.fieldAddr 1 none (.s 2)), none, 0⟩ ::
  ⟨(some 20), .m (.load none (.s 19)), none, 0⟩ ::
  ⟨(some 21), .p (.fieldAddr 1 none (.s 3)), none, 0⟩ ::
  ⟨(some 22), .m (.load none (.s 21)), none, 0⟩ ::
  ⟨(some 23), .call (.c (.fn 30 [])) [(.s 20), (.s 22)], none, 0⟩ :: c16_4)) .ret)
def c16_6 : ACode := (.seq (.seq (.seq (.draw [
  ⟨(some 6), .m (.load (some 3) (.s 2)), none, 0⟩,
  ⟨(some 7), .qcall (.c (.fn 14 [])) [(.s 6)], none, 0⟩,
  ⟨(some 8), .m (.load (some 3) (.s 3)), none, 0⟩]) c16_1) c16_3) c16_5)
def c16 : ACode := (.seq (.ops [
  ⟨(some 2), .m (.box (.s 0)), none, 0⟩,
  ⟨(some 3), .m (.box (.s 1)), none, 0⟩,
  ⟨(some 4), .p (.mov (.c (.v (.int .i64 0)))), none, 0⟩]) c16_6)
theorem t16 : trC Try.prog Try.f16.ntmps (bodyOf Try.f16) = some c16 := by kernel_rfl
theorem r16 : Try.f16.results.toList.mapM (trR Try.prog) = some [.tmp 4] := by kernel_rfl
def i16 : FI := ⟨24, c16, [.tmp 4]⟩
theorem k16 : Knows Try.prog 16 i16 := ⟨Try.f16, bodyOf Try.f16, Try.func16, by kernel_rfl, by kernel_rfl, t16, r16, by kernel_rfl⟩
-- 17 drover/droverref06.place []
def c17_0 : ACode := (.cond (.s 13) (.seq (.ops [
  ⟨(some 2), .p (.mov (.c (.v (.int .i64 4)))), none, 0⟩]) .ret) .skip)
def c17_1 : ACode := (.cond (.s 11) (.seq (.ops [
  ⟨(some 2), .p (.mov (.c (.v (.int .i64 3)))), none, 0⟩]) .ret) (.seq (.ops [
  ⟨(some 14), .p (.bin .eql (.s 4) (.c (.v (.int .i64 1)))), none, 0⟩,
  ⟨(some 13), .p (.mov (.s 14)), none, 0⟩]) c17_0))
def c17_2 : ACode := (.cond (.s 9) (.seq (.ops [
  ⟨(some 2), .p (.mov (.c (.v (.int .i64 2)))), none, 0⟩]) .ret) (.seq (.ops [
  ⟨(some 12), .p (.bin .eql (.s 4) (.c (.v (.int .i64 2)))), none, 0⟩,
  ⟨(some 11), .p (.mov (.s 12)), none, 0⟩]) c17_1))
def c17_3 : ACode := (.cond (.s 7) (.seq (.ops [
  ⟨(some 2), .p (.mov (.c (.v (.int .i64 1)))), none, 0⟩]) .ret) (.seq (.ops [
  ⟨(some 10), .p (.bin .eql (.s 4) (.c (.v (.int .i64 5)))), none, 0⟩,
  ⟨(some 9), .p (.mov (.s 10)), none, 0⟩]) c17_2))
def c17_4 : ACode := (.cond (.s 5) (.seq (.ops [
  ⟨(some 2), .p (.mov (.c (.v (.int .i64 0)))), none, 0⟩]) .ret) (.seq (.ops [
  ⟨(some 8), .p (.bin .eql (.s 4) (.c (.v (.int .i64 3)))), none, 0⟩,
  ⟨(some 7), .p (.mov (.s 8)), none, 0⟩]) c17_3))
def c17_5 : ACode := (.block 0 (.seq (.ops [
  ⟨(some 6), .p (.bin .eql (.s 4) (.c (.v (.int .i64 4)))), none, 0⟩,
  ⟨(some 5), .p (.mov (.s 6)), none, 0⟩]) c17_4))
def c17_6 : ACode := (.seq (.ops [
  ⟨(some 2), .p (.mov (.c (.v (.int .i64 (-1))))), none, 0⟩]) .ret)
def c17_7 : ACode := (.seq (.seq (.ops [
  ⟨(some 3), .p (.fieldAddr 0 none (.s 1)), none, 0⟩,
  ⟨(some 4), .m (.load none (.s 3)), none, 0⟩]) c17_5) c17_6)
def c17 : ACode := (.seq (.ops [
  ⟨(some 1), .m (.box (.s 0)), none, 0⟩,
  ⟨(some 2), .p (.mov (.c (.v (.int .i64 0)))), none, 0⟩]) c17_7)
theorem t17 : trC Try.prog Try.f17.ntmps (bodyOf Try.f17) = some c17 := by kernel_rfl
theorem r17 : Try.f17.results.toList.mapM (trR Try.prog) = some [.tmp 2] := by kernel_rfl
def i17 : FI := ⟨15, c17, [.tmp 2]⟩
theorem k17 : Knows Try.prog 17 i17 := ⟨Try.f17, bodyOf Try.f17, Try.func17, by kernel_rfl, by kernel_rfl, t17, r17, by kernel_rfl⟩
-- 18 drover/droverref06.alike []
def c18_0 : ACode := (.seq (.ops [
  ⟨(some 5), .p (.fieldAddr 0 none (.s 2)), none, 0⟩,
  ⟨(some 6), .m (.load none (.s 5)), none, 0⟩,
  ⟨(some 7), .p (.fieldAddr 0 none (.s 3)), none, 0⟩,
  ⟨(some 8), .m (.load none (.s 7)), none, 0⟩,
  ⟨(some 9), .p (.bin .eql (.s 6) (.s 8)), none, 0⟩,
  ⟨(some 10), .p (.mov (.s 9)), none, 0⟩,
  ⟨(some 11), .p (.fieldAddr 0 none (.s 2)), (some (10, true)), 0⟩,
  ⟨(some 12), .m (.load none (.s 11)), (some (10, true)), 0⟩,
  ⟨(some 13), .p (.bin .neq (.s 12) (.c (.v (.int .i64 5)))), (some (10, true)), 0⟩,
  ⟨(some 14), .p (.mov (.s 13)), (some (10, true)), 0⟩,
  ⟨(some 15), .p (.fieldAddr 1 none (.s 2)), (some (14, false)), 0⟩,
  ⟨(some 16), .m (.load none (.s 15)), (some (14, false)), 0⟩,
  ⟨(some 17), .p (.fieldAddr 1 none (.s 3)), (some (14, false)), 0⟩,
  ⟨(some 18), .m (.load none (.s 17)), (some (14, false)), 0⟩,
  ⟨(some 19), .p (.bin .eql (.s 16) (.s 18)), (some (14, false)), 0⟩,
  ⟨(some 20), .p (.pick (.s 14) (.c (.v (.bool true))) (.s 19)), (some (10, true)), 0⟩,
  ⟨(some 21), .p (.pick (.s 10) (.s 20) (.c (.v (.bool false)))), none, 0⟩,
  ⟨(some 4), .p (.mov (.s 21)), none, 0⟩]) .ret)
def c18 : ACode := (.seq (.ops [
  ⟨(some 2), .m (.box (.s 0)), none, 0⟩,
  ⟨(some 3), .m (.box (.s 1)), none, 0⟩,
  ⟨(some 4), .p (.mov (.c (.v (.bool false)))), none, 0⟩]) c18_0)
theorem t18 : trC Try.prog Try.f18.ntmps (bodyOf Try.f18) = some c18 := by kernel_rfl
theorem r18 : Try.f18.results.toList.mapM (trR Try.prog) = some [.tmp 4] := by kernel_rfl
def i18 : FI := ⟨22, c18, [.tmp 4]⟩
theorem k18 : Knows Try.prog 18 i18 := ⟨Try.f18, bodyOf Try.f18, Try.func18, by kernel_rfl, by kernel_rfl, t18, r18, by kernel_rfl⟩
-- 19 drover/droverref06.ahead []
def c19_0 : ACode := (.draw [
  ⟨(some 9), .p (.bin .lss (.s 6) (.s 8)), none, 0⟩,
  ⟨(some 10), .p (.mov (.s 9)), none, 0⟩,
  ⟨(some 11), .m (.load (some 3) (.s 2)), (some (10, false)), 0⟩,
  ⟨(some 12), .qcall (.c (.fn 17 [])) [(.s 11)], (some (10, false)), 0⟩,
  ⟨(some 13), .m (.load (some 3) (.s 3)), (some (10, false)), 0⟩,
  ⟨(some 14), .call (.c (.fn 17 [])) [(.s 13)], (some (10, false)), 0⟩,
  ⟨(some 15), .p (.bin .eql (.s 12) (.s 14)), (some (10, false)), 0⟩,
  ⟨(some 16), .p (.mov (.s 15)), (some (10, false)), 0⟩,
  ⟨(some 17), .p (.fieldAddr 0 none (.s 2)), (some (16, true)), 0⟩,
  ⟨(some 18), .m (.load none (.s 17)), (some (16, true)), 0⟩,
  ⟨(some 19), .p (.bin .eql (.s 18) (.c (.v (.int .i64 5)))), (some (16, true)), 0⟩,
  ⟨(some 20), .p (.pick (.s 16) (.s 19) (.c (.v (.bool false)))), (some (10, false)), 0⟩,
  ⟨(some 21), .p (.mov (.s 20)), (some (10, false)), 0⟩,
  ⟨(some 22), .p (.fieldAddr 1 none (.s 2)), (some (21, true)), 0⟩,
  ⟨(some 23), .m (.load none (.s 22)), (some (21, true)), 0⟩,
  ⟨(some 24), .p (.fieldAddr 1 none (.s 3)), (some (21, true)), 0⟩,
  ⟨(some 25), .m (.load none (.s 24)), (some (21, true)), 0⟩,
  ⟨(some 26), .p (.bin .lss (.s 23) (.s 25)), (some (21, true)), 0⟩,
  ⟨(some 27), .p (.pick (.s 21) (.s 26) (.c (.v (.bool false)))), (some (10, false)), 0⟩,
  ⟨(some 28), .p (.pick (.s 10) (.c (.v (.bool true))) (.s 27)), none, 0⟩,
  ⟨(some 4), .p (.mov (.s 28)), none, 0⟩])
def c19_1 : ACode := (.seq (.ops [
  ⟨(some 8), .call (.c (.fn 17 [])) [(.s 7)], none, 0⟩]) c19_0)
def c19_2 : ACode := (.seq (.seq (.draw [
  ⟨(some 5), .m (.load (some 3) (.s 2)), none, 0⟩,
  ⟨(some 6), .qcall (.c (.fn 17 [])) [(.s 5)], none, 0⟩,
  ⟨(some 7), .m (.load (some 3) (.s 3)), none, 0⟩]) c19_1) .ret)
def c19 : ACode := (.seq (.ops [
  ⟨(some 2), .m (.box (.s 0)), none, 0⟩,
  ⟨(some 3), .m (.box (.s 1)), none, 0⟩,
  ⟨(some 4), .p (.mov (.c (.v (.bool false)))), none, 0⟩]) c19_2)
theorem t19 : trC Try.prog Try.f19.ntmps (bodyOf Try.f19) = some c19 := by kernel_rfl
theorem r19 : Try.f19.results.toList.mapM (trR Try.prog) = some [.tmp 4] := by kernel_rfl
def i19 : FI := ⟨29, c19, [.tmp 4]⟩
theorem k19 : Knows Try.prog 19 i19 := ⟨Try.f19, bodyOf Try.f19, Try.func19, by kernel_rfl, by kernel_rfl, t19, r19, by kernel_rfl⟩
-- 20 slices.ContainsFunc[[]drover/api.Action,drover/api.Action] []
def c20_0 : List AOper := [
  ⟨(some 8), .p (.bin .geq (.s 7) (.c (.v (.int .i64 0)))), none, 0⟩,
  ⟨(some 4), .p (.mov (.s 8)), none, 0⟩]
def c20_1 : ACode := (.seq (.ops (⟨(some 5), .p (.mov (.s 0)), none, 0⟩ ::
  ⟨(some 6), .p (.mov (.s 1)), none, 0⟩ ::
  ⟨(some 7), .call (.c (.fn 27 [])) [(.s 5), (.s 6)], none, 29⟩ :: c20_0)) .ret)
def c20 : ACode := (.seq (.ops [
  ⟨(some 4), .p (.mov (.c (.v (.bool false)))), none, 0⟩]) c20_1)
theorem t20 : trC Try.prog Try.f20.ntmps (bodyOf Try.f20) = some c20 := by kernel_rfl
theorem r20 : Try.f20.results.toList.mapM (trR Try.prog) = some [.tmp 4] := by kernel_rfl
def i20 : FI := ⟨9, c20, [.tmp 4]⟩
theorem k20 : Knows Try.prog 20 i20 := ⟨Try.f20, bodyOf Try.f20, Try.func20, by kernel_rfl, by kernel_rfl, t20, r20, by kernel_rfl⟩
-- 21 drover/act.Encode$1 []
def c21_0 : List AOper := [
  ⟨(some 5), .p (.un .not (.s 4)), none, 0⟩,
  ⟨(some 2), .p (.mov (.s 5)), none, 0⟩]
def c21_1 : ACode := (.seq (.ops (⟨(some 3), .m (.load (some 3) (.s 1)), none, 0⟩ ::
  ⟨(some 4), .call (.c (.fn 22 [])) [(.s 3)], none, 0⟩ :: c21_0)) .ret)
def c21 : ACode := (.seq (.ops [
  ⟨(some 1), .m (.box (.s 0)), none, 0⟩,
  ⟨(some 2), .p (.mov (.c (.v (.bool false)))), none, 0⟩]) c21_1)
theorem t21 : trC Try.prog Try.f21.ntmps (bodyOf Try.f21) = some c21 := by kernel_rfl
theorem r21 : Try.f21.results.toList.mapM (trR Try.prog) = some [.tmp 2] := by kernel_rfl
def i21 : FI := ⟨6, c21, [.tmp 2]⟩
theorem k21 : Knows Try.prog 21 i21 := ⟨Try.f21, bodyOf Try.f21, Try.func21, by kernel_rfl, by kernel_rfl, t21, r21, by kernel_rfl⟩
-- 22 drover/act.Right []
def c22_0 : ACode := (.cond (.s 7) .skip (.ops [
  ⟨(some 9), .p (.bin .eql (.s 6) (.c (.v (.int .i64 2)))), none, 0⟩,
  ⟨(some 7), .p (.mov (.s 9)), none, 0⟩]))
def c22_1 : ACode := (.cond (.s 24) .skip (.ops [
  ⟨(some 26), .p (.bin .eql (.s 6) (.c (.v (.int .i64 4)))), none, 0⟩,
  ⟨(some 24), .p (.mov (.s 26)), none, 0⟩]))
def c22_2 : List AOper := [
  ⟨(some 37), .p (.mov (.s 40)), none, 0⟩,
  ⟨(some 41), .p (.extract (.s 37) 0), none, 0⟩,
  ⟨(some 42), .p (.extract (.s 37) 1), none, 0⟩,
  ⟨(some 3), .p (.mov (.s 41)), none, 0⟩,
  ⟨(some 4), .p (.mov (.s 42)), none, 0⟩]
def c22_3 : ACode := (.seq (.draw [
  ⟨(some 43), .p (.mov (.s 4)), none, 0⟩,
  ⟨(some 44), .p (.bin .gtr (.s 43) (.c (.v (.int .i64 0)))), none, 0⟩,
  ⟨(some 45), .p (.mov (.s 44)), none, 0⟩,
  ⟨(some 46), .p (.fieldAddr 2 none (.s 1)), (some (45, true)), 0⟩,
  ⟨(some 47), .m (.load none (.s 46)), (some (45, true)), 0⟩,
  ⟨(some 48), .p (.fieldAddr 1 none (.s 1)), (some (45, true)), 0⟩,
  ⟨(some 49), .m (.load none (.s 48)), (some (45, true)), 0⟩,
  ⟨(some 50), .qcall (.c (.fn 32 [])) [(.s 49)], (some (45, true)), 0⟩,
  ⟨(some 51), .p (.bin .shr (.s 47) (.s 50)), (some (45, true)), 0⟩,
  ⟨(some 52), .p (.bin .eql (.s 51) (.c (.v (.int .u64 0)))), (some (45, true)), 0⟩,
  ⟨(some 53), .p (.pick (.s 45) (.s 52) (.c (.v (.bool false)))), none, 0⟩,
  ⟨(some 54), .p (.mov (.s 53)), none, 0⟩,
  ⟨(some 55), .p (.fieldAddr 1 none (.s 1)), (some (54, true)), 0⟩,
  ⟨(some 56), .m (.load none (.s 55)), (some (54, true)), 0⟩,
  ⟨(some 57), .p (.bin .neq (.s 56) (.c (.v (.int .i64 3)))), (some (54, true)), 0⟩,
  ⟨(some 58), .p (.mov (.s 57)), (some (54, true)), 0⟩,
  ⟨(some 59), .p (.fieldAddr 2 none (.s 1)), (some (58, false)), 0⟩,
  ⟨(some 60), .m (.load none (.s 59)), (some (58, false)), 0⟩,
  ⟨(some 61), .p (.bin .geq (.s 60) (.c (.v (.int .u64 4096)))), (some (58, false)), 0⟩,
  ⟨(some 62), .p (.pick (.s 58) (.c (.v (.bool true))) (.s 61)), (some (54, true)), 0⟩,
  ⟨(some 63), .p (.pick (.s 54) (.s 62) (.c (.v (.bool false)))), none, 0⟩,
  ⟨(some 2), .p (.mov (.s 63)), none, 0⟩]) .ret)
def c22_4 : ACode := (.cond (.s 35) (.seq (.ops (⟨(some 38), .p (.fieldAddr 1 none (.s 1)), none, 0⟩ ::
  ⟨(some 39), .m (.load none (.s 38)), none, 0⟩ ::
  ⟨(some 40), .call (.c (.fn 31 [])) [(.s 39)], none, 0⟩ :: c22_2)) c22_3) .skip)
def c22_5 : ACode := (.cond (.s 24) (.seq (.ops [
  ⟨(some 27), .p (.fieldAddr 1 none (.s 1)), none, 0⟩,
  ⟨(some 28), .m (.load none (.s 27)), none, 0⟩,
  ⟨(some 29), .p (.bin .eql (.s 28) (.c (.v (.int .i64 0)))), none, 0⟩,
  ⟨(some 30), .p (.mov (.s 29)), none, 0⟩,
  ⟨(some 31), .p (.fieldAddr 2 none (.s 1)), (some (30, true)), 0⟩,
  ⟨(some 32), .m (.load none (.s 31)), (some (30, true)), 0⟩,
  ⟨(some 33), .p (.bin .eql (.s 32) (.c (.v (.int .u64 0)))), (some (30, true)), 0⟩,
  ⟨(some 34), .p (.pick (.s 30) (.s 33) (.c (.v (.bool false)))), none, 0⟩,
  ⟨(some 2), .p (.mov (.s 34)), none, 0⟩]) .ret) (.seq (.ops [
  ⟨(some 36), .p (.bin .eql (.s 6) (.c (.v (.int .i64 5)))), none, 0⟩,
  ⟨(some 35), .p (.mov (.s 36)), none, 0⟩]) c22_4))
def c22_6 : ACode := (.cond (.s 7) (.seq (.ops [
  ⟨(some 10), .p (.fieldAddr 1 none (.s 1)), none, 0⟩,
  ⟨(some 11), .m (.load none (.s 10)), none, 0⟩,
  ⟨(some 12), .p (.bin .eql (.s 11) (.c (.v (.int .i64 0)))), none, 0⟩,
  ⟨(some 13), .p (.mov (.s 12)), none, 0⟩,
  ⟨(some 14), .p (.fieldAddr 2 none (.s 1)), (some (13, true)), 0⟩,
  ⟨(some 15), .m (.load none (.s 14)), (some (13, true)), 0⟩,
  ⟨(some 16), .p (.bin .geq (.s 15) (.c (.v (.int .u64 1)))), (some (13, true)), 0⟩,
  ⟨(some 17), .p (.pick (.s 13) (.s 16) (.c (.v (.bool false)))), none, 0⟩,
  ⟨(some 18), .p (.mov (.s 17)), none, 0⟩,
  ⟨(some 19), .p (.fieldAddr 2 none (.s 1)), (some (18, true)), 0⟩,
  ⟨(some 20), .m (.load none (.s 19)), (some (18, true)), 0⟩,
  ⟨(some 21), .p (.bin .shr (.s 20) (.c (.v (.int .u64 32)))), (some (18, true)), 0⟩,
  ⟨(some 22), .p (.bin .eql (.s 21) (.c (.v (.int .u64 0)))), (some (18, true)), 0⟩,
  ⟨(some 23), .p (.pick (.s 18) (.s 22) (.c (.v (.bool false)))), none, 0⟩,
  ⟨(some 2), .p (.mov (.s 23)), none, 0⟩]) .ret) (.seq (.seq (.ops [
  ⟨(some 25), .p (.bin .eql (.s 6) (.c (.v (.int .i64 3)))), none, 0⟩,
  ⟨(some 24), .p (.mov (.s 25)), none, 0⟩]) c22_1) c22_5))
def c22_7 : ACode := (.block 0 (.seq (.seq (.ops [
  ⟨(some 8), .p (.bin .eql (.s 6) (.c (.v (.int .i64 1)))), none, 0⟩,
  ⟨(some 7), .p (.mov (.s 8)), none, 0⟩]) c22_0) c22_6))
def c22_8 : ACode := (.seq (.ops [
  ⟨(some 2), .p (.mov (.c (.v (.bool false)))), none, 0⟩]) .ret)
def c22_9 : ACode := (.seq (.seq (.ops [
  ⟨(some 5), .p (.fieldAddr 0 none (.s 1)), none, 0⟩,
  ⟨(some 6), .m (.load none (.s 5)), none, 0⟩]) c22_7) c22_8)
def c22 : ACode := (.seq (.ops [
  ⟨(some 1), .m (.box (.s 0)), none, 0⟩,
  ⟨(some 2), .p (.mov (.c (.v (.bool false)))), none, 0⟩]) c22_9)
theorem t22 : trC Try.prog Try.f22.ntmps (bodyOf Try.f22) = some c22 := by kernel_rfl
theorem r22 : Try.f22.results.toList.mapM (trR Try.prog) = some [.tmp 2] := by kernel_rfl
def i22 : FI := ⟨64, c22, [.tmp 2]⟩
theorem k22 : Knows Try.prog 22 i22 := ⟨Try.f22, bodyOf Try.f22, Try.func22, by kernel_rfl, by kernel_rfl, t22, r22, by kernel_rfl⟩
-- 24 drover/act.laid []
def c24_0 : List AOper := [
  ⟨(some 33), .p (.bin .add (.s 31) (.s 32)), none, 0⟩,
  ⟨(some 34), .p (.bin .add (.s 33) (.c (.v (.string ⟨#[129, 0, 0, 0]⟩)))), none, 0⟩,
  ⟨(some 2), .p (.mov (.s 34)), none, 0⟩]
def c24_1 : List AOper := (⟨(some 32), .call (.c (.fn 34 [])) [(.c (.v (.int .u64 8))), (.c (.v (.int .i64 2)))], none, 0⟩ :: c24_0)
def c24_2 : List AOper := [
  ⟨(some 41), .p (.bin .add (.s 39) (.s 40)), none, 0⟩,
  ⟨(some 2), .p (.mov (.s 41)), none, 0⟩]
def c24_3 : List AOper := (⟨(some 39), .p (.bin .add (.s 37) (.s 38)), none, 0⟩ ::
  ⟨(some 40), .call (.c (.fn 34 [])) [(.c (.v (.int .u64 0))), (.c (.v (.int .i64 4)))], none, 0⟩ :: c24_2)
def c24_4 : List AOper := (⟨(some 38), .call (.c (.fn 34 [])) [(.c (.v (.int .u64 8))), (.c (.v (.int .i64 2)))], none, 0⟩ :: c24_3)
def c24_5 : ACode := (.cond (.s 35) (.seq (.ops (⟨(some 37), .call (.c (.fn 34 [])) [(.c (.v (.int .u64 18))), (.c (.v (.int .i64 2)))], none, 0⟩ :: c24_4)) .ret) .skip)
def c24_6 : ACode := (.cond (.s 29) (.seq (.ops (⟨(some 31), .call (.c (.fn 34 [])) [(.c (.v (.int .u64 17))), (.c (.v (.int .i64 2)))], none, 0⟩ :: c24_1)) .ret) (.seq (.ops [
  ⟨(some 36), .p (.bin .eql (.s 7) (.c (.v (.int .i64 4)))), none, 0⟩,
  ⟨(some 35), .p (.mov (.s 36)), none, 0⟩]) c24_5))
def c24_7 : ACode := (.cond (.s 20) (.seq (.draw [
  ⟨(some 22), .qcall (.c (.fn 34 [])) [(.c (.v (.int .u64 22))), (.c (.v (.int .i64 2)))], none, 0⟩,
  ⟨(some 23), .qcall (.c (.fn 34 [])) [(.c (.v (.int .u64 8))), (.c (.v (.int .i64 2)))], none, 0⟩,
  ⟨(some 24), .p (.bin .add (.s 22) (.s 23)), none, 0⟩,
  ⟨(some 25), .p (.fieldAddr 2 none (.s 1)), none, 0⟩,
  ⟨(some 26), .m (.load none (.s 25)), none, 0⟩,
  ⟨(some 27), .call (.c (.fn 34 [])) [(.s 26), (.c (.v (.int .i64 4)))], none, 0⟩,
  ⟨(some 28), .p (.bin .add (.s 24) (.s 27)), none, 0⟩,
  ⟨(some 2), .p (.mov (.s 28)), none, 0⟩]) .ret) (.seq (.ops [
  ⟨(some 30), .p (.bin .eql (.s 7) (.c (.v (.int .i64 3)))), none, 0⟩,
  ⟨(some 29), .p (.mov (.s 30)), none, 0⟩]) c24_6))
def c24_8 : ACode := (.cond (.s 8) (.seq (.draw [
  ⟨(some 10), .qcall (.c (.fn 34 [])) [(.c (.v (.int .u64 0))), (.c (.v (.int .i64 2)))], none, 0⟩,
  ⟨(some 11), .qcall (.c (.fn 34 [])) [(.c (.v (.int .u64 16))), (.c (.v (.int .i64 2)))], none, 0⟩,
  ⟨(some 12), .p (.bin .add (.s 10) (.s 11)), none, 0⟩,
  ⟨(some 13), .p (.fieldAddr 2 none (.s 1)), none, 0⟩,
  ⟨(some 14), .m (.load none (.s 13)), none, 0⟩,
  ⟨(some 15), .call (.c (.fn 34 [])) [(.s 14), (.c (.v (.int .i64 4)))], none, 0⟩,
  ⟨(some 16), .p (.bin .add (.s 12) (.s 15)), none, 0⟩,
  ⟨(some 17), .p (.bin .add (.s 16) (.c (.v (.string ⟨#[255, 255]⟩)))), none, 0⟩,
  ⟨(some 18), .call (.c (.fn 34 [])) [(.c (.v (.int .u64 0))), (.c (.v (.int .i64 6)))], none, 0⟩,
  ⟨(some 19), .p (.bin .add (.s 17) (.s 18)), none, 0⟩,
  ⟨(some 2), .p (.mov (.s 19)), none, 0⟩]) .ret) (.seq (.ops [
  ⟨(some 21), .p (.bin .eql (.s 7) (.c (.v (.int .i64 2)))), none, 0⟩,
  ⟨(some 20), .p (.mov (.s 21)), none, 0⟩]) c24_7))
def c24_9 : ACode := (.block 0 (.seq (.ops [
  ⟨(some 9), .p (.bin .eql (.s 7) (.c (.v (.int .i64 1)))), none, 0⟩,
  ⟨(some 8), .p (.mov (.s 9)), none, 0⟩]) c24_8))
def c24_10 : List AOper := [
  ⟨(some 42), .p (.mov (.s 45)), none, 0⟩,
  ⟨(some 46), .p (.extract (.s 42) 0), none, 0⟩,
  ⟨(some 47), .p (.extract (.s 42) 1), none, 0⟩,
  ⟨(some 3), .p (.mov (.s 46)), none, 0⟩,
  ⟨(some 4), .p (.mov (.s 47)), none, 0⟩]
def c24_11 : List AOper := [
  ⟨(some 70), .p (.bin .add (.s 65) (.s 69)), none, 0⟩,
  ⟨(some 2), .p (.mov (.s 70)), none, 0⟩]
def c24_12 : ACode := (.seq (.ops (⟨(some 65), .p (.mov (.s 5)), none, 0⟩ ::
  ⟨(some 66), .p (.mov (.s 5)), none, 0⟩ ::
  ⟨(some 67), .p (.len true (.s 66)), none, 0⟩ ::
  ⟨(some 68), .p (.bin .sub (.c (.v (.int .i64 16))) (.s 67)), none, 0⟩ ::
  ⟨(some 69), .call (.c (.fn 35 [])) [(.c (.v (.string ⟨#[0]⟩))), (.s 68)], none, 0⟩ :: c24_11)) .ret)
def c24_13 : ACode := (.seq (.draw [
  ⟨(some 48), .qcall (.c (.fn 34 [])) [(.c (.v (.int .u64 25))), (.c (.v (.int .i64 2)))], none, 0⟩,
  ⟨(some 49), .qcall (.c (.fn 34 [])) [(.c (.v (.int .u64 16))), (.c (.v (.int .i64 2)))], none, 0⟩,
  ⟨(some 50), .p (.bin .add (.s 48) (.s 49)), none, 0⟩,
  ⟨(some 51), .p (.bin .add (.s 50) (.c (.v (.string ⟨#[128, 0]⟩)))), none, 0⟩,
  ⟨(some 52), .p (.mov (.s 3)), none, 0⟩,
  ⟨(some 53), .p (.bin .mul (.c (.v (.int .u64 2))) (.s 52)), none, 0⟩,
  ⟨(some 54), .qcall (.c (.fn 34 [])) [(.s 53), (.c (.v (.int .i64 1)))], none, 0⟩,
  ⟨(some 55), .p (.bin .add (.s 51) (.s 54)), none, 0⟩,
  ⟨(some 56), .p (.mov (.s 4)), none, 0⟩,
  ⟨(some 57), .p (.cint .u64 (.s 56)), none, 0⟩,
  ⟨(some 58), .qcall (.c (.fn 34 [])) [(.s 57), (.c (.v (.int .i64 1)))], none, 0⟩,
  ⟨(some 59), .p (.bin .add (.s 55) (.s 58)), none, 0⟩,
  ⟨(some 60), .p (.fieldAddr 2 none (.s 1)), none, 0⟩,
  ⟨(some 61), .m (.load none (.s 60)), none, 0⟩,
  ⟨(some 62), .p (.mov (.s 4)), none, 0⟩,
  ⟨(some 63), .call (.c (.fn 34 [])) [(.s 61), (.s 62)], none, 0⟩,
  ⟨(some 64), .p (.bin .add (.s 59) (.s 63)), none, 0⟩,
  ⟨(some 5), .p (.mov (.s 64)), none, 0⟩]) c24_12)
def c24_14 : ACode := (.seq (.ops (⟨(some 43), .p (.fieldAddr 1 none (.s 1)), none, 0⟩ ::
  ⟨(some 44), .m (.load none (.s 43)), none, 0⟩ ::
  ⟨(some 45), .call (.c (.fn 31 [])) [(.s 44)], none, 0⟩ :: c24_10)) c24_13)
def c24_15 : ACode := (.seq (.seq (.ops [
  ⟨(some 6), .p (.fieldAddr 0 none (.s 1)), none, 0⟩,
  ⟨(some 7), .m (.load none (.s 6)), none, 0⟩]) c24_9) c24_14)
def c24 : ACode := (.seq (.ops [
  ⟨(some 1), .m (.box (.s 0)), none, 0⟩,
  ⟨(some 2), .p (.mov (.c (.v (.string ⟨#[]⟩)))), none, 0⟩]) c24_15)
theorem t24 : trC Try.prog Try.f24.ntmps (bodyOf Try.f24) = some c24 := by kernel_rfl
theorem r24 : Try.f24.results.toList.mapM (trR Try.prog) = some [.tmp 2] := by kernel_rfl
def i24 : FI := ⟨71, c24, [.tmp 2]⟩
theorem k24 : Knows Try.prog 24 i24 := ⟨Try.f24, bodyOf Try.f24, Try.func24, by kernel_rfl, by kernel_rfl, t24, r24, by kernel_rfl⟩
-- 26 slices.Grow[[]drover/api.Action,drover/api.Action] []
def c26_0 : ACode := (.cond (.s 6) (.ops [
  ⟨(some 7), .p (.mkIfc 9 (.c (.v (.string ⟨#[99, 97, 110, 110, 111, 116, 32, 98, 101, 32, 110, 101, 103, 97, 116, 105, 118, 101]⟩)))), none, 0⟩,
  ⟨none, .never, none, 0⟩]) .skip)
def c26_1 : ACode := (.cond (.s 16) (.ops [
  ⟨(some 17), .p (.mov (.s 0)), none, 0⟩,
  ⟨(some 18), .p (.mov (.s 0)), none, 0⟩,
  ⟨(some 19), .m (.ext (.capK (.s 18))), none, 29⟩,
  ⟨(some 20), .p (.slSl 3 (.s 17) none (some (.s 19)) none), none, 0⟩,
  ⟨(some 21), .p (.mov (.s 1)), none, 0⟩,
  ⟨(some 22), .m (.appendZ 3 24 [(.v (.int .i64 0)), (.v (.int .i64 0)), (.v (.int .u64 0))] (.s 20) (.s 21)), none, 29⟩,
  ⟨(some 23), .p (.mov (.s 0)), none, 0⟩,
  ⟨(some 24), .p (.len false (.s 23)), none, 29⟩,
  ⟨(some 25), .p (.slSl 3 (.s 22) none (some (.s 24)) none), none, 0⟩,
  ⟨(some 0), .p (.mov (.s 25)), none, 0⟩]) .skip)
def c26_2 : ACode := (.seq (.ops [
  ⟨(some 15), .p (.mov (.s 1)), none, 0⟩,
  ⟨(some 16), .p (.bin .gtr (.s 15) (.c (.v (.int .i64 0)))), none, 0⟩]) c26_1)
def c26_3 : ACode := (.seq (.ops [
  ⟨(some 26), .p (.mov (.s 0)), none, 0⟩,
  ⟨(some 4), .p (.mov (.s 26)), none, 0⟩]) .ret)
def c26_4 : ACode := (.seq (.seq (.ops [
  ⟨(some 8), .p (.mov (.s 1)), none, 0⟩,
  ⟨(some 9), .p (.mov (.s 0)), none, 0⟩,
  ⟨(some 10), .m (.ext (.capK (.s 9))), none, 29⟩,
  ⟨(some 11), .p (.mov (.s 0)), none, 0⟩,
  ⟨(some 12), .p (.len false (.s 11)), none, 29⟩,
  ⟨(some 13), .p (.bin .sub (.s 10) (.s 12)), none, 0⟩,
  ⟨(some 14), .p (.bin .sub (.s 8) (.s 13)), none, 0⟩,
  ⟨(some 1), .p (.mov (.s 14)), none, 0⟩]) c26_2) c26_3)
def c26_5 : ACode := (.seq (.seq (.ops [
  ⟨(some 5), .p (.mov (.s 1)), none, 0⟩,
  ⟨(some 6), .p (.bin .lss (.s 5) (.c (.v (.int .i64 0)))), none, 0⟩]) c26_0) c26_4)
def c26 : ACode := (.seq (.ops [
  ⟨(some 4), .p (.mov (.c (.v (.slice none 0 0)))), none, 0⟩]) c26_5)
theorem t26 : trC Try.prog Try.f26.ntmps (bodyOf Try.f26) = some c26 := by kernel_rfl
theorem r26 : Try.f26.results.toList.mapM (trR Try.prog) = some [.tmp 4] := by kernel_rfl
def i26 : FI := ⟨27, c26, [.tmp 4]⟩
theorem k26 : Knows Try.prog 26 i26 := ⟨Try.f26, bodyOf Try.f26, Try.func26, by kernel_rfl, by kernel_rfl, t26, r26, by kernel_rfl⟩
-- 27 slices.IndexFunc[[]drover/api.Action,drover/api.Action] []
def c27_0 : ACode := (.cond (.s 16) (.seq (.ops [
  ⟨(some 17), .p (.mov (.s 5)), none, 0⟩,
  ⟨(some 4), .p (.mov (.s 17)), none, 0⟩]) .ret) .skip)
def c27_1 : ACode := (.seq (.ops [
  ⟨(some 11), .p (.mov (.s 1)), none, 0⟩,
  ⟨(some 12), .p (.mov (.s 0)), none, 0⟩,
  ⟨(some 13), .p (.mov (.s 5)), none, 0⟩,
  ⟨(some 14), .p (.adrSl 3 (.s 12) (.s 13)), none, 0⟩,
  ⟨(some 15), .m (.load (some 3) (.s 14)), none, 0⟩,
  ⟨(some 16), .call (.s 11) [(.s 15)], none, 0⟩]) c27_0)
def c27_2 : ACode := (.ops [
  ⟨(some 18), .p (.bin .add (.s 8) (.c (.v (.int .i64 1)))), none, 0⟩,
  ⟨(some 8), .p (.mov (.s 18)), none, 0⟩])
def c27_3 : ACode := (.seq (.block 1 (.seq (.ops [
  ⟨(some 10), .p (.mov (.s 8)), none, 0⟩,
  ⟨(some 5), .p (.mov (.s 10)), none, 0⟩]) c27_1)) c27_2)
def c27_4 : ACode := (.seq (.cond (.s 9) .skip (.exit 0)) c27_3)
def c27_5 : ACode := (.seq (.ops [
  ⟨(some 9), .p (.bin .lss (.s 8) (.s 7)), none, 0⟩]) c27_4)
def c27_6 : ACode := (.block 0 (.loop c27_5))
def c27_7 : ACode := (.seq (.ops [
  ⟨(some 4), .p (.mov (.c (.v (.int .i64 (-1))))), none, 0⟩]) .ret)
def c27_8 : ACode := (.seq (.seq (.ops [
  ⟨(some 6), .p (.mov (.s 0)), none, 0⟩,
  ⟨(some 7), .p (.len false (.s 6)), none, 29⟩,
  ⟨(some 8), .p (.mov (.c (.v (.int .i64 0)))), none, 0⟩]) c27_6) c27_7)
def c27 : ACode := (.seq (.ops [
  ⟨(some 4), .p (.mov (.c (.v (.int .i64 0)))), none, 0⟩]) c27_8)
theorem t27 : trC Try.prog Try.f27.ntmps (bodyOf Try.f27) = some c27 := by kernel_rfl
theorem r27 : Try.f27.results.toList.mapM (trR Try.prog) = some [.tmp 4] := by kernel_rfl
def i27 : FI := ⟨19, c27, [.tmp 4]⟩
theorem k27 : Knows Try.prog 27 i27 := ⟨Try.f27, bodyOf Try.f27, Try.func27, by kernel_rfl, by kernel_rfl, t27, r27, by kernel_rfl⟩
-- 28 slices.Index[[]int,int] []
def c28_0 : ACode := (.cond (.s 16) (.seq (.ops [
  ⟨(some 17), .p (.mov (.s 5)), none, 0⟩,
  ⟨(some 4), .p (.mov (.s 17)), none, 0⟩]) .ret) .skip)
def c28_1 : ACode := (.seq (.ops [
  ⟨(some 11), .p (.mov (.s 1)), none, 0⟩,
  ⟨(some 12), .p (.mov (.s 0)), none, 0⟩,
  ⟨(some 13), .p (.mov (.s 5)), none, 0⟩,
  ⟨(some 14), .p (.adrSl 1 (.s 12) (.s 13)), none, 0⟩,
  ⟨(some 15), .m (.load none (.s 14)), none, 0⟩,
  ⟨(some 16), .p (.bin .eql (.s 11) (.s 15)), none, 0⟩]) c28_0)
def c28_2 : ACode := (.ops [
  ⟨(some 18), .p (.bin .add (.s 8) (.c (.v (.int .i64 1)))), none, 0⟩,
  ⟨(some 8), .p (.mov (.s 18)), none, 0⟩])
def c28_3 : ACode := (.seq (.block 1 (.seq (.ops [
  ⟨(some 10), .p (.mov (.s 8)), none, 0⟩,
  ⟨(some 5), .p (.mov (.s 10)), none, 0⟩]) c28_1)) c28_2)
def c28_4 : ACode := (.seq (.cond (.s 9) .skip (.exit 0)) c28_3)
def c28_5 : ACode := (.seq (.ops [
  ⟨(some 9), .p (.bin .lss (.s 8) (.s 7)), none, 0⟩]) c28_4)
def c28_6 : ACode := (.block 0 (.loop c28_5))
def c28_7 : ACode := (.seq (.ops [
  ⟨(some 4), .p (.mov (.c (.v (.int .i64 (-1))))), none, 0⟩]) .ret)
def c28_8 : ACode := (.seq (.seq (.ops [
  ⟨(some 6), .p (.mov (.s 0)), none, 0⟩,
  ⟨(some 7), .p (.len false (.s 6)), none, 3⟩,
  ⟨(some 8), .p (.mov (.c (.v (.int .i64 0)))), none, 0⟩]) c28_6) c28_7)
def c28 : ACode := (.seq (.ops [
  ⟨(some 4), .p (.mov (.c (.v (.int .i64 0)))), none, 0⟩]) c28_8)
theorem t28 : trC Try.prog Try.f28.ntmps (bodyOf Try.f28) = some c28 := by kernel_rfl
theorem r28 : Try.f28.results.toList.mapM (trR Try.prog) = some [.tmp 4] := by kernel_rfl
def i28 : FI := ⟨19, c28, [.tmp 4]⟩
theorem k28 : Knows Try.prog 28 i28 := ⟨Try.f28, bodyOf Try.f28, Try.func28, by kernel_rfl, by kernel_rfl, t28, r28, by kernel_rfl⟩
-- 29 slices.stableCmpFunc[drover/api.Action] []
def c29_0 : ACode := (.cond (.s 13) .skip (.exit 0))
def c29_1 : ACode := (.ops [
  ⟨(some 20), .p (.mov (.s 8)), none, 0⟩,
  ⟨(some 21), .p (.mov (.s 6)), none, 0⟩,
  ⟨(some 22), .p (.bin .add (.s 20) (.s 21)), none, 0⟩,
  ⟨(some 8), .p (.mov (.s 22)), none, 0⟩])
def c29_2 : ACode := (.seq (.ops [
  ⟨(some 19), .p (.mov (.s 8)), none, 0⟩,
  ⟨(some 7), .p (.mov (.s 19)), none, 0⟩]) c29_1)
def c29_3 : ACode := (.block 1 (.seq (.ops [
  ⟨(some 14), .p (.mov (.s 0)), none, 0⟩,
  ⟨(some 15), .p (.mov (.s 7)), none, 0⟩,
  ⟨(some 16), .p (.mov (.s 8)), none, 0⟩,
  ⟨(some 17), .p (.mov (.s 2)), none, 0⟩,
  ⟨(some 18), .call (.c (.fn 36 [])) [(.s 14), (.s 15), (.s 16), (.s 17)], none, 29⟩]) c29_2))
def c29_4 : ACode := (.seq (.seq (.ops [
  ⟨(some 11), .p (.mov (.s 8)), none, 0⟩,
  ⟨(some 12), .p (.mov (.s 1)), none, 0⟩,
  ⟨(some 13), .p (.bin .leq (.s 11) (.s 12)), none, 0⟩]) c29_0) c29_3)
def c29_5 : ACode := (.cond (.s 30) .skip (.exit 2))
def c29_6 : ACode := (.cond (.s 35) .skip (.exit 4))
def c29_7 : ACode := (.ops [
  ⟨(some 45), .p (.mov (.s 8)), none, 0⟩,
  ⟨(some 46), .p (.mov (.s 6)), none, 0⟩,
  ⟨(some 47), .p (.bin .mul (.c (.v (.int .i64 2))) (.s 46)), none, 0⟩,
  ⟨(some 48), .p (.bin .add (.s 45) (.s 47)), none, 0⟩,
  ⟨(some 8), .p (.mov (.s 48)), none, 0⟩])
def c29_8 : ACode := (.seq (.ops [
  ⟨(some 44), .p (.mov (.s 8)), none, 0⟩,
  ⟨(some 7), .p (.mov (.s 44)), none, 0⟩]) c29_7)
def c29_9 : ACode := (.block 5 (.seq (.ops [
  ⟨(some 36), .p (.mov (.s 0)), none, 0⟩,
  ⟨(some 37), .p (.mov (.s 7)), none, 0⟩,
  ⟨(some 38), .p (.mov (.s 7)), none, 0⟩,
  ⟨(some 39), .p (.mov (.s 6)), none, 0⟩,
  ⟨(some 40), .p (.bin .add (.s 38) (.s 39)), none, 0⟩,
  ⟨(some 41), .p (.mov (.s 8)), none, 0⟩,
  ⟨(some 42), .p (.mov (.s 2)), none, 0⟩,
  ⟨(some 43), .call (.c (.fn 37 [])) [(.s 36), (.s 37), (.s 40), (.s 41), (.s 42)], none, 29⟩]) c29_8))
def c29_10 : ACode := (.seq (.seq (.ops [
  ⟨(some 33), .p (.mov (.s 8)), none, 0⟩,
  ⟨(some 34), .p (.mov (.s 1)), none, 0⟩,
  ⟨(some 35), .p (.bin .leq (.s 33) (.s 34)), none, 0⟩]) c29_6) c29_9)
def c29_11 : ACode := (.cond (.s 54) (.ops [
  ⟨(some 55), .p (.mov (.s 0)), none, 0⟩,
  ⟨(some 56), .p (.mov (.s 7)), none, 0⟩,
  ⟨(some 57), .p (.mov (.s 9)), none, 0⟩,
  ⟨(some 58), .p (.mov (.s 1)), none, 0⟩,
  ⟨(some 59), .p (.mov (.s 2)), none, 0⟩,
  ⟨(some 60), .call (.c (.fn 37 [])) [(.s 55), (.s 56), (.s 57), (.s 58), (.s 59)], none, 29⟩]) .skip)
def c29_12 : ACode := (.seq (.ops [
  ⟨(some 52), .p (.mov (.s 9)), none, 0⟩,
  ⟨(some 53), .p (.mov (.s 1)), none, 0⟩,
  ⟨(some 54), .p (.bin .lss (.s 52) (.s 53)), none, 0⟩]) c29_11)
def c29_13 : ACode := (.ops [
  ⟨(some 61), .p (.mov (.s 6)), none, 0⟩,
  ⟨(some 62), .p (.bin .mul (.s 61) (.c (.v (.int .i64 2)))), none, 0⟩,
  ⟨(some 6), .p (.mov (.s 62)), none, 0⟩])
def c29_14 : ACode := (.seq (.seq (.ops [
  ⟨(some 49), .p (.mov (.s 7)), none, 0⟩,
  ⟨(some 50), .p (.mov (.s 6)), none, 0⟩,
  ⟨(some 51), .p (.bin .add (.s 49) (.s 50)), none, 0⟩,
  ⟨(some 9), .p (.mov (.s 51)), none, 0⟩]) c29_12) c29_13)
def c29_15 : ACode := (.seq (.block 4 (.loop c29_10)) c29_14)
def c29_16 : ACode := (.block 3 (.seq (.ops [
  ⟨(some 31), .p (.mov (.s 6)), none, 0⟩,
  ⟨(some 32), .p (.bin .mul (.c (.v (.int .i64 2))) (.s 31)), none, 0⟩,
  ⟨(some 7), .p (.mov (.c (.v (.int .i64 0)))), none, 0⟩,
  ⟨(some 8), .p (.mov (.s 32)), none, 0⟩]) c29_15))
def c29_17 : ACode := (.seq (.seq (.ops [
  ⟨(some 28), .p (.mov (.s 6)), none, 0⟩,
  ⟨(some 29), .p (.mov (.s 1)), none, 0⟩,
  ⟨(some 30), .p (.bin .lss (.s 28) (.s 29)), none, 0⟩]) c29_5) c29_16)
def c29_18 : ACode := (.block 2 (.loop c29_17))
def c29_19 : ACode := (.seq (.ops [
  ⟨(some 23), .p (.mov (.s 0)), none, 0⟩,
  ⟨(some 24), .p (.mov (.s 7)), none, 0⟩,
  ⟨(some 25), .p (.mov (.s 1)), none, 0⟩,
  ⟨(some 26), .p (.mov (.s 2)), none, 0⟩,
  ⟨(some 27), .call (.c (.fn 36 [])) [(.s 23), (.s 24), (.s 25), (.s 26)], none, 29⟩]) c29_18)
def c29_20 : ACode := (.seq (.block 0 (.loop c29_4)) c29_19)
def c29_21 : ACode := (.seq (.ops [
  ⟨(some 10), .p (.mov (.s 6)), none, 0⟩,
  ⟨(some 7), .p (.mov (.c (.v (.int .i64 0)))), none, 0⟩,
  ⟨(some 8), .p (.mov (.s 10)), none, 0⟩]) c29_20)
def c29 : ACode := (.seq (.ops [
  ⟨(some 6), .p (.mov (.c (.v (.int .i64 20)))), none, 0⟩]) c29_21)
theorem t29 : trC Try.prog Try.f29.ntmps (bodyOf Try.f29) = some c29 := by kernel_rfl
theorem r29 : Try.f29.results.toList.mapM (trR Try.prog) = some [] := by kernel_rfl
def i29 : FI := ⟨63, c29, []⟩
theorem k29 : Knows Try.prog 29 i29 := ⟨Try.f29, bodyOf Try.f29, Try.func29, by kernel_rfl, by kernel_rfl, t29, r29, by kernel_rfl⟩
-- 30 cmp.Compare[int] []
def c30_0 : List AOper := [
  ⟨(some 5), .p (.mov (.s 8)), none, 0⟩]
def c30_1 : List AOper := [
  ⟨(some 6), .p (.mov (.s 10)), none, 0⟩]
def c30_2 : ACode := (.cond (.s 12) (.seq (.ops [
  ⟨(some 4), .p (.mov (.c (.v (.int .i64 0)))), none, 0⟩]) .ret) .skip)
def c30_3 : ACode := (.seq (.ops [
  ⟨(some 4), .p (.mov (.c (.v (.int .i64 (-1))))), none, 0⟩]) .ret)
def c30_4 : ACode := (.cond (.s 11) (.seq (.seq (.ops [
  ⟨(some 12), .p (.mov (.s 6)), none, 0⟩]) c30_2) c30_3) .skip)
def c30_5 : ACode := (.cond (.s 13) (.seq (.ops [
  ⟨(some 4), .p (.mov (.c (.v (.int .i64 1)))), none, 0⟩]) .ret) .skip)
def c30_6 : ACode := (.cond (.s 16) (.seq (.ops [
  ⟨(some 4), .p (.mov (.c (.v (.int .i64 (-1))))), none, 0⟩]) .ret) .skip)
def c30_7 : ACode := (.cond (.s 19) (.seq (.ops [
  ⟨(some 4), .p (.mov (.c (.v (.int .i64 1)))), none, 0⟩]) .ret) .skip)
def c30_8 : ACode := (.seq (.ops [
  ⟨(some 4), .p (.mov (.c (.v (.int .i64 0)))), none, 0⟩]) .ret)
def c30_9 : ACode := (.seq (.seq (.ops [
  ⟨(some 17), .p (.mov (.s 0)), none, 0⟩,
  ⟨(some 18), .p (.mov (.s 1)), none, 0⟩,
  ⟨(some 19), .p (.bin .gtr (.s 17) (.s 18)), none, 0⟩]) c30_7) c30_8)
def c30_10 : ACode := (.seq (.seq (.ops [
  ⟨(some 14), .p (.mov (.s 0)), none, 0⟩,
  ⟨(some 15), .p (.mov (.s 1)), none, 0⟩,
  ⟨(some 16), .p (.bin .lss (.s 14) (.s 15)), none, 0⟩]) c30_6) c30_9)
def c30_11 : ACode := (.seq (.seq (.ops [
  ⟨(some 13), .p (.mov (.s 6)), none, 0⟩]) c30_5) c30_10)
def c30_12 : ACode := (.seq (.seq (.ops [
  ⟨(some 11), .p (.mov (.s 5)), none, 0⟩]) c30_4) c30_11)
def c30_13 : ACode := (.seq (.ops (⟨(some 9), .p (.mov (.s 1)), none, 0⟩ ::
  ⟨(some 10), .call (.c (.fn 38 [])) [(.s 9)], none, 0⟩ :: c30_1)) c30_12)
def c30_14 : ACode := (.seq (.ops (⟨(some 7), .p (.mov (.s 0)), none, 0⟩ ::
  ⟨(some 8), .call (.c (.fn 38 [])) [(.s 7)], none, 0⟩ :: c30_0)) c30_13)
def c30 : ACode := (.seq (.ops [
  ⟨(some 4), .p (.mov (.c (.v (.int .i64 0)))), none, 0⟩]) c30_14)
theorem t30 : trC Try.prog Try.f30.ntmps (bodyOf Try.f30) = some c30 := by kernel_rfl
theorem r30 : Try.f30.results.toList.mapM (trR Try.prog) = some [.tmp 4] := by kernel_rfl
def i30 : FI := ⟨20, c30, [.tmp 4]⟩
theorem k30 : Knows Try.prog 30 i30 := ⟨Try.f30, bodyOf Try.f30, Try.func30, by kernel_rfl, by kernel_rfl, t30, r30, by kernel_rfl⟩
-- 31 drover/act.code []
def c31_0 : ACode := (.cond (.s 13) (.seq (.ops [
  ⟨(some 2), .p (.mov (.c (.v (.int .u64 14)))), none, 0⟩,
  ⟨(some 3), .p (.mov (.c (.v (.int .i64 2)))), none, 0⟩]) .ret) .skip)
def c31_1 : ACode := (.cond (.s 11) (.seq (.ops [
  ⟨(some 2), .p (.mov (.c (.v (.int .u64 13)))), none, 0⟩,
  ⟨(some 3), .p (.mov (.c (.v (.int .i64 2)))), none, 0⟩]) .ret) (.seq (.ops [
  ⟨(some 14), .p (.bin .eql (.s 4) (.c (.v (.int .i64 9)))), none, 0⟩,
  ⟨(some 13), .p (.mov (.s 14)), none, 0⟩]) c31_0))
def c31_2 : ACode := (.cond (.s 9) (.seq (.ops [
  ⟨(some 2), .p (.mov (.c (.v (.int .u64 12)))), none, 0⟩,
  ⟨(some 3), .p (.mov (.c (.v (.int .i64 4)))), none, 0⟩]) .ret) (.seq (.ops [
  ⟨(some 12), .p (.bin .eql (.s 4) (.c (.v (.int .i64 8)))), none, 0⟩,
  ⟨(some 11), .p (.mov (.s 12)), none, 0⟩]) c31_1))
def c31_3 : ACode := (.cond (.s 7) (.seq (.ops [
  ⟨(some 2), .p (.mov (.c (.v (.int .u64 11)))), none, 0⟩,
  ⟨(some 3), .p (.mov (.c (.v (.int .i64 4)))), none, 0⟩]) .ret) (.seq (.ops [
  ⟨(some 10), .p (.bin .eql (.s 4) (.c (.v (.int .i64 6)))), none, 0⟩,
  ⟨(some 9), .p (.mov (.s 10)), none, 0⟩]) c31_2))
def c31_4 : ACode := (.cond (.s 5) (.seq (.ops [
  ⟨(some 2), .p (.mov (.c (.v (.int .u64 6)))), none, 0⟩,
  ⟨(some 3), .p (.mov (.c (.v (.int .i64 2)))), none, 0⟩]) .ret) (.seq (.ops [
  ⟨(some 8), .p (.bin .eql (.s 4) (.c (.v (.int .i64 5)))), none, 0⟩,
  ⟨(some 7), .p (.mov (.s 8)), none, 0⟩]) c31_3))
def c31_5 : ACode := (.block 0 (.seq (.ops [
  ⟨(some 6), .p (.bin .eql (.s 4) (.c (.v (.int .i64 3)))), none, 0⟩,
  ⟨(some 5), .p (.mov (.s 6)), none, 0⟩]) c31_4))
def c31_6 : ACode := (.seq (.ops [
  ⟨(some 2), .p (.mov (.c (.v (.int .u64 0)))), none, 0⟩,
  ⟨(some 3), .p (.mov (.c (.v (.int .i64 0)))), none, 0⟩]) .ret)
def c31_7 : ACode := (.seq (.seq (.ops [
  ⟨(some 4), .p (.mov (.s 0)), none, 0⟩]) c31_5) c31_6)
def c31 : ACode := (.seq (.ops [
  ⟨(some 2), .p (.mov (.c (.v (.int .u64 0)))), none, 0⟩,
  ⟨(some 3), .p (.mov (.c (.v (.int .i64 0)))), none, 0⟩]) c31_7)
theorem t31 : trC Try.prog Try.f31.ntmps (bodyOf Try.f31) = some c31 := by kernel_rfl
theorem r31 : Try.f31.results.toList.mapM (trR Try.prog) = some [.tmp 2, .tmp 3] := by kernel_rfl
def i31 : FI := ⟨15, c31, [.tmp 2, .tmp 3]⟩
theorem k31 : Knows Try.prog 31 i31 := ⟨Try.f31, bodyOf Try.f31, Try.func31, by kernel_rfl, by kernel_rfl, t31, r31, by kernel_rfl⟩
-- 32 drover/field.Width []
def c32_0 : ACode := (.cond (.s 6) .skip (.ops [
  ⟨(some 9), .p (.bin .eql (.s 3) (.c (.v (.int .i64 6)))), none, 0⟩,
  ⟨(some 6), .p (.mov (.s 9)), none, 0⟩]))
def c32_1 : ACode := (.cond (.s 6) .skip (.seq (.ops [
  ⟨(some 8), .p (.bin .eql (.s 3) (.c (.v (.int .i64 5)))), none, 0⟩,
  ⟨(some 6), .p (.mov (.s 8)), none, 0⟩]) c32_0))
def c32_2 : ACode := (.cond (.s 10) .skip (.ops [
  ⟨(some 13), .p (.bin .eql (.s 3) (.c (.v (.int .i64 9)))), none, 0⟩,
  ⟨(some 10), .p (.mov (.s 13)), none, 0⟩]))
def c32_3 : ACode := (.cond (.s 10) .skip (.seq (.ops [
  ⟨(some 12), .p (.bin .eql (.s 3) (.c (.v (.int .i64 8)))), none, 0⟩,
  ⟨(some 10), .p (.mov (.s 12)), none, 0⟩]) c32_2))
def c32_4 : ACode := (.cond (.s 16) (.seq (.ops [
  ⟨(some 2), .p (.mov (.c (.v (.int .i64 8)))), none, 0⟩]) .ret) .skip)
def c32_5 : ACode := (.cond (.s 14) (.seq (.ops [
  ⟨(some 2), .p (.mov (.c (.v (.int .i64 13)))), none, 0⟩]) .ret) (.seq (.ops [
  ⟨(some 17), .p (.bin .eql (.s 3) (.c (.v (.int .i64 7)))), none, 0⟩,
  ⟨(some 16), .p (.mov (.s 17)), none, 0⟩]) c32_4))
def c32_6 : ACode := (.cond (.s 10) (.seq (.ops [
  ⟨(some 2), .p (.mov (.c (.v (.int .i64 16)))), none, 0⟩]) .ret) (.seq (.ops [
  ⟨(some 15), .p (.bin .eql (.s 3) (.c (.v (.int .i64 3)))), none, 0⟩,
  ⟨(some 14), .p (.mov (.s 15)), none, 0⟩]) c32_5))
def c32_7 : ACode := (.cond (.s 6) (.seq (.ops [
  ⟨(some 2), .p (.mov (.c (.v (.int .i64 32)))), none, 0⟩]) .ret) (.seq (.seq (.ops [
  ⟨(some 11), .p (.bin .eql (.s 3) (.c (.v (.int .i64 4)))), none, 0⟩,
  ⟨(some 10), .p (.mov (.s 11)), none, 0⟩]) c32_3) c32_6))
def c32_8 : ACode := (.cond (.s 4) (.seq (.ops [
  ⟨(some 2), .p (.mov (.c (.v (.int .i64 64)))), none, 0⟩]) .ret) (.seq (.seq (.ops [
  ⟨(some 7), .p (.bin .eql (.s 3) (.c (.v (.int .i64 1)))), none, 0⟩,
  ⟨(some 6), .p (.mov (.s 7)), none, 0⟩]) c32_1) c32_7))
def c32_9 : ACode := (.block 0 (.seq (.ops [
  ⟨(some 5), .p (.bin .eql (.s 3) (.c (.v (.int .i64 2)))), none, 0⟩,
  ⟨(some 4), .p (.mov (.s 5)), none, 0⟩]) c32_8))
def c32_10 : ACode := (.seq (.ops [
  ⟨(some 2), .p (.mov (.c (.v (.int .i64 0)))), none, 0⟩]) .ret)
def c32_11 : ACode := (.seq (.seq (.ops [
  ⟨(some 3), .p (.mov (.s 0)), none, 0⟩]) c32_9) c32_10)
def c32 : ACode := (.seq (.ops [
  ⟨(some 2), .p (.mov (.c (.v (.int .i64 0)))), none, 0⟩]) c32_11)
theorem t32 : trC Try.prog Try.f32.ntmps (bodyOf Try.f32) = some c32 := by kernel_rfl
theorem r32 : Try.f32.results.toList.mapM (trR Try.prog) = some [.tmp 2] := by kernel_rfl
def i32 : FI := ⟨18, c32, [.tmp 2]⟩
theorem k32 : Knows Try.prog 32 i32 := ⟨Try.f32, bodyOf Try.f32, Try.func32, by kernel_rfl, by kernel_rfl, t32, r32, by kernel_rfl⟩
-- 34 drover/act.put []
def c34_0 : List AOper := [
  ⟨(some 7), .p (.mov (.s 10)), none, 0⟩,
  ⟨(some 11), .p (.extract (.s 7) 0), none, 0⟩,
  ⟨(some 12), .p (.extract (.s 7) 1), none, 0⟩,
  ⟨(some 5), .p (.mov (.s 11)), none, 0⟩,
  ⟨(some 6), .p (.mov (.s 12)), none, 0⟩]
def c34_1 : ACode := (.seq (.ops [
  ⟨(some 13), .p (.mov (.s 5)), none, 0⟩,
  ⟨(some 4), .p (.mov (.s 13)), none, 0⟩]) .ret)
def c34_2 : ACode := (.seq (.ops (⟨(some 8), .p (.mov (.s 0)), none, 0⟩ ::
  ⟨(some 9), .p (.mov (.s 1)), none, 0⟩ ::
  ⟨(some 10), .call (.c (.fn 40 [])) [(.s 8), (.s 9)], none, 0⟩ :: c34_0)) c34_1)
def c34 : ACode := (.seq (.ops [
  ⟨(some 4), .p (.mov (.c (.v (.string ⟨#[]⟩)))), none, 0⟩]) c34_2)
theorem t34 : trC Try.prog Try.f34.ntmps (bodyOf Try.f34) = some c34 := by kernel_rfl
theorem r34 : Try.f34.results.toList.mapM (trR Try.prog) = some [.tmp 4] := by kernel_rfl
def i34 : FI := ⟨14, c34, [.tmp 4]⟩
theorem k34 : Knows Try.prog 34 i34 := ⟨Try.f34, bodyOf Try.f34, Try.func34, by kernel_rfl, by kernel_rfl, t34, r34, by kernel_rfl⟩
end Go.Proofs.Act
