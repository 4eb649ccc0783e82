/- A part of a law's proof: TbnX0. -/
import Derived.KernelRfl
import Derived.Test.YtohoheanjmlgmaaProg
import Derived.Test.YtohoheanjmlgmaaSvCod
set_option linter.unusedSimpArgs false
set_option linter.constructorNameAsVariable false
namespace Go.Proofs.Tbn
open Go Go.Ab Go.Proofs
set_option linter.unusedVariables false
noncomputable abbrev PG : Program := Try.prog
def bodyOf (fn : Func) : Code := fn.body.getD .skip
-- 3 drover/droverlaw11.TableNil []
def c3_0 : List AOper := [
  ⟨(some 8), .p (.mov (.s 13)), none, 0⟩,
  ⟨(some 14), .p (.extract (.s 8) 0), none, 0⟩,
  ⟨(some 15), .p (.extract (.s 8) 1), none, 0⟩,
  ⟨(some 6), .m (.alloc [(.v (.int .i64 0)), (.v (.int .i64 0)), (.v (.slice none 0 0)), (.v (.slice none 0 0)), (.v (.slice none 0 0)), (.v (.bool false)), (.v (.int .u64 0)), (.v (.int .u64 0)), (.v (.int .i64 0)), (.v (.int .i64 0))]), none, 59⟩,
  ⟨none, .m (.store (some 10) (.s 6) (.s 14)), none, 0⟩,
  ⟨(some 7), .p (.mov (.s 15)), none, 0⟩]
def c3_1 : List AOper := [
  ⟨(some 46), .p (.pick (.s 44) (.s 45) (.c (.v (.bool false)))), none, 0⟩,
  ⟨(some 4), .p (.mov (.s 46)), none, 0⟩]
def c3_2 : List AOper := (⟨(some 41), .p (.len false (.s 40)), (some (36, true)), 26⟩ ::
  ⟨(some 42), .p (.bin .eql (.s 41) (.c (.v (.int .i64 0)))), (some (36, true)), 0⟩ ::
  ⟨(some 43), .p (.pick (.s 36) (.s 42) (.c (.v (.bool false)))), none, 0⟩ ::
  ⟨(some 44), .p (.mov (.s 43)), none, 0⟩ ::
  ⟨(some 45), .call (.c (.fn 9 [])) [], (some (44, true)), 0⟩ :: c3_1)
def c3_3 : List AOper := (⟨(some 30), .p (.bin .eql (.s 29) (.c (.v (.int .i64 2)))), (some (26, true)), 0⟩ ::
  ⟨(some 31), .p (.pick (.s 26) (.s 30) (.c (.v (.bool false)))), none, 0⟩ ::
  ⟨(some 32), .p (.mov (.s 31)), none, 0⟩ ::
  ⟨(some 33), .p (.mov (.s 7)), (some (32, true)), 0⟩ ::
  ⟨(some 34), .p (.un .not (.s 33)), (some (32, true)), 0⟩ ::
  ⟨(some 35), .p (.pick (.s 32) (.s 34) (.c (.v (.bool false)))), none, 0⟩ ::
  ⟨(some 36), .p (.mov (.s 35)), none, 0⟩ ::
  ⟨(some 37), .p (.mov (.s 5)), (some (36, true)), 0⟩ ::
  ⟨(some 38), .p (.fieldAddr 0 none (.s 2)), (some (36, true)), 0⟩ ::
  ⟨(some 39), .m (.load none (.s 38)), (some (36, true)), 0⟩ ::
  ⟨(some 40), .call (.c (.fn 8 [])) [(.s 37), (.s 39)], (some (36, true)), 44⟩ :: c3_2)
def c3_4 : List AOper := (⟨(some 24), .p (.bin .eql (.s 23) (.c (.v (.int .i64 2)))), (some (20, true)), 0⟩ ::
  ⟨(some 25), .p (.pick (.s 20) (.s 24) (.c (.v (.bool false)))), none, 0⟩ ::
  ⟨(some 26), .p (.mov (.s 25)), none, 0⟩ ::
  ⟨(some 27), .p (.mov (.s 5)), (some (26, true)), 0⟩ ::
  ⟨(some 28), .m (.load (some 10) (.s 2)), (some (26, true)), 0⟩ ::
  ⟨(some 29), .call (.c (.fn 7 [])) [(.s 27), (.s 28), (.c (.v (.bool false)))], (some (26, true)), 44⟩ :: c3_3)
def c3_5 : List AOper := (⟨(some 19), .p (.bin .eql (.s 18) (.c (.v (.int .i64 2)))), none, 0⟩ ::
  ⟨(some 20), .p (.mov (.s 19)), none, 0⟩ ::
  ⟨(some 21), .p (.mov (.s 5)), (some (20, true)), 0⟩ ::
  ⟨(some 22), .m (.load (some 10) (.s 2)), (some (20, true)), 0⟩ ::
  ⟨(some 23), .call (.c (.fn 6 [])) [(.s 21), (.s 22), (.c (.v (.bool true)))], (some (20, true)), 44⟩ :: c3_4)
def c3_6 : ACode := (.seq (.ops (⟨(some 16), .p (.mov (.s 5)), none, 0⟩ ::
  ⟨(some 17), .m (.load (some 10) (.s 2)), none, 0⟩ ::
  ⟨(some 18), .call (.c (.fn 5 [])) [(.s 16), (.s 17), (.c (.v (.bool true)))], none, 44⟩ :: c3_5)) .ret)
def c3_7 : ACode := (.seq (.ops (⟨(some 9), .p (.mov (.s 5)), none, 0⟩ ::
  ⟨(some 10), .p (.fieldAddr 0 none (.s 2)), none, 0⟩ ::
  ⟨(some 11), .m (.load none (.s 10)), none, 0⟩ ::
  ⟨(some 12), .m (.load (some 13) (.s 3)), none, 0⟩ ::
  ⟨(some 13), .call (.c (.fn 4 [])) [(.s 9), (.s 11), (.s 12)], none, 44⟩ :: c3_0)) c3_6)
def c3_8 : ACode := (.seq (.ops [
  ⟨(some 5), .p (.mov (.c (.v (.pointer none)))), none, 0⟩]) c3_7)
def c3 : ACode := (.seq (.ops [
  ⟨(some 2), .m (.box (.s 0)), none, 0⟩,
  ⟨(some 3), .m (.box (.s 1)), none, 0⟩,
  ⟨(some 4), .p (.mov (.c (.v (.bool false)))), none, 0⟩]) c3_8)
theorem t3 : trC Try.prog Try.f3.ntmps (bodyOf Try.f3) = some c3 := by kernel_rfl
theorem r3 : Try.f3.results.toList.mapM (trR Try.prog) = some [.tmp 4] := by kernel_rfl
def i3 : FI := ⟨47, c3, [.tmp 4]⟩
theorem k3 : Knows Try.prog 3 i3 := ⟨Try.f3, bodyOf Try.f3, Try.func3, by kernel_rfl, by kernel_rfl, t3, r3, by kernel_rfl⟩
-- 4 (*drover/table.Flows).Look []
def c4_0 : ACode := (.cond (.s 18) (.seq (.ops [
  ⟨(some 19), .p (.build [(.v (.int .i64 0)), (.v (.int .i64 0)), (.v (.slice none 0 0)), (.v (.slice none 0 0)), (.v (.slice none 0 0)), (.v (.bool false)), (.v (.int .u64 0)), (.v (.int .u64 0)), (.v (.int .i64 0)), (.v (.int .i64 0))] []), none, 0⟩,
  ⟨none, .m (.store (some 10) (.s 6) (.s 19)), none, 0⟩,
  ⟨(some 7), .p (.mov (.c (.v (.bool false)))), none, 0⟩]) .ret) .skip)
def c4_1 : List AOper := [
  ⟨(some 8), .p (.mov (.s 27)), none, 0⟩]
def c4_2 : ACode := (.cond (.s 29) (.seq (.ops [
  ⟨(some 30), .p (.build [(.v (.int .i64 0)), (.v (.int .i64 0)), (.v (.slice none 0 0)), (.v (.slice none 0 0)), (.v (.slice none 0 0)), (.v (.bool false)), (.v (.int .u64 0)), (.v (.int .u64 0)), (.v (.int .i64 0)), (.v (.int .i64 0))] []), none, 0⟩,
  ⟨none, .m (.store (some 10) (.s 6) (.s 30)), none, 0⟩,
  ⟨(some 7), .p (.mov (.c (.v (.bool false)))), none, 0⟩]) .ret) .skip)
def c4_3 : List AOper := [
  ⟨none, .m (.store (some 10) (.s 6) (.s 40)), none, 0⟩,
  ⟨(some 7), .p (.mov (.c (.v (.bool true)))), none, 0⟩]
def c4_4 : ACode := (.seq (.ops (⟨(some 31), .p (.mov (.s 0)), none, 0⟩ ::
  ⟨(some 32), .p (.mov (.s 1)), none, 0⟩ ::
  ⟨(some 33), .p (.nilCheck (.s 31)), none, 0⟩ ::
  ⟨(some 34), .p (.fieldAddr 1 (some 8) (.s 33)), none, 0⟩ ::
  ⟨(some 35), .p (.adrArr 8 none (.s 34) (.s 32)), none, 0⟩ ::
  ⟨(some 36), .m (.load none (.s 35)), none, 0⟩ ::
  ⟨(some 37), .p (.mov (.s 8)), none, 0⟩ ::
  ⟨(some 38), .p (.adrSl 10 (.s 36) (.s 37)), none, 0⟩ ::
  ⟨(some 39), .m (.load (some 10) (.s 38)), none, 0⟩ ::
  ⟨(some 40), .call (.c (.fn 13 [])) [(.s 39)], none, 0⟩ :: c4_3)) .ret)
def c4_5 : ACode := (.seq (.seq (.ops [
  ⟨(some 28), .p (.mov (.s 8)), none, 0⟩,
  ⟨(some 29), .p (.bin .lss (.s 28) (.c (.v (.int .i64 0)))), none, 0⟩]) c4_2) c4_4)
def c4_6 : ACode := (.seq (.ops (⟨(some 20), .p (.mov (.s 0)), none, 0⟩ ::
  ⟨(some 21), .p (.mov (.s 1)), none, 0⟩ ::
  ⟨(some 22), .p (.nilCheck (.s 20)), none, 0⟩ ::
  ⟨(some 23), .p (.fieldAddr 1 (some 8) (.s 22)), none, 0⟩ ::
  ⟨(some 24), .p (.adrArr 8 none (.s 23) (.s 21)), none, 0⟩ ::
  ⟨(some 25), .m (.load none (.s 24)), none, 0⟩ ::
  ⟨(some 26), .p (.mkFn 11 [(.s 5)]), none, 0⟩ ::
  ⟨(some 27), .call (.c (.fn 10 [])) [(.s 25), (.s 26)], none, 26⟩ :: c4_1)) c4_5)
def c4_7 : ACode := (.seq (.seq (.ops [
  ⟨(some 9), .p (.mov (.s 0)), none, 0⟩,
  ⟨(some 10), .p (.eqn false (.pointer 44) (.s 9)), none, 0⟩,
  ⟨(some 11), .p (.mov (.s 10)), none, 0⟩,
  ⟨(some 12), .p (.mov (.s 1)), (some (11, false)), 0⟩,
  ⟨(some 13), .p (.bin .lss (.s 12) (.c (.v (.int .i64 0)))), (some (11, false)), 0⟩,
  ⟨(some 14), .p (.pick (.s 11) (.c (.v (.bool true))) (.s 13)), none, 0⟩,
  ⟨(some 15), .p (.mov (.s 14)), none, 0⟩,
  ⟨(some 16), .p (.mov (.s 1)), (some (15, false)), 0⟩,
  ⟨(some 17), .p (.bin .geq (.s 16) (.c (.v (.int .i64 8)))), (some (15, false)), 0⟩,
  ⟨(some 18), .p (.pick (.s 15) (.c (.v (.bool true))) (.s 17)), none, 0⟩]) c4_0) c4_6)
def c4 : ACode := (.seq (.ops [
  ⟨(some 5), .m (.box (.s 2)), none, 0⟩,
  ⟨(some 6), .m (.alloc [(.v (.int .i64 0)), (.v (.int .i64 0)), (.v (.slice none 0 0)), (.v (.slice none 0 0)), (.v (.slice none 0 0)), (.v (.bool false)), (.v (.int .u64 0)), (.v (.int .u64 0)), (.v (.int .i64 0)), (.v (.int .i64 0))]), none, 59⟩,
  ⟨(some 7), .p (.mov (.c (.v (.bool false)))), none, 0⟩]) c4_7)
theorem t4 : trC Try.prog Try.f4.ntmps (bodyOf Try.f4) = some c4 := by kernel_rfl
theorem r4 : Try.f4.results.toList.mapM (trR Try.prog) = some [.cell 6 (some 10), .tmp 7] := by kernel_rfl
def i4 : FI := ⟨41, c4, [.cell 6 (some 10), .tmp 7]⟩
theorem k4 : Knows Try.prog 4 i4 := ⟨Try.f4, bodyOf Try.f4, Try.func4, by kernel_rfl, by kernel_rfl, t4, r4, by kernel_rfl⟩
-- 5 (*drover/table.Flows).Add []
def c5_0 : List AOper := [
  ⟨(some 7), .p (.mov (.s 13)), none, 0⟩]
def c5_1 : ACode := (.cond (.s 15) (.seq (.ops [
  ⟨(some 16), .p (.mov (.s 7)), none, 0⟩,
  ⟨(some 6), .p (.mov (.s 16)), none, 0⟩]) .ret) .skip)
def c5_2 : ACode := (.seq (.ops [
  ⟨(some 14), .p (.mov (.s 7)), none, 0⟩,
  ⟨(some 15), .p (.bin .neq (.s 14) (.c (.v (.int .i64 0)))), none, 0⟩]) c5_1)
def c5_3 : List AOper := [
  ⟨(some 29), .p (.pick (.s 25) (.s 28) (.c (.v (.bool false)))), none, 0⟩]
def c5_4 : ACode := (.cond (.s 29) (.seq (.ops [
  ⟨(some 6), .p (.mov (.c (.v (.int .i64 28)))), none, 0⟩]) .ret) .skip)
def c5_5 : List AOper := [
  ⟨(some 9), .p (.mov (.s 32)), none, 0⟩]
def c5_6 : List AOper := [
  ⟨(some 39), .p (.adrSl 10 (.s 35) (.s 36)), none, 0⟩,
  ⟨none, .m (.store (some 10) (.s 39) (.s 38)), none, 0⟩]
def c5_7 : ACode := (.seq (.ops [
  ⟨(some 6), .p (.mov (.c (.v (.int .i64 0)))), none, 0⟩]) .ret)
def c5_8 : ACode := (.cond (.s 34) (.seq (.ops (⟨(some 35), .p (.mov (.s 8)), none, 0⟩ ::
  ⟨(some 36), .p (.mov (.s 9)), none, 0⟩ ::
  ⟨(some 37), .m (.load (some 10) (.s 4)), none, 0⟩ ::
  ⟨(some 38), .call (.c (.fn 13 [])) [(.s 37)], none, 0⟩ :: c5_6)) c5_7) .skip)
def c5_9 : ACode := (.seq (.ops [
  ⟨(some 33), .p (.mov (.s 9)), none, 0⟩,
  ⟨(some 34), .p (.bin .geq (.s 33) (.c (.v (.int .i64 0)))), none, 0⟩]) c5_8)
def c5_10 : ACode := (.cond (.s 46) (.seq (.ops [
  ⟨(some 6), .p (.mov (.c (.v (.int .i64 27)))), none, 0⟩]) .ret) .skip)
def c5_11 : List AOper := [
  ⟨(some 10), .p (.mov (.s 49)), none, 0⟩]
def c5_12 : ACode := (.cond (.s 51) (.ops [
  ⟨(some 52), .p (.mov (.s 8)), none, 0⟩,
  ⟨(some 53), .p (.len false (.s 52)), none, 26⟩,
  ⟨(some 10), .p (.mov (.s 53)), none, 0⟩]) .skip)
def c5_13 : ACode := (.seq (.drawk [
  ⟨(some 54), .p (.mov (.s 0)), none, 0⟩,
  ⟨(some 55), .p (.fieldAddr 0 none (.s 4)), none, 0⟩,
  ⟨(some 56), .m (.load none (.s 55)), none, 0⟩,
  ⟨(some 57), .p (.mov (.s 8)), none, 0⟩,
  ⟨(some 58), .p (.mov (.s 10)), none, 0⟩,
  ⟨(some 59), .m (.load (some 10) (.s 4)), none, 0⟩,
  ⟨(some 60), .qcall (.c (.fn 13 [])) [(.s 59)], none, 0⟩,
  ⟨(some 61), .m (.buildSlice 10 1 [(.v (.int .i64 0)), (.v (.int .i64 0)), (.v (.slice none 0 0)), (.v (.slice none 0 0)), (.v (.slice none 0 0)), (.v (.bool false)), (.v (.int .u64 0)), (.v (.int .u64 0)), (.v (.int .i64 0)), (.v (.int .i64 0))] [(0, 10, (.s 60))]), none, 26⟩,
  ⟨(some 62), .call (.c (.fn 21 [])) [(.s 57), (.s 58), (.s 61)], none, 26⟩,
  ⟨(some 63), .p (.nilCheck (.s 54)), none, 0⟩,
  ⟨(some 64), .p (.fieldAddr 1 (some 8) (.s 63)), none, 0⟩,
  ⟨(some 65), .p (.adrArr 8 none (.s 64) (.s 56)), none, 0⟩,
  ⟨none, .m (.store none (.s 65) (.s 62)), none, 0⟩] [false, false, true, false, false, false, false, false, true, false, false, false, false]) c5_7)
def c5_14 : ACode := (.seq (.seq (.ops [
  ⟨(some 50), .p (.mov (.s 10)), none, 0⟩,
  ⟨(some 51), .p (.bin .lss (.s 50) (.c (.v (.int .i64 0)))), none, 0⟩]) c5_12) c5_13)
def c5_15 : ACode := (.seq (.ops (⟨(some 47), .p (.mov (.s 8)), none, 0⟩ ::
  ⟨(some 48), .p (.mkFn 20 [(.s 4)]), none, 0⟩ ::
  ⟨(some 49), .call (.c (.fn 10 [])) [(.s 47), (.s 48)], none, 26⟩ :: c5_11)) c5_14)
def c5_16 : ACode := (.seq (.seq (.ops [
  ⟨(some 40), .p (.mov (.s 8)), none, 0⟩,
  ⟨(some 41), .p (.len false (.s 40)), none, 26⟩,
  ⟨(some 42), .p (.mov (.s 0)), none, 0⟩,
  ⟨(some 43), .p (.nilCheck (.s 42)), none, 0⟩,
  ⟨(some 44), .p (.fieldAddr 0 none (.s 43)), none, 0⟩,
  ⟨(some 45), .m (.load none (.s 44)), none, 0⟩,
  ⟨(some 46), .p (.bin .geq (.s 41) (.s 45)), none, 0⟩]) c5_10) c5_15)
def c5_17 : ACode := (.seq (.seq (.ops (⟨(some 30), .p (.mov (.s 8)), none, 0⟩ ::
  ⟨(some 31), .p (.mkFn 18 [(.s 4)]), none, 0⟩ ::
  ⟨(some 32), .call (.c (.fn 10 [])) [(.s 30), (.s 31)], none, 26⟩ :: c5_5)) c5_9) c5_16)
def c5_18 : ACode := (.seq (.seq (.ops (⟨(some 24), .p (.mov (.s 2)), none, 0⟩ ::
  ⟨(some 25), .p (.mov (.s 24)), none, 0⟩ ::
  ⟨(some 26), .p (.mov (.s 8)), (some (25, true)), 0⟩ ::
  ⟨(some 27), .p (.mkFn 16 [(.s 4)]), (some (25, true)), 0⟩ ::
  ⟨(some 28), .call (.c (.fn 15 [])) [(.s 26), (.s 27)], (some (25, true)), 26⟩ :: c5_3)) c5_4) c5_17)
def c5_19 : ACode := (.seq (.draw [
  ⟨(some 17), .p (.mov (.s 0)), none, 0⟩,
  ⟨(some 18), .p (.fieldAddr 0 none (.s 4)), none, 0⟩,
  ⟨(some 19), .m (.load none (.s 18)), none, 0⟩,
  ⟨(some 20), .p (.nilCheck (.s 17)), none, 0⟩,
  ⟨(some 21), .p (.fieldAddr 1 (some 8) (.s 20)), none, 0⟩,
  ⟨(some 22), .p (.adrArr 8 none (.s 21) (.s 19)), none, 0⟩,
  ⟨(some 23), .m (.load none (.s 22)), none, 0⟩,
  ⟨(some 8), .p (.mov (.s 23)), none, 0⟩]) c5_18)
def c5_20 : ACode := (.seq (.seq (.ops (⟨(some 11), .p (.mov (.s 0)), none, 0⟩ ::
  ⟨(some 12), .m (.load (some 10) (.s 4)), none, 0⟩ ::
  ⟨(some 13), .call (.c (.fn 14 [])) [(.s 11), (.s 12)], none, 44⟩ :: c5_0)) c5_2) c5_19)
def c5 : ACode := (.seq (.ops [
  ⟨(some 4), .m (.box (.s 1)), none, 0⟩,
  ⟨(some 6), .p (.mov (.c (.v (.int .i64 0)))), none, 0⟩]) c5_20)
theorem t5 : trC Try.prog Try.f5.ntmps (bodyOf Try.f5) = some c5 := by kernel_rfl
theorem r5 : Try.f5.results.toList.mapM (trR Try.prog) = some [.tmp 6] := by kernel_rfl
def i5 : FI := ⟨66, c5, [.tmp 6]⟩
theorem k5 : Knows Try.prog 5 i5 := ⟨Try.f5, bodyOf Try.f5, Try.func5, by kernel_rfl, by kernel_rfl, t5, r5, by kernel_rfl⟩
-- 6 (*drover/table.Flows).Modify []
def c6_0 : List AOper := [
  ⟨(some 7), .p (.mov (.s 13)), none, 0⟩]
def c6_1 : ACode := (.cond (.s 15) (.seq (.ops [
  ⟨(some 16), .p (.mov (.s 7)), none, 0⟩,
  ⟨(some 6), .p (.mov (.s 16)), none, 0⟩]) .ret) .skip)
def c6_2 : ACode := (.seq (.ops [
  ⟨(some 14), .p (.mov (.s 7)), none, 0⟩,
  ⟨(some 15), .p (.bin .neq (.s 14) (.c (.v (.int .i64 0)))), none, 0⟩]) c6_1)
def c6_3 : List AOper := [
  ⟨(some 39), .p (.adrSl 10 (.s 35) (.s 36)), none, 0⟩,
  ⟨none, .m (.store (some 10) (.s 39) (.s 38)), none, 0⟩]
def c6_4 : ACode := (.drawk [
  ⟨(some 40), .p (.mov (.s 8)), none, 0⟩,
  ⟨(some 41), .p (.mov (.s 9)), none, 0⟩,
  ⟨(some 42), .p (.mov (.s 8)), none, 0⟩,
  ⟨(some 43), .p (.mov (.s 9)), none, 0⟩,
  ⟨(some 44), .p (.fieldAddr 1 none (.s 10)), none, 0⟩,
  ⟨(some 45), .m (.load none (.s 44)), none, 0⟩,
  ⟨(some 46), .p (.fieldAddr 2 none (.s 10)), none, 0⟩,
  ⟨(some 47), .m (.load none (.s 46)), none, 0⟩,
  ⟨(some 48), .p (.adrSl 10 (.s 40) (.s 41)), none, 0⟩,
  ⟨(some 49), .p (.fieldAddr 1 none (.s 48)), none, 0⟩,
  ⟨none, .m (.store none (.s 49) (.s 45)), none, 0⟩,
  ⟨(some 50), .p (.adrSl 10 (.s 42) (.s 43)), none, 0⟩,
  ⟨(some 51), .p (.fieldAddr 2 none (.s 50)), none, 0⟩,
  ⟨none, .m (.store none (.s 51) (.s 47)), none, 0⟩] [false, false, false, false, false, false, false, true, false, false, true, false, false, false])
def c6_5 : ACode := (.cond (.s 34) (.seq (.ops (⟨(some 35), .p (.mov (.s 8)), none, 0⟩ ::
  ⟨(some 36), .p (.mov (.s 9)), none, 0⟩ ::
  ⟨(some 37), .m (.load (some 10) (.s 4)), none, 0⟩ ::
  ⟨(some 38), .call (.c (.fn 13 [])) [(.s 37)], none, 0⟩ :: c6_3)) c6_4) .skip)
def c6_6 : ACode := (.seq (.ops [
  ⟨(some 31), .m (.load (some 10) (.s 4)), none, 0⟩,
  ⟨(some 32), .m (.load (some 10) (.s 10)), none, 0⟩,
  ⟨(some 33), .p (.mov (.s 2)), none, 0⟩,
  ⟨(some 34), .call (.c (.fn 22 [])) [(.s 31), (.s 32), (.s 33)], none, 0⟩]) c6_5)
def c6_7 : ACode := (.ops [
  ⟨(some 52), .p (.bin .add (.s 26) (.c (.v (.int .i64 1)))), none, 0⟩,
  ⟨(some 26), .p (.mov (.s 52)), none, 0⟩])
def c6_8 : ACode := (.seq (.block 1 (.seq (.ops [
  ⟨(some 28), .p (.mov (.s 26)), none, 0⟩,
  ⟨(some 29), .p (.adrSl 10 (.s 24) (.s 26)), none, 0⟩,
  ⟨(some 30), .m (.load (some 10) (.s 29)), none, 0⟩,
  ⟨(some 10), .m (.alloc [(.v (.int .i64 0)), (.v (.int .i64 0)), (.v (.slice none 0 0)), (.v (.slice none 0 0)), (.v (.slice none 0 0)), (.v (.bool false)), (.v (.int .u64 0)), (.v (.int .u64 0)), (.v (.int .i64 0)), (.v (.int .i64 0))]), none, 59⟩,
  ⟨(some 9), .p (.mov (.s 28)), none, 0⟩,
  ⟨none, .m (.store (some 10) (.s 10) (.s 30)), none, 0⟩]) c6_6)) c6_7)
def c6_9 : ACode := (.seq (.cond (.s 27) .skip (.exit 0)) c6_8)
def c6_10 : ACode := (.seq (.ops [
  ⟨(some 27), .p (.bin .lss (.s 26) (.s 25)), none, 0⟩]) c6_9)
def c6_11 : ACode := (.block 0 (.loop c6_10))
def c6_12 : ACode := (.seq (.ops [
  ⟨(some 6), .p (.mov (.c (.v (.int .i64 0)))), none, 0⟩]) .ret)
def c6_13 : ACode := (.seq (.seq (.ops [
  ⟨(some 24), .p (.mov (.s 8)), none, 0⟩,
  ⟨(some 25), .p (.len false (.s 24)), none, 26⟩,
  ⟨(some 26), .p (.mov (.c (.v (.int .i64 0)))), none, 0⟩]) c6_11) c6_12)
def c6_14 : ACode := (.seq (.draw [
  ⟨(some 17), .p (.mov (.s 0)), none, 0⟩,
  ⟨(some 18), .p (.fieldAddr 0 none (.s 4)), none, 0⟩,
  ⟨(some 19), .m (.load none (.s 18)), none, 0⟩,
  ⟨(some 20), .p (.nilCheck (.s 17)), none, 0⟩,
  ⟨(some 21), .p (.fieldAddr 1 (some 8) (.s 20)), none, 0⟩,
  ⟨(some 22), .p (.adrArr 8 none (.s 21) (.s 19)), none, 0⟩,
  ⟨(some 23), .m (.load none (.s 22)), none, 0⟩,
  ⟨(some 8), .p (.mov (.s 23)), none, 0⟩]) c6_13)
def c6_15 : ACode := (.seq (.seq (.ops (⟨(some 11), .p (.mov (.s 0)), none, 0⟩ ::
  ⟨(some 12), .m (.load (some 10) (.s 4)), none, 0⟩ ::
  ⟨(some 13), .call (.c (.fn 14 [])) [(.s 11), (.s 12)], none, 44⟩ :: c6_0)) c6_2) c6_14)
def c6 : ACode := (.seq (.ops [
  ⟨(some 4), .m (.box (.s 1)), none, 0⟩,
  ⟨(some 6), .p (.mov (.c (.v (.int .i64 0)))), none, 0⟩]) c6_15)
theorem t6 : trC Try.prog Try.f6.ntmps (bodyOf Try.f6) = some c6 := by kernel_rfl
theorem r6 : Try.f6.results.toList.mapM (trR Try.prog) = some [.tmp 6] := by kernel_rfl
def i6 : FI := ⟨53, c6, [.tmp 6]⟩
theorem k6 : Knows Try.prog 6 i6 := ⟨Try.f6, bodyOf Try.f6, Try.func6, by kernel_rfl, by kernel_rfl, t6, r6, by kernel_rfl⟩
-- 7 (*drover/table.Flows).Delete []
def c7_0 : List AOper := [
  ⟨(some 7), .p (.mov (.s 10)), none, 0⟩]
def c7_1 : ACode := (.cond (.s 12) (.seq (.ops [
  ⟨(some 13), .p (.mov (.s 7)), none, 0⟩,
  ⟨(some 6), .p (.mov (.s 13)), none, 0⟩]) .ret) .skip)
def c7_2 : ACode := (.seq (.ops [
  ⟨(some 11), .p (.mov (.s 7)), none, 0⟩,
  ⟨(some 12), .p (.bin .neq (.s 11) (.c (.v (.int .i64 0)))), none, 0⟩]) c7_1)
def c7_3 : ACode := (.seq (.ops [
  ⟨(some 6), .p (.mov (.c (.v (.int .i64 0)))), none, 0⟩]) .ret)
def c7_4 : ACode := (.seq (.draw [
  ⟨(some 14), .p (.mov (.s 0)), none, 0⟩,
  ⟨(some 15), .p (.fieldAddr 0 none (.s 4)), none, 0⟩,
  ⟨(some 16), .m (.load none (.s 15)), none, 0⟩,
  ⟨(some 17), .p (.mov (.s 0)), none, 0⟩,
  ⟨(some 18), .p (.fieldAddr 0 none (.s 4)), none, 0⟩,
  ⟨(some 19), .m (.load none (.s 18)), none, 0⟩,
  ⟨(some 20), .p (.nilCheck (.s 17)), none, 0⟩,
  ⟨(some 21), .p (.fieldAddr 1 (some 8) (.s 20)), none, 0⟩,
  ⟨(some 22), .p (.adrArr 8 none (.s 21) (.s 19)), none, 0⟩,
  ⟨(some 23), .m (.load none (.s 22)), none, 0⟩,
  ⟨(some 24), .p (.mkFn 24 [(.s 4), (.s 5)]), none, 0⟩,
  ⟨(some 25), .qcall (.c (.fn 23 [])) [(.s 23), (.s 24)], none, 26⟩,
  ⟨(some 26), .p (.nilCheck (.s 14)), none, 0⟩,
  ⟨(some 27), .p (.fieldAddr 1 (some 8) (.s 26)), none, 0⟩,
  ⟨(some 28), .p (.adrArr 8 none (.s 27) (.s 16)), none, 0⟩,
  ⟨none, .m (.store none (.s 28) (.s 25)), none, 0⟩]) c7_3)
def c7_5 : ACode := (.seq (.seq (.ops (⟨(some 8), .p (.mov (.s 0)), none, 0⟩ ::
  ⟨(some 9), .m (.load (some 10) (.s 4)), none, 0⟩ ::
  ⟨(some 10), .call (.c (.fn 14 [])) [(.s 8), (.s 9)], none, 44⟩ :: c7_0)) c7_2) c7_4)
def c7 : ACode := (.seq (.ops [
  ⟨(some 4), .m (.box (.s 1)), none, 0⟩,
  ⟨(some 5), .m (.box (.s 2)), none, 0⟩,
  ⟨(some 6), .p (.mov (.c (.v (.int .i64 0)))), none, 0⟩]) c7_5)
theorem t7 : trC Try.prog Try.f7.ntmps (bodyOf Try.f7) = some c7 := by kernel_rfl
theorem r7 : Try.f7.results.toList.mapM (trR Try.prog) = some [.tmp 6] := by kernel_rfl
def i7 : FI := ⟨29, c7, [.tmp 6]⟩
theorem k7 : Knows Try.prog 7 i7 := ⟨Try.f7, bodyOf Try.f7, Try.func7, by kernel_rfl, by kernel_rfl, t7, r7, by kernel_rfl⟩
-- 8 (*drover/table.Flows).List []
def c8_0 : ACode := (.cond (.s 17) (.seq (.ops [
  ⟨(some 4), .p (.mov (.c (.v (.slice none 0 0)))), none, 0⟩]) .ret) .skip)
def c8_1 : List AOper := [
  ⟨(some 32), .m (.buildSlice 10 1 [(.v (.int .i64 0)), (.v (.int .i64 0)), (.v (.slice none 0 0)), (.v (.slice none 0 0)), (.v (.slice none 0 0)), (.v (.bool false)), (.v (.int .u64 0)), (.v (.int .u64 0)), (.v (.int .i64 0)), (.v (.int .i64 0))] [(0, 10, (.s 31))]), none, 26⟩,
  ⟨(some 33), .m (.append 10 128 (.s 29) (.s 32)), none, 26⟩,
  ⟨(some 5), .p (.mov (.s 33)), none, 0⟩]
def c8_2 : ACode := (.ops (⟨(some 29), .p (.mov (.s 5)), none, 0⟩ ::
  ⟨(some 30), .m (.load (some 10) (.s 7)), none, 0⟩ ::
  ⟨(some 31), .call (.c (.fn 13 [])) [(.s 30)], none, 0⟩ :: c8_1))
def c8_3 : ACode := (.ops [
  ⟨(some 34), .p (.bin .add (.s 25) (.c (.v (.int .i64 1)))), none, 0⟩,
  ⟨(some 25), .p (.mov (.s 34)), none, 0⟩])
def c8_4 : ACode := (.seq (.block 1 (.seq (.ops [
  ⟨(some 27), .p (.adrSl 10 (.s 23) (.s 25)), none, 0⟩,
  ⟨(some 28), .m (.load (some 10) (.s 27)), none, 0⟩,
  ⟨(some 7), .m (.alloc [(.v (.int .i64 0)), (.v (.int .i64 0)), (.v (.slice none 0 0)), (.v (.slice none 0 0)), (.v (.slice none 0 0)), (.v (.bool false)), (.v (.int .u64 0)), (.v (.int .u64 0)), (.v (.int .i64 0)), (.v (.int .i64 0))]), none, 59⟩,
  ⟨none, .m (.store (some 10) (.s 7) (.s 28)), none, 0⟩]) c8_2)) c8_3)
def c8_5 : ACode := (.seq (.cond (.s 26) .skip (.exit 0)) c8_4)
def c8_6 : ACode := (.seq (.ops [
  ⟨(some 26), .p (.bin .lss (.s 25) (.s 24)), none, 0⟩]) c8_5)
def c8_7 : ACode := (.block 0 (.loop c8_6))
def c8_8 : ACode := (.seq (.ops [
  ⟨(some 35), .p (.mov (.s 5)), none, 0⟩,
  ⟨(some 4), .p (.mov (.s 35)), none, 0⟩]) .ret)
def c8_9 : ACode := (.seq (.seq (.ops [
  ⟨(some 18), .p (.mov (.s 0)), none, 0⟩,
  ⟨(some 19), .p (.mov (.s 1)), none, 0⟩,
  ⟨(some 20), .p (.nilCheck (.s 18)), none, 0⟩,
  ⟨(some 21), .p (.fieldAddr 1 (some 8) (.s 20)), none, 0⟩,
  ⟨(some 22), .p (.adrArr 8 none (.s 21) (.s 19)), none, 0⟩,
  ⟨(some 23), .m (.load none (.s 22)), none, 0⟩,
  ⟨(some 24), .p (.len false (.s 23)), none, 26⟩,
  ⟨(some 25), .p (.mov (.c (.v (.int .i64 0)))), none, 0⟩]) c8_7) c8_8)
def c8_10 : ACode := (.seq (.ops [
  ⟨(some 5), .p (.mov (.c (.v (.slice none 0 0)))), none, 0⟩]) c8_9)
def c8_11 : ACode := (.seq (.seq (.ops [
  ⟨(some 8), .p (.mov (.s 0)), none, 0⟩,
  ⟨(some 9), .p (.eqn false (.pointer 44) (.s 8)), none, 0⟩,
  ⟨(some 10), .p (.mov (.s 9)), none, 0⟩,
  ⟨(some 11), .p (.mov (.s 1)), (some (10, false)), 0⟩,
  ⟨(some 12), .p (.bin .lss (.s 11) (.c (.v (.int .i64 0)))), (some (10, false)), 0⟩,
  ⟨(some 13), .p (.pick (.s 10) (.c (.v (.bool true))) (.s 12)), none, 0⟩,
  ⟨(some 14), .p (.mov (.s 13)), none, 0⟩,
  ⟨(some 15), .p (.mov (.s 1)), (some (14, false)), 0⟩,
  ⟨(some 16), .p (.bin .geq (.s 15) (.c (.v (.int .i64 8)))), (some (14, false)), 0⟩,
  ⟨(some 17), .p (.pick (.s 14) (.c (.v (.bool true))) (.s 16)), none, 0⟩]) c8_0) c8_10)
def c8 : ACode := (.seq (.ops [
  ⟨(some 4), .p (.mov (.c (.v (.slice none 0 0)))), none, 0⟩]) c8_11)
theorem t8 : trC Try.prog Try.f8.ntmps (bodyOf Try.f8) = some c8 := by kernel_rfl
theorem r8 : Try.f8.results.toList.mapM (trR Try.prog) = some [.tmp 4] := by kernel_rfl
def i8 : FI := ⟨36, c8, [.tmp 4]⟩
theorem k8 : Knows Try.prog 8 i8 := ⟨Try.f8, bodyOf Try.f8, Try.func8, by kernel_rfl, by kernel_rfl, t8, r8, by kernel_rfl⟩
-- 14 (*drover/table.Flows).wrong []
def c14_0 : ACode := (.cond (.s 8) (.seq (.ops [
  ⟨(some 4), .p (.mov (.c (.v (.int .i64 2)))), none, 0⟩]) .ret) .skip)
def c14_1 : List AOper := [
  ⟨(some 5), .p (.mov (.s 10)), none, 0⟩]
def c14_2 : ACode := (.cond (.s 12) (.seq (.ops [
  ⟨(some 13), .p (.mov (.s 5)), none, 0⟩,
  ⟨(some 4), .p (.mov (.s 13)), none, 0⟩]) .ret) .skip)
def c14_3 : ACode := (.seq (.ops [
  ⟨(some 11), .p (.mov (.s 5)), none, 0⟩,
  ⟨(some 12), .p (.bin .neq (.s 11) (.c (.v (.int .i64 0)))), none, 0⟩]) c14_2)
def c14_4 : List AOper := [
  ⟨(some 6), .p (.mov (.s 16)), none, 0⟩]
def c14_5 : ACode := (.cond (.s 18) (.seq (.ops [
  ⟨(some 19), .p (.mov (.s 6)), none, 0⟩,
  ⟨(some 4), .p (.mov (.s 19)), none, 0⟩]) .ret) .skip)
def c14_6 : ACode := (.seq (.ops [
  ⟨(some 17), .p (.mov (.s 6)), none, 0⟩,
  ⟨(some 18), .p (.bin .neq (.s 17) (.c (.v (.int .i64 0)))), none, 0⟩]) c14_5)
def c14_7 : ACode := (.cond (.s 27) (.seq (.ops [
  ⟨(some 4), .p (.mov (.c (.v (.int .i64 1)))), none, 0⟩]) .ret) .skip)
def c14_8 : ACode := (.seq (.ops [
  ⟨(some 4), .p (.mov (.c (.v (.int .i64 0)))), none, 0⟩]) .ret)
def c14_9 : ACode := (.seq (.seq (.ops [
  ⟨(some 20), .p (.fieldAddr 1 none (.s 3)), none, 0⟩,
  ⟨(some 21), .m (.load none (.s 20)), none, 0⟩,
  ⟨(some 22), .p (.bin .lss (.s 21) (.c (.v (.int .i64 0)))), none, 0⟩,
  ⟨(some 23), .p (.mov (.s 22)), none, 0⟩,
  ⟨(some 24), .p (.fieldAddr 1 none (.s 3)), (some (23, false)), 0⟩,
  ⟨(some 25), .m (.load none (.s 24)), (some (23, false)), 0⟩,
  ⟨(some 26), .p (.bin .gtr (.s 25) (.c (.v (.int .i64 65535)))), (some (23, false)), 0⟩,
  ⟨(some 27), .p (.pick (.s 23) (.c (.v (.bool true))) (.s 26)), none, 0⟩]) c14_7) c14_8)
def c14_10 : ACode := (.seq (.seq (.ops (⟨(some 14), .p (.fieldAddr 2 none (.s 3)), none, 0⟩ ::
  ⟨(some 15), .m (.load none (.s 14)), none, 0⟩ ::
  ⟨(some 16), .call (.c (.fn 32 [])) [(.s 15)], none, 59⟩ :: c14_4)) c14_6) c14_9)
def c14_11 : ACode := (.seq (.seq (.ops (⟨(some 9), .m (.load (some 10) (.s 3)), none, 0⟩ ::
  ⟨(some 10), .call (.c (.fn 31 [])) [(.s 9)], none, 0⟩ :: c14_1)) c14_3) c14_10)
def c14_12 : ACode := (.seq (.seq (.ops [
  ⟨(some 7), .p (.mov (.s 0)), none, 0⟩,
  ⟨(some 8), .p (.eqn false (.pointer 44) (.s 7)), none, 0⟩]) c14_0) c14_11)
def c14 : ACode := (.seq (.ops [
  ⟨(some 3), .m (.box (.s 1)), none, 0⟩,
  ⟨(some 4), .p (.mov (.c (.v (.int .i64 0)))), none, 0⟩]) c14_12)
theorem t14 : trC Try.prog Try.f14.ntmps (bodyOf Try.f14) = some c14 := by kernel_rfl
theorem r14 : Try.f14.results.toList.mapM (trR Try.prog) = some [.tmp 4] := by kernel_rfl
def i14 : FI := ⟨28, c14, [.tmp 4]⟩
theorem k14 : Knows Try.prog 14 i14 := ⟨Try.f14, bodyOf Try.f14, Try.func14, by kernel_rfl, by kernel_rfl, t14, r14, by kernel_rfl⟩
end Go.Proofs.Tbn
