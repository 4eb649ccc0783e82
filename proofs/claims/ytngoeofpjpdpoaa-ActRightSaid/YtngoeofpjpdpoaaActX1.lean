/- A part of a law's proof: ActX1. -/
import Derived.KernelRfl
import Derived.Test.YtngoeofpjpdpoaaActX0
import Derived.Test.YtngoeofpjpdpoaaProg
import Derived.Test.YtngoeofpjpdpoaaSvCod
set_option linter.unusedSimpArgs false
set_option linter.constructorNameAsVariable false
namespace Go.Proofs.Act
open Go Go.Ab Go.Proofs
set_option linter.unusedVariables false
-- 22 drover/act.Decode []
def c22_0 : ACode := (.cond (.s 8) .skip (.exit 0))
def c22_1 : ACode := (.cond (.s 11) (.seq (.ops [
  ⟨(some 2), .p (.mov (.c (.v (.slice none 0 0)))), none, 0⟩,
  ⟨(some 3), .p (.mov (.c (.v (.int .i64 10)))), none, 0⟩]) .ret) .skip)
def c22_2 : ACode := (.cond (.s 25) (.seq (.ops [
  ⟨(some 2), .p (.mov (.c (.v (.slice none 0 0)))), none, 0⟩,
  ⟨(some 3), .p (.mov (.c (.v (.int .i64 11)))), none, 0⟩]) .ret) .skip)
def c22_3 : ACode := (.cond (.s 20) (.seq (.ops [
  ⟨(some 2), .p (.mov (.c (.v (.slice none 0 0)))), none, 0⟩,
  ⟨(some 3), .p (.mov (.c (.v (.int .i64 10)))), none, 0⟩]) .ret) (.seq (.ops [
  ⟨(some 26), .p (.mov (.s 5)), none, 0⟩,
  ⟨(some 27), .p (.bin .lss (.s 26) (.c (.v (.int .i64 8)))), none, 0⟩,
  ⟨(some 25), .p (.mov (.s 27)), none, 0⟩]) c22_2))
def c22_4 : List AOper := [
  ⟨(some 6), .m (.alloc [(.v (.int .i64 0)), (.v (.int .i64 0)), (.v (.int .u64 0))]), none, 0⟩,
  ⟨none, .m (.store (some 3) (.s 6) (.s 31)), none, 0⟩]
def c22_5 : ACode := (.cond (.s 42) (.seq (.ops [
  ⟨(some 2), .p (.mov (.c (.v (.slice none 0 0)))), none, 0⟩,
  ⟨(some 3), .p (.mov (.c (.v (.int .i64 11)))), none, 0⟩]) .ret) .skip)
def c22_6 : ACode := (.cond (.s 45) (.seq (.ops [
  ⟨(some 2), .p (.mov (.c (.v (.slice none 0 0)))), none, 0⟩,
  ⟨(some 3), .p (.mov (.c (.v (.int .i64 44)))), none, 0⟩]) .ret) .skip)
def c22_7 : ACode := (.draw [
  ⟨(some 46), .p (.mov (.s 4)), none, 0⟩,
  ⟨(some 47), .m (.load (some 3) (.s 6)), none, 0⟩,
  ⟨(some 48), .m (.buildSlice 3 1 [(.v (.int .i64 0)), (.v (.int .i64 0)), (.v (.int .u64 0))] [(0, 3, (.s 47))]), none, 31⟩,
  ⟨(some 49), .m (.append 3 24 (.s 46) (.s 48)), none, 31⟩,
  ⟨(some 50), .p (.mov (.s 0)), none, 0⟩,
  ⟨(some 51), .p (.mov (.s 5)), none, 0⟩,
  ⟨(some 52), .p (.slStr (.s 50) (some (.s 51)) none), none, 0⟩,
  ⟨(some 4), .p (.mov (.s 49)), none, 0⟩,
  ⟨(some 0), .p (.mov (.s 52)), none, 0⟩])
def c22_8 : ACode := (.seq (.seq (.ops [
  ⟨(some 43), .p (.mov (.s 4)), none, 0⟩,
  ⟨(some 44), .p (.len false (.s 43)), none, 31⟩,
  ⟨(some 45), .p (.bin .eql (.s 44) (.c (.v (.int .i64 32)))), none, 0⟩]) c22_6) c22_7)
def c22_9 : ACode := (.seq (.seq (.draw [
  ⟨(some 32), .m (.load (some 3) (.s 6)), none, 0⟩,
  ⟨(some 33), .call (.c (.fn 14 [])) [(.s 32)], none, 0⟩,
  ⟨(some 34), .p (.un .not (.s 33)), none, 0⟩,
  ⟨(some 35), .p (.mov (.s 34)), none, 0⟩,
  ⟨(some 36), .m (.load (some 3) (.s 6)), (some (35, false)), 0⟩,
  ⟨(some 37), .call (.c (.fn 29 [])) [(.s 36)], (some (35, false)), 0⟩,
  ⟨(some 38), .p (.mov (.s 0)), (some (35, false)), 0⟩,
  ⟨(some 39), .p (.mov (.s 5)), (some (35, false)), 0⟩,
  ⟨(some 40), .p (.slStr (.s 38) none (some (.s 39))), (some (35, false)), 0⟩,
  ⟨(some 41), .p (.bin .neq (.s 37) (.s 40)), (some (35, false)), 0⟩,
  ⟨(some 42), .p (.pick (.s 35) (.c (.v (.bool true))) (.s 41)), none, 0⟩]) c22_5) c22_8)
def c22_10 : ACode := (.seq (.ops (⟨(some 28), .p (.mov (.s 0)), none, 0⟩ ::
  ⟨(some 29), .p (.mov (.s 5)), none, 0⟩ ::
  ⟨(some 30), .p (.slStr (.s 28) none (some (.s 29))), none, 0⟩ ::
  ⟨(some 31), .call (.c (.fn 49 [])) [(.s 30)], none, 0⟩ :: c22_4)) c22_9)
def c22_11 : ACode := (.seq (.block 2 (.seq (.ops [
  ⟨(some 21), .p (.mov (.s 0)), none, 0⟩,
  ⟨(some 22), .p (.len true (.s 21)), none, 0⟩,
  ⟨(some 23), .p (.mov (.s 5)), none, 0⟩,
  ⟨(some 24), .p (.bin .lss (.s 22) (.s 23)), none, 0⟩,
  ⟨(some 20), .p (.mov (.s 24)), none, 0⟩]) c22_3)) c22_10)
def c22_12 : ACode := (.seq (.draw [
  ⟨(some 12), .p (.mov (.s 0)), none, 0⟩,
  ⟨(some 13), .p (.idxStr (.s 12) (.c (.v (.int .i64 2)))), none, 0⟩,
  ⟨(some 14), .p (.cint .i64 (.s 13)), none, 0⟩,
  ⟨(some 15), .p (.bin .shl (.s 14) (.c (.v (.int .u64 8)))), none, 0⟩,
  ⟨(some 16), .p (.mov (.s 0)), none, 0⟩,
  ⟨(some 17), .p (.idxStr (.s 16) (.c (.v (.int .i64 3)))), none, 0⟩,
  ⟨(some 18), .p (.cint .i64 (.s 17)), none, 0⟩,
  ⟨(some 19), .p (.bin .or (.s 15) (.s 18)), none, 0⟩,
  ⟨(some 5), .p (.mov (.s 19)), none, 0⟩]) c22_11)
def c22_13 : ACode := (.block 1 (.seq (.seq (.ops [
  ⟨(some 9), .p (.mov (.s 0)), none, 0⟩,
  ⟨(some 10), .p (.len true (.s 9)), none, 0⟩,
  ⟨(some 11), .p (.bin .lss (.s 10) (.c (.v (.int .i64 4)))), none, 0⟩]) c22_1) c22_12))
def c22_14 : ACode := (.seq (.seq (.ops [
  ⟨(some 7), .p (.mov (.s 0)), none, 0⟩,
  ⟨(some 8), .p (.bin .neq (.s 7) (.c (.v (.string ⟨#[]⟩)))), none, 0⟩]) c22_0) c22_13)
def c22_15 : ACode := (.seq (.ops [
  ⟨(some 53), .p (.mov (.s 4)), none, 0⟩,
  ⟨(some 2), .p (.mov (.s 53)), none, 0⟩,
  ⟨(some 3), .p (.mov (.c (.v (.int .i64 0)))), none, 0⟩]) .ret)
def c22_16 : ACode := (.seq (.block 0 (.loop c22_14)) c22_15)
def c22_17 : ACode := (.seq (.ops [
  ⟨(some 4), .p (.mov (.c (.v (.slice none 0 0)))), none, 0⟩]) c22_16)
def c22 : ACode := (.seq (.ops [
  ⟨(some 2), .p (.mov (.c (.v (.slice none 0 0)))), none, 0⟩,
  ⟨(some 3), .p (.mov (.c (.v (.int .i64 0)))), none, 0⟩]) c22_17)
theorem t22 : trC Try.prog Try.f22.ntmps (bodyOf Try.f22) = some c22 := by kernel_rfl
theorem r22 : Try.f22.results.toList.mapM (trR Try.prog) = some [.tmp 2, .tmp 3] := by kernel_rfl
def i22 : FI := ⟨54, c22, [.tmp 2, .tmp 3]⟩
theorem k22 : Knows Try.prog 22 i22 := ⟨Try.f22, bodyOf Try.f22, Try.func22, by kernel_rfl, by kernel_rfl, t22, r22, by kernel_rfl⟩
-- 23 drover/droverref06.Decode []
def c23_0 : ACode := (.cond (.s 8) .skip (.exit 0))
def c23_1 : ACode := (.cond (.s 11) (.seq (.ops [
  ⟨(some 2), .p (.mov (.c (.v (.slice none 0 0)))), none, 0⟩,
  ⟨(some 3), .p (.mov (.c (.v (.int .i64 10)))), none, 0⟩]) .ret) .skip)
def c23_2 : List AOper := [
  ⟨(some 15), .p (.cint .i64 (.s 14)), none, 0⟩,
  ⟨(some 5), .p (.mov (.s 15)), none, 0⟩]
def c23_3 : ACode := (.cond (.s 19) (.seq (.ops [
  ⟨(some 2), .p (.mov (.c (.v (.slice none 0 0)))), none, 0⟩,
  ⟨(some 3), .p (.mov (.c (.v (.int .i64 10)))), none, 0⟩]) .ret) .skip)
def c23_4 : ACode := (.cond (.s 21) (.seq (.ops [
  ⟨(some 2), .p (.mov (.c (.v (.slice none 0 0)))), none, 0⟩,
  ⟨(some 3), .p (.mov (.c (.v (.int .i64 11)))), none, 0⟩]) .ret) .skip)
def c23_5 : List AOper := [
  ⟨(some 6), .m (.alloc [(.v (.int .i64 0)), (.v (.int .i64 0)), (.v (.int .u64 0))]), none, 0⟩,
  ⟨none, .m (.store (some 3) (.s 6) (.s 25)), none, 0⟩]
def c23_6 : ACode := (.cond (.s 36) (.seq (.ops [
  ⟨(some 2), .p (.mov (.c (.v (.slice none 0 0)))), none, 0⟩,
  ⟨(some 3), .p (.mov (.c (.v (.int .i64 11)))), none, 0⟩]) .ret) .skip)
def c23_7 : ACode := (.cond (.s 46) (.seq (.ops [
  ⟨(some 2), .p (.mov (.c (.v (.slice none 0 0)))), none, 0⟩,
  ⟨(some 3), .p (.mov (.c (.v (.int .i64 44)))), none, 0⟩]) .ret) .skip)
def c23_8 : ACode := (.seq (.ops [
  ⟨(some 44), .p (.mov (.s 4)), none, 0⟩,
  ⟨(some 45), .p (.len false (.s 44)), none, 31⟩,
  ⟨(some 46), .p (.bin .gtr (.s 45) (.c (.v (.int .i64 32)))), none, 0⟩]) c23_7)
def c23_9 : ACode := (.seq (.ops [
  ⟨(some 41), .p (.mov (.s 0)), none, 0⟩,
  ⟨(some 42), .p (.mov (.s 5)), none, 0⟩,
  ⟨(some 43), .p (.slStr (.s 41) (some (.s 42)) none), none, 0⟩,
  ⟨(some 0), .p (.mov (.s 43)), none, 0⟩]) c23_8)
def c23_10 : ACode := (.seq (.ops [
  ⟨(some 37), .p (.mov (.s 4)), none, 0⟩,
  ⟨(some 38), .m (.load (some 3) (.s 6)), none, 0⟩,
  ⟨(some 39), .m (.buildSlice 3 1 [(.v (.int .i64 0)), (.v (.int .i64 0)), (.v (.int .u64 0))] [(0, 3, (.s 38))]), none, 31⟩,
  ⟨(some 40), .m (.append 3 24 (.s 37) (.s 39)), none, 31⟩,
  ⟨(some 4), .p (.mov (.s 40)), none, 0⟩]) c23_9)
def c23_11 : ACode := (.seq (.seq (.draw [
  ⟨(some 26), .m (.load (some 3) (.s 6)), none, 0⟩,
  ⟨(some 27), .call (.c (.fn 15 [])) [(.s 26)], none, 0⟩,
  ⟨(some 28), .p (.un .not (.s 27)), none, 0⟩,
  ⟨(some 29), .p (.mov (.s 28)), none, 0⟩,
  ⟨(some 30), .m (.load (some 3) (.s 6)), (some (29, false)), 0⟩,
  ⟨(some 31), .call (.c (.fn 31 [])) [(.s 30)], (some (29, false)), 0⟩,
  ⟨(some 32), .p (.mov (.s 0)), (some (29, false)), 0⟩,
  ⟨(some 33), .p (.mov (.s 5)), (some (29, false)), 0⟩,
  ⟨(some 34), .p (.slStr (.s 32) none (some (.s 33))), (some (29, false)), 0⟩,
  ⟨(some 35), .p (.bin .neq (.s 31) (.s 34)), (some (29, false)), 0⟩,
  ⟨(some 36), .p (.pick (.s 29) (.c (.v (.bool true))) (.s 35)), none, 0⟩]) c23_6) c23_10)
def c23_12 : ACode := (.seq (.ops (⟨(some 22), .p (.mov (.s 0)), none, 0⟩ ::
  ⟨(some 23), .p (.mov (.s 5)), none, 0⟩ ::
  ⟨(some 24), .p (.slStr (.s 22) none (some (.s 23))), none, 0⟩ ::
  ⟨(some 25), .call (.c (.fn 51 [])) [(.s 24)], none, 0⟩ :: c23_5)) c23_11)
def c23_13 : ACode := (.seq (.seq (.ops [
  ⟨(some 20), .p (.mov (.s 5)), none, 0⟩,
  ⟨(some 21), .p (.bin .lss (.s 20) (.c (.v (.int .i64 8)))), none, 0⟩]) c23_4) c23_12)
def c23_14 : ACode := (.seq (.seq (.ops [
  ⟨(some 16), .p (.mov (.s 0)), none, 0⟩,
  ⟨(some 17), .p (.len true (.s 16)), none, 0⟩,
  ⟨(some 18), .p (.mov (.s 5)), none, 0⟩,
  ⟨(some 19), .p (.bin .lss (.s 17) (.s 18)), none, 0⟩]) c23_3) c23_13)
def c23_15 : ACode := (.seq (.ops (⟨(some 12), .p (.mov (.s 0)), none, 0⟩ ::
  ⟨(some 13), .p (.slStr (.s 12) (some (.c (.v (.int .i64 2)))) (some (.c (.v (.int .i64 4))))), none, 0⟩ ::
  ⟨(some 14), .call (.c (.fn 50 [])) [(.s 13)], none, 0⟩ :: c23_2)) c23_14)
def c23_16 : ACode := (.block 1 (.seq (.seq (.ops [
  ⟨(some 9), .p (.mov (.s 0)), none, 0⟩,
  ⟨(some 10), .p (.len true (.s 9)), none, 0⟩,
  ⟨(some 11), .p (.bin .lss (.s 10) (.c (.v (.int .i64 4)))), none, 0⟩]) c23_1) c23_15))
def c23_17 : ACode := (.seq (.seq (.ops [
  ⟨(some 7), .p (.mov (.s 0)), none, 0⟩,
  ⟨(some 8), .p (.bin .neq (.s 7) (.c (.v (.string ⟨#[]⟩)))), none, 0⟩]) c23_0) c23_16)
def c23_18 : ACode := (.seq (.ops [
  ⟨(some 47), .p (.mov (.s 4)), none, 0⟩,
  ⟨(some 2), .p (.mov (.s 47)), none, 0⟩,
  ⟨(some 3), .p (.mov (.c (.v (.int .i64 0)))), none, 0⟩]) .ret)
def c23_19 : ACode := (.seq (.block 0 (.loop c23_17)) c23_18)
def c23_20 : ACode := (.seq (.ops [
  ⟨(some 4), .p (.mov (.c (.v (.slice none 0 0)))), none, 0⟩]) c23_19)
def c23 : ACode := (.seq (.ops [
  ⟨(some 2), .p (.mov (.c (.v (.slice none 0 0)))), none, 0⟩,
  ⟨(some 3), .p (.mov (.c (.v (.int .i64 0)))), none, 0⟩]) c23_20)
theorem t23 : trC Try.prog Try.f23.ntmps (bodyOf Try.f23) = some c23 := by kernel_rfl
theorem r23 : Try.f23.results.toList.mapM (trR Try.prog) = some [.tmp 2, .tmp 3] := by kernel_rfl
def i23 : FI := ⟨48, c23, [.tmp 2, .tmp 3]⟩
theorem k23 : Knows Try.prog 23 i23 := ⟨Try.f23, bodyOf Try.f23, Try.func23, by kernel_rfl, by kernel_rfl, t23, r23, by kernel_rfl⟩
-- 24 drover/frame.Bytes []
def c24_0 : List AOper := [
  ⟨(some 8), .p (.un .not (.s 7)), none, 0⟩,
  ⟨(some 5), .p (.mov (.s 8)), none, 0⟩]
def c24_1 : ACode := (.cond (.s 9) (.seq (.ops [
  ⟨(some 2), .p (.mov (.c (.v (.string ⟨#[]⟩)))), none, 0⟩,
  ⟨(some 3), .p (.mov (.c (.v (.int .i64 44)))), none, 0⟩]) .ret) .skip)
def c24_2 : ACode := (.cond (.s 5) (.seq (.ops [
  ⟨(some 2), .p (.mov (.c (.v (.string ⟨#[]⟩)))), none, 0⟩,
  ⟨(some 3), .p (.mov (.c (.v (.int .i64 1)))), none, 0⟩]) .ret) (.seq (.ops [
  ⟨(some 10), .p (.fieldAddr 10 none (.s 1)), none, 0⟩,
  ⟨(some 11), .m (.load none (.s 10)), none, 0⟩,
  ⟨(some 12), .p (.len true (.s 11)), none, 0⟩,
  ⟨(some 13), .p (.bin .gtr (.s 12) (.c (.v (.int .i64 1500)))), none, 0⟩,
  ⟨(some 9), .p (.mov (.s 13)), none, 0⟩]) c24_1))
def c24_3 : ACode := (.cond (.s 20) (.seq (.ops [
  ⟨(some 2), .p (.mov (.c (.v (.string ⟨#[]⟩)))), none, 0⟩,
  ⟨(some 3), .p (.mov (.c (.v (.int .i64 44)))), none, 0⟩]) .ret) .skip)
def c24_4 : ACode := (.seq (.ops [
  ⟨(some 21), .p (.mov (.s 4)), none, 0⟩,
  ⟨(some 2), .p (.mov (.s 21)), none, 0⟩,
  ⟨(some 3), .p (.mov (.c (.v (.int .i64 0)))), none, 0⟩]) .ret)
def c24_5 : ACode := (.seq (.seq (.ops [
  ⟨(some 18), .p (.mov (.s 4)), none, 0⟩,
  ⟨(some 19), .p (.len true (.s 18)), none, 0⟩,
  ⟨(some 20), .p (.bin .gtr (.s 19) (.c (.v (.int .i64 1500)))), none, 0⟩]) c24_3) c24_4)
def c24_6 : ACode := (.seq (.draw [
  ⟨(some 14), .m (.load (some 11) (.s 1)), none, 0⟩,
  ⟨(some 15), .m (.load (some 11) (.s 1)), none, 0⟩,
  ⟨(some 16), .qcall (.c (.fn 54 [])) [(.s 15)], none, 0⟩,
  ⟨(some 17), .call (.c (.fn 53 [])) [(.s 14), (.s 16)], none, 0⟩,
  ⟨(some 4), .p (.mov (.s 17)), none, 0⟩]) c24_5)
def c24_7 : ACode := (.seq (.block 0 (.seq (.ops (⟨(some 6), .m (.load (some 11) (.s 1)), none, 0⟩ ::
  ⟨(some 7), .call (.c (.fn 52 [])) [(.s 6)], none, 0⟩ :: c24_0)) c24_2)) c24_6)
def c24 : ACode := (.seq (.ops [
  ⟨(some 1), .m (.box (.s 0)), none, 0⟩,
  ⟨(some 2), .p (.mov (.c (.v (.string ⟨#[]⟩)))), none, 0⟩,
  ⟨(some 3), .p (.mov (.c (.v (.int .i64 0)))), none, 0⟩]) c24_7)
theorem t24 : trC Try.prog Try.f24.ntmps (bodyOf Try.f24) = some c24 := by kernel_rfl
theorem r24 : Try.f24.results.toList.mapM (trR Try.prog) = some [.tmp 2, .tmp 3] := by kernel_rfl
def i24 : FI := ⟨22, c24, [.tmp 2, .tmp 3]⟩
theorem k24 : Knows Try.prog 24 i24 := ⟨Try.f24, bodyOf Try.f24, Try.func24, by kernel_rfl, by kernel_rfl, t24, r24, by kernel_rfl⟩
-- 25 drover/droverlaw06.out []
def c25_0 : ACode := (.seq (.ops [
  ⟨(some 3), .p (.mov (.s 0)), none, 0⟩,
  ⟨(some 4), .p (.build [(.v (.int .i64 0)), (.v (.int .i64 0)), (.v (.int .u64 0))] [(0, 1, (.c (.v (.int .i64 1)))), (2, 1, (.s 3))]), none, 0⟩,
  ⟨none, .m (.store (some 3) (.s 2) (.s 4)), none, 0⟩]) .ret)
def c25 : ACode := (.seq (.ops [
  ⟨(some 2), .m (.alloc [(.v (.int .i64 0)), (.v (.int .i64 0)), (.v (.int .u64 0))]), none, 0⟩]) c25_0)
theorem t25 : trC Try.prog Try.f25.ntmps (bodyOf Try.f25) = some c25 := by kernel_rfl
theorem r25 : Try.f25.results.toList.mapM (trR Try.prog) = some [.cell 2 (some 3)] := by kernel_rfl
def i25 : FI := ⟨5, c25, [.cell 2 (some 3)]⟩
theorem k25 : Knows Try.prog 25 i25 := ⟨Try.f25, bodyOf Try.f25, Try.func25, by kernel_rfl, by kernel_rfl, t25, r25, by kernel_rfl⟩
-- 26 slices.ContainsFunc[[]drover/api.Action,drover/api.Action] []
def c26_0 : List AOper := [
  ⟨(some 8), .p (.bin .geq (.s 7) (.c (.v (.int .i64 0)))), none, 0⟩,
  ⟨(some 4), .p (.mov (.s 8)), none, 0⟩]
def c26_1 : ACode := (.seq (.ops (⟨(some 5), .p (.mov (.s 0)), none, 0⟩ ::
  ⟨(some 6), .p (.mov (.s 1)), none, 0⟩ ::
  ⟨(some 7), .call (.c (.fn 55 [])) [(.s 5), (.s 6)], none, 31⟩ :: c26_0)) .ret)
def c26 : ACode := (.seq (.ops [
  ⟨(some 4), .p (.mov (.c (.v (.bool false)))), none, 0⟩]) c26_1)
theorem t26 : trC Try.prog Try.f26.ntmps (bodyOf Try.f26) = some c26 := by kernel_rfl
theorem r26 : Try.f26.results.toList.mapM (trR Try.prog) = some [.tmp 4] := by kernel_rfl
def i26 : FI := ⟨9, c26, [.tmp 4]⟩
theorem k26 : Knows Try.prog 26 i26 := ⟨Try.f26, bodyOf Try.f26, Try.func26, by kernel_rfl, by kernel_rfl, t26, r26, by kernel_rfl⟩
-- 27 drover/act.Encode$1 []
def c27_0 : List AOper := [
  ⟨(some 5), .p (.un .not (.s 4)), none, 0⟩,
  ⟨(some 2), .p (.mov (.s 5)), none, 0⟩]
def c27_1 : ACode := (.seq (.ops (⟨(some 3), .m (.load (some 3) (.s 1)), none, 0⟩ ::
  ⟨(some 4), .call (.c (.fn 14 [])) [(.s 3)], none, 0⟩ :: c27_0)) .ret)
def c27 : ACode := (.seq (.ops [
  ⟨(some 1), .m (.box (.s 0)), none, 0⟩,
  ⟨(some 2), .p (.mov (.c (.v (.bool false)))), none, 0⟩]) c27_1)
theorem t27 : trC Try.prog Try.f27.ntmps (bodyOf Try.f27) = some c27 := by kernel_rfl
theorem r27 : Try.f27.results.toList.mapM (trR Try.prog) = some [.tmp 2] := by kernel_rfl
def i27 : FI := ⟨6, c27, [.tmp 2]⟩
theorem k27 : Knows Try.prog 27 i27 := ⟨Try.f27, bodyOf Try.f27, Try.func27, by kernel_rfl, by kernel_rfl, t27, r27, by kernel_rfl⟩
-- 28 (*strings.Builder).WriteString []
def c28_0 : ACode := (.seq (.ops [
  ⟨(some 17), .p (.mov (.s 1)), none, 0⟩,
  ⟨(some 18), .p (.len true (.s 17)), none, 0⟩,
  ⟨(some 4), .p (.mov (.s 18)), none, 0⟩,
  ⟨(some 5), .p (.mov (.c (.v .nilIface))), none, 0⟩]) .ret)
def c28_1 : ACode := (.seq (.ops [
  ⟨(some 8), .p (.mov (.s 0)), none, 0⟩,
  ⟨(some 9), .p (.mov (.s 0)), none, 0⟩,
  ⟨(some 10), .p (.nilCheck (.s 9)), none, 0⟩,
  ⟨(some 11), .p (.fieldAddr 1 none (.s 10)), none, 0⟩,
  ⟨(some 12), .m (.load none (.s 11)), none, 0⟩,
  ⟨(some 13), .p (.mov (.s 1)), none, 0⟩,
  ⟨(some 14), .m (.ext (.appendT 5 (.s 12) (.s 13))), none, 5⟩,
  ⟨(some 15), .p (.nilCheck (.s 8)), none, 0⟩,
  ⟨(some 16), .p (.fieldAddr 1 none (.s 15)), none, 0⟩,
  ⟨none, .m (.store none (.s 16) (.s 14)), none, 0⟩]) c28_0)
def c28_2 : ACode := (.seq (.ops [
  ⟨(some 6), .p (.mov (.s 0)), none, 0⟩,
  ⟨(some 7), .call (.c (.fn 56 [])) [(.s 6)], none, 58⟩]) c28_1)
def c28 : ACode := (.seq (.ops [
  ⟨(some 4), .p (.mov (.c (.v (.int .i64 0)))), none, 0⟩,
  ⟨(some 5), .p (.mov (.c (.v .nilIface))), none, 0⟩]) c28_2)
theorem t28 : trC Try.prog Try.f28.ntmps (bodyOf Try.f28) = some c28 := by kernel_rfl
theorem r28 : Try.f28.results.toList.mapM (trR Try.prog) = some [.tmp 4, .tmp 5] := by kernel_rfl
def i28 : FI := ⟨19, c28, [.tmp 4, .tmp 5]⟩
theorem k28 : Knows Try.prog 28 i28 := ⟨Try.f28, bodyOf Try.f28, Try.func28, by kernel_rfl, by kernel_rfl, t28, r28, by kernel_rfl⟩
-- 29 drover/act.laid []
def c29_0 : List AOper := [
  ⟨(some 33), .p (.bin .add (.s 31) (.s 32)), none, 0⟩,
  ⟨(some 34), .p (.bin .add (.s 33) (.c (.v (.string ⟨#[129, 0, 0, 0]⟩)))), none, 0⟩,
  ⟨(some 2), .p (.mov (.s 34)), none, 0⟩]
def c29_1 : List AOper := (⟨(some 32), .call (.c (.fn 57 [])) [(.c (.v (.int .u64 8))), (.c (.v (.int .i64 2)))], none, 0⟩ :: c29_0)
def c29_2 : List AOper := [
  ⟨(some 41), .p (.bin .add (.s 39) (.s 40)), none, 0⟩,
  ⟨(some 2), .p (.mov (.s 41)), none, 0⟩]
def c29_3 : List AOper := (⟨(some 39), .p (.bin .add (.s 37) (.s 38)), none, 0⟩ ::
  ⟨(some 40), .call (.c (.fn 57 [])) [(.c (.v (.int .u64 0))), (.c (.v (.int .i64 4)))], none, 0⟩ :: c29_2)
def c29_4 : List AOper := (⟨(some 38), .call (.c (.fn 57 [])) [(.c (.v (.int .u64 8))), (.c (.v (.int .i64 2)))], none, 0⟩ :: c29_3)
def c29_5 : ACode := (.cond (.s 35) (.seq (.ops (⟨(some 37), .call (.c (.fn 57 [])) [(.c (.v (.int .u64 18))), (.c (.v (.int .i64 2)))], none, 0⟩ :: c29_4)) .ret) .skip)
def c29_6 : ACode := (.cond (.s 29) (.seq (.ops (⟨(some 31), .call (.c (.fn 57 [])) [(.c (.v (.int .u64 17))), (.c (.v (.int .i64 2)))], none, 0⟩ :: c29_1)) .ret) (.seq (.ops [
  ⟨(some 36), .p (.bin .eql (.s 7) (.c (.v (.int .i64 4)))), none, 0⟩,
  ⟨(some 35), .p (.mov (.s 36)), none, 0⟩]) c29_5))
def c29_7 : ACode := (.cond (.s 20) (.seq (.draw [
  ⟨(some 22), .qcall (.c (.fn 57 [])) [(.c (.v (.int .u64 22))), (.c (.v (.int .i64 2)))], none, 0⟩,
  ⟨(some 23), .qcall (.c (.fn 57 [])) [(.c (.v (.int .u64 8))), (.c (.v (.int .i64 2)))], none, 0⟩,
  ⟨(some 24), .p (.bin .add (.s 22) (.s 23)), none, 0⟩,
  ⟨(some 25), .p (.fieldAddr 2 none (.s 1)), none, 0⟩,
  ⟨(some 26), .m (.load none (.s 25)), none, 0⟩,
  ⟨(some 27), .call (.c (.fn 57 [])) [(.s 26), (.c (.v (.int .i64 4)))], none, 0⟩,
  ⟨(some 28), .p (.bin .add (.s 24) (.s 27)), none, 0⟩,
  ⟨(some 2), .p (.mov (.s 28)), none, 0⟩]) .ret) (.seq (.ops [
  ⟨(some 30), .p (.bin .eql (.s 7) (.c (.v (.int .i64 3)))), none, 0⟩,
  ⟨(some 29), .p (.mov (.s 30)), none, 0⟩]) c29_6))
def c29_8 : ACode := (.cond (.s 8) (.seq (.draw [
  ⟨(some 10), .qcall (.c (.fn 57 [])) [(.c (.v (.int .u64 0))), (.c (.v (.int .i64 2)))], none, 0⟩,
  ⟨(some 11), .qcall (.c (.fn 57 [])) [(.c (.v (.int .u64 16))), (.c (.v (.int .i64 2)))], none, 0⟩,
  ⟨(some 12), .p (.bin .add (.s 10) (.s 11)), none, 0⟩,
  ⟨(some 13), .p (.fieldAddr 2 none (.s 1)), none, 0⟩,
  ⟨(some 14), .m (.load none (.s 13)), none, 0⟩,
  ⟨(some 15), .call (.c (.fn 57 [])) [(.s 14), (.c (.v (.int .i64 4)))], none, 0⟩,
  ⟨(some 16), .p (.bin .add (.s 12) (.s 15)), none, 0⟩,
  ⟨(some 17), .p (.bin .add (.s 16) (.c (.v (.string ⟨#[255, 255]⟩)))), none, 0⟩,
  ⟨(some 18), .call (.c (.fn 57 [])) [(.c (.v (.int .u64 0))), (.c (.v (.int .i64 6)))], none, 0⟩,
  ⟨(some 19), .p (.bin .add (.s 17) (.s 18)), none, 0⟩,
  ⟨(some 2), .p (.mov (.s 19)), none, 0⟩]) .ret) (.seq (.ops [
  ⟨(some 21), .p (.bin .eql (.s 7) (.c (.v (.int .i64 2)))), none, 0⟩,
  ⟨(some 20), .p (.mov (.s 21)), none, 0⟩]) c29_7))
def c29_9 : ACode := (.block 0 (.seq (.ops [
  ⟨(some 9), .p (.bin .eql (.s 7) (.c (.v (.int .i64 1)))), none, 0⟩,
  ⟨(some 8), .p (.mov (.s 9)), none, 0⟩]) c29_8))
def c29_10 : List AOper := [
  ⟨(some 42), .p (.mov (.s 45)), none, 0⟩,
  ⟨(some 46), .p (.extract (.s 42) 0), none, 0⟩,
  ⟨(some 47), .p (.extract (.s 42) 1), none, 0⟩,
  ⟨(some 3), .p (.mov (.s 46)), none, 0⟩,
  ⟨(some 4), .p (.mov (.s 47)), none, 0⟩]
def c29_11 : List AOper := [
  ⟨(some 70), .p (.bin .add (.s 65) (.s 69)), none, 0⟩,
  ⟨(some 2), .p (.mov (.s 70)), none, 0⟩]
def c29_12 : ACode := (.seq (.ops (⟨(some 65), .p (.mov (.s 5)), none, 0⟩ ::
  ⟨(some 66), .p (.mov (.s 5)), none, 0⟩ ::
  ⟨(some 67), .p (.len true (.s 66)), none, 0⟩ ::
  ⟨(some 68), .p (.bin .sub (.c (.v (.int .i64 16))) (.s 67)), none, 0⟩ ::
  ⟨(some 69), .call (.c (.fn 58 [])) [(.c (.v (.string ⟨#[0]⟩))), (.s 68)], none, 0⟩ :: c29_11)) .ret)
def c29_13 : ACode := (.seq (.draw [
  ⟨(some 48), .qcall (.c (.fn 57 [])) [(.c (.v (.int .u64 25))), (.c (.v (.int .i64 2)))], none, 0⟩,
  ⟨(some 49), .qcall (.c (.fn 57 [])) [(.c (.v (.int .u64 16))), (.c (.v (.int .i64 2)))], none, 0⟩,
  ⟨(some 50), .p (.bin .add (.s 48) (.s 49)), none, 0⟩,
  ⟨(some 51), .p (.bin .add (.s 50) (.c (.v (.string ⟨#[128, 0]⟩)))), none, 0⟩,
  ⟨(some 52), .p (.mov (.s 3)), none, 0⟩,
  ⟨(some 53), .p (.bin .mul (.c (.v (.int .u64 2))) (.s 52)), none, 0⟩,
  ⟨(some 54), .qcall (.c (.fn 57 [])) [(.s 53), (.c (.v (.int .i64 1)))], none, 0⟩,
  ⟨(some 55), .p (.bin .add (.s 51) (.s 54)), none, 0⟩,
  ⟨(some 56), .p (.mov (.s 4)), none, 0⟩,
  ⟨(some 57), .p (.cint .u64 (.s 56)), none, 0⟩,
  ⟨(some 58), .qcall (.c (.fn 57 [])) [(.s 57), (.c (.v (.int .i64 1)))], none, 0⟩,
  ⟨(some 59), .p (.bin .add (.s 55) (.s 58)), none, 0⟩,
  ⟨(some 60), .p (.fieldAddr 2 none (.s 1)), none, 0⟩,
  ⟨(some 61), .m (.load none (.s 60)), none, 0⟩,
  ⟨(some 62), .p (.mov (.s 4)), none, 0⟩,
  ⟨(some 63), .call (.c (.fn 57 [])) [(.s 61), (.s 62)], none, 0⟩,
  ⟨(some 64), .p (.bin .add (.s 59) (.s 63)), none, 0⟩,
  ⟨(some 5), .p (.mov (.s 64)), none, 0⟩]) c29_12)
def c29_14 : ACode := (.seq (.ops (⟨(some 43), .p (.fieldAddr 1 none (.s 1)), none, 0⟩ ::
  ⟨(some 44), .m (.load none (.s 43)), none, 0⟩ ::
  ⟨(some 45), .call (.c (.fn 32 [])) [(.s 44)], none, 0⟩ :: c29_10)) c29_13)
def c29_15 : ACode := (.seq (.seq (.ops [
  ⟨(some 6), .p (.fieldAddr 0 none (.s 1)), none, 0⟩,
  ⟨(some 7), .m (.load none (.s 6)), none, 0⟩]) c29_9) c29_14)
def c29 : ACode := (.seq (.ops [
  ⟨(some 1), .m (.box (.s 0)), none, 0⟩,
  ⟨(some 2), .p (.mov (.c (.v (.string ⟨#[]⟩)))), none, 0⟩]) c29_15)
theorem t29 : trC Try.prog Try.f29.ntmps (bodyOf Try.f29) = some c29 := by kernel_rfl
theorem r29 : Try.f29.results.toList.mapM (trR Try.prog) = some [.tmp 2] := by kernel_rfl
def i29 : FI := ⟨71, c29, [.tmp 2]⟩
theorem k29 : Knows Try.prog 29 i29 := ⟨Try.f29, bodyOf Try.f29, Try.func29, by kernel_rfl, by kernel_rfl, t29, r29, by kernel_rfl⟩
-- 30 (*strings.Builder).String []
def c30_0 : ACode := (.seq (.draw [
  ⟨(some 3), .p (.mov (.s 0)), none, 0⟩,
  ⟨(some 4), .p (.nilCheck (.s 3)), none, 0⟩,
  ⟨(some 5), .p (.fieldAddr 1 none (.s 4)), none, 0⟩,
  ⟨(some 6), .m (.load none (.s 5)), none, 0⟩,
  ⟨(some 7), .m (.ext (.sdata (.s 6))), none, 5⟩,
  ⟨(some 8), .p (.mov (.s 0)), none, 0⟩,
  ⟨(some 9), .p (.nilCheck (.s 8)), none, 0⟩,
  ⟨(some 10), .p (.fieldAddr 1 none (.s 9)), none, 0⟩,
  ⟨(some 11), .m (.load none (.s 10)), none, 0⟩,
  ⟨(some 12), .p (.len false (.s 11)), none, 5⟩,
  ⟨(some 13), .m (.ext (.ustr 5 (.s 7) (.s 12))), none, 5⟩,
  ⟨(some 2), .p (.mov (.s 13)), none, 0⟩]) .ret)
def c30 : ACode := (.seq (.ops [
  ⟨(some 2), .p (.mov (.c (.v (.string ⟨#[]⟩)))), none, 0⟩]) c30_0)
theorem t30 : trC Try.prog Try.f30.ntmps (bodyOf Try.f30) = some c30 := by kernel_rfl
theorem r30 : Try.f30.results.toList.mapM (trR Try.prog) = some [.tmp 2] := by kernel_rfl
def i30 : FI := ⟨14, c30, [.tmp 2]⟩
theorem k30 : Knows Try.prog 30 i30 := ⟨Try.f30, bodyOf Try.f30, Try.func30, by kernel_rfl, by kernel_rfl, t30, r30, by kernel_rfl⟩
-- 31 drover/droverref06.bytes []
def c31_0 : List AOper := [
  ⟨(some 11), .p (.bin .add (.c (.v (.string ⟨#[0, 0, 0, 16]⟩))) (.s 10)), none, 0⟩,
  ⟨(some 12), .p (.bin .add (.s 11) (.c (.v (.string ⟨#[255, 255, 0, 0, 0, 0, 0, 0]⟩)))), none, 0⟩,
  ⟨(some 2), .p (.mov (.s 12)), none, 0⟩]
def c31_1 : List AOper := [
  ⟨(some 18), .p (.bin .add (.c (.v (.string ⟨#[0, 22, 0, 8]⟩))) (.s 17)), none, 0⟩,
  ⟨(some 2), .p (.mov (.s 18)), none, 0⟩]
def c31_2 : ACode := (.cond (.s 21) (.seq (.ops [
  ⟨(some 2), .p (.mov (.c (.v (.string ⟨#[0, 18, 0, 8, 0, 0, 0, 0]⟩)))), none, 0⟩]) .ret) .skip)
def c31_3 : ACode := (.cond (.s 19) (.seq (.ops [
  ⟨(some 2), .p (.mov (.c (.v (.string ⟨#[0, 17, 0, 8, 129, 0, 0, 0]⟩)))), none, 0⟩]) .ret) (.seq (.ops [
  ⟨(some 22), .p (.bin .eql (.s 5) (.c (.v (.int .i64 4)))), none, 0⟩,
  ⟨(some 21), .p (.mov (.s 22)), none, 0⟩]) c31_2))
def c31_4 : ACode := (.cond (.s 13) (.seq (.ops (⟨(some 15), .p (.fieldAddr 2 none (.s 1)), none, 0⟩ ::
  ⟨(some 16), .m (.load none (.s 15)), none, 0⟩ ::
  ⟨(some 17), .call (.c (.fn 59 [])) [(.s 16), (.c (.v (.int .i64 4)))], none, 0⟩ :: c31_1)) .ret) (.seq (.ops [
  ⟨(some 20), .p (.bin .eql (.s 5) (.c (.v (.int .i64 3)))), none, 0⟩,
  ⟨(some 19), .p (.mov (.s 20)), none, 0⟩]) c31_3))
def c31_5 : ACode := (.cond (.s 6) (.seq (.ops (⟨(some 8), .p (.fieldAddr 2 none (.s 1)), none, 0⟩ ::
  ⟨(some 9), .m (.load none (.s 8)), none, 0⟩ ::
  ⟨(some 10), .call (.c (.fn 59 [])) [(.s 9), (.c (.v (.int .i64 4)))], none, 0⟩ :: c31_0)) .ret) (.seq (.ops [
  ⟨(some 14), .p (.bin .eql (.s 5) (.c (.v (.int .i64 2)))), none, 0⟩,
  ⟨(some 13), .p (.mov (.s 14)), none, 0⟩]) c31_4))
def c31_6 : ACode := (.block 0 (.seq (.ops [
  ⟨(some 7), .p (.bin .eql (.s 5) (.c (.v (.int .i64 1)))), none, 0⟩,
  ⟨(some 6), .p (.mov (.s 7)), none, 0⟩]) c31_5))
def c31_7 : ACode := (.seq (.ops [
  ⟨(some 42), .p (.mov (.s 3)), none, 0⟩,
  ⟨(some 43), .p (.mov (.s 3)), none, 0⟩,
  ⟨(some 44), .p (.len true (.s 43)), none, 0⟩,
  ⟨(some 45), .p (.bin .sub (.c (.v (.int .i64 16))) (.s 44)), none, 0⟩,
  ⟨(some 46), .m (.mkSlice 1 1 [(.v (.int .u8 0))] (.s 45) (.s 45)), none, 5⟩,
  ⟨(some 47), .m (.b2s (.s 46)), none, 0⟩,
  ⟨(some 48), .p (.bin .add (.s 42) (.s 47)), none, 0⟩,
  ⟨(some 2), .p (.mov (.s 48)), none, 0⟩]) .ret)
def c31_8 : ACode := (.seq (.draw [
  ⟨(some 23), .p (.fieldAddr 1 none (.s 1)), none, 0⟩,
  ⟨(some 24), .m (.load none (.s 23)), none, 0⟩,
  ⟨(some 25), .qcall (.c (.fn 60 [])) [(.s 24)], none, 0⟩,
  ⟨(some 26), .p (.bin .mul (.c (.v (.int .i64 2))) (.s 25)), none, 0⟩,
  ⟨(some 27), .p (.cint .u8 (.s 26)), none, 0⟩,
  ⟨(some 28), .p (.fieldAddr 1 none (.s 1)), none, 0⟩,
  ⟨(some 29), .m (.load none (.s 28)), none, 0⟩,
  ⟨(some 30), .qcall (.c (.fn 61 [])) [(.s 29)], none, 0⟩,
  ⟨(some 31), .p (.cint .u8 (.s 30)), none, 0⟩,
  ⟨(some 32), .m (.buildSlice 1 2 [(.v (.int .u8 0)), (.v (.int .u8 0))] [(0, 1, (.s 27)), (1, 1, (.s 31))]), none, 5⟩,
  ⟨(some 33), .m (.b2s (.s 32)), none, 0⟩,
  ⟨(some 34), .p (.bin .add (.c (.v (.string ⟨#[0, 25, 0, 16, 128, 0]⟩))) (.s 33)), none, 0⟩,
  ⟨(some 35), .p (.fieldAddr 2 none (.s 1)), none, 0⟩,
  ⟨(some 36), .m (.load none (.s 35)), none, 0⟩,
  ⟨(some 37), .p (.fieldAddr 1 none (.s 1)), none, 0⟩,
  ⟨(some 38), .m (.load none (.s 37)), none, 0⟩,
  ⟨(some 39), .pcall (.c (.fn 61 [])) [(.s 38)], none, 0⟩,
  ⟨(some 40), .pcall (.c (.fn 59 [])) [(.s 36), (.s 39)], none, 0⟩,
  ⟨(some 41), .p (.bin .add (.s 34) (.s 40)), none, 0⟩,
  ⟨(some 3), .p (.mov (.s 41)), none, 0⟩]) c31_7)
def c31_9 : ACode := (.seq (.seq (.ops [
  ⟨(some 4), .p (.fieldAddr 0 none (.s 1)), none, 0⟩,
  ⟨(some 5), .m (.load none (.s 4)), none, 0⟩]) c31_6) c31_8)
def c31 : ACode := (.seq (.ops [
  ⟨(some 1), .m (.box (.s 0)), none, 0⟩,
  ⟨(some 2), .p (.mov (.c (.v (.string ⟨#[]⟩)))), none, 0⟩]) c31_9)
theorem t31 : trC Try.prog Try.f31.ntmps (bodyOf Try.f31) = some c31 := by kernel_rfl
theorem r31 : Try.f31.results.toList.mapM (trR Try.prog) = some [.tmp 2] := by kernel_rfl
def i31 : FI := ⟨49, c31, [.tmp 2]⟩
theorem k31 : Knows Try.prog 31 i31 := ⟨Try.f31, bodyOf Try.f31, Try.func31, by kernel_rfl, by kernel_rfl, t31, r31, by kernel_rfl⟩
-- 32 drover/act.code []
def c32_0 : ACode := (.cond (.s 13) (.seq (.ops [
  ⟨(some 2), .p (.mov (.c (.v (.int .u64 14)))), none, 0⟩,
  ⟨(some 3), .p (.mov (.c (.v (.int .i64 2)))), none, 0⟩]) .ret) .skip)
def c32_1 : ACode := (.cond (.s 11) (.seq (.ops [
  ⟨(some 2), .p (.mov (.c (.v (.int .u64 13)))), none, 0⟩,
  ⟨(some 3), .p (.mov (.c (.v (.int .i64 2)))), none, 0⟩]) .ret) (.seq (.ops [
  ⟨(some 14), .p (.bin .eql (.s 4) (.c (.v (.int .i64 9)))), none, 0⟩,
  ⟨(some 13), .p (.mov (.s 14)), none, 0⟩]) c32_0))
def c32_2 : ACode := (.cond (.s 9) (.seq (.ops [
  ⟨(some 2), .p (.mov (.c (.v (.int .u64 12)))), none, 0⟩,
  ⟨(some 3), .p (.mov (.c (.v (.int .i64 4)))), none, 0⟩]) .ret) (.seq (.ops [
  ⟨(some 12), .p (.bin .eql (.s 4) (.c (.v (.int .i64 8)))), none, 0⟩,
  ⟨(some 11), .p (.mov (.s 12)), none, 0⟩]) c32_1))
def c32_3 : ACode := (.cond (.s 7) (.seq (.ops [
  ⟨(some 2), .p (.mov (.c (.v (.int .u64 11)))), none, 0⟩,
  ⟨(some 3), .p (.mov (.c (.v (.int .i64 4)))), none, 0⟩]) .ret) (.seq (.ops [
  ⟨(some 10), .p (.bin .eql (.s 4) (.c (.v (.int .i64 6)))), none, 0⟩,
  ⟨(some 9), .p (.mov (.s 10)), none, 0⟩]) c32_2))
def c32_4 : ACode := (.cond (.s 5) (.seq (.ops [
  ⟨(some 2), .p (.mov (.c (.v (.int .u64 6)))), none, 0⟩,
  ⟨(some 3), .p (.mov (.c (.v (.int .i64 2)))), none, 0⟩]) .ret) (.seq (.ops [
  ⟨(some 8), .p (.bin .eql (.s 4) (.c (.v (.int .i64 5)))), none, 0⟩,
  ⟨(some 7), .p (.mov (.s 8)), none, 0⟩]) c32_3))
def c32_5 : ACode := (.block 0 (.seq (.ops [
  ⟨(some 6), .p (.bin .eql (.s 4) (.c (.v (.int .i64 3)))), none, 0⟩,
  ⟨(some 5), .p (.mov (.s 6)), none, 0⟩]) c32_4))
def c32_6 : ACode := (.seq (.ops [
  ⟨(some 2), .p (.mov (.c (.v (.int .u64 0)))), none, 0⟩,
  ⟨(some 3), .p (.mov (.c (.v (.int .i64 0)))), none, 0⟩]) .ret)
def c32_7 : ACode := (.seq (.seq (.ops [
  ⟨(some 4), .p (.mov (.s 0)), none, 0⟩]) c32_5) c32_6)
def c32 : ACode := (.seq (.ops [
  ⟨(some 2), .p (.mov (.c (.v (.int .u64 0)))), none, 0⟩,
  ⟨(some 3), .p (.mov (.c (.v (.int .i64 0)))), none, 0⟩]) c32_7)
theorem t32 : trC Try.prog Try.f32.ntmps (bodyOf Try.f32) = some c32 := by kernel_rfl
theorem r32 : Try.f32.results.toList.mapM (trR Try.prog) = some [.tmp 2, .tmp 3] := by kernel_rfl
def i32 : FI := ⟨15, c32, [.tmp 2, .tmp 3]⟩
theorem k32 : Knows Try.prog 32 i32 := ⟨Try.f32, bodyOf Try.f32, Try.func32, by kernel_rfl, by kernel_rfl, t32, r32, by kernel_rfl⟩
-- 33 drover/field.Width []
def c33_0 : ACode := (.cond (.s 6) .skip (.ops [
  ⟨(some 9), .p (.bin .eql (.s 3) (.c (.v (.int .i64 6)))), none, 0⟩,
  ⟨(some 6), .p (.mov (.s 9)), none, 0⟩]))
def c33_1 : ACode := (.cond (.s 6) .skip (.seq (.ops [
  ⟨(some 8), .p (.bin .eql (.s 3) (.c (.v (.int .i64 5)))), none, 0⟩,
  ⟨(some 6), .p (.mov (.s 8)), none, 0⟩]) c33_0))
def c33_2 : ACode := (.cond (.s 10) .skip (.ops [
  ⟨(some 13), .p (.bin .eql (.s 3) (.c (.v (.int .i64 9)))), none, 0⟩,
  ⟨(some 10), .p (.mov (.s 13)), none, 0⟩]))
def c33_3 : ACode := (.cond (.s 10) .skip (.seq (.ops [
  ⟨(some 12), .p (.bin .eql (.s 3) (.c (.v (.int .i64 8)))), none, 0⟩,
  ⟨(some 10), .p (.mov (.s 12)), none, 0⟩]) c33_2))
def c33_4 : ACode := (.cond (.s 16) (.seq (.ops [
  ⟨(some 2), .p (.mov (.c (.v (.int .i64 8)))), none, 0⟩]) .ret) .skip)
def c33_5 : ACode := (.cond (.s 14) (.seq (.ops [
  ⟨(some 2), .p (.mov (.c (.v (.int .i64 13)))), none, 0⟩]) .ret) (.seq (.ops [
  ⟨(some 17), .p (.bin .eql (.s 3) (.c (.v (.int .i64 7)))), none, 0⟩,
  ⟨(some 16), .p (.mov (.s 17)), none, 0⟩]) c33_4))
def c33_6 : ACode := (.cond (.s 10) (.seq (.ops [
  ⟨(some 2), .p (.mov (.c (.v (.int .i64 16)))), none, 0⟩]) .ret) (.seq (.ops [
  ⟨(some 15), .p (.bin .eql (.s 3) (.c (.v (.int .i64 3)))), none, 0⟩,
  ⟨(some 14), .p (.mov (.s 15)), none, 0⟩]) c33_5))
def c33_7 : ACode := (.cond (.s 6) (.seq (.ops [
  ⟨(some 2), .p (.mov (.c (.v (.int .i64 32)))), none, 0⟩]) .ret) (.seq (.seq (.ops [
  ⟨(some 11), .p (.bin .eql (.s 3) (.c (.v (.int .i64 4)))), none, 0⟩,
  ⟨(some 10), .p (.mov (.s 11)), none, 0⟩]) c33_3) c33_6))
def c33_8 : ACode := (.cond (.s 4) (.seq (.ops [
  ⟨(some 2), .p (.mov (.c (.v (.int .i64 64)))), none, 0⟩]) .ret) (.seq (.seq (.ops [
  ⟨(some 7), .p (.bin .eql (.s 3) (.c (.v (.int .i64 1)))), none, 0⟩,
  ⟨(some 6), .p (.mov (.s 7)), none, 0⟩]) c33_1) c33_7))
def c33_9 : ACode := (.block 0 (.seq (.ops [
  ⟨(some 5), .p (.bin .eql (.s 3) (.c (.v (.int .i64 2)))), none, 0⟩,
  ⟨(some 4), .p (.mov (.s 5)), none, 0⟩]) c33_8))
def c33_10 : ACode := (.seq (.ops [
  ⟨(some 2), .p (.mov (.c (.v (.int .i64 0)))), none, 0⟩]) .ret)
def c33_11 : ACode := (.seq (.seq (.ops [
  ⟨(some 3), .p (.mov (.s 0)), none, 0⟩]) c33_9) c33_10)
def c33 : ACode := (.seq (.ops [
  ⟨(some 2), .p (.mov (.c (.v (.int .i64 0)))), none, 0⟩]) c33_11)
theorem t33 : trC Try.prog Try.f33.ntmps (bodyOf Try.f33) = some c33 := by kernel_rfl
theorem r33 : Try.f33.results.toList.mapM (trR Try.prog) = some [.tmp 2] := by kernel_rfl
def i33 : FI := ⟨18, c33, [.tmp 2]⟩
theorem k33 : Knows Try.prog 33 i33 := ⟨Try.f33, bodyOf Try.f33, Try.func33, by kernel_rfl, by kernel_rfl, t33, r33, by kernel_rfl⟩
-- 34 slices.Concat[[]drover/api.Action,drover/api.Action] []
def c34_0 : ACode := (.cond (.s 20) (.ops [
  ⟨(some 21), .p (.mkIfc 9 (.c (.v (.string ⟨#[108, 101, 110, 32, 111, 117, 116, 32, 111, 102, 32, 114, 97, 110, 103, 101]⟩)))), none, 0⟩,
  ⟨none, .never, none, 0⟩]) .skip)
def c34_1 : ACode := (.seq (.ops [
  ⟨(some 19), .p (.mov (.s 3)), none, 0⟩,
  ⟨(some 20), .p (.bin .lss (.s 19) (.c (.v (.int .i64 0)))), none, 0⟩]) c34_0)
def c34_2 : ACode := (.seq (.ops [
  ⟨(some 15), .p (.mov (.s 3)), none, 0⟩,
  ⟨(some 16), .p (.mov (.s 5)), none, 0⟩,
  ⟨(some 17), .p (.len false (.s 16)), none, 31⟩,
  ⟨(some 18), .p (.bin .add (.s 15) (.s 17)), none, 0⟩,
  ⟨(some 3), .p (.mov (.s 18)), none, 0⟩]) c34_1)
def c34_3 : ACode := (.ops [
  ⟨(some 22), .p (.bin .add (.s 11) (.c (.v (.int .i64 1)))), none, 0⟩,
  ⟨(some 11), .p (.mov (.s 22)), none, 0⟩])
def c34_4 : ACode := (.seq (.block 1 (.seq (.ops [
  ⟨(some 13), .p (.adrSl 1 (.s 9) (.s 11)), none, 0⟩,
  ⟨(some 14), .m (.load none (.s 13)), none, 0⟩,
  ⟨(some 5), .p (.mov (.s 14)), none, 0⟩]) c34_2)) c34_3)
def c34_5 : ACode := (.seq (.cond (.s 12) .skip (.exit 0)) c34_4)
def c34_6 : ACode := (.seq (.ops [
  ⟨(some 12), .p (.bin .lss (.s 11) (.s 10)), none, 0⟩]) c34_5)
def c34_7 : ACode := (.block 0 (.loop c34_6))
def c34_8 : List AOper := [
  ⟨(some 6), .p (.mov (.s 24)), none, 0⟩]
def c34_9 : ACode := (.ops [
  ⟨(some 31), .p (.mov (.s 6)), none, 0⟩,
  ⟨(some 32), .p (.mov (.s 8)), none, 0⟩,
  ⟨(some 33), .m (.append 3 24 (.s 31) (.s 32)), none, 31⟩,
  ⟨(some 6), .p (.mov (.s 33)), none, 0⟩])
def c34_10 : ACode := (.ops [
  ⟨(some 34), .p (.bin .add (.s 27) (.c (.v (.int .i64 1)))), none, 0⟩,
  ⟨(some 27), .p (.mov (.s 34)), none, 0⟩])
def c34_11 : ACode := (.seq (.block 3 (.seq (.ops [
  ⟨(some 29), .p (.adrSl 1 (.s 25) (.s 27)), none, 0⟩,
  ⟨(some 30), .m (.load none (.s 29)), none, 0⟩,
  ⟨(some 8), .p (.mov (.s 30)), none, 0⟩]) c34_9)) c34_10)
def c34_12 : ACode := (.seq (.cond (.s 28) .skip (.exit 2)) c34_11)
def c34_13 : ACode := (.seq (.ops [
  ⟨(some 28), .p (.bin .lss (.s 27) (.s 26)), none, 0⟩]) c34_12)
def c34_14 : ACode := (.block 2 (.loop c34_13))
def c34_15 : ACode := (.seq (.ops [
  ⟨(some 35), .p (.mov (.s 6)), none, 0⟩,
  ⟨(some 2), .p (.mov (.s 35)), none, 0⟩]) .ret)
def c34_16 : ACode := (.seq (.seq (.ops [
  ⟨(some 25), .p (.mov (.s 0)), none, 0⟩,
  ⟨(some 26), .p (.len false (.s 25)), none, 22⟩,
  ⟨(some 27), .p (.mov (.c (.v (.int .i64 0)))), none, 0⟩]) c34_14) c34_15)
def c34_17 : ACode := (.seq (.ops (⟨(some 23), .p (.mov (.s 3)), none, 0⟩ ::
  ⟨(some 24), .call (.c (.fn 62 [])) [(.c (.v (.slice none 0 0))), (.s 23)], none, 31⟩ :: c34_8)) c34_16)
def c34_18 : ACode := (.seq (.seq (.ops [
  ⟨(some 9), .p (.mov (.s 0)), none, 0⟩,
  ⟨(some 10), .p (.len false (.s 9)), none, 22⟩,
  ⟨(some 11), .p (.mov (.c (.v (.int .i64 0)))), none, 0⟩]) c34_7) c34_17)
def c34_19 : ACode := (.seq (.ops [
  ⟨(some 3), .p (.mov (.c (.v (.int .i64 0)))), none, 0⟩]) c34_18)
def c34 : ACode := (.seq (.ops [
  ⟨(some 2), .p (.mov (.c (.v (.slice none 0 0)))), none, 0⟩]) c34_19)
theorem t34 : trC Try.prog Try.f34.ntmps (bodyOf Try.f34) = some c34 := by kernel_rfl
theorem r34 : Try.f34.results.toList.mapM (trR Try.prog) = some [.tmp 2] := by kernel_rfl
def i34 : FI := ⟨36, c34, [.tmp 2]⟩
theorem k34 : Knows Try.prog 34 i34 := ⟨Try.f34, bodyOf Try.f34, Try.func34, by kernel_rfl, by kernel_rfl, t34, r34, by kernel_rfl⟩
-- 35 slices.DeleteFunc[[]drover/api.Action,drover/api.Action] []
def c35_0 : List AOper := [
  ⟨(some 5), .p (.mov (.s 10)), none, 0⟩]
def c35_1 : ACode := (.cond (.s 12) (.seq (.ops [
  ⟨(some 13), .p (.mov (.s 0)), none, 0⟩,
  ⟨(some 4), .p (.mov (.s 13)), none, 0⟩]) .ret) .skip)
def c35_2 : ACode := (.cond (.s 19) .skip (.exit 0))
def c35_3 : List AOper := [
  ⟨(some 29), .p (.un .not (.s 28)), none, 0⟩]
def c35_4 : ACode := (.ops [
  ⟨(some 34), .p (.mov (.s 5)), none, 0⟩,
  ⟨(some 35), .p (.bin .add (.s 34) (.c (.v (.int .i64 1)))), none, 0⟩,
  ⟨(some 5), .p (.mov (.s 35)), none, 0⟩])
def c35_5 : ACode := (.cond (.s 29) (.seq (.ops [
  ⟨(some 30), .p (.mov (.s 0)), none, 0⟩,
  ⟨(some 31), .p (.mov (.s 5)), none, 0⟩,
  ⟨(some 32), .m (.load (some 3) (.s 7)), none, 0⟩,
  ⟨(some 33), .p (.adrSl 3 (.s 30) (.s 31)), none, 0⟩,
  ⟨none, .m (.store (some 3) (.s 33) (.s 32)), none, 0⟩]) c35_4) .skip)
def c35_6 : ACode := (.seq (.ops (⟨(some 26), .p (.mov (.s 1)), none, 0⟩ ::
  ⟨(some 27), .m (.load (some 3) (.s 7)), none, 0⟩ ::
  ⟨(some 28), .call (.s 26) [(.s 27)], none, 0⟩ :: c35_3)) c35_5)
def c35_7 : ACode := (.ops [
  ⟨(some 20), .p (.mov (.s 6)), none, 0⟩,
  ⟨(some 21), .p (.bin .add (.s 20) (.c (.v (.int .i64 1)))), none, 0⟩,
  ⟨(some 6), .p (.mov (.s 21)), none, 0⟩])
def c35_8 : ACode := (.seq (.block 1 (.seq (.ops [
  ⟨(some 22), .p (.mov (.s 0)), none, 0⟩,
  ⟨(some 23), .p (.mov (.s 6)), none, 0⟩,
  ⟨(some 24), .p (.adrSl 3 (.s 22) (.s 23)), none, 0⟩,
  ⟨(some 25), .m (.load (some 3) (.s 24)), none, 0⟩,
  ⟨(some 7), .m (.alloc [(.v (.int .i64 0)), (.v (.int .i64 0)), (.v (.int .u64 0))]), none, 0⟩,
  ⟨none, .m (.store (some 3) (.s 7) (.s 25)), none, 0⟩]) c35_6)) c35_7)
def c35_9 : ACode := (.seq (.seq (.ops [
  ⟨(some 16), .p (.mov (.s 6)), none, 0⟩,
  ⟨(some 17), .p (.mov (.s 0)), none, 0⟩,
  ⟨(some 18), .p (.len false (.s 17)), none, 31⟩,
  ⟨(some 19), .p (.bin .lss (.s 16) (.s 18)), none, 0⟩]) c35_2) c35_8)
def c35_10 : ACode := (.block 0 (.loop c35_9))
def c35_11 : ACode := (.seq (.ops [
  ⟨(some 39), .p (.mov (.s 0)), none, 0⟩,
  ⟨(some 40), .p (.mov (.s 5)), none, 0⟩,
  ⟨(some 41), .p (.slSl 3 (.s 39) none (some (.s 40)) none), none, 0⟩,
  ⟨(some 4), .p (.mov (.s 41)), none, 0⟩]) .ret)
def c35_12 : ACode := (.seq (.ops [
  ⟨(some 36), .p (.mov (.s 0)), none, 0⟩,
  ⟨(some 37), .p (.mov (.s 5)), none, 0⟩,
  ⟨(some 38), .p (.slSl 3 (.s 36) (some (.s 37)) none none), none, 0⟩,
  ⟨none, .m (.ext (.clear 3 [(.v (.int .i64 0)), (.v (.int .i64 0)), (.v (.int .u64 0))] (.s 38))), none, 31⟩]) c35_11)
def c35_13 : ACode := (.seq (.seq (.ops [
  ⟨(some 14), .p (.mov (.s 5)), none, 0⟩,
  ⟨(some 15), .p (.bin .add (.s 14) (.c (.v (.int .i64 1)))), none, 0⟩,
  ⟨(some 6), .p (.mov (.s 15)), none, 0⟩]) c35_10) c35_12)
def c35_14 : ACode := (.seq (.seq (.ops [
  ⟨(some 11), .p (.mov (.s 5)), none, 0⟩,
  ⟨(some 12), .p (.bin .eql (.s 11) (.c (.v (.int .i64 (-1))))), none, 0⟩]) c35_1) c35_13)
def c35_15 : ACode := (.seq (.ops (⟨(some 8), .p (.mov (.s 0)), none, 0⟩ ::
  ⟨(some 9), .p (.mov (.s 1)), none, 0⟩ ::
  ⟨(some 10), .call (.c (.fn 55 [])) [(.s 8), (.s 9)], none, 31⟩ :: c35_0)) c35_14)
def c35 : ACode := (.seq (.ops [
  ⟨(some 4), .p (.mov (.c (.v (.slice none 0 0)))), none, 0⟩]) c35_15)
theorem t35 : trC Try.prog Try.f35.ntmps (bodyOf Try.f35) = some c35 := by kernel_rfl
theorem r35 : Try.f35.results.toList.mapM (trR Try.prog) = some [.tmp 4] := by kernel_rfl
def i35 : FI := ⟨42, c35, [.tmp 4]⟩
theorem k35 : Knows Try.prog 35 i35 := ⟨Try.f35, bodyOf Try.f35, Try.func35, by kernel_rfl, by kernel_rfl, t35, r35, by kernel_rfl⟩
-- 36 drover/act.Merge$1 []
def c36_0 : List AOper := [
  ⟨(some 5), .p (.bin .lss (.s 4) (.c (.v (.int .i64 1)))), none, 0⟩,
  ⟨(some 2), .p (.mov (.s 5)), none, 0⟩]
def c36_1 : ACode := (.seq (.ops (⟨(some 3), .m (.load (some 3) (.s 1)), none, 0⟩ ::
  ⟨(some 4), .call (.c (.fn 37 [])) [(.s 3)], none, 0⟩ :: c36_0)) .ret)
def c36 : ACode := (.seq (.ops [
  ⟨(some 1), .m (.box (.s 0)), none, 0⟩,
  ⟨(some 2), .p (.mov (.c (.v (.bool false)))), none, 0⟩]) c36_1)
theorem t36 : trC Try.prog Try.f36.ntmps (bodyOf Try.f36) = some c36 := by kernel_rfl
theorem r36 : Try.f36.results.toList.mapM (trR Try.prog) = some [.tmp 2] := by kernel_rfl
def i36 : FI := ⟨6, c36, [.tmp 2]⟩
theorem k36 : Knows Try.prog 36 i36 := ⟨Try.f36, bodyOf Try.f36, Try.func36, by kernel_rfl, by kernel_rfl, t36, r36, by kernel_rfl⟩
-- 37 drover/act.place []
def c37_0 : List AOper := [
  ⟨(some 2), .p (.mov (.s 6)), none, 0⟩]
def c37_1 : ACode := (.seq (.ops (⟨(some 3), .m (.buildSlice 1 6 [(.v (.int .i64 0)), (.v (.int .i64 0)), (.v (.int .i64 0)), (.v (.int .i64 0)), (.v (.int .i64 0)), (.v (.int .i64 0))] [(0, 1, (.c (.v (.int .i64 0)))), (1, 1, (.c (.v (.int .i64 4)))), (2, 1, (.c (.v (.int .i64 3)))), (3, 1, (.c (.v (.int .i64 5)))), (4, 1, (.c (.v (.int .i64 2)))), (5, 1, (.c (.v (.int .i64 1))))]), none, 3⟩ ::
  ⟨(some 4), .p (.fieldAddr 0 none (.s 1)), none, 0⟩ ::
  ⟨(some 5), .m (.load none (.s 4)), none, 0⟩ ::
  ⟨(some 6), .call (.c (.fn 63 [])) [(.s 3), (.s 5)], none, 3⟩ :: c37_0)) .ret)
def c37 : ACode := (.seq (.ops [
  ⟨(some 1), .m (.box (.s 0)), none, 0⟩,
  ⟨(some 2), .p (.mov (.c (.v (.int .i64 0)))), none, 0⟩]) c37_1)
theorem t37 : trC Try.prog Try.f37.ntmps (bodyOf Try.f37) = some c37 := by kernel_rfl
theorem r37 : Try.f37.results.toList.mapM (trR Try.prog) = some [.tmp 2] := by kernel_rfl
def i37 : FI := ⟨7, c37, [.tmp 2]⟩
theorem k37 : Knows Try.prog 37 i37 := ⟨Try.f37, bodyOf Try.f37, Try.func37, by kernel_rfl, by kernel_rfl, t37, r37, by kernel_rfl⟩
-- 38 slices.SortStableFunc[[]drover/api.Action,drover/api.Action] []
def c38 : ACode := (.ops [
  ⟨(some 4), .p (.mov (.s 0)), none, 0⟩,
  ⟨(some 5), .p (.mov (.s 0)), none, 0⟩,
  ⟨(some 6), .p (.len false (.s 5)), none, 31⟩,
  ⟨(some 7), .p (.mov (.s 1)), none, 0⟩,
  ⟨(some 8), .call (.c (.fn 64 [])) [(.s 4), (.s 6), (.s 7)], none, 31⟩])
theorem t38 : trC Try.prog Try.f38.ntmps (bodyOf Try.f38) = some c38 := by kernel_rfl
theorem r38 : Try.f38.results.toList.mapM (trR Try.prog) = some [] := by kernel_rfl
def i38 : FI := ⟨9, c38, []⟩
theorem k38 : Knows Try.prog 38 i38 := ⟨Try.f38, bodyOf Try.f38, Try.func38, by kernel_rfl, by kernel_rfl, t38, r38, by kernel_rfl⟩
-- 39 drover/act.rank []
def c39_0 : ACode := (.cond (.s 17) (.seq (.ops [
  ⟨(some 18), .p (.mov (.s 5)), none, 0⟩,
  ⟨(some 4), .p (.mov (.s 18)), none, 0⟩]) .ret) .skip)
def c39_1 : ACode := (.seq (.ops [
  ⟨(some 11), .p (.mov (.s 5)), none, 0⟩,
  ⟨(some 12), .p (.bin .neq (.s 11) (.c (.v (.int .i64 0)))), none, 0⟩,
  ⟨(some 13), .p (.mov (.s 12)), none, 0⟩,
  ⟨(some 14), .p (.fieldAddr 0 none (.s 2)), (some (13, false)), 0⟩,
  ⟨(some 15), .m (.load none (.s 14)), (some (13, false)), 0⟩,
  ⟨(some 16), .p (.bin .neq (.s 15) (.c (.v (.int .i64 5)))), (some (13, false)), 0⟩,
  ⟨(some 17), .p (.pick (.s 13) (.c (.v (.bool true))) (.s 16)), none, 0⟩]) c39_0)
def c39_2 : List AOper := [
  ⟨(some 4), .p (.mov (.s 23)), none, 0⟩]
def c39_3 : ACode := (.seq (.ops (⟨(some 19), .p (.fieldAddr 1 none (.s 2)), none, 0⟩ ::
  ⟨(some 20), .m (.load none (.s 19)), none, 0⟩ ::
  ⟨(some 21), .p (.fieldAddr 1 none (.s 3)), none, 0⟩ ::
  ⟨(some 22), .m (.load none (.s 21)), none, 0⟩ ::
  ⟨(some 23), .call (.c (.fn 65 [])) [(.s 20), (.s 22)], none, 0⟩ :: c39_2)) .ret)
def c39_4 : ACode := (.seq (.seq (.draw [
  ⟨(some 6), .m (.load (some 3) (.s 2)), none, 0⟩,
  ⟨(some 7), .qcall (.c (.fn 37 [])) [(.s 6)], none, 0⟩,
  ⟨(some 8), .m (.load (some 3) (.s 3)), none, 0⟩,
  ⟨(some 9), .call (.c (.fn 37 [])) [(.s 8)], none, 0⟩,
  ⟨(some 10), .call (.c (.fn 65 [])) [(.s 7), (.s 9)], none, 0⟩,
  ⟨(some 5), .p (.mov (.s 10)), none, 0⟩]) c39_1) c39_3)
def c39 : ACode := (.seq (.ops [
  ⟨(some 2), .m (.box (.s 0)), none, 0⟩,
  ⟨(some 3), .m (.box (.s 1)), none, 0⟩,
  ⟨(some 4), .p (.mov (.c (.v (.int .i64 0)))), none, 0⟩]) c39_4)
theorem t39 : trC Try.prog Try.f39.ntmps (bodyOf Try.f39) = some c39 := by kernel_rfl
theorem r39 : Try.f39.results.toList.mapM (trR Try.prog) = some [.tmp 4] := by kernel_rfl
def i39 : FI := ⟨24, c39, [.tmp 4]⟩
theorem k39 : Knows Try.prog 39 i39 := ⟨Try.f39, bodyOf Try.f39, Try.func39, by kernel_rfl, by kernel_rfl, t39, r39, by kernel_rfl⟩
-- 40 drover/droverref06.place []
def c40_0 : ACode := (.cond (.s 13) (.seq (.ops [
  ⟨(some 2), .p (.mov (.c (.v (.int .i64 4)))), none, 0⟩]) .ret) .skip)
def c40_1 : ACode := (.cond (.s 11) (.seq (.ops [
  ⟨(some 2), .p (.mov (.c (.v (.int .i64 3)))), none, 0⟩]) .ret) (.seq (.ops [
  ⟨(some 14), .p (.bin .eql (.s 4) (.c (.v (.int .i64 1)))), none, 0⟩,
  ⟨(some 13), .p (.mov (.s 14)), none, 0⟩]) c40_0))
def c40_2 : ACode := (.cond (.s 9) (.seq (.ops [
  ⟨(some 2), .p (.mov (.c (.v (.int .i64 2)))), none, 0⟩]) .ret) (.seq (.ops [
  ⟨(some 12), .p (.bin .eql (.s 4) (.c (.v (.int .i64 2)))), none, 0⟩,
  ⟨(some 11), .p (.mov (.s 12)), none, 0⟩]) c40_1))
def c40_3 : ACode := (.cond (.s 7) (.seq (.ops [
  ⟨(some 2), .p (.mov (.c (.v (.int .i64 1)))), none, 0⟩]) .ret) (.seq (.ops [
  ⟨(some 10), .p (.bin .eql (.s 4) (.c (.v (.int .i64 5)))), none, 0⟩,
  ⟨(some 9), .p (.mov (.s 10)), none, 0⟩]) c40_2))
def c40_4 : ACode := (.cond (.s 5) (.seq (.ops [
  ⟨(some 2), .p (.mov (.c (.v (.int .i64 0)))), none, 0⟩]) .ret) (.seq (.ops [
  ⟨(some 8), .p (.bin .eql (.s 4) (.c (.v (.int .i64 3)))), none, 0⟩,
  ⟨(some 7), .p (.mov (.s 8)), none, 0⟩]) c40_3))
def c40_5 : ACode := (.block 0 (.seq (.ops [
  ⟨(some 6), .p (.bin .eql (.s 4) (.c (.v (.int .i64 4)))), none, 0⟩,
  ⟨(some 5), .p (.mov (.s 6)), none, 0⟩]) c40_4))
def c40_6 : ACode := (.seq (.ops [
  ⟨(some 2), .p (.mov (.c (.v (.int .i64 (-1))))), none, 0⟩]) .ret)
def c40_7 : ACode := (.seq (.seq (.ops [
  ⟨(some 3), .p (.fieldAddr 0 none (.s 1)), none, 0⟩,
  ⟨(some 4), .m (.load none (.s 3)), none, 0⟩]) c40_5) c40_6)
def c40 : ACode := (.seq (.ops [
  ⟨(some 1), .m (.box (.s 0)), none, 0⟩,
  ⟨(some 2), .p (.mov (.c (.v (.int .i64 0)))), none, 0⟩]) c40_7)
theorem t40 : trC Try.prog Try.f40.ntmps (bodyOf Try.f40) = some c40 := by kernel_rfl
theorem r40 : Try.f40.results.toList.mapM (trR Try.prog) = some [.tmp 2] := by kernel_rfl
def i40 : FI := ⟨15, c40, [.tmp 2]⟩
theorem k40 : Knows Try.prog 40 i40 := ⟨Try.f40, bodyOf Try.f40, Try.func40, by kernel_rfl, by kernel_rfl, t40, r40, by kernel_rfl⟩
-- 41 drover/droverref06.alike []
def c41_0 : ACode := (.seq (.ops [
  ⟨(some 5), .p (.fieldAddr 0 none (.s 2)), none, 0⟩,
  ⟨(some 6), .m (.load none (.s 5)), none, 0⟩,
  ⟨(some 7), .p (.fieldAddr 0 none (.s 3)), none, 0⟩,
  ⟨(some 8), .m (.load none (.s 7)), none, 0⟩,
  ⟨(some 9), .p (.bin .eql (.s 6) (.s 8)), none, 0⟩,
  ⟨(some 10), .p (.mov (.s 9)), none, 0⟩,
  ⟨(some 11), .p (.fieldAddr 0 none (.s 2)), (some (10, true)), 0⟩,
  ⟨(some 12), .m (.load none (.s 11)), (some (10, true)), 0⟩,
  ⟨(some 13), .p (.bin .neq (.s 12) (.c (.v (.int .i64 5)))), (some (10, true)), 0⟩,
  ⟨(some 14), .p (.mov (.s 13)), (some (10, true)), 0⟩,
  ⟨(some 15), .p (.fieldAddr 1 none (.s 2)), (some (14, false)), 0⟩,
  ⟨(some 16), .m (.load none (.s 15)), (some (14, false)), 0⟩,
  ⟨(some 17), .p (.fieldAddr 1 none (.s 3)), (some (14, false)), 0⟩,
  ⟨(some 18), .m (.load none (.s 17)), (some (14, false)), 0⟩,
  ⟨(some 19), .p (.bin .eql (.s 16) (.s 18)), (some (14, false)), 0⟩,
  ⟨(some 20), .p (.pick (.s 14) (.c (.v (.bool true))) (.s 19)), (some (10, true)), 0⟩,
  ⟨(some 21), .p (.pick (.s 10) (.s 20) (.c (.v (.bool false)))), none, 0⟩,
  ⟨(some 4), .p (.mov (.s 21)), none, 0⟩]) .ret)
def c41 : ACode := (.seq (.ops [
  ⟨(some 2), .m (.box (.s 0)), none, 0⟩,
  ⟨(some 3), .m (.box (.s 1)), none, 0⟩,
  ⟨(some 4), .p (.mov (.c (.v (.bool false)))), none, 0⟩]) c41_0)
theorem t41 : trC Try.prog Try.f41.ntmps (bodyOf Try.f41) = some c41 := by kernel_rfl
theorem r41 : Try.f41.results.toList.mapM (trR Try.prog) = some [.tmp 4] := by kernel_rfl
def i41 : FI := ⟨22, c41, [.tmp 4]⟩
theorem k41 : Knows Try.prog 41 i41 := ⟨Try.f41, bodyOf Try.f41, Try.func41, by kernel_rfl, by kernel_rfl, t41, r41, by kernel_rfl⟩
-- 42 drover/droverref06.ahead []
def c42_0 : ACode := (.seq (.draw [
  ⟨(some 5), .m (.load (some 3) (.s 2)), none, 0⟩,
  ⟨(some 6), .qcall (.c (.fn 40 [])) [(.s 5)], none, 0⟩,
  ⟨(some 7), .m (.load (some 3) (.s 3)), none, 0⟩,
  ⟨(some 8), .call (.c (.fn 40 [])) [(.s 7)], none, 0⟩,
  ⟨(some 9), .p (.bin .lss (.s 6) (.s 8)), none, 0⟩,
  ⟨(some 10), .p (.mov (.s 9)), none, 0⟩,
  ⟨(some 11), .m (.load (some 3) (.s 2)), (some (10, false)), 0⟩,
  ⟨(some 12), .qcall (.c (.fn 40 [])) [(.s 11)], (some (10, false)), 0⟩,
  ⟨(some 13), .m (.load (some 3) (.s 3)), (some (10, false)), 0⟩,
  ⟨(some 14), .call (.c (.fn 40 [])) [(.s 13)], (some (10, false)), 0⟩,
  ⟨(some 15), .p (.bin .eql (.s 12) (.s 14)), (some (10, false)), 0⟩,
  ⟨(some 16), .p (.mov (.s 15)), (some (10, false)), 0⟩,
  ⟨(some 17), .p (.fieldAddr 0 none (.s 2)), (some (16, true)), 0⟩,
  ⟨(some 18), .m (.load none (.s 17)), (some (16, true)), 0⟩,
  ⟨(some 19), .p (.bin .eql (.s 18) (.c (.v (.int .i64 5)))), (some (16, true)), 0⟩,
  ⟨(some 20), .p (.pick (.s 16) (.s 19) (.c (.v (.bool false)))), (some (10, false)), 0⟩,
  ⟨(some 21), .p (.mov (.s 20)), (some (10, false)), 0⟩,
  ⟨(some 22), .p (.fieldAddr 1 none (.s 2)), (some (21, true)), 0⟩,
  ⟨(some 23), .m (.load none (.s 22)), (some (21, true)), 0⟩,
  ⟨(some 24), .p (.fieldAddr 1 none (.s 3)), (some (21, true)), 0⟩,
  ⟨(some 25), .m (.load none (.s 24)), (some (21, true)), 0⟩,
  ⟨(some 26), .p (.bin .lss (.s 23) (.s 25)), (some (21, true)), 0⟩,
  ⟨(some 27), .p (.pick (.s 21) (.s 26) (.c (.v (.bool false)))), (some (10, false)), 0⟩,
  ⟨(some 28), .p (.pick (.s 10) (.c (.v (.bool true))) (.s 27)), none, 0⟩,
  ⟨(some 4), .p (.mov (.s 28)), none, 0⟩]) .ret)
def c42 : ACode := (.seq (.ops [
  ⟨(some 2), .m (.box (.s 0)), none, 0⟩,
  ⟨(some 3), .m (.box (.s 1)), none, 0⟩,
  ⟨(some 4), .p (.mov (.c (.v (.bool false)))), none, 0⟩]) c42_0)
theorem t42 : trC Try.prog Try.f42.ntmps (bodyOf Try.f42) = some c42 := by kernel_rfl
theorem r42 : Try.f42.results.toList.mapM (trR Try.prog) = some [.tmp 4] := by kernel_rfl
def i42 : FI := ⟨29, c42, [.tmp 4]⟩
theorem k42 : Knows Try.prog 42 i42 := ⟨Try.f42, bodyOf Try.f42, Try.func42, by kernel_rfl, by kernel_rfl, t42, r42, by kernel_rfl⟩
-- 43 drover/field.Push []
def c43_0 : ACode := (.cond (.s 12) (.seq (.ops [
  ⟨(some 15), .p (.build [(.v (.int .i64 0)), (.v (.int .u64 0)), (.v (.int .u64 0)), (.v (.int .u64 0)), (.v (.int .i64 0)), (.v (.int .i64 0)), (.v (.int .u32 0)), (.v (.int .u32 0)), (.v (.int .i64 0)), (.v (.int .i64 0)), (.v (.int .i64 0)), (.v (.int .i64 0)), (.v (.string ⟨#[]⟩))] []), none, 0⟩,
  ⟨none, .m (.store (some 13) (.s 4) (.s 15)), none, 0⟩,
  ⟨(some 5), .p (.mov (.c (.v (.int .i64 1)))), none, 0⟩]) .ret) .skip)
def c43_1 : ACode := (.cond (.s 6) (.seq (.ops [
  ⟨(some 11), .p (.build [(.v (.int .i64 0)), (.v (.int .u64 0)), (.v (.int .u64 0)), (.v (.int .u64 0)), (.v (.int .i64 0)), (.v (.int .i64 0)), (.v (.int .u32 0)), (.v (.int .u32 0)), (.v (.int .i64 0)), (.v (.int .i64 0)), (.v (.int .i64 0)), (.v (.int .i64 0)), (.v (.string ⟨#[]⟩))] []), none, 0⟩,
  ⟨none, .m (.store (some 13) (.s 4) (.s 11)), none, 0⟩,
  ⟨(some 5), .p (.mov (.c (.v (.int .i64 29)))), none, 0⟩]) .ret) (.seq (.ops [
  ⟨(some 13), .p (.mov (.s 1)), none, 0⟩,
  ⟨(some 14), .p (.bin .geq (.s 13) (.c (.v (.int .u64 4096)))), none, 0⟩,
  ⟨(some 12), .p (.mov (.s 14)), none, 0⟩]) c43_0))
def c43_2 : ACode := (.seq (.ops [
  ⟨(some 21), .m (.load (some 13) (.s 2)), none, 0⟩,
  ⟨none, .m (.store (some 13) (.s 4) (.s 21)), none, 0⟩,
  ⟨(some 5), .p (.mov (.c (.v (.int .i64 0)))), none, 0⟩]) .ret)
def c43_3 : ACode := (.seq (.ops [
  ⟨(some 16), .p (.mov (.s 1)), none, 0⟩,
  ⟨(some 17), .p (.cint .i64 (.s 16)), none, 0⟩,
  ⟨(some 18), .p (.bin .add (.c (.v (.int .i64 4096))) (.s 17)), none, 0⟩,
  ⟨(some 19), .p (.fieldAddr 2 (some 11) (.s 2)), none, 0⟩,
  ⟨(some 20), .p (.fieldAddr 2 none (.s 19)), none, 0⟩,
  ⟨none, .m (.store none (.s 20) (.s 18)), none, 0⟩]) c43_2)
def c43_4 : ACode := (.seq (.block 0 (.seq (.ops [
  ⟨(some 7), .p (.fieldAddr 2 (some 11) (.s 2)), none, 0⟩,
  ⟨(some 8), .p (.fieldAddr 2 none (.s 7)), none, 0⟩,
  ⟨(some 9), .m (.load none (.s 8)), none, 0⟩,
  ⟨(some 10), .p (.bin .neq (.s 9) (.c (.v (.int .i64 0)))), none, 0⟩,
  ⟨(some 6), .p (.mov (.s 10)), none, 0⟩]) c43_1)) c43_3)
def c43 : ACode := (.seq (.ops [
  ⟨(some 2), .m (.box (.s 0)), none, 0⟩,
  ⟨(some 4), .m (.alloc [(.v (.int .i64 0)), (.v (.int .u64 0)), (.v (.int .u64 0)), (.v (.int .u64 0)), (.v (.int .i64 0)), (.v (.int .i64 0)), (.v (.int .u32 0)), (.v (.int .u32 0)), (.v (.int .i64 0)), (.v (.int .i64 0)), (.v (.int .i64 0)), (.v (.int .i64 0)), (.v (.string ⟨#[]⟩))]), none, 0⟩,
  ⟨(some 5), .p (.mov (.c (.v (.int .i64 0)))), none, 0⟩]) c43_4)
theorem t43 : trC Try.prog Try.f43.ntmps (bodyOf Try.f43) = some c43 := by kernel_rfl
theorem r43 : Try.f43.results.toList.mapM (trR Try.prog) = some [.cell 4 (some 13), .tmp 5] := by kernel_rfl
def i43 : FI := ⟨22, c43, [.cell 4 (some 13), .tmp 5]⟩
theorem k43 : Knows Try.prog 43 i43 := ⟨Try.f43, bodyOf Try.f43, Try.func43, by kernel_rfl, by kernel_rfl, t43, r43, by kernel_rfl⟩
-- 44 drover/field.Pop []
def c44_0 : ACode := (.cond (.s 7) (.seq (.ops [
  ⟨(some 8), .p (.build [(.v (.int .i64 0)), (.v (.int .u64 0)), (.v (.int .u64 0)), (.v (.int .u64 0)), (.v (.int .i64 0)), (.v (.int .i64 0)), (.v (.int .u32 0)), (.v (.int .u32 0)), (.v (.int .i64 0)), (.v (.int .i64 0)), (.v (.int .i64 0)), (.v (.int .i64 0)), (.v (.string ⟨#[]⟩))] []), none, 0⟩,
  ⟨none, .m (.store (some 13) (.s 2) (.s 8)), none, 0⟩,
  ⟨(some 3), .p (.mov (.c (.v (.int .i64 31)))), none, 0⟩]) .ret) .skip)
def c44_1 : ACode := (.seq (.ops [
  ⟨(some 11), .m (.load (some 13) (.s 1)), none, 0⟩,
  ⟨none, .m (.store (some 13) (.s 2) (.s 11)), none, 0⟩,
  ⟨(some 3), .p (.mov (.c (.v (.int .i64 0)))), none, 0⟩]) .ret)
def c44_2 : ACode := (.seq (.ops [
  ⟨(some 9), .p (.fieldAddr 2 (some 11) (.s 1)), none, 0⟩,
  ⟨(some 10), .p (.fieldAddr 2 none (.s 9)), none, 0⟩,
  ⟨none, .m (.store none (.s 10) (.c (.v (.int .i64 0)))), none, 0⟩]) c44_1)
def c44_3 : ACode := (.seq (.seq (.ops [
  ⟨(some 4), .p (.fieldAddr 2 (some 11) (.s 1)), none, 0⟩,
  ⟨(some 5), .p (.fieldAddr 2 none (.s 4)), none, 0⟩,
  ⟨(some 6), .m (.load none (.s 5)), none, 0⟩,
  ⟨(some 7), .p (.bin .eql (.s 6) (.c (.v (.int .i64 0)))), none, 0⟩]) c44_0) c44_2)
def c44 : ACode := (.seq (.ops [
  ⟨(some 1), .m (.box (.s 0)), none, 0⟩,
  ⟨(some 2), .m (.alloc [(.v (.int .i64 0)), (.v (.int .u64 0)), (.v (.int .u64 0)), (.v (.int .u64 0)), (.v (.int .i64 0)), (.v (.int .i64 0)), (.v (.int .u32 0)), (.v (.int .u32 0)), (.v (.int .i64 0)), (.v (.int .i64 0)), (.v (.int .i64 0)), (.v (.int .i64 0)), (.v (.string ⟨#[]⟩))]), none, 0⟩,
  ⟨(some 3), .p (.mov (.c (.v (.int .i64 0)))), none, 0⟩]) c44_3)
theorem t44 : trC Try.prog Try.f44.ntmps (bodyOf Try.f44) = some c44 := by kernel_rfl
theorem r44 : Try.f44.results.toList.mapM (trR Try.prog) = some [.cell 2 (some 13), .tmp 3] := by kernel_rfl
def i44 : FI := ⟨12, c44, [.cell 2 (some 13), .tmp 3]⟩
theorem k44 : Knows Try.prog 44 i44 := ⟨Try.f44, bodyOf Try.f44, Try.func44, by kernel_rfl, by kernel_rfl, t44, r44, by kernel_rfl⟩
-- 45 drover/field.Put []
def c45_0 : List AOper := [
  ⟨(some 23), .p (.un .not (.s 22)), (some (19, false)), 0⟩,
  ⟨(some 24), .p (.pick (.s 19) (.c (.v (.bool true))) (.s 23)), none, 0⟩,
  ⟨(some 8), .p (.mov (.s 24)), none, 0⟩]
def c45_1 : List AOper := [
  ⟨(some 30), .p (.bin .gtr (.s 27) (.s 29)), none, 0⟩,
  ⟨(some 31), .p (.mov (.s 30)), none, 0⟩,
  ⟨(some 32), .p (.mov (.s 1)), (some (31, false)), 0⟩,
  ⟨(some 33), .p (.bin .eql (.s 32) (.c (.v (.int .i64 3)))), (some (31, false)), 0⟩,
  ⟨(some 34), .p (.mov (.s 33)), (some (31, false)), 0⟩,
  ⟨(some 35), .p (.mov (.s 2)), (some (34, true)), 0⟩,
  ⟨(some 36), .p (.bin .lss (.s 35) (.c (.v (.int .u64 4096)))), (some (34, true)), 0⟩,
  ⟨(some 37), .p (.pick (.s 34) (.s 36) (.c (.v (.bool false)))), (some (31, false)), 0⟩,
  ⟨(some 38), .p (.pick (.s 31) (.c (.v (.bool true))) (.s 37)), none, 0⟩,
  ⟨(some 26), .p (.mov (.s 38)), none, 0⟩]
def c45_2 : ACode := (.cond (.s 40) (.seq (.ops [
  ⟨(some 49), .p (.build [(.v (.int .i64 0)), (.v (.int .u64 0)), (.v (.int .u64 0)), (.v (.int .u64 0)), (.v (.int .i64 0)), (.v (.int .i64 0)), (.v (.int .u32 0)), (.v (.int .u32 0)), (.v (.int .i64 0)), (.v (.int .i64 0)), (.v (.int .i64 0)), (.v (.int .i64 0)), (.v (.string ⟨#[]⟩))] []), none, 0⟩,
  ⟨none, .m (.store (some 13) (.s 6) (.s 49)), none, 0⟩,
  ⟨(some 7), .p (.mov (.c (.v (.int .i64 31)))), none, 0⟩]) .ret) .skip)
def c45_3 : ACode := (.cond (.s 26) (.seq (.ops [
  ⟨(some 39), .p (.build [(.v (.int .i64 0)), (.v (.int .u64 0)), (.v (.int .u64 0)), (.v (.int .u64 0)), (.v (.int .i64 0)), (.v (.int .i64 0)), (.v (.int .u32 0)), (.v (.int .u32 0)), (.v (.int .i64 0)), (.v (.int .i64 0)), (.v (.int .i64 0)), (.v (.int .i64 0)), (.v (.string ⟨#[]⟩))] []), none, 0⟩,
  ⟨none, .m (.store (some 13) (.s 6) (.s 39)), none, 0⟩,
  ⟨(some 7), .p (.mov (.c (.v (.int .i64 1)))), none, 0⟩]) .ret) (.seq (.ops [
  ⟨(some 41), .p (.mov (.s 1)), none, 0⟩,
  ⟨(some 42), .p (.bin .eql (.s 41) (.c (.v (.int .i64 3)))), none, 0⟩,
  ⟨(some 43), .p (.mov (.s 42)), none, 0⟩,
  ⟨(some 44), .p (.fieldAddr 2 (some 11) (.s 3)), (some (43, true)), 0⟩,
  ⟨(some 45), .p (.fieldAddr 2 none (.s 44)), (some (43, true)), 0⟩,
  ⟨(some 46), .m (.load none (.s 45)), (some (43, true)), 0⟩,
  ⟨(some 47), .p (.bin .eql (.s 46) (.c (.v (.int .i64 0)))), (some (43, true)), 0⟩,
  ⟨(some 48), .p (.pick (.s 43) (.s 47) (.c (.v (.bool false)))), none, 0⟩,
  ⟨(some 40), .p (.mov (.s 48)), none, 0⟩]) c45_2))
def c45_4 : ACode := (.cond (.s 8) (.seq (.ops [
  ⟨(some 25), .p (.build [(.v (.int .i64 0)), (.v (.int .u64 0)), (.v (.int .u64 0)), (.v (.int .u64 0)), (.v (.int .i64 0)), (.v (.int .i64 0)), (.v (.int .u32 0)), (.v (.int .u32 0)), (.v (.int .i64 0)), (.v (.int .i64 0)), (.v (.int .i64 0)), (.v (.int .i64 0)), (.v (.string ⟨#[]⟩))] []), none, 0⟩,
  ⟨none, .m (.store (some 13) (.s 6) (.s 25)), none, 0⟩,
  ⟨(some 7), .p (.mov (.c (.v (.int .i64 20)))), none, 0⟩]) .ret) (.seq (.ops (⟨(some 27), .p (.mov (.s 2)), none, 0⟩ ::
  ⟨(some 28), .p (.mov (.s 1)), none, 0⟩ ::
  ⟨(some 29), .call (.c (.fn 67 [])) [(.s 28)], none, 0⟩ :: c45_1)) c45_3))
def c45_5 : ACode := (.cond (.s 79) (.ops [
  ⟨(some 81), .p (.mov (.s 2)), none, 0⟩,
  ⟨(some 82), .p (.cint .i64 (.s 81)), none, 0⟩,
  ⟨(some 83), .p (.fieldAddr 2 (some 11) (.s 3)), none, 0⟩,
  ⟨(some 84), .p (.fieldAddr 9 none (.s 83)), none, 0⟩,
  ⟨none, .m (.store none (.s 84) (.s 82)), none, 0⟩]) .skip)
def c45_6 : ACode := (.cond (.s 73) (.ops [
  ⟨(some 75), .p (.mov (.s 2)), none, 0⟩,
  ⟨(some 76), .p (.cint .i64 (.s 75)), none, 0⟩,
  ⟨(some 77), .p (.fieldAddr 2 (some 11) (.s 3)), none, 0⟩,
  ⟨(some 78), .p (.fieldAddr 8 none (.s 77)), none, 0⟩,
  ⟨none, .m (.store none (.s 78) (.s 76)), none, 0⟩]) (.seq (.ops [
  ⟨(some 80), .p (.bin .eql (.s 50) (.c (.v (.int .i64 9)))), none, 0⟩,
  ⟨(some 79), .p (.mov (.s 80)), none, 0⟩]) c45_5))
def c45_7 : ACode := (.cond (.s 67) (.ops [
  ⟨(some 69), .p (.mov (.s 2)), none, 0⟩,
  ⟨(some 70), .p (.cint .u32 (.s 69)), none, 0⟩,
  ⟨(some 71), .p (.fieldAddr 2 (some 11) (.s 3)), none, 0⟩,
  ⟨(some 72), .p (.fieldAddr 5 none (.s 71)), none, 0⟩,
  ⟨none, .m (.store none (.s 72) (.s 70)), none, 0⟩]) (.seq (.ops [
  ⟨(some 74), .p (.bin .eql (.s 50) (.c (.v (.int .i64 8)))), none, 0⟩,
  ⟨(some 73), .p (.mov (.s 74)), none, 0⟩]) c45_6))
def c45_8 : ACode := (.cond (.s 61) (.ops [
  ⟨(some 63), .p (.mov (.s 2)), none, 0⟩,
  ⟨(some 64), .p (.cint .u32 (.s 63)), none, 0⟩,
  ⟨(some 65), .p (.fieldAddr 2 (some 11) (.s 3)), none, 0⟩,
  ⟨(some 66), .p (.fieldAddr 4 none (.s 65)), none, 0⟩,
  ⟨none, .m (.store none (.s 66) (.s 64)), none, 0⟩]) (.seq (.ops [
  ⟨(some 68), .p (.bin .eql (.s 50) (.c (.v (.int .i64 6)))), none, 0⟩,
  ⟨(some 67), .p (.mov (.s 68)), none, 0⟩]) c45_7))
def c45_9 : ACode := (.cond (.s 55) (.ops [
  ⟨(some 57), .p (.mov (.s 2)), none, 0⟩,
  ⟨(some 58), .p (.cint .i64 (.s 57)), none, 0⟩,
  ⟨(some 59), .p (.fieldAddr 2 (some 11) (.s 3)), none, 0⟩,
  ⟨(some 60), .p (.fieldAddr 2 none (.s 59)), none, 0⟩,
  ⟨none, .m (.store none (.s 60) (.s 58)), none, 0⟩]) (.seq (.ops [
  ⟨(some 62), .p (.bin .eql (.s 50) (.c (.v (.int .i64 5)))), none, 0⟩,
  ⟨(some 61), .p (.mov (.s 62)), none, 0⟩]) c45_8))
def c45_10 : ACode := (.cond (.s 51) (.ops [
  ⟨(some 53), .p (.mov (.s 2)), none, 0⟩,
  ⟨(some 54), .p (.fieldAddr 1 none (.s 3)), none, 0⟩,
  ⟨none, .m (.store none (.s 54) (.s 53)), none, 0⟩]) (.seq (.ops [
  ⟨(some 56), .p (.bin .eql (.s 50) (.c (.v (.int .i64 3)))), none, 0⟩,
  ⟨(some 55), .p (.mov (.s 56)), none, 0⟩]) c45_9))
def c45_11 : ACode := (.block 1 (.seq (.ops [
  ⟨(some 52), .p (.bin .eql (.s 50) (.c (.v (.int .i64 2)))), none, 0⟩,
  ⟨(some 51), .p (.mov (.s 52)), none, 0⟩]) c45_10))
def c45_12 : ACode := (.seq (.ops [
  ⟨(some 85), .m (.load (some 13) (.s 3)), none, 0⟩,
  ⟨none, .m (.store (some 13) (.s 6) (.s 85)), none, 0⟩,
  ⟨(some 7), .p (.mov (.c (.v (.int .i64 0)))), none, 0⟩]) .ret)
def c45_13 : ACode := (.seq (.seq (.ops [
  ⟨(some 50), .p (.mov (.s 1)), none, 0⟩]) c45_11) c45_12)
def c45_14 : ACode := (.seq (.block 0 (.seq (.ops (⟨(some 9), .p (.mov (.s 1)), none, 0⟩ ::
  ⟨(some 10), .p (.bin .eql (.s 9) (.c (.v (.int .i64 1)))), none, 0⟩ ::
  ⟨(some 11), .p (.mov (.s 10)), none, 0⟩ ::
  ⟨(some 12), .p (.mov (.s 1)), (some (11, false)), 0⟩ ::
  ⟨(some 13), .p (.bin .eql (.s 12) (.c (.v (.int .i64 4)))), (some (11, false)), 0⟩ ::
  ⟨(some 14), .p (.pick (.s 11) (.c (.v (.bool true))) (.s 13)), none, 0⟩ ::
  ⟨(some 15), .p (.mov (.s 14)), none, 0⟩ ::
  ⟨(some 16), .p (.mov (.s 1)), (some (15, false)), 0⟩ ::
  ⟨(some 17), .p (.bin .eql (.s 16) (.c (.v (.int .i64 7)))), (some (15, false)), 0⟩ ::
  ⟨(some 18), .p (.pick (.s 15) (.c (.v (.bool true))) (.s 17)), none, 0⟩ ::
  ⟨(some 19), .p (.mov (.s 18)), none, 0⟩ ::
  ⟨(some 20), .m (.load (some 13) (.s 3)), (some (19, false)), 0⟩ ::
  ⟨(some 21), .p (.mov (.s 1)), (some (19, false)), 0⟩ ::
  ⟨(some 22), .call (.c (.fn 66 [])) [(.s 20), (.s 21)], (some (19, false)), 0⟩ :: c45_0)) c45_4)) c45_13)
def c45 : ACode := (.seq (.ops [
  ⟨(some 3), .m (.box (.s 0)), none, 0⟩,
  ⟨(some 6), .m (.alloc [(.v (.int .i64 0)), (.v (.int .u64 0)), (.v (.int .u64 0)), (.v (.int .u64 0)), (.v (.int .i64 0)), (.v (.int .i64 0)), (.v (.int .u32 0)), (.v (.int .u32 0)), (.v (.int .i64 0)), (.v (.int .i64 0)), (.v (.int .i64 0)), (.v (.int .i64 0)), (.v (.string ⟨#[]⟩))]), none, 0⟩,
  ⟨(some 7), .p (.mov (.c (.v (.int .i64 0)))), none, 0⟩]) c45_14)
theorem t45 : trC Try.prog Try.f45.ntmps (bodyOf Try.f45) = some c45 := by kernel_rfl
theorem r45 : Try.f45.results.toList.mapM (trR Try.prog) = some [.cell 6 (some 13), .tmp 7] := by kernel_rfl
def i45 : FI := ⟨86, c45, [.cell 6 (some 13), .tmp 7]⟩
theorem k45 : Knows Try.prog 45 i45 := ⟨Try.f45, bodyOf Try.f45, Try.func45, by kernel_rfl, by kernel_rfl, t45, r45, by kernel_rfl⟩
-- 46 drover/droverref04.Push []
def c46_0 : ACode := (.cond (.s 9) (.seq (.ops [
  ⟨(some 10), .p (.build [(.v (.int .i64 0)), (.v (.int .u64 0)), (.v (.int .u64 0)), (.v (.int .u64 0)), (.v (.int .i64 0)), (.v (.int .i64 0)), (.v (.int .u32 0)), (.v (.int .u32 0)), (.v (.int .i64 0)), (.v (.int .i64 0)), (.v (.int .i64 0)), (.v (.int .i64 0)), (.v (.string ⟨#[]⟩))] []), none, 0⟩,
  ⟨none, .m (.store (some 13) (.s 4) (.s 10)), none, 0⟩,
  ⟨(some 5), .p (.mov (.c (.v (.int .i64 29)))), none, 0⟩]) .ret) .skip)
def c46_1 : ACode := (.cond (.s 12) (.seq (.ops [
  ⟨(some 13), .p (.build [(.v (.int .i64 0)), (.v (.int .u64 0)), (.v (.int .u64 0)), (.v (.int .u64 0)), (.v (.int .i64 0)), (.v (.int .i64 0)), (.v (.int .u32 0)), (.v (.int .u32 0)), (.v (.int .i64 0)), (.v (.int .i64 0)), (.v (.int .i64 0)), (.v (.int .i64 0)), (.v (.string ⟨#[]⟩))] []), none, 0⟩,
  ⟨none, .m (.store (some 13) (.s 4) (.s 13)), none, 0⟩,
  ⟨(some 5), .p (.mov (.c (.v (.int .i64 1)))), none, 0⟩]) .ret) .skip)
def c46_2 : ACode := (.seq (.ops [
  ⟨(some 19), .m (.load (some 13) (.s 2)), none, 0⟩,
  ⟨none, .m (.store (some 13) (.s 4) (.s 19)), none, 0⟩,
  ⟨(some 5), .p (.mov (.c (.v (.int .i64 0)))), none, 0⟩]) .ret)
def c46_3 : ACode := (.seq (.ops [
  ⟨(some 14), .p (.mov (.s 1)), none, 0⟩,
  ⟨(some 15), .p (.cint .i64 (.s 14)), none, 0⟩,
  ⟨(some 16), .p (.bin .add (.c (.v (.int .i64 4096))) (.s 15)), none, 0⟩,
  ⟨(some 17), .p (.fieldAddr 2 (some 11) (.s 2)), none, 0⟩,
  ⟨(some 18), .p (.fieldAddr 2 none (.s 17)), none, 0⟩,
  ⟨none, .m (.store none (.s 18) (.s 16)), none, 0⟩]) c46_2)
def c46_4 : ACode := (.seq (.seq (.ops [
  ⟨(some 11), .p (.mov (.s 1)), none, 0⟩,
  ⟨(some 12), .p (.bin .gtr (.s 11) (.c (.v (.int .u64 4095)))), none, 0⟩]) c46_1) c46_3)
def c46_5 : ACode := (.seq (.seq (.ops [
  ⟨(some 6), .p (.fieldAddr 2 (some 11) (.s 2)), none, 0⟩,
  ⟨(some 7), .p (.fieldAddr 2 none (.s 6)), none, 0⟩,
  ⟨(some 8), .m (.load none (.s 7)), none, 0⟩,
  ⟨(some 9), .p (.bin .neq (.s 8) (.c (.v (.int .i64 0)))), none, 0⟩]) c46_0) c46_4)
def c46 : ACode := (.seq (.ops [
  ⟨(some 2), .m (.box (.s 0)), none, 0⟩,
  ⟨(some 4), .m (.alloc [(.v (.int .i64 0)), (.v (.int .u64 0)), (.v (.int .u64 0)), (.v (.int .u64 0)), (.v (.int .i64 0)), (.v (.int .i64 0)), (.v (.int .u32 0)), (.v (.int .u32 0)), (.v (.int .i64 0)), (.v (.int .i64 0)), (.v (.int .i64 0)), (.v (.int .i64 0)), (.v (.string ⟨#[]⟩))]), none, 0⟩,
  ⟨(some 5), .p (.mov (.c (.v (.int .i64 0)))), none, 0⟩]) c46_5)
theorem t46 : trC Try.prog Try.f46.ntmps (bodyOf Try.f46) = some c46 := by kernel_rfl
theorem r46 : Try.f46.results.toList.mapM (trR Try.prog) = some [.cell 4 (some 13), .tmp 5] := by kernel_rfl
def i46 : FI := ⟨20, c46, [.cell 4 (some 13), .tmp 5]⟩
theorem k46 : Knows Try.prog 46 i46 := ⟨Try.f46, bodyOf Try.f46, Try.func46, by kernel_rfl, by kernel_rfl, t46, r46, by kernel_rfl⟩
-- 47 drover/droverref04.Pop []
def c47_0 : ACode := (.cond (.s 7) (.seq (.ops [
  ⟨(some 8), .p (.build [(.v (.int .i64 0)), (.v (.int .u64 0)), (.v (.int .u64 0)), (.v (.int .u64 0)), (.v (.int .i64 0)), (.v (.int .i64 0)), (.v (.int .u32 0)), (.v (.int .u32 0)), (.v (.int .i64 0)), (.v (.int .i64 0)), (.v (.int .i64 0)), (.v (.int .i64 0)), (.v (.string ⟨#[]⟩))] []), none, 0⟩,
  ⟨none, .m (.store (some 13) (.s 2) (.s 8)), none, 0⟩,
  ⟨(some 3), .p (.mov (.c (.v (.int .i64 31)))), none, 0⟩]) .ret) .skip)
def c47_1 : ACode := (.seq (.ops [
  ⟨(some 11), .m (.load (some 13) (.s 1)), none, 0⟩,
  ⟨none, .m (.store (some 13) (.s 2) (.s 11)), none, 0⟩,
  ⟨(some 3), .p (.mov (.c (.v (.int .i64 0)))), none, 0⟩]) .ret)
def c47_2 : ACode := (.seq (.ops [
  ⟨(some 9), .p (.fieldAddr 2 (some 11) (.s 1)), none, 0⟩,
  ⟨(some 10), .p (.fieldAddr 2 none (.s 9)), none, 0⟩,
  ⟨none, .m (.store none (.s 10) (.c (.v (.int .i64 0)))), none, 0⟩]) c47_1)
def c47_3 : ACode := (.seq (.seq (.ops [
  ⟨(some 4), .p (.fieldAddr 2 (some 11) (.s 1)), none, 0⟩,
  ⟨(some 5), .p (.fieldAddr 2 none (.s 4)), none, 0⟩,
  ⟨(some 6), .m (.load none (.s 5)), none, 0⟩,
  ⟨(some 7), .p (.bin .eql (.s 6) (.c (.v (.int .i64 0)))), none, 0⟩]) c47_0) c47_2)
def c47 : ACode := (.seq (.ops [
  ⟨(some 1), .m (.box (.s 0)), none, 0⟩,
  ⟨(some 2), .m (.alloc [(.v (.int .i64 0)), (.v (.int .u64 0)), (.v (.int .u64 0)), (.v (.int .u64 0)), (.v (.int .i64 0)), (.v (.int .i64 0)), (.v (.int .u32 0)), (.v (.int .u32 0)), (.v (.int .i64 0)), (.v (.int .i64 0)), (.v (.int .i64 0)), (.v (.int .i64 0)), (.v (.string ⟨#[]⟩))]), none, 0⟩,
  ⟨(some 3), .p (.mov (.c (.v (.int .i64 0)))), none, 0⟩]) c47_3)
theorem t47 : trC Try.prog Try.f47.ntmps (bodyOf Try.f47) = some c47 := by kernel_rfl
theorem r47 : Try.f47.results.toList.mapM (trR Try.prog) = some [.cell 2 (some 13), .tmp 3] := by kernel_rfl
def i47 : FI := ⟨12, c47, [.cell 2 (some 13), .tmp 3]⟩
theorem k47 : Knows Try.prog 47 i47 := ⟨Try.f47, bodyOf Try.f47, Try.func47, by kernel_rfl, by kernel_rfl, t47, r47, by kernel_rfl⟩
-- 48 drover/droverref04.Put []
def c48_0 : List AOper := [
  ⟨(some 22), .p (.un .not (.s 21)), (some (18, false)), 0⟩,
  ⟨(some 23), .p (.pick (.s 18) (.c (.v (.bool true))) (.s 22)), none, 0⟩]
def c48_1 : ACode := (.cond (.s 23) (.seq (.ops [
  ⟨(some 24), .p (.build [(.v (.int .i64 0)), (.v (.int .u64 0)), (.v (.int .u64 0)), (.v (.int .u64 0)), (.v (.int .i64 0)), (.v (.int .i64 0)), (.v (.int .u32 0)), (.v (.int .u32 0)), (.v (.int .i64 0)), (.v (.int .i64 0)), (.v (.int .i64 0)), (.v (.int .i64 0)), (.v (.string ⟨#[]⟩))] []), none, 0⟩,
  ⟨none, .m (.store (some 13) (.s 6) (.s 24)), none, 0⟩,
  ⟨(some 7), .p (.mov (.c (.v (.int .i64 20)))), none, 0⟩]) .ret) .skip)
def c48_2 : List AOper := [
  ⟨(some 29), .p (.mov (.s 2)), none, 0⟩,
  ⟨(some 30), .p (.bin .neq (.s 28) (.s 29)), none, 0⟩,
  ⟨(some 31), .p (.mov (.s 30)), none, 0⟩,
  ⟨(some 32), .p (.mov (.s 1)), (some (31, false)), 0⟩,
  ⟨(some 33), .p (.bin .eql (.s 32) (.c (.v (.int .i64 3)))), (some (31, false)), 0⟩,
  ⟨(some 34), .p (.mov (.s 33)), (some (31, false)), 0⟩,
  ⟨(some 35), .p (.mov (.s 2)), (some (34, true)), 0⟩,
  ⟨(some 36), .p (.bin .lss (.s 35) (.c (.v (.int .u64 4096)))), (some (34, true)), 0⟩,
  ⟨(some 37), .p (.pick (.s 34) (.s 36) (.c (.v (.bool false)))), (some (31, false)), 0⟩,
  ⟨(some 38), .p (.pick (.s 31) (.c (.v (.bool true))) (.s 37)), none, 0⟩]
def c48_3 : List AOper := (⟨(some 28), .call (.c (.fn 69 [])) [(.s 25), (.s 27)], none, 0⟩ :: c48_2)
def c48_4 : ACode := (.cond (.s 38) (.seq (.ops [
  ⟨(some 39), .p (.build [(.v (.int .i64 0)), (.v (.int .u64 0)), (.v (.int .u64 0)), (.v (.int .u64 0)), (.v (.int .i64 0)), (.v (.int .i64 0)), (.v (.int .u32 0)), (.v (.int .u32 0)), (.v (.int .i64 0)), (.v (.int .i64 0)), (.v (.int .i64 0)), (.v (.int .i64 0)), (.v (.string ⟨#[]⟩))] []), none, 0⟩,
  ⟨none, .m (.store (some 13) (.s 6) (.s 39)), none, 0⟩,
  ⟨(some 7), .p (.mov (.c (.v (.int .i64 1)))), none, 0⟩]) .ret) .skip)
def c48_5 : ACode := (.cond (.s 47) (.seq (.ops [
  ⟨(some 48), .p (.build [(.v (.int .i64 0)), (.v (.int .u64 0)), (.v (.int .u64 0)), (.v (.int .u64 0)), (.v (.int .i64 0)), (.v (.int .i64 0)), (.v (.int .u32 0)), (.v (.int .u32 0)), (.v (.int .i64 0)), (.v (.int .i64 0)), (.v (.int .i64 0)), (.v (.int .i64 0)), (.v (.string ⟨#[]⟩))] []), none, 0⟩,
  ⟨none, .m (.store (some 13) (.s 6) (.s 48)), none, 0⟩,
  ⟨(some 7), .p (.mov (.c (.v (.int .i64 31)))), none, 0⟩]) .ret) .skip)
def c48_6 : ACode := (.cond (.s 78) (.ops [
  ⟨(some 80), .p (.mov (.s 2)), none, 0⟩,
  ⟨(some 81), .p (.cint .i64 (.s 80)), none, 0⟩,
  ⟨(some 82), .p (.fieldAddr 2 (some 11) (.s 3)), none, 0⟩,
  ⟨(some 83), .p (.fieldAddr 9 none (.s 82)), none, 0⟩,
  ⟨none, .m (.store none (.s 83) (.s 81)), none, 0⟩]) .skip)
def c48_7 : ACode := (.cond (.s 72) (.ops [
  ⟨(some 74), .p (.mov (.s 2)), none, 0⟩,
  ⟨(some 75), .p (.cint .i64 (.s 74)), none, 0⟩,
  ⟨(some 76), .p (.fieldAddr 2 (some 11) (.s 3)), none, 0⟩,
  ⟨(some 77), .p (.fieldAddr 8 none (.s 76)), none, 0⟩,
  ⟨none, .m (.store none (.s 77) (.s 75)), none, 0⟩]) (.seq (.ops [
  ⟨(some 79), .p (.bin .eql (.s 49) (.c (.v (.int .i64 9)))), none, 0⟩,
  ⟨(some 78), .p (.mov (.s 79)), none, 0⟩]) c48_6))
def c48_8 : ACode := (.cond (.s 66) (.ops [
  ⟨(some 68), .p (.mov (.s 2)), none, 0⟩,
  ⟨(some 69), .p (.cint .u32 (.s 68)), none, 0⟩,
  ⟨(some 70), .p (.fieldAddr 2 (some 11) (.s 3)), none, 0⟩,
  ⟨(some 71), .p (.fieldAddr 5 none (.s 70)), none, 0⟩,
  ⟨none, .m (.store none (.s 71) (.s 69)), none, 0⟩]) (.seq (.ops [
  ⟨(some 73), .p (.bin .eql (.s 49) (.c (.v (.int .i64 8)))), none, 0⟩,
  ⟨(some 72), .p (.mov (.s 73)), none, 0⟩]) c48_7))
def c48_9 : ACode := (.cond (.s 60) (.ops [
  ⟨(some 62), .p (.mov (.s 2)), none, 0⟩,
  ⟨(some 63), .p (.cint .u32 (.s 62)), none, 0⟩,
  ⟨(some 64), .p (.fieldAddr 2 (some 11) (.s 3)), none, 0⟩,
  ⟨(some 65), .p (.fieldAddr 4 none (.s 64)), none, 0⟩,
  ⟨none, .m (.store none (.s 65) (.s 63)), none, 0⟩]) (.seq (.ops [
  ⟨(some 67), .p (.bin .eql (.s 49) (.c (.v (.int .i64 6)))), none, 0⟩,
  ⟨(some 66), .p (.mov (.s 67)), none, 0⟩]) c48_8))
def c48_10 : ACode := (.cond (.s 54) (.ops [
  ⟨(some 56), .p (.mov (.s 2)), none, 0⟩,
  ⟨(some 57), .p (.cint .i64 (.s 56)), none, 0⟩,
  ⟨(some 58), .p (.fieldAddr 2 (some 11) (.s 3)), none, 0⟩,
  ⟨(some 59), .p (.fieldAddr 2 none (.s 58)), none, 0⟩,
  ⟨none, .m (.store none (.s 59) (.s 57)), none, 0⟩]) (.seq (.ops [
  ⟨(some 61), .p (.bin .eql (.s 49) (.c (.v (.int .i64 5)))), none, 0⟩,
  ⟨(some 60), .p (.mov (.s 61)), none, 0⟩]) c48_9))
def c48_11 : ACode := (.cond (.s 50) (.ops [
  ⟨(some 52), .p (.mov (.s 2)), none, 0⟩,
  ⟨(some 53), .p (.fieldAddr 1 none (.s 3)), none, 0⟩,
  ⟨none, .m (.store none (.s 53) (.s 52)), none, 0⟩]) (.seq (.ops [
  ⟨(some 55), .p (.bin .eql (.s 49) (.c (.v (.int .i64 3)))), none, 0⟩,
  ⟨(some 54), .p (.mov (.s 55)), none, 0⟩]) c48_10))
def c48_12 : ACode := (.block 0 (.seq (.ops [
  ⟨(some 51), .p (.bin .eql (.s 49) (.c (.v (.int .i64 2)))), none, 0⟩,
  ⟨(some 50), .p (.mov (.s 51)), none, 0⟩]) c48_11))
def c48_13 : ACode := (.seq (.ops [
  ⟨(some 84), .m (.load (some 13) (.s 3)), none, 0⟩,
  ⟨none, .m (.store (some 13) (.s 6) (.s 84)), none, 0⟩,
  ⟨(some 7), .p (.mov (.c (.v (.int .i64 0)))), none, 0⟩]) .ret)
def c48_14 : ACode := (.seq (.seq (.ops [
  ⟨(some 49), .p (.mov (.s 1)), none, 0⟩]) c48_12) c48_13)
def c48_15 : ACode := (.seq (.seq (.ops [
  ⟨(some 40), .p (.mov (.s 1)), none, 0⟩,
  ⟨(some 41), .p (.bin .eql (.s 40) (.c (.v (.int .i64 3)))), none, 0⟩,
  ⟨(some 42), .p (.mov (.s 41)), none, 0⟩,
  ⟨(some 43), .p (.fieldAddr 2 (some 11) (.s 3)), (some (42, true)), 0⟩,
  ⟨(some 44), .p (.fieldAddr 2 none (.s 43)), (some (42, true)), 0⟩,
  ⟨(some 45), .m (.load none (.s 44)), (some (42, true)), 0⟩,
  ⟨(some 46), .p (.bin .eql (.s 45) (.c (.v (.int .i64 0)))), (some (42, true)), 0⟩,
  ⟨(some 47), .p (.pick (.s 42) (.s 46) (.c (.v (.bool false)))), none, 0⟩]) c48_5) c48_14)
def c48_16 : ACode := (.seq (.seq (.ops (⟨(some 25), .p (.mov (.s 2)), none, 0⟩ ::
  ⟨(some 26), .p (.mov (.s 1)), none, 0⟩ ::
  ⟨(some 27), .call (.c (.fn 70 [])) [(.s 26)], none, 0⟩ :: c48_3)) c48_4) c48_15)
def c48_17 : ACode := (.seq (.seq (.ops (⟨(some 8), .p (.mov (.s 1)), none, 0⟩ ::
  ⟨(some 9), .p (.bin .eql (.s 8) (.c (.v (.int .i64 1)))), none, 0⟩ ::
  ⟨(some 10), .p (.mov (.s 9)), none, 0⟩ ::
  ⟨(some 11), .p (.mov (.s 1)), (some (10, false)), 0⟩ ::
  ⟨(some 12), .p (.bin .eql (.s 11) (.c (.v (.int .i64 4)))), (some (10, false)), 0⟩ ::
  ⟨(some 13), .p (.pick (.s 10) (.c (.v (.bool true))) (.s 12)), none, 0⟩ ::
  ⟨(some 14), .p (.mov (.s 13)), none, 0⟩ ::
  ⟨(some 15), .p (.mov (.s 1)), (some (14, false)), 0⟩ ::
  ⟨(some 16), .p (.bin .eql (.s 15) (.c (.v (.int .i64 7)))), (some (14, false)), 0⟩ ::
  ⟨(some 17), .p (.pick (.s 14) (.c (.v (.bool true))) (.s 16)), none, 0⟩ ::
  ⟨(some 18), .p (.mov (.s 17)), none, 0⟩ ::
  ⟨(some 19), .m (.load (some 13) (.s 3)), (some (18, false)), 0⟩ ::
  ⟨(some 20), .p (.mov (.s 1)), (some (18, false)), 0⟩ ::
  ⟨(some 21), .call (.c (.fn 68 [])) [(.s 19), (.s 20)], (some (18, false)), 0⟩ :: c48_0)) c48_1) c48_16)
def c48 : ACode := (.seq (.ops [
  ⟨(some 3), .m (.box (.s 0)), none, 0⟩,
  ⟨(some 6), .m (.alloc [(.v (.int .i64 0)), (.v (.int .u64 0)), (.v (.int .u64 0)), (.v (.int .u64 0)), (.v (.int .i64 0)), (.v (.int .i64 0)), (.v (.int .u32 0)), (.v (.int .u32 0)), (.v (.int .i64 0)), (.v (.int .i64 0)), (.v (.int .i64 0)), (.v (.int .i64 0)), (.v (.string ⟨#[]⟩))]), none, 0⟩,
  ⟨(some 7), .p (.mov (.c (.v (.int .i64 0)))), none, 0⟩]) c48_17)
theorem t48 : trC Try.prog Try.f48.ntmps (bodyOf Try.f48) = some c48 := by kernel_rfl
theorem r48 : Try.f48.results.toList.mapM (trR Try.prog) = some [.cell 6 (some 13), .tmp 7] := by kernel_rfl
def i48 : FI := ⟨85, c48, [.cell 6 (some 13), .tmp 7]⟩
theorem k48 : Knows Try.prog 48 i48 := ⟨Try.f48, bodyOf Try.f48, Try.func48, by kernel_rfl, by kernel_rfl, t48, r48, by kernel_rfl⟩
end Go.Proofs.Act
