/- A part of a law's proof: ActX2. -/
import Derived.KernelRfl
import Derived.Test.YtngoeofpjpdpoaaActX0
import Derived.Test.YtngoeofpjpdpoaaProg
import Derived.Test.YtngoeofpjpdpoaaSvCod
set_option linter.unusedSimpArgs false
set_option linter.constructorNameAsVariable false
namespace Go.Proofs.Act
open Go Go.Ab Go.Proofs
set_option linter.unusedVariables false
-- 49 drover/act.seems []
def c49_0 : List AOper := [
  ⟨(some 3), .p (.mov (.s 9)), none, 0⟩]
def c49_1 : List AOper := [
  ⟨(some 4), .p (.mov (.s 11)), none, 0⟩]
def c49_2 : List AOper := [
  ⟨(some 19), .p (.build [(.v (.int .i64 0)), (.v (.int .i64 0)), (.v (.int .u64 0))] [(0, 1, (.c (.v (.int .i64 1)))), (2, 1, (.s 18))]), none, 0⟩,
  ⟨none, .m (.store (some 3) (.s 2) (.s 19)), none, 0⟩]
def c49_3 : List AOper := [
  ⟨(some 24), .p (.build [(.v (.int .i64 0)), (.v (.int .i64 0)), (.v (.int .u64 0))] [(0, 1, (.c (.v (.int .i64 2)))), (2, 1, (.s 23))]), none, 0⟩,
  ⟨none, .m (.store (some 3) (.s 2) (.s 24)), none, 0⟩]
def c49_4 : List AOper := [
  ⟨(some 5), .p (.mov (.s 37)), none, 0⟩]
def c49_5 : List AOper := (⟨(some 37), .call (.c (.fn 73 [])) [(.s 36)], none, 0⟩ :: c49_4)
def c49_6 : List AOper := [
  ⟨(some 40), .p (.mov (.s 42)), none, 0⟩,
  ⟨(some 43), .p (.extract (.s 40) 0), none, 0⟩,
  ⟨(some 44), .p (.extract (.s 40) 1), none, 0⟩,
  ⟨(some 6), .p (.mov (.s 43)), none, 0⟩,
  ⟨(some 7), .p (.mov (.s 44)), none, 0⟩]
def c49_7 : List AOper := [
  ⟨(some 50), .p (.build [(.v (.int .i64 0)), (.v (.int .i64 0)), (.v (.int .u64 0))] [(0, 1, (.c (.v (.int .i64 5)))), (1, 1, (.s 45)), (2, 1, (.s 49))]), none, 0⟩,
  ⟨none, .m (.store (some 3) (.s 2) (.s 50)), none, 0⟩]
def c49_8 : ACode := (.seq (.ops (⟨(some 45), .p (.mov (.s 5)), none, 0⟩ ::
  ⟨(some 46), .p (.mov (.s 3)), none, 0⟩ ::
  ⟨(some 47), .p (.mov (.s 7)), none, 0⟩ ::
  ⟨(some 48), .p (.mm true (.s 47) [(.c (.v (.int .i64 1)))]), none, 0⟩ ::
  ⟨(some 49), .call (.c (.fn 72 [])) [(.s 46), (.s 48)], none, 121⟩ :: c49_7)) .ret)
def c49_9 : ACode := (.seq (.ops (⟨(some 41), .p (.mov (.s 5)), none, 0⟩ ::
  ⟨(some 42), .call (.c (.fn 32 [])) [(.s 41)], none, 0⟩ :: c49_6)) c49_8)
def c49_10 : ACode := (.seq (.ops [
  ⟨(some 38), .p (.mov (.s 3)), none, 0⟩,
  ⟨(some 39), .call (.c (.fn 72 [])) [(.s 38), (.c (.v (.int .i64 1)))], none, 121⟩]) c49_9)
def c49_11 : ACode := (.seq (.ops (⟨(some 35), .p (.mov (.s 3)), none, 0⟩ ::
  ⟨(some 36), .call (.c (.fn 72 [])) [(.s 35), (.c (.v (.int .i64 1)))], none, 121⟩ :: c49_5)) c49_10)
def c49_12 : ACode := (.cond (.s 31) (.seq (.ops [
  ⟨(some 33), .p (.mov (.s 3)), none, 0⟩,
  ⟨(some 34), .call (.c (.fn 72 [])) [(.s 33), (.c (.v (.int .i64 2)))], none, 121⟩]) c49_11) .skip)
def c49_13 : ACode := (.cond (.s 28) (.seq (.ops [
  ⟨(some 30), .p (.build [(.v (.int .i64 0)), (.v (.int .i64 0)), (.v (.int .u64 0))] [(0, 1, (.c (.v (.int .i64 4))))]), none, 0⟩,
  ⟨none, .m (.store (some 3) (.s 2) (.s 30)), none, 0⟩]) .ret) (.seq (.ops [
  ⟨(some 32), .p (.bin .eql (.s 14) (.c (.v (.int .u64 25)))), none, 0⟩,
  ⟨(some 31), .p (.mov (.s 32)), none, 0⟩]) c49_12))
def c49_14 : ACode := (.cond (.s 25) (.seq (.ops [
  ⟨(some 27), .p (.build [(.v (.int .i64 0)), (.v (.int .i64 0)), (.v (.int .u64 0))] [(0, 1, (.c (.v (.int .i64 3))))]), none, 0⟩,
  ⟨none, .m (.store (some 3) (.s 2) (.s 27)), none, 0⟩]) .ret) (.seq (.ops [
  ⟨(some 29), .p (.bin .eql (.s 14) (.c (.v (.int .u64 18)))), none, 0⟩,
  ⟨(some 28), .p (.mov (.s 29)), none, 0⟩]) c49_13))
def c49_15 : ACode := (.cond (.s 20) (.seq (.ops (⟨(some 22), .p (.mov (.s 3)), none, 0⟩ ::
  ⟨(some 23), .call (.c (.fn 72 [])) [(.s 22), (.c (.v (.int .i64 4)))], none, 121⟩ :: c49_3)) .ret) (.seq (.ops [
  ⟨(some 26), .p (.bin .eql (.s 14) (.c (.v (.int .u64 17)))), none, 0⟩,
  ⟨(some 25), .p (.mov (.s 26)), none, 0⟩]) c49_14))
def c49_16 : ACode := (.cond (.s 15) (.seq (.ops (⟨(some 17), .p (.mov (.s 3)), none, 0⟩ ::
  ⟨(some 18), .call (.c (.fn 72 [])) [(.s 17), (.c (.v (.int .i64 4)))], none, 121⟩ :: c49_2)) .ret) (.seq (.ops [
  ⟨(some 21), .p (.bin .eql (.s 14) (.c (.v (.int .u64 22)))), none, 0⟩,
  ⟨(some 20), .p (.mov (.s 21)), none, 0⟩]) c49_15))
def c49_17 : ACode := (.block 0 (.seq (.ops [
  ⟨(some 16), .p (.bin .eql (.s 14) (.c (.v (.int .u64 0)))), none, 0⟩,
  ⟨(some 15), .p (.mov (.s 16)), none, 0⟩]) c49_16))
def c49_18 : ACode := (.seq (.ops [
  ⟨(some 51), .p (.build [(.v (.int .i64 0)), (.v (.int .i64 0)), (.v (.int .u64 0))] []), none, 0⟩,
  ⟨none, .m (.store (some 3) (.s 2) (.s 51)), none, 0⟩]) .ret)
def c49_19 : ACode := (.seq (.seq (.ops [
  ⟨(some 14), .p (.mov (.s 4)), none, 0⟩]) c49_17) c49_18)
def c49_20 : ACode := (.seq (.ops [
  ⟨(some 12), .p (.mov (.s 3)), none, 0⟩,
  ⟨(some 13), .call (.c (.fn 72 [])) [(.s 12), (.c (.v (.int .i64 2)))], none, 121⟩]) c49_19)
def c49_21 : ACode := (.seq (.ops (⟨(some 10), .p (.mov (.s 3)), none, 0⟩ ::
  ⟨(some 11), .call (.c (.fn 72 [])) [(.s 10), (.c (.v (.int .i64 2)))], none, 121⟩ :: c49_1)) c49_20)
def c49_22 : ACode := (.seq (.ops (⟨(some 8), .p (.mov (.s 0)), none, 0⟩ ::
  ⟨(some 9), .call (.c (.fn 71 [])) [(.s 8)], none, 0⟩ :: c49_0)) c49_21)
def c49 : ACode := (.seq (.ops [
  ⟨(some 2), .m (.alloc [(.v (.int .i64 0)), (.v (.int .i64 0)), (.v (.int .u64 0))]), none, 0⟩]) c49_22)
theorem t49 : trC Try.prog Try.f49.ntmps (bodyOf Try.f49) = some c49 := by kernel_rfl
theorem r49 : Try.f49.results.toList.mapM (trR Try.prog) = some [.cell 2 (some 3)] := by kernel_rfl
def i49 : FI := ⟨52, c49, [.cell 2 (some 3)]⟩
theorem k49 : Knows Try.prog 49 i49 := ⟨Try.f49, bodyOf Try.f49, Try.func49, by kernel_rfl, by kernel_rfl, t49, r49, by kernel_rfl⟩
-- 50 drover/droverref03.Num []
def c50_0 : ACode := (.cond (.s 8) .skip (.exit 0))
def c50_1 : ACode := (.ops [
  ⟨(some 9), .p (.mov (.s 4)), none, 0⟩,
  ⟨(some 10), .p (.bin .add (.s 9) (.c (.v (.int .i64 1)))), none, 0⟩,
  ⟨(some 4), .p (.mov (.s 10)), none, 0⟩])
def c50_2 : ACode := (.seq (.block 1 (.ops [
  ⟨(some 11), .p (.mov (.s 3)), none, 0⟩,
  ⟨(some 12), .p (.bin .shl (.s 11) (.c (.v (.int .u64 8)))), none, 0⟩,
  ⟨(some 13), .p (.mov (.s 0)), none, 0⟩,
  ⟨(some 14), .p (.mov (.s 4)), none, 0⟩,
  ⟨(some 15), .p (.idxStr (.s 13) (.s 14)), none, 0⟩,
  ⟨(some 16), .p (.cint .u64 (.s 15)), none, 0⟩,
  ⟨(some 17), .p (.bin .or (.s 12) (.s 16)), none, 0⟩,
  ⟨(some 3), .p (.mov (.s 17)), none, 0⟩])) c50_1)
def c50_3 : ACode := (.seq (.seq (.ops [
  ⟨(some 5), .p (.mov (.s 4)), none, 0⟩,
  ⟨(some 6), .p (.mov (.s 0)), none, 0⟩,
  ⟨(some 7), .p (.len true (.s 6)), none, 0⟩,
  ⟨(some 8), .p (.bin .lss (.s 5) (.s 7)), none, 0⟩]) c50_0) c50_2)
def c50_4 : ACode := (.block 0 (.loop c50_3))
def c50_5 : ACode := (.seq (.ops [
  ⟨(some 18), .p (.mov (.s 3)), none, 0⟩,
  ⟨(some 2), .p (.mov (.s 18)), none, 0⟩]) .ret)
def c50_6 : ACode := (.seq (.seq (.ops [
  ⟨(some 4), .p (.mov (.c (.v (.int .i64 0)))), none, 0⟩]) c50_4) c50_5)
def c50_7 : ACode := (.seq (.ops [
  ⟨(some 3), .p (.mov (.c (.v (.int .u64 0)))), none, 0⟩]) c50_6)
def c50 : ACode := (.seq (.ops [
  ⟨(some 2), .p (.mov (.c (.v (.int .u64 0)))), none, 0⟩]) c50_7)
theorem t50 : trC Try.prog Try.f50.ntmps (bodyOf Try.f50) = some c50 := by kernel_rfl
theorem r50 : Try.f50.results.toList.mapM (trR Try.prog) = some [.tmp 2] := by kernel_rfl
def i50 : FI := ⟨19, c50, [.tmp 2]⟩
theorem k50 : Knows Try.prog 50 i50 := ⟨Try.f50, bodyOf Try.f50, Try.func50, by kernel_rfl, by kernel_rfl, t50, r50, by kernel_rfl⟩
-- 51 drover/droverref06.one []
def c51_0 : List AOper := [
  ⟨(some 12), .p (.build [(.v (.int .i64 0)), (.v (.int .i64 0)), (.v (.int .u64 0))] [(0, 1, (.c (.v (.int .i64 1)))), (2, 1, (.s 11))]), none, 0⟩,
  ⟨none, .m (.store (some 3) (.s 2) (.s 12)), none, 0⟩]
def c51_1 : List AOper := [
  ⟨(some 18), .p (.build [(.v (.int .i64 0)), (.v (.int .i64 0)), (.v (.int .u64 0))] [(0, 1, (.c (.v (.int .i64 2)))), (2, 1, (.s 17))]), none, 0⟩,
  ⟨none, .m (.store (some 3) (.s 2) (.s 18)), none, 0⟩]
def c51_2 : ACode := (.cond (.s 28) .skip (.exit 1))
def c51_3 : List AOper := [
  ⟨(some 55), .p (.build [(.v (.int .i64 0)), (.v (.int .i64 0)), (.v (.int .u64 0))] [(0, 1, (.c (.v (.int .i64 5)))), (1, 1, (.s 48)), (2, 1, (.s 54))]), none, 0⟩,
  ⟨none, .m (.store (some 3) (.s 2) (.s 55)), none, 0⟩]
def c51_4 : List AOper := (⟨(some 52), .p (.bin .add (.c (.v (.int .i64 8))) (.s 51)), none, 0⟩ ::
  ⟨(some 53), .p (.slStr (.s 49) (some (.c (.v (.int .i64 8)))) (some (.s 52))), none, 0⟩ ::
  ⟨(some 54), .call (.c (.fn 50 [])) [(.s 53)], none, 0⟩ :: c51_3)
def c51_5 : ACode := (.cond (.s 47) (.seq (.ops (⟨(some 48), .p (.mov (.s 3)), none, 0⟩ ::
  ⟨(some 49), .p (.mov (.s 0)), none, 0⟩ ::
  ⟨(some 50), .p (.mov (.s 3)), none, 0⟩ ::
  ⟨(some 51), .call (.c (.fn 61 [])) [(.s 50)], none, 0⟩ :: c51_4)) .ret) .skip)
def c51_6 : ACode := (.ops [
  ⟨(some 29), .p (.mov (.s 3)), none, 0⟩,
  ⟨(some 30), .p (.bin .add (.s 29) (.c (.v (.int .i64 1)))), none, 0⟩,
  ⟨(some 3), .p (.mov (.s 30)), none, 0⟩])
def c51_7 : ACode := (.seq (.block 2 (.seq (.draw [
  ⟨(some 31), .p (.mov (.s 3)), none, 0⟩,
  ⟨(some 32), .call (.c (.fn 60 [])) [(.s 31)], none, 0⟩,
  ⟨(some 33), .p (.bin .gtr (.s 32) (.c (.v (.int .i64 0)))), none, 0⟩,
  ⟨(some 34), .p (.mov (.s 33)), none, 0⟩,
  ⟨(some 35), .p (.mov (.s 0)), (some (34, true)), 0⟩,
  ⟨(some 36), .p (.idxStr (.s 35) (.c (.v (.int .i64 6)))), (some (34, true)), 0⟩,
  ⟨(some 37), .p (.cint .i64 (.s 36)), (some (34, true)), 0⟩,
  ⟨(some 38), .p (.mov (.s 3)), (some (34, true)), 0⟩,
  ⟨(some 39), .call (.c (.fn 60 [])) [(.s 38)], (some (34, true)), 0⟩,
  ⟨(some 40), .p (.bin .mul (.c (.v (.int .i64 2))) (.s 39)), (some (34, true)), 0⟩,
  ⟨(some 41), .p (.bin .eql (.s 37) (.s 40)), (some (34, true)), 0⟩,
  ⟨(some 42), .p (.pick (.s 34) (.s 41) (.c (.v (.bool false)))), none, 0⟩,
  ⟨(some 43), .p (.mov (.s 42)), none, 0⟩,
  ⟨(some 44), .p (.mov (.s 0)), (some (43, true)), 0⟩,
  ⟨(some 45), .p (.len true (.s 44)), (some (43, true)), 0⟩,
  ⟨(some 46), .p (.bin .eql (.s 45) (.c (.v (.int .i64 16)))), (some (43, true)), 0⟩,
  ⟨(some 47), .p (.pick (.s 43) (.s 46) (.c (.v (.bool false)))), none, 0⟩]) c51_5)) c51_6)
def c51_8 : ACode := (.seq (.seq (.ops [
  ⟨(some 27), .p (.mov (.s 3)), none, 0⟩,
  ⟨(some 28), .p (.bin .leq (.s 27) (.c (.v (.int .i64 9)))), none, 0⟩]) c51_2) c51_7)
def c51_9 : ACode := (.block 1 (.loop c51_8))
def c51_10 : ACode := (.cond (.s 25) (.seq (.ops [
  ⟨(some 3), .p (.mov (.c (.v (.int .i64 3)))), none, 0⟩]) c51_9) .skip)
def c51_11 : ACode := (.cond (.s 22) (.seq (.ops [
  ⟨(some 24), .p (.build [(.v (.int .i64 0)), (.v (.int .i64 0)), (.v (.int .u64 0))] [(0, 1, (.c (.v (.int .i64 4))))]), none, 0⟩,
  ⟨none, .m (.store (some 3) (.s 2) (.s 24)), none, 0⟩]) .ret) (.seq (.ops [
  ⟨(some 26), .p (.bin .eql (.s 6) (.c (.v (.int .u64 25)))), none, 0⟩,
  ⟨(some 25), .p (.mov (.s 26)), none, 0⟩]) c51_10))
def c51_12 : ACode := (.cond (.s 19) (.seq (.ops [
  ⟨(some 21), .p (.build [(.v (.int .i64 0)), (.v (.int .i64 0)), (.v (.int .u64 0))] [(0, 1, (.c (.v (.int .i64 3))))]), none, 0⟩,
  ⟨none, .m (.store (some 3) (.s 2) (.s 21)), none, 0⟩]) .ret) (.seq (.ops [
  ⟨(some 23), .p (.bin .eql (.s 6) (.c (.v (.int .u64 18)))), none, 0⟩,
  ⟨(some 22), .p (.mov (.s 23)), none, 0⟩]) c51_11))
def c51_13 : ACode := (.cond (.s 13) (.seq (.ops (⟨(some 15), .p (.mov (.s 0)), none, 0⟩ ::
  ⟨(some 16), .p (.slStr (.s 15) (some (.c (.v (.int .i64 4)))) (some (.c (.v (.int .i64 8))))), none, 0⟩ ::
  ⟨(some 17), .call (.c (.fn 50 [])) [(.s 16)], none, 0⟩ :: c51_1)) .ret) (.seq (.ops [
  ⟨(some 20), .p (.bin .eql (.s 6) (.c (.v (.int .u64 17)))), none, 0⟩,
  ⟨(some 19), .p (.mov (.s 20)), none, 0⟩]) c51_12))
def c51_14 : ACode := (.cond (.s 7) (.seq (.ops (⟨(some 9), .p (.mov (.s 0)), none, 0⟩ ::
  ⟨(some 10), .p (.slStr (.s 9) (some (.c (.v (.int .i64 4)))) (some (.c (.v (.int .i64 8))))), none, 0⟩ ::
  ⟨(some 11), .call (.c (.fn 50 [])) [(.s 10)], none, 0⟩ :: c51_0)) .ret) (.seq (.ops [
  ⟨(some 14), .p (.bin .eql (.s 6) (.c (.v (.int .u64 22)))), none, 0⟩,
  ⟨(some 13), .p (.mov (.s 14)), none, 0⟩]) c51_13))
def c51_15 : ACode := (.block 0 (.seq (.ops [
  ⟨(some 8), .p (.bin .eql (.s 6) (.c (.v (.int .u64 0)))), none, 0⟩,
  ⟨(some 7), .p (.mov (.s 8)), none, 0⟩]) c51_14))
def c51_16 : ACode := (.seq (.ops [
  ⟨(some 56), .p (.build [(.v (.int .i64 0)), (.v (.int .i64 0)), (.v (.int .u64 0))] []), none, 0⟩,
  ⟨none, .m (.store (some 3) (.s 2) (.s 56)), none, 0⟩]) .ret)
def c51_17 : ACode := (.seq (.seq (.ops [
  ⟨(some 4), .p (.mov (.s 0)), none, 0⟩,
  ⟨(some 5), .p (.slStr (.s 4) none (some (.c (.v (.int .i64 2))))), none, 0⟩,
  ⟨(some 6), .call (.c (.fn 50 [])) [(.s 5)], none, 0⟩]) c51_15) c51_16)
def c51 : ACode := (.seq (.ops [
  ⟨(some 2), .m (.alloc [(.v (.int .i64 0)), (.v (.int .i64 0)), (.v (.int .u64 0))]), none, 0⟩]) c51_17)
theorem t51 : trC Try.prog Try.f51.ntmps (bodyOf Try.f51) = some c51 := by kernel_rfl
theorem r51 : Try.f51.results.toList.mapM (trR Try.prog) = some [.cell 2 (some 3)] := by kernel_rfl
def i51 : FI := ⟨57, c51, [.cell 2 (some 3)]⟩
theorem k51 : Knows Try.prog 51 i51 := ⟨Try.f51, bodyOf Try.f51, Try.func51, by kernel_rfl, by kernel_rfl, t51, r51, by kernel_rfl⟩
-- 52 drover/frame.right []
def c52_0 : List AOper := [
  ⟨(some 30), .p (.un .not (.s 29)), none, 0⟩,
  ⟨(some 31), .p (.mov (.s 30)), none, 0⟩,
  ⟨(some 32), .p (.fieldAddr 3 none (.s 1)), (some (31, false)), 0⟩,
  ⟨(some 33), .m (.load none (.s 32)), (some (31, false)), 0⟩,
  ⟨(some 34), .p (.bin .lss (.s 33) (.c (.v (.int .i64 1536)))), (some (31, false)), 0⟩,
  ⟨(some 35), .p (.pick (.s 31) (.c (.v (.bool true))) (.s 34)), none, 0⟩,
  ⟨(some 36), .p (.mov (.s 35)), none, 0⟩,
  ⟨(some 37), .p (.fieldAddr 3 none (.s 1)), (some (36, false)), 0⟩,
  ⟨(some 38), .m (.load none (.s 37)), (some (36, false)), 0⟩,
  ⟨(some 39), .p (.bin .eql (.s 38) (.c (.v (.int .i64 33024)))), (some (36, false)), 0⟩,
  ⟨(some 40), .p (.pick (.s 36) (.c (.v (.bool true))) (.s 39)), none, 0⟩,
  ⟨(some 25), .p (.mov (.s 40)), none, 0⟩]
def c52_1 : List AOper := [
  ⟨(some 64), .p (.pick (.s 53) (.s 63) (.c (.v (.bool false)))), none, 0⟩,
  ⟨(some 2), .p (.mov (.s 64)), none, 0⟩]
def c52_2 : ACode := (.cond (.s 41) (.seq (.ops (⟨(some 45), .p (.fieldAddr 4 none (.s 1)), none, 0⟩ ::
  ⟨(some 46), .m (.load none (.s 45)), none, 0⟩ ::
  ⟨(some 47), .p (.bin .eql (.s 46) (.c (.v (.int .u32 0)))), none, 0⟩ ::
  ⟨(some 48), .p (.mov (.s 47)), none, 0⟩ ::
  ⟨(some 49), .p (.fieldAddr 5 none (.s 1)), (some (48, true)), 0⟩ ::
  ⟨(some 50), .m (.load none (.s 49)), (some (48, true)), 0⟩ ::
  ⟨(some 51), .p (.bin .eql (.s 50) (.c (.v (.int .u32 0)))), (some (48, true)), 0⟩ ::
  ⟨(some 52), .p (.pick (.s 48) (.s 51) (.c (.v (.bool false)))), none, 0⟩ ::
  ⟨(some 53), .p (.mov (.s 52)), none, 0⟩ ::
  ⟨(some 54), .p (.fieldAddr 6 none (.s 1)), (some (53, true)), 0⟩ ::
  ⟨(some 55), .m (.load none (.s 54)), (some (53, true)), 0⟩ ::
  ⟨(some 56), .p (.fieldAddr 7 none (.s 1)), (some (53, true)), 0⟩ ::
  ⟨(some 57), .m (.load none (.s 56)), (some (53, true)), 0⟩ ::
  ⟨(some 58), .p (.fieldAddr 8 none (.s 1)), (some (53, true)), 0⟩ ::
  ⟨(some 59), .m (.load none (.s 58)), (some (53, true)), 0⟩ ::
  ⟨(some 60), .p (.fieldAddr 9 none (.s 1)), (some (53, true)), 0⟩ ::
  ⟨(some 61), .m (.load none (.s 60)), (some (53, true)), 0⟩ ::
  ⟨(some 62), .m (.buildSlice 1 4 [(.v (.int .i64 0)), (.v (.int .i64 0)), (.v (.int .i64 0)), (.v (.int .i64 0))] [(0, 1, (.s 55)), (1, 1, (.s 57)), (2, 1, (.s 59)), (3, 1, (.s 61))]), (some (53, true)), 3⟩ ::
  ⟨(some 63), .call (.c (.fn 74 [])) [(.c (.v (.int .i64 0))), (.s 62)], (some (53, true)), 0⟩ :: c52_1)) .ret) .skip)
def c52_3 : ACode := (.cond (.s 25) (.seq (.ops [
  ⟨(some 2), .p (.mov (.c (.v (.bool false)))), none, 0⟩]) .ret) (.seq (.ops [
  ⟨(some 42), .p (.fieldAddr 3 none (.s 1)), none, 0⟩,
  ⟨(some 43), .m (.load none (.s 42)), none, 0⟩,
  ⟨(some 44), .p (.bin .neq (.s 43) (.c (.v (.int .i64 2048)))), none, 0⟩,
  ⟨(some 41), .p (.mov (.s 44)), none, 0⟩]) c52_2))
def c52_4 : ACode := (.cond (.s 3) (.seq (.ops [
  ⟨(some 2), .p (.mov (.c (.v (.bool false)))), none, 0⟩]) .ret) (.seq (.ops (⟨(some 26), .p (.fieldAddr 3 none (.s 1)), none, 0⟩ ::
  ⟨(some 27), .m (.load none (.s 26)), none, 0⟩ ::
  ⟨(some 28), .m (.buildSlice 1 1 [(.v (.int .i64 0))] [(0, 1, (.s 27))]), none, 3⟩ ::
  ⟨(some 29), .call (.c (.fn 74 [])) [(.c (.v (.int .i64 65535))), (.s 28)], none, 0⟩ :: c52_0)) c52_3))
def c52_5 : List AOper := [
  ⟨(some 82), .p (.mov (.s 81)), (some (79, true)), 0⟩,
  ⟨(some 83), .p (.fieldAddr 8 none (.s 1)), (some (82, false)), 0⟩,
  ⟨(some 84), .m (.load none (.s 83)), (some (82, false)), 0⟩,
  ⟨(some 85), .p (.bin .eql (.s 84) (.c (.v (.int .i64 0)))), (some (82, false)), 0⟩,
  ⟨(some 86), .p (.mov (.s 85)), (some (82, false)), 0⟩,
  ⟨(some 87), .p (.fieldAddr 9 none (.s 1)), (some (86, true)), 0⟩,
  ⟨(some 88), .m (.load none (.s 87)), (some (86, true)), 0⟩,
  ⟨(some 89), .p (.bin .eql (.s 88) (.c (.v (.int .i64 0)))), (some (86, true)), 0⟩,
  ⟨(some 90), .p (.pick (.s 86) (.s 89) (.c (.v (.bool false)))), (some (82, false)), 0⟩,
  ⟨(some 91), .p (.pick (.s 82) (.c (.v (.bool true))) (.s 90)), (some (79, true)), 0⟩,
  ⟨(some 92), .p (.pick (.s 79) (.s 91) (.c (.v (.bool false)))), none, 0⟩,
  ⟨(some 2), .p (.mov (.s 92)), none, 0⟩]
def c52_6 : List AOper := (⟨(some 78), .p (.pick (.s 71) (.s 77) (.c (.v (.bool false)))), none, 0⟩ ::
  ⟨(some 79), .p (.mov (.s 78)), none, 0⟩ ::
  ⟨(some 80), .m (.load (some 11) (.s 1)), (some (79, true)), 0⟩ ::
  ⟨(some 81), .call (.c (.fn 75 [])) [(.s 80)], (some (79, true)), 0⟩ :: c52_5)
def c52_7 : List AOper := (⟨(some 71), .p (.mov (.s 70)), none, 0⟩ ::
  ⟨(some 72), .p (.fieldAddr 8 none (.s 1)), (some (71, true)), 0⟩ ::
  ⟨(some 73), .m (.load none (.s 72)), (some (71, true)), 0⟩ ::
  ⟨(some 74), .p (.fieldAddr 9 none (.s 1)), (some (71, true)), 0⟩ ::
  ⟨(some 75), .m (.load none (.s 74)), (some (71, true)), 0⟩ ::
  ⟨(some 76), .m (.buildSlice 1 2 [(.v (.int .i64 0)), (.v (.int .i64 0))] [(0, 1, (.s 73)), (1, 1, (.s 75))]), (some (71, true)), 3⟩ ::
  ⟨(some 77), .call (.c (.fn 74 [])) [(.c (.v (.int .i64 65535))), (.s 76)], (some (71, true)), 0⟩ :: c52_6)
def c52_8 : ACode := (.seq (.ops (⟨(some 65), .p (.fieldAddr 6 none (.s 1)), none, 0⟩ ::
  ⟨(some 66), .m (.load none (.s 65)), none, 0⟩ ::
  ⟨(some 67), .p (.fieldAddr 7 none (.s 1)), none, 0⟩ ::
  ⟨(some 68), .m (.load none (.s 67)), none, 0⟩ ::
  ⟨(some 69), .m (.buildSlice 1 2 [(.v (.int .i64 0)), (.v (.int .i64 0))] [(0, 1, (.s 66)), (1, 1, (.s 68))]), none, 3⟩ ::
  ⟨(some 70), .call (.c (.fn 74 [])) [(.c (.v (.int .i64 255))), (.s 69)], none, 0⟩ :: c52_7)) .ret)
def c52_9 : ACode := (.seq (.block 0 (.seq (.ops [
  ⟨(some 4), .p (.fieldAddr 0 none (.s 1)), none, 0⟩,
  ⟨(some 5), .m (.load none (.s 4)), none, 0⟩,
  ⟨(some 6), .p (.bin .shr (.s 5) (.c (.v (.int .u64 48)))), none, 0⟩,
  ⟨(some 7), .p (.bin .gtr (.s 6) (.c (.v (.int .u64 0)))), none, 0⟩,
  ⟨(some 8), .p (.mov (.s 7)), none, 0⟩,
  ⟨(some 9), .p (.fieldAddr 1 none (.s 1)), (some (8, false)), 0⟩,
  ⟨(some 10), .m (.load none (.s 9)), (some (8, false)), 0⟩,
  ⟨(some 11), .p (.bin .shr (.s 10) (.c (.v (.int .u64 48)))), (some (8, false)), 0⟩,
  ⟨(some 12), .p (.bin .gtr (.s 11) (.c (.v (.int .u64 0)))), (some (8, false)), 0⟩,
  ⟨(some 13), .p (.pick (.s 8) (.c (.v (.bool true))) (.s 12)), none, 0⟩,
  ⟨(some 14), .p (.mov (.s 13)), none, 0⟩,
  ⟨(some 15), .p (.fieldAddr 2 none (.s 1)), (some (14, false)), 0⟩,
  ⟨(some 16), .m (.load none (.s 15)), (some (14, false)), 0⟩,
  ⟨(some 17), .p (.bin .neq (.s 16) (.c (.v (.int .i64 0)))), (some (14, false)), 0⟩,
  ⟨(some 18), .p (.mov (.s 17)), (some (14, false)), 0⟩,
  ⟨(some 19), .p (.fieldAddr 2 none (.s 1)), (some (18, true)), 0⟩,
  ⟨(some 20), .m (.load none (.s 19)), (some (18, true)), 0⟩,
  ⟨(some 21), .p (.bin .shr (.s 20) (.c (.v (.int .u64 12)))), (some (18, true)), 0⟩,
  ⟨(some 22), .p (.bin .neq (.s 21) (.c (.v (.int .i64 1)))), (some (18, true)), 0⟩,
  ⟨(some 23), .p (.pick (.s 18) (.s 22) (.c (.v (.bool false)))), (some (14, false)), 0⟩,
  ⟨(some 24), .p (.pick (.s 14) (.c (.v (.bool true))) (.s 23)), none, 0⟩,
  ⟨(some 3), .p (.mov (.s 24)), none, 0⟩]) c52_4)) c52_8)
def c52 : ACode := (.seq (.ops [
  ⟨(some 1), .m (.box (.s 0)), none, 0⟩,
  ⟨(some 2), .p (.mov (.c (.v (.bool false)))), none, 0⟩]) c52_9)
theorem t52 : trC Try.prog Try.f52.ntmps (bodyOf Try.f52) = some c52 := by kernel_rfl
theorem r52 : Try.f52.results.toList.mapM (trR Try.prog) = some [.tmp 2] := by kernel_rfl
def i52 : FI := ⟨93, c52, [.tmp 2]⟩
theorem k52 : Knows Try.prog 52 i52 := ⟨Try.f52, bodyOf Try.f52, Try.func52, by kernel_rfl, by kernel_rfl, t52, r52, by kernel_rfl⟩
-- 53 drover/frame.laid []
def c53_0 : ACode := (.ops [
  ⟨(some 14), .call (.c (.fn 28 [])) [(.s 5), (.s 13)], none, 0⟩])
def c53_1 : ACode := (.ops [
  ⟨(some 25), .call (.c (.fn 28 [])) [(.s 5), (.s 24)], none, 0⟩])
def c53_2 : ACode := (.cond (.s 17) (.seq (.draw [
  ⟨(some 18), .qcall (.c (.fn 76 [])) [(.c (.v (.int .u64 33024))), (.c (.v (.int .i64 2)))], none, 0⟩,
  ⟨(some 19), .p (.fieldAddr 2 none (.s 2)), none, 0⟩,
  ⟨(some 20), .m (.load none (.s 19)), none, 0⟩,
  ⟨(some 21), .p (.bin .and (.s 20) (.c (.v (.int .i64 4095)))), none, 0⟩,
  ⟨(some 22), .p (.cint .u64 (.s 21)), none, 0⟩,
  ⟨(some 23), .call (.c (.fn 76 [])) [(.s 22), (.c (.v (.int .i64 2)))], none, 0⟩,
  ⟨(some 24), .p (.bin .add (.s 18) (.s 23)), none, 0⟩]) c53_1) .skip)
def c53_3 : List AOper := [
  ⟨(some 30), .call (.c (.fn 28 [])) [(.s 5), (.s 29)], none, 0⟩]
def c53_4 : List AOper := [
  ⟨(some 4), .p (.mov (.s 37)), none, 0⟩]
def c53_5 : ACode := (.seq (.ops (⟨(some 37), .call (.c (.fn 30 [])) [(.s 5)], none, 0⟩ :: c53_4)) .ret)
def c53_6 : ACode := (.cond (.s 33) (.seq (.ops [
  ⟨(some 34), .p (.fieldAddr 10 none (.s 2)), none, 0⟩,
  ⟨(some 35), .m (.load none (.s 34)), none, 0⟩,
  ⟨(some 36), .call (.c (.fn 28 [])) [(.s 5), (.s 35)], none, 0⟩]) c53_5) .skip)
def c53_7 : List AOper := [
  ⟨(some 6), .p (.mov (.s 40)), none, 0⟩]
def c53_8 : List AOper := [
  ⟨(some 46), .p (.mov (.s 6)), none, 0⟩,
  ⟨(some 47), .p (.bin .add (.s 45) (.s 46)), none, 0⟩,
  ⟨(some 48), .call (.c (.fn 28 [])) [(.s 5), (.s 47)], none, 0⟩]
def c53_9 : List AOper := [
  ⟨(some 4), .p (.mov (.s 49)), none, 0⟩]
def c53_10 : ACode := (.seq (.ops (⟨(some 49), .call (.c (.fn 30 [])) [(.s 5)], none, 0⟩ :: c53_9)) .ret)
def c53_11 : ACode := (.seq (.ops (⟨(some 41), .m (.load (some 11) (.s 2)), none, 0⟩ ::
  ⟨(some 42), .p (.mov (.s 6)), none, 0⟩ ::
  ⟨(some 43), .p (.len true (.s 42)), none, 0⟩ ::
  ⟨(some 44), .m (.load (some 2) (.s 3)), none, 0⟩ ::
  ⟨(some 45), .call (.c (.fn 78 [])) [(.s 41), (.s 43), (.s 44)], none, 0⟩ :: c53_8)) c53_10)
def c53_12 : ACode := (.seq (.ops (⟨(some 38), .m (.load (some 11) (.s 2)), none, 0⟩ ::
  ⟨(some 39), .m (.load (some 2) (.s 3)), none, 0⟩ ::
  ⟨(some 40), .call (.c (.fn 77 [])) [(.s 38), (.s 39)], none, 0⟩ :: c53_7)) c53_11)
def c53_13 : ACode := (.seq (.seq (.ops [
  ⟨(some 31), .p (.fieldAddr 3 none (.s 2)), none, 0⟩,
  ⟨(some 32), .m (.load none (.s 31)), none, 0⟩,
  ⟨(some 33), .p (.bin .neq (.s 32) (.c (.v (.int .i64 2048)))), none, 0⟩]) c53_6) c53_12)
def c53_14 : ACode := (.seq (.ops (⟨(some 26), .p (.fieldAddr 3 none (.s 2)), none, 0⟩ ::
  ⟨(some 27), .m (.load none (.s 26)), none, 0⟩ ::
  ⟨(some 28), .p (.cint .u64 (.s 27)), none, 0⟩ ::
  ⟨(some 29), .call (.c (.fn 76 [])) [(.s 28), (.c (.v (.int .i64 2)))], none, 0⟩ :: c53_3)) c53_13)
def c53_15 : ACode := (.seq (.seq (.ops [
  ⟨(some 15), .p (.fieldAddr 2 none (.s 2)), none, 0⟩,
  ⟨(some 16), .m (.load none (.s 15)), none, 0⟩,
  ⟨(some 17), .p (.bin .neq (.s 16) (.c (.v (.int .i64 0)))), none, 0⟩]) c53_2) c53_14)
def c53_16 : ACode := (.seq (.seq (.draw [
  ⟨(some 7), .p (.fieldAddr 0 none (.s 2)), none, 0⟩,
  ⟨(some 8), .m (.load none (.s 7)), none, 0⟩,
  ⟨(some 9), .qcall (.c (.fn 76 [])) [(.s 8), (.c (.v (.int .i64 6)))], none, 0⟩,
  ⟨(some 10), .p (.fieldAddr 1 none (.s 2)), none, 0⟩,
  ⟨(some 11), .m (.load none (.s 10)), none, 0⟩,
  ⟨(some 12), .call (.c (.fn 76 [])) [(.s 11), (.c (.v (.int .i64 6)))], none, 0⟩,
  ⟨(some 13), .p (.bin .add (.s 9) (.s 12)), none, 0⟩]) c53_0) c53_15)
def c53_17 : ACode := (.seq (.ops [
  ⟨(some 5), .m (.ext (.allocT 58 [(.v (.pointer none)), (.v (.slice none 0 0))])), none, 5⟩]) c53_16)
def c53 : ACode := (.seq (.ops [
  ⟨(some 2), .m (.box (.s 0)), none, 0⟩,
  ⟨(some 3), .m (.box (.s 1)), none, 0⟩,
  ⟨(some 4), .p (.mov (.c (.v (.string ⟨#[]⟩)))), none, 0⟩]) c53_17)
theorem t53 : trC Try.prog Try.f53.ntmps (bodyOf Try.f53) = some c53 := by kernel_rfl
theorem r53 : Try.f53.results.toList.mapM (trR Try.prog) = some [.tmp 4] := by kernel_rfl
def i53 : FI := ⟨50, c53, [.tmp 4]⟩
theorem k53 : Knows Try.prog 53 i53 := ⟨Try.f53, bodyOf Try.f53, Try.func53, by kernel_rfl, by kernel_rfl, t53, r53, by kernel_rfl⟩
-- 54 drover/frame.summed []
def c54_0 : List AOper := [
  ⟨(some 3), .p (.mov (.s 7)), none, 0⟩]
def c54_1 : List AOper := [
  ⟨(some 14), .p (.build [(.v (.int .i64 0)), (.v (.int .i64 0))] [(0, 1, (.s 13))]), none, 0⟩,
  ⟨(some 4), .m (.alloc [(.v (.int .i64 0)), (.v (.int .i64 0))]), none, 0⟩,
  ⟨none, .m (.store (some 2) (.s 4) (.s 14)), none, 0⟩]
def c54_2 : List AOper := (⟨(some 13), .call (.c (.fn 79 [])) [(.s 12)], none, 0⟩ :: c54_1)
def c54_3 : ACode := (.cond (.s 45) (.ops [
  ⟨(some 46), .p (.fieldAddr 1 none (.s 4)), none, 0⟩,
  ⟨none, .m (.store none (.s 46) (.c (.v (.int .i64 65535)))), none, 0⟩]) .skip)
def c54_4 : ACode := (.seq (.ops [
  ⟨(some 47), .m (.load (some 2) (.s 4)), none, 0⟩,
  ⟨none, .m (.store (some 2) (.s 2) (.s 47)), none, 0⟩]) .ret)
def c54_5 : ACode := (.seq (.seq (.ops [
  ⟨(some 38), .p (.fieldAddr 7 none (.s 1)), none, 0⟩,
  ⟨(some 39), .m (.load none (.s 38)), none, 0⟩,
  ⟨(some 40), .p (.bin .eql (.s 39) (.c (.v (.int .i64 17)))), none, 0⟩,
  ⟨(some 41), .p (.mov (.s 40)), none, 0⟩,
  ⟨(some 42), .p (.fieldAddr 1 none (.s 4)), (some (41, true)), 0⟩,
  ⟨(some 43), .m (.load none (.s 42)), (some (41, true)), 0⟩,
  ⟨(some 44), .p (.bin .eql (.s 43) (.c (.v (.int .i64 0)))), (some (41, true)), 0⟩,
  ⟨(some 45), .p (.pick (.s 41) (.s 44) (.c (.v (.bool false)))), none, 0⟩]) c54_3) c54_4)
def c54_6 : ACode := (.seq (.draw [
  ⟨(some 15), .p (.fieldAddr 4 none (.s 1)), none, 0⟩,
  ⟨(some 16), .m (.load none (.s 15)), none, 0⟩,
  ⟨(some 17), .p (.cint .u64 (.s 16)), none, 0⟩,
  ⟨(some 18), .qcall (.c (.fn 76 [])) [(.s 17), (.c (.v (.int .i64 4)))], none, 0⟩,
  ⟨(some 19), .p (.fieldAddr 5 none (.s 1)), none, 0⟩,
  ⟨(some 20), .m (.load none (.s 19)), none, 0⟩,
  ⟨(some 21), .p (.cint .u64 (.s 20)), none, 0⟩,
  ⟨(some 22), .qcall (.c (.fn 76 [])) [(.s 21), (.c (.v (.int .i64 4)))], none, 0⟩,
  ⟨(some 23), .p (.bin .add (.s 18) (.s 22)), none, 0⟩,
  ⟨(some 24), .p (.fieldAddr 7 none (.s 1)), none, 0⟩,
  ⟨(some 25), .m (.load none (.s 24)), none, 0⟩,
  ⟨(some 26), .p (.cint .u64 (.s 25)), none, 0⟩,
  ⟨(some 27), .call (.c (.fn 76 [])) [(.s 26), (.c (.v (.int .i64 2)))], none, 0⟩,
  ⟨(some 28), .p (.bin .add (.s 23) (.s 27)), none, 0⟩,
  ⟨(some 29), .p (.mov (.s 3)), none, 0⟩,
  ⟨(some 30), .p (.len true (.s 29)), none, 0⟩,
  ⟨(some 31), .p (.cint .u64 (.s 30)), none, 0⟩,
  ⟨(some 32), .call (.c (.fn 76 [])) [(.s 31), (.c (.v (.int .i64 2)))], none, 0⟩,
  ⟨(some 33), .p (.bin .add (.s 28) (.s 32)), none, 0⟩,
  ⟨(some 34), .p (.mov (.s 3)), none, 0⟩,
  ⟨(some 35), .p (.bin .add (.s 33) (.s 34)), none, 0⟩,
  ⟨(some 36), .call (.c (.fn 79 [])) [(.s 35)], none, 0⟩,
  ⟨(some 37), .p (.fieldAddr 1 none (.s 4)), none, 0⟩,
  ⟨none, .m (.store none (.s 37) (.s 36)), none, 0⟩]) c54_5)
def c54_7 : ACode := (.seq (.ops (⟨(some 8), .m (.load (some 11) (.s 1)), none, 0⟩ ::
  ⟨(some 9), .p (.mov (.s 3)), none, 0⟩ ::
  ⟨(some 10), .p (.len true (.s 9)), none, 0⟩ ::
  ⟨(some 11), .p (.build [(.v (.int .i64 0)), (.v (.int .i64 0))] []), none, 0⟩ ::
  ⟨(some 12), .call (.c (.fn 78 [])) [(.s 8), (.s 10), (.s 11)], none, 0⟩ :: c54_2)) c54_6)
def c54_8 : ACode := (.seq (.ops (⟨(some 5), .m (.load (some 11) (.s 1)), none, 0⟩ ::
  ⟨(some 6), .p (.build [(.v (.int .i64 0)), (.v (.int .i64 0))] []), none, 0⟩ ::
  ⟨(some 7), .call (.c (.fn 77 [])) [(.s 5), (.s 6)], none, 0⟩ :: c54_0)) c54_7)
def c54 : ACode := (.seq (.ops [
  ⟨(some 1), .m (.box (.s 0)), none, 0⟩,
  ⟨(some 2), .m (.alloc [(.v (.int .i64 0)), (.v (.int .i64 0))]), none, 0⟩]) c54_8)
theorem t54 : trC Try.prog Try.f54.ntmps (bodyOf Try.f54) = some c54 := by kernel_rfl
theorem r54 : Try.f54.results.toList.mapM (trR Try.prog) = some [.cell 2 (some 2)] := by kernel_rfl
def i54 : FI := ⟨48, c54, [.cell 2 (some 2)]⟩
theorem k54 : Knows Try.prog 54 i54 := ⟨Try.f54, bodyOf Try.f54, Try.func54, by kernel_rfl, by kernel_rfl, t54, r54, by kernel_rfl⟩
-- 55 slices.IndexFunc[[]drover/api.Action,drover/api.Action] []
def c55_0 : ACode := (.cond (.s 16) (.seq (.ops [
  ⟨(some 17), .p (.mov (.s 5)), none, 0⟩,
  ⟨(some 4), .p (.mov (.s 17)), none, 0⟩]) .ret) .skip)
def c55_1 : ACode := (.seq (.ops [
  ⟨(some 11), .p (.mov (.s 1)), none, 0⟩,
  ⟨(some 12), .p (.mov (.s 0)), none, 0⟩,
  ⟨(some 13), .p (.mov (.s 5)), none, 0⟩,
  ⟨(some 14), .p (.adrSl 3 (.s 12) (.s 13)), none, 0⟩,
  ⟨(some 15), .m (.load (some 3) (.s 14)), none, 0⟩,
  ⟨(some 16), .call (.s 11) [(.s 15)], none, 0⟩]) c55_0)
def c55_2 : ACode := (.ops [
  ⟨(some 18), .p (.bin .add (.s 8) (.c (.v (.int .i64 1)))), none, 0⟩,
  ⟨(some 8), .p (.mov (.s 18)), none, 0⟩])
def c55_3 : ACode := (.seq (.block 1 (.seq (.ops [
  ⟨(some 10), .p (.mov (.s 8)), none, 0⟩,
  ⟨(some 5), .p (.mov (.s 10)), none, 0⟩]) c55_1)) c55_2)
def c55_4 : ACode := (.seq (.cond (.s 9) .skip (.exit 0)) c55_3)
def c55_5 : ACode := (.seq (.ops [
  ⟨(some 9), .p (.bin .lss (.s 8) (.s 7)), none, 0⟩]) c55_4)
def c55_6 : ACode := (.block 0 (.loop c55_5))
def c55_7 : ACode := (.seq (.ops [
  ⟨(some 4), .p (.mov (.c (.v (.int .i64 (-1))))), none, 0⟩]) .ret)
def c55_8 : ACode := (.seq (.seq (.ops [
  ⟨(some 6), .p (.mov (.s 0)), none, 0⟩,
  ⟨(some 7), .p (.len false (.s 6)), none, 31⟩,
  ⟨(some 8), .p (.mov (.c (.v (.int .i64 0)))), none, 0⟩]) c55_6) c55_7)
def c55 : ACode := (.seq (.ops [
  ⟨(some 4), .p (.mov (.c (.v (.int .i64 0)))), none, 0⟩]) c55_8)
theorem t55 : trC Try.prog Try.f55.ntmps (bodyOf Try.f55) = some c55 := by kernel_rfl
theorem r55 : Try.f55.results.toList.mapM (trR Try.prog) = some [.tmp 4] := by kernel_rfl
def i55 : FI := ⟨19, c55, [.tmp 4]⟩
theorem k55 : Knows Try.prog 55 i55 := ⟨Try.f55, bodyOf Try.f55, Try.func55, by kernel_rfl, by kernel_rfl, t55, r55, by kernel_rfl⟩
-- 56 (*strings.Builder).copyCheck [refuse (*strings.Builder).copyCheck builder.go:]
def c56_0 : ACode := (.cond (.s 19) .never .skip)
def c56_1 : ACode := (.cond (.s 6) (.ops [
  ⟨(some 7), .p (.mov (.s 0)), none, 0⟩,
  ⟨(some 8), .p (.mov (.s 0)), none, 0⟩,
  ⟨(some 9), .m (.ext (.retype 58 2 (.s 8))), none, 0⟩,
  ⟨(some 10), .m (.ext (.ident (.s 9))), none, 0⟩,
  ⟨(some 11), .m (.ext (.retype 58 2 (.s 10))), none, 58⟩,
  ⟨(some 12), .p (.nilCheck (.s 7)), none, 0⟩,
  ⟨(some 13), .p (.fieldAddr 0 none (.s 12)), none, 0⟩,
  ⟨none, .m (.store none (.s 13) (.s 11)), none, 0⟩]) (.seq (.ops [
  ⟨(some 14), .p (.mov (.s 0)), none, 0⟩,
  ⟨(some 15), .p (.nilCheck (.s 14)), none, 0⟩,
  ⟨(some 16), .p (.fieldAddr 0 none (.s 15)), none, 0⟩,
  ⟨(some 17), .m (.load none (.s 16)), none, 0⟩,
  ⟨(some 18), .p (.mov (.s 0)), none, 0⟩,
  ⟨(some 19), .m (.ext (.eqp true (.s 17) (.s 18))), none, 0⟩]) c56_0))
def c56 : ACode := (.seq (.ops [
  ⟨(some 2), .p (.mov (.s 0)), none, 0⟩,
  ⟨(some 3), .p (.nilCheck (.s 2)), none, 0⟩,
  ⟨(some 4), .p (.fieldAddr 0 none (.s 3)), none, 0⟩,
  ⟨(some 5), .m (.load none (.s 4)), none, 0⟩,
  ⟨(some 6), .p (.eqn false (.pointer 58) (.s 5)), none, 0⟩]) c56_1)
theorem t56 : trC Try.prog Try.f56.ntmps (bodyOf Try.f56) = some c56 := by kernel_rfl
theorem r56 : Try.f56.results.toList.mapM (trR Try.prog) = some [] := by kernel_rfl
def i56 : FI := ⟨20, c56, []⟩
theorem k56 : Knows Try.prog 56 i56 := ⟨Try.f56, bodyOf Try.f56, Try.func56, by kernel_rfl, by kernel_rfl, t56, r56, by kernel_rfl⟩
-- 57 drover/act.put []
def c57_0 : List AOper := [
  ⟨(some 7), .p (.mov (.s 10)), none, 0⟩,
  ⟨(some 11), .p (.extract (.s 7) 0), none, 0⟩,
  ⟨(some 12), .p (.extract (.s 7) 1), none, 0⟩,
  ⟨(some 5), .p (.mov (.s 11)), none, 0⟩,
  ⟨(some 6), .p (.mov (.s 12)), none, 0⟩]
def c57_1 : ACode := (.seq (.ops [
  ⟨(some 13), .p (.mov (.s 5)), none, 0⟩,
  ⟨(some 4), .p (.mov (.s 13)), none, 0⟩]) .ret)
def c57_2 : ACode := (.seq (.ops (⟨(some 8), .p (.mov (.s 0)), none, 0⟩ ::
  ⟨(some 9), .p (.mov (.s 1)), none, 0⟩ ::
  ⟨(some 10), .call (.c (.fn 81 [])) [(.s 8), (.s 9)], none, 0⟩ :: c57_0)) c57_1)
def c57 : ACode := (.seq (.ops [
  ⟨(some 4), .p (.mov (.c (.v (.string ⟨#[]⟩)))), none, 0⟩]) c57_2)
theorem t57 : trC Try.prog Try.f57.ntmps (bodyOf Try.f57) = some c57 := by kernel_rfl
theorem r57 : Try.f57.results.toList.mapM (trR Try.prog) = some [.tmp 4] := by kernel_rfl
def i57 : FI := ⟨14, c57, [.tmp 4]⟩
theorem k57 : Knows Try.prog 57 i57 := ⟨Try.f57, bodyOf Try.f57, Try.func57, by kernel_rfl, by kernel_rfl, t57, r57, by kernel_rfl⟩
-- 58 strings.Repeat []
def c58_0 : ACode := (.cond (.s 14) (.seq (.ops [
  ⟨(some 16), .p (.mov (.s 0)), none, 0⟩,
  ⟨(some 4), .p (.mov (.s 16)), none, 0⟩]) .ret) .skip)
def c58_1 : ACode := (.cond (.s 12) (.seq (.ops [
  ⟨(some 4), .p (.mov (.c (.v (.string ⟨#[]⟩)))), none, 0⟩]) .ret) (.seq (.ops [
  ⟨(some 15), .p (.bin .eql (.s 11) (.c (.v (.int .i64 1)))), none, 0⟩,
  ⟨(some 14), .p (.mov (.s 15)), none, 0⟩]) c58_0))
def c58_2 : ACode := (.block 0 (.seq (.ops [
  ⟨(some 13), .p (.bin .eql (.s 11) (.c (.v (.int .i64 0)))), none, 0⟩,
  ⟨(some 12), .p (.mov (.s 13)), none, 0⟩]) c58_1))
def c58_3 : ACode := (.cond (.s 18) (.ops [
  ⟨(some 19), .p (.mkIfc 9 (.c (.v (.string ⟨#[115, 116, 114, 105, 110, 103, 115, 58, 32, 110, 101, 103, 97, 116, 105, 118, 101, 32, 82, 101, 112, 101, 97, 116, 32, 99, 111, 117, 110, 116]⟩)))), none, 0⟩,
  ⟨none, .never, none, 0⟩]) .skip)
def c58_4 : List AOper := [
  ⟨(some 20), .p (.mov (.s 26)), none, 0⟩,
  ⟨(some 27), .p (.extract (.s 20) 0), none, 0⟩,
  ⟨(some 28), .p (.extract (.s 20) 1), none, 0⟩,
  ⟨(some 5), .p (.mov (.s 27)), none, 0⟩,
  ⟨(some 6), .p (.mov (.s 28)), none, 0⟩]
def c58_5 : ACode := (.cond (.s 34) (.ops [
  ⟨(some 35), .p (.mkIfc 9 (.c (.v (.string ⟨#[115, 116, 114, 105, 110, 103, 115, 58, 32, 82, 101, 112, 101, 97, 116, 32, 111, 117, 116, 112, 117, 116, 32, 108, 101, 110, 103, 116, 104, 32, 111, 118, 101, 114, 102, 108, 111, 119]⟩)))), none, 0⟩,
  ⟨none, .never, none, 0⟩]) .skip)
def c58_6 : ACode := (.cond (.s 40) (.seq (.ops [
  ⟨(some 4), .p (.mov (.c (.v (.string ⟨#[]⟩)))), none, 0⟩]) .ret) .skip)
def c58_7 : ACode := (.cond (.s 43) .skip (.ops [
  ⟨(some 48), .p (.bin .eql (.s 42) (.c (.v (.int .u8 9)))), none, 0⟩,
  ⟨(some 43), .p (.mov (.s 48)), none, 0⟩]))
def c58_8 : ACode := (.cond (.s 43) .skip (.seq (.ops [
  ⟨(some 47), .p (.bin .eql (.s 42) (.c (.v (.int .u8 61)))), none, 0⟩,
  ⟨(some 43), .p (.mov (.s 47)), none, 0⟩]) c58_7))
def c58_9 : ACode := (.cond (.s 43) .skip (.seq (.ops [
  ⟨(some 46), .p (.bin .eql (.s 42) (.c (.v (.int .u8 48)))), none, 0⟩,
  ⟨(some 43), .p (.mov (.s 46)), none, 0⟩]) c58_8))
def c58_10 : ACode := (.cond (.s 43) .skip (.seq (.ops [
  ⟨(some 45), .p (.bin .eql (.s 42) (.c (.v (.int .u8 45)))), none, 0⟩,
  ⟨(some 43), .p (.mov (.s 45)), none, 0⟩]) c58_9))
def c58_11 : List AOper := [
  ⟨(some 55), .p (.pick (.s 52) (.s 54) (.c (.v (.bool false)))), none, 0⟩,
  ⟨(some 49), .p (.mov (.s 55)), none, 0⟩]
def c58_12 : List AOper := [
  ⟨(some 64), .p (.pick (.s 61) (.s 63) (.c (.v (.bool false)))), none, 0⟩,
  ⟨(some 58), .p (.mov (.s 64)), none, 0⟩]
def c58_13 : List AOper := [
  ⟨(some 73), .p (.pick (.s 70) (.s 72) (.c (.v (.bool false)))), none, 0⟩,
  ⟨(some 67), .p (.mov (.s 73)), none, 0⟩]
def c58_14 : List AOper := [
  ⟨(some 82), .p (.pick (.s 79) (.s 81) (.c (.v (.bool false)))), none, 0⟩,
  ⟨(some 76), .p (.mov (.s 82)), none, 0⟩]
def c58_15 : List AOper := [
  ⟨(some 91), .p (.pick (.s 88) (.s 90) (.c (.v (.bool false)))), none, 0⟩,
  ⟨(some 85), .p (.mov (.s 91)), none, 0⟩]
def c58_16 : ACode := (.cond (.s 85) (.seq (.ops [
  ⟨(some 92), .p (.mov (.s 7)), none, 0⟩,
  ⟨(some 93), .p (.slStr (.c (.v (.string ⟨#[9, 9, 9, 9, 9, 9, 9, 9, 9, 9, 9, 9, 9, 9, 9, 9, 9, 9, 9, 9, 9, 9, 9, 9, 9, 9, 9, 9, 9, 9, 9, 9, 9, 9, 9, 9, 9, 9, 9, 9, 9, 9, 9, 9, 9, 9, 9, 9, 9, 9, 9, 9, 9, 9, 9, 9, 9, 9, 9, 9, 9, 9, 9, 9]⟩))) none (some (.s 92))), none, 0⟩,
  ⟨(some 4), .p (.mov (.s 93)), none, 0⟩]) .ret) .skip)
def c58_17 : ACode := (.cond (.s 76) (.seq (.ops [
  ⟨(some 83), .p (.mov (.s 7)), none, 0⟩,
  ⟨(some 84), .p (.slStr (.c (.v (.string ⟨#[61, 61, 61, 61, 61, 61, 61, 61, 61, 61, 61, 61, 61, 61, 61, 61, 61, 61, 61, 61, 61, 61, 61, 61, 61, 61, 61, 61, 61, 61, 61, 61, 61, 61, 61, 61, 61, 61, 61, 61, 61, 61, 61, 61, 61, 61, 61, 61, 61, 61, 61, 61, 61, 61, 61, 61, 61, 61, 61, 61, 61, 61, 61, 61, 61, 61, 61, 61, 61, 61, 61, 61, 61, 61, 61, 61, 61, 61, 61, 61, 61, 61, 61, 61, 61, 61, 61, 61, 61, 61, 61, 61, 61, 61, 61, 61, 61, 61, 61, 61, 61, 61, 61, 61, 61, 61, 61, 61, 61, 61, 61, 61, 61, 61, 61, 61, 61, 61, 61, 61, 61, 61, 61, 61, 61, 61, 61, 61]⟩))) none (some (.s 83))), none, 0⟩,
  ⟨(some 4), .p (.mov (.s 84)), none, 0⟩]) .ret) (.seq (.ops (⟨(some 86), .p (.mov (.s 7)), none, 0⟩ ::
  ⟨(some 87), .p (.bin .leq (.s 86) (.c (.v (.int .i64 64)))), none, 0⟩ ::
  ⟨(some 88), .p (.mov (.s 87)), none, 0⟩ ::
  ⟨(some 89), .p (.mov (.s 0)), (some (88, true)), 0⟩ ::
  ⟨(some 90), .call (.c (.fn 83 [])) [(.c (.v (.string ⟨#[9, 9, 9, 9, 9, 9, 9, 9, 9, 9, 9, 9, 9, 9, 9, 9, 9, 9, 9, 9, 9, 9, 9, 9, 9, 9, 9, 9, 9, 9, 9, 9, 9, 9, 9, 9, 9, 9, 9, 9, 9, 9, 9, 9, 9, 9, 9, 9, 9, 9, 9, 9, 9, 9, 9, 9, 9, 9, 9, 9, 9, 9, 9, 9]⟩))), (.s 89)], (some (88, true)), 0⟩ :: c58_15)) c58_16))
def c58_18 : ACode := (.cond (.s 67) (.seq (.ops [
  ⟨(some 74), .p (.mov (.s 7)), none, 0⟩,
  ⟨(some 75), .p (.slStr (.c (.v (.string ⟨#[48, 48, 48, 48, 48, 48, 48, 48, 48, 48, 48, 48, 48, 48, 48, 48, 48, 48, 48, 48, 48, 48, 48, 48, 48, 48, 48, 48, 48, 48, 48, 48, 48, 48, 48, 48, 48, 48, 48, 48, 48, 48, 48, 48, 48, 48, 48, 48, 48, 48, 48, 48, 48, 48, 48, 48, 48, 48, 48, 48, 48, 48, 48, 48]⟩))) none (some (.s 74))), none, 0⟩,
  ⟨(some 4), .p (.mov (.s 75)), none, 0⟩]) .ret) (.seq (.ops (⟨(some 77), .p (.mov (.s 7)), none, 0⟩ ::
  ⟨(some 78), .p (.bin .leq (.s 77) (.c (.v (.int .i64 128)))), none, 0⟩ ::
  ⟨(some 79), .p (.mov (.s 78)), none, 0⟩ ::
  ⟨(some 80), .p (.mov (.s 0)), (some (79, true)), 0⟩ ::
  ⟨(some 81), .call (.c (.fn 83 [])) [(.c (.v (.string ⟨#[61, 61, 61, 61, 61, 61, 61, 61, 61, 61, 61, 61, 61, 61, 61, 61, 61, 61, 61, 61, 61, 61, 61, 61, 61, 61, 61, 61, 61, 61, 61, 61, 61, 61, 61, 61, 61, 61, 61, 61, 61, 61, 61, 61, 61, 61, 61, 61, 61, 61, 61, 61, 61, 61, 61, 61, 61, 61, 61, 61, 61, 61, 61, 61, 61, 61, 61, 61, 61, 61, 61, 61, 61, 61, 61, 61, 61, 61, 61, 61, 61, 61, 61, 61, 61, 61, 61, 61, 61, 61, 61, 61, 61, 61, 61, 61, 61, 61, 61, 61, 61, 61, 61, 61, 61, 61, 61, 61, 61, 61, 61, 61, 61, 61, 61, 61, 61, 61, 61, 61, 61, 61, 61, 61, 61, 61, 61, 61]⟩))), (.s 80)], (some (79, true)), 0⟩ :: c58_14)) c58_17))
def c58_19 : ACode := (.cond (.s 58) (.seq (.ops [
  ⟨(some 65), .p (.mov (.s 7)), none, 0⟩,
  ⟨(some 66), .p (.slStr (.c (.v (.string ⟨#[45, 45, 45, 45, 45, 45, 45, 45, 45, 45, 45, 45, 45, 45, 45, 45, 45, 45, 45, 45, 45, 45, 45, 45, 45, 45, 45, 45, 45, 45, 45, 45, 45, 45, 45, 45, 45, 45, 45, 45, 45, 45, 45, 45, 45, 45, 45, 45, 45, 45, 45, 45, 45, 45, 45, 45, 45, 45, 45, 45, 45, 45, 45, 45, 45, 45, 45, 45, 45, 45, 45, 45, 45, 45, 45, 45, 45, 45, 45, 45, 45, 45, 45, 45, 45, 45, 45, 45, 45, 45, 45, 45, 45, 45, 45, 45, 45, 45, 45, 45, 45, 45, 45, 45, 45, 45, 45, 45, 45, 45, 45, 45, 45, 45, 45, 45, 45, 45, 45, 45, 45, 45, 45, 45, 45, 45, 45, 45]⟩))) none (some (.s 65))), none, 0⟩,
  ⟨(some 4), .p (.mov (.s 66)), none, 0⟩]) .ret) (.seq (.ops (⟨(some 68), .p (.mov (.s 7)), none, 0⟩ ::
  ⟨(some 69), .p (.bin .leq (.s 68) (.c (.v (.int .i64 64)))), none, 0⟩ ::
  ⟨(some 70), .p (.mov (.s 69)), none, 0⟩ ::
  ⟨(some 71), .p (.mov (.s 0)), (some (70, true)), 0⟩ ::
  ⟨(some 72), .call (.c (.fn 83 [])) [(.c (.v (.string ⟨#[48, 48, 48, 48, 48, 48, 48, 48, 48, 48, 48, 48, 48, 48, 48, 48, 48, 48, 48, 48, 48, 48, 48, 48, 48, 48, 48, 48, 48, 48, 48, 48, 48, 48, 48, 48, 48, 48, 48, 48, 48, 48, 48, 48, 48, 48, 48, 48, 48, 48, 48, 48, 48, 48, 48, 48, 48, 48, 48, 48, 48, 48, 48, 48]⟩))), (.s 71)], (some (70, true)), 0⟩ :: c58_13)) c58_18))
def c58_20 : ACode := (.cond (.s 49) (.seq (.ops [
  ⟨(some 56), .p (.mov (.s 7)), none, 0⟩,
  ⟨(some 57), .p (.slStr (.c (.v (.string ⟨#[32, 32, 32, 32, 32, 32, 32, 32, 32, 32, 32, 32, 32, 32, 32, 32, 32, 32, 32, 32, 32, 32, 32, 32, 32, 32, 32, 32, 32, 32, 32, 32, 32, 32, 32, 32, 32, 32, 32, 32, 32, 32, 32, 32, 32, 32, 32, 32, 32, 32, 32, 32, 32, 32, 32, 32, 32, 32, 32, 32, 32, 32, 32, 32, 32, 32, 32, 32, 32, 32, 32, 32, 32, 32, 32, 32, 32, 32, 32, 32, 32, 32, 32, 32, 32, 32, 32, 32, 32, 32, 32, 32, 32, 32, 32, 32, 32, 32, 32, 32, 32, 32, 32, 32, 32, 32, 32, 32, 32, 32, 32, 32, 32, 32, 32, 32, 32, 32, 32, 32, 32, 32, 32, 32, 32, 32, 32, 32]⟩))) none (some (.s 56))), none, 0⟩,
  ⟨(some 4), .p (.mov (.s 57)), none, 0⟩]) .ret) (.seq (.ops (⟨(some 59), .p (.mov (.s 7)), none, 0⟩ ::
  ⟨(some 60), .p (.bin .leq (.s 59) (.c (.v (.int .i64 128)))), none, 0⟩ ::
  ⟨(some 61), .p (.mov (.s 60)), none, 0⟩ ::
  ⟨(some 62), .p (.mov (.s 0)), (some (61, true)), 0⟩ ::
  ⟨(some 63), .call (.c (.fn 83 [])) [(.c (.v (.string ⟨#[45, 45, 45, 45, 45, 45, 45, 45, 45, 45, 45, 45, 45, 45, 45, 45, 45, 45, 45, 45, 45, 45, 45, 45, 45, 45, 45, 45, 45, 45, 45, 45, 45, 45, 45, 45, 45, 45, 45, 45, 45, 45, 45, 45, 45, 45, 45, 45, 45, 45, 45, 45, 45, 45, 45, 45, 45, 45, 45, 45, 45, 45, 45, 45, 45, 45, 45, 45, 45, 45, 45, 45, 45, 45, 45, 45, 45, 45, 45, 45, 45, 45, 45, 45, 45, 45, 45, 45, 45, 45, 45, 45, 45, 45, 45, 45, 45, 45, 45, 45, 45, 45, 45, 45, 45, 45, 45, 45, 45, 45, 45, 45, 45, 45, 45, 45, 45, 45, 45, 45, 45, 45, 45, 45, 45, 45, 45, 45]⟩))), (.s 62)], (some (61, true)), 0⟩ :: c58_12)) c58_19))
def c58_21 : ACode := (.cond (.s 43) (.block 2 (.seq (.ops (⟨(some 50), .p (.mov (.s 7)), none, 0⟩ ::
  ⟨(some 51), .p (.bin .leq (.s 50) (.c (.v (.int .i64 128)))), none, 0⟩ ::
  ⟨(some 52), .p (.mov (.s 51)), none, 0⟩ ::
  ⟨(some 53), .p (.mov (.s 0)), (some (52, true)), 0⟩ ::
  ⟨(some 54), .call (.c (.fn 83 [])) [(.c (.v (.string ⟨#[32, 32, 32, 32, 32, 32, 32, 32, 32, 32, 32, 32, 32, 32, 32, 32, 32, 32, 32, 32, 32, 32, 32, 32, 32, 32, 32, 32, 32, 32, 32, 32, 32, 32, 32, 32, 32, 32, 32, 32, 32, 32, 32, 32, 32, 32, 32, 32, 32, 32, 32, 32, 32, 32, 32, 32, 32, 32, 32, 32, 32, 32, 32, 32, 32, 32, 32, 32, 32, 32, 32, 32, 32, 32, 32, 32, 32, 32, 32, 32, 32, 32, 32, 32, 32, 32, 32, 32, 32, 32, 32, 32, 32, 32, 32, 32, 32, 32, 32, 32, 32, 32, 32, 32, 32, 32, 32, 32, 32, 32, 32, 32, 32, 32, 32, 32, 32, 32, 32, 32, 32, 32, 32, 32, 32, 32, 32, 32]⟩))), (.s 53)], (some (52, true)), 0⟩ :: c58_11)) c58_20)) .skip)
def c58_22 : ACode := (.block 1 (.seq (.seq (.ops [
  ⟨(some 44), .p (.bin .eql (.s 42) (.c (.v (.int .u8 32)))), none, 0⟩,
  ⟨(some 43), .p (.mov (.s 44)), none, 0⟩]) c58_10) c58_21))
def c58_23 : ACode := (.cond (.s 104) (.ops [
  ⟨(some 105), .p (.mov (.s 0)), none, 0⟩,
  ⟨(some 106), .p (.len true (.s 105)), none, 0⟩,
  ⟨(some 8), .p (.mov (.s 106)), none, 0⟩]) .skip)
def c58_24 : ACode := (.seq (.ops [
  ⟨(some 103), .p (.mov (.s 8)), none, 0⟩,
  ⟨(some 104), .p (.bin .eql (.s 103) (.c (.v (.int .i64 0)))), none, 0⟩]) c58_23)
def c58_25 : ACode := (.cond (.s 96) (.seq (.ops [
  ⟨(some 97), .p (.mov (.s 0)), none, 0⟩,
  ⟨(some 98), .p (.len true (.s 97)), none, 0⟩,
  ⟨(some 99), .p (.bin .quo (.c (.v (.int .i64 8192))) (.s 98)), none, 0⟩,
  ⟨(some 100), .p (.mov (.s 0)), none, 0⟩,
  ⟨(some 101), .p (.len true (.s 100)), none, 0⟩,
  ⟨(some 102), .p (.bin .mul (.s 99) (.s 101)), none, 0⟩,
  ⟨(some 8), .p (.mov (.s 102)), none, 0⟩]) c58_24) .skip)
def c58_26 : List AOper := [
  ⟨(some 112), .p (.mov (.s 7)), none, 0⟩,
  ⟨(some 113), .p (.bin .lss (.s 111) (.s 112)), none, 0⟩]
def c58_27 : ACode := (.cond (.s 113) .skip (.exit 3))
def c58_28 : List AOper := [
  ⟨(some 118), .p (.mov (.s 8)), none, 0⟩,
  ⟨(some 119), .p (.mm false (.s 116) [(.s 117), (.s 118)]), none, 0⟩,
  ⟨(some 10), .p (.mov (.s 119)), none, 0⟩]
def c58_29 : List AOper := (⟨(some 116), .p (.bin .sub (.s 114) (.s 115)), none, 0⟩ ::
  ⟨(some 117), .call (.c (.fn 85 [])) [(.s 9)], none, 0⟩ :: c58_28)
def c58_30 : List AOper := [
  ⟨(some 121), .p (.mov (.s 10)), none, 0⟩,
  ⟨(some 122), .p (.slStr (.s 120) none (some (.s 121))), none, 0⟩,
  ⟨(some 123), .call (.c (.fn 28 [])) [(.s 9), (.s 122)], none, 0⟩]
def c58_31 : ACode := (.ops (⟨(some 120), .call (.c (.fn 30 [])) [(.s 9)], none, 0⟩ :: c58_30))
def c58_32 : ACode := (.block 4 (.seq (.ops (⟨(some 114), .p (.mov (.s 7)), none, 0⟩ ::
  ⟨(some 115), .call (.c (.fn 85 [])) [(.s 9)], none, 0⟩ :: c58_29)) c58_31))
def c58_33 : ACode := (.seq (.seq (.ops (⟨(some 111), .call (.c (.fn 85 [])) [(.s 9)], none, 0⟩ :: c58_26)) c58_27) c58_32)
def c58_34 : List AOper := [
  ⟨(some 4), .p (.mov (.s 124)), none, 0⟩]
def c58_35 : ACode := (.seq (.ops (⟨(some 124), .call (.c (.fn 30 [])) [(.s 9)], none, 0⟩ :: c58_34)) .ret)
def c58_36 : ACode := (.seq (.block 3 (.loop c58_33)) c58_35)
def c58_37 : ACode := (.seq (.ops [
  ⟨(some 109), .p (.mov (.s 0)), none, 0⟩,
  ⟨(some 110), .call (.c (.fn 28 [])) [(.s 9), (.s 109)], none, 0⟩]) c58_36)
def c58_38 : ACode := (.seq (.ops [
  ⟨(some 107), .p (.mov (.s 7)), none, 0⟩,
  ⟨(some 108), .call (.c (.fn 84 [])) [(.s 9), (.s 107)], none, 0⟩]) c58_37)
def c58_39 : ACode := (.seq (.ops [
  ⟨(some 9), .m (.ext (.allocT 58 [(.v (.pointer none)), (.v (.slice none 0 0))])), none, 5⟩]) c58_38)
def c58_40 : ACode := (.seq (.seq (.ops [
  ⟨(some 95), .p (.mov (.s 7)), none, 0⟩,
  ⟨(some 96), .p (.bin .gtr (.s 95) (.c (.v (.int .i64 8192)))), none, 0⟩]) c58_25) c58_39)
def c58_41 : ACode := (.seq (.ops [
  ⟨(some 94), .p (.mov (.s 7)), none, 0⟩,
  ⟨(some 8), .p (.mov (.s 94)), none, 0⟩]) c58_40)
def c58_42 : ACode := (.seq (.seq (.ops [
  ⟨(some 41), .p (.mov (.s 0)), none, 0⟩,
  ⟨(some 42), .p (.idxStr (.s 41) (.c (.v (.int .i64 0)))), none, 0⟩]) c58_22) c58_41)
def c58_43 : ACode := (.seq (.seq (.ops [
  ⟨(some 38), .p (.mov (.s 0)), none, 0⟩,
  ⟨(some 39), .p (.len true (.s 38)), none, 0⟩,
  ⟨(some 40), .p (.bin .eql (.s 39) (.c (.v (.int .i64 0)))), none, 0⟩]) c58_6) c58_42)
def c58_44 : ACode := (.seq (.ops [
  ⟨(some 36), .p (.mov (.s 6)), none, 0⟩,
  ⟨(some 37), .p (.cint .i64 (.s 36)), none, 0⟩,
  ⟨(some 7), .p (.mov (.s 37)), none, 0⟩]) c58_43)
def c58_45 : ACode := (.seq (.seq (.ops [
  ⟨(some 29), .p (.mov (.s 5)), none, 0⟩,
  ⟨(some 30), .p (.bin .gtr (.s 29) (.c (.v (.int .u64 0)))), none, 0⟩,
  ⟨(some 31), .p (.mov (.s 30)), none, 0⟩,
  ⟨(some 32), .p (.mov (.s 6)), (some (31, false)), 0⟩,
  ⟨(some 33), .p (.bin .gtr (.s 32) (.c (.v (.int .u64 9223372036854775807)))), (some (31, false)), 0⟩,
  ⟨(some 34), .p (.pick (.s 31) (.c (.v (.bool true))) (.s 33)), none, 0⟩]) c58_5) c58_44)
def c58_46 : ACode := (.seq (.ops (⟨(some 21), .p (.mov (.s 0)), none, 0⟩ ::
  ⟨(some 22), .p (.len true (.s 21)), none, 0⟩ ::
  ⟨(some 23), .p (.cint .u64 (.s 22)), none, 0⟩ ::
  ⟨(some 24), .p (.mov (.s 1)), none, 0⟩ ::
  ⟨(some 25), .p (.cint .u64 (.s 24)), none, 0⟩ ::
  ⟨(some 26), .call (.c (.fn 82 [])) [(.s 23), (.s 25)], none, 0⟩ :: c58_4)) c58_45)
def c58_47 : ACode := (.seq (.seq (.ops [
  ⟨(some 17), .p (.mov (.s 1)), none, 0⟩,
  ⟨(some 18), .p (.bin .lss (.s 17) (.c (.v (.int .i64 0)))), none, 0⟩]) c58_3) c58_46)
def c58_48 : ACode := (.seq (.seq (.ops [
  ⟨(some 11), .p (.mov (.s 1)), none, 0⟩]) c58_2) c58_47)
def c58 : ACode := (.seq (.ops [
  ⟨(some 4), .p (.mov (.c (.v (.string ⟨#[]⟩)))), none, 0⟩]) c58_48)
theorem t58 : trC Try.prog Try.f58.ntmps (bodyOf Try.f58) = some c58 := by kernel_rfl
theorem r58 : Try.f58.results.toList.mapM (trR Try.prog) = some [.tmp 4] := by kernel_rfl
def i58 : FI := ⟨125, c58, [.tmp 4]⟩
theorem k58 : Knows Try.prog 58 i58 := ⟨Try.f58, bodyOf Try.f58, Try.func58, by kernel_rfl, by kernel_rfl, t58, r58, by kernel_rfl⟩
-- 59 drover/droverref03.Put []
def c59_0 : ACode := (.cond (.s 10) .skip (.exit 0))
def c59_1 : ACode := (.ops [
  ⟨(some 11), .p (.mov (.s 6)), none, 0⟩,
  ⟨(some 12), .p (.bin .sub (.s 11) (.c (.v (.int .i64 1)))), none, 0⟩,
  ⟨(some 6), .p (.mov (.s 12)), none, 0⟩])
def c59_2 : ACode := (.seq (.block 1 (.ops [
  ⟨(some 13), .p (.mov (.s 5)), none, 0⟩,
  ⟨(some 14), .p (.mov (.s 0)), none, 0⟩,
  ⟨(some 15), .p (.mov (.s 6)), none, 0⟩,
  ⟨(some 16), .p (.bin .mul (.c (.v (.int .i64 8))) (.s 15)), none, 0⟩,
  ⟨(some 17), .p (.bin .shr (.s 14) (.s 16)), none, 0⟩,
  ⟨(some 18), .p (.cint .u8 (.s 17)), none, 0⟩,
  ⟨(some 19), .m (.buildSlice 1 1 [(.v (.int .u8 0))] [(0, 1, (.s 18))]), none, 5⟩,
  ⟨(some 20), .m (.append 1 1 (.s 13) (.s 19)), none, 5⟩,
  ⟨(some 5), .p (.mov (.s 20)), none, 0⟩])) c59_1)
def c59_3 : ACode := (.seq (.seq (.ops [
  ⟨(some 9), .p (.mov (.s 6)), none, 0⟩,
  ⟨(some 10), .p (.bin .geq (.s 9) (.c (.v (.int .i64 0)))), none, 0⟩]) c59_0) c59_2)
def c59_4 : ACode := (.block 0 (.loop c59_3))
def c59_5 : ACode := (.seq (.ops [
  ⟨(some 21), .p (.mov (.s 5)), none, 0⟩,
  ⟨(some 22), .m (.b2s (.s 21)), none, 0⟩,
  ⟨(some 4), .p (.mov (.s 22)), none, 0⟩]) .ret)
def c59_6 : ACode := (.seq (.seq (.ops [
  ⟨(some 7), .p (.mov (.s 1)), none, 0⟩,
  ⟨(some 8), .p (.bin .sub (.s 7) (.c (.v (.int .i64 1)))), none, 0⟩,
  ⟨(some 6), .p (.mov (.s 8)), none, 0⟩]) c59_4) c59_5)
def c59_7 : ACode := (.seq (.ops [
  ⟨(some 5), .p (.mov (.c (.v (.slice none 0 0)))), none, 0⟩]) c59_6)
def c59 : ACode := (.seq (.ops [
  ⟨(some 4), .p (.mov (.c (.v (.string ⟨#[]⟩)))), none, 0⟩]) c59_7)
theorem t59 : trC Try.prog Try.f59.ntmps (bodyOf Try.f59) = some c59 := by kernel_rfl
theorem r59 : Try.f59.results.toList.mapM (trR Try.prog) = some [.tmp 4] := by kernel_rfl
def i59 : FI := ⟨23, c59, [.tmp 4]⟩
theorem k59 : Knows Try.prog 59 i59 := ⟨Try.f59, bodyOf Try.f59, Try.func59, by kernel_rfl, by kernel_rfl, t59, r59, by kernel_rfl⟩
-- 60 drover/droverref06.code []
def c60_0 : ACode := (.cond (.s 12) (.seq (.ops [
  ⟨(some 2), .p (.mov (.c (.v (.int .i64 14)))), none, 0⟩]) .ret) .skip)
def c60_1 : ACode := (.cond (.s 10) (.seq (.ops [
  ⟨(some 2), .p (.mov (.c (.v (.int .i64 13)))), none, 0⟩]) .ret) (.seq (.ops [
  ⟨(some 13), .p (.bin .eql (.s 3) (.c (.v (.int .i64 9)))), none, 0⟩,
  ⟨(some 12), .p (.mov (.s 13)), none, 0⟩]) c60_0))
def c60_2 : ACode := (.cond (.s 8) (.seq (.ops [
  ⟨(some 2), .p (.mov (.c (.v (.int .i64 12)))), none, 0⟩]) .ret) (.seq (.ops [
  ⟨(some 11), .p (.bin .eql (.s 3) (.c (.v (.int .i64 8)))), none, 0⟩,
  ⟨(some 10), .p (.mov (.s 11)), none, 0⟩]) c60_1))
def c60_3 : ACode := (.cond (.s 6) (.seq (.ops [
  ⟨(some 2), .p (.mov (.c (.v (.int .i64 11)))), none, 0⟩]) .ret) (.seq (.ops [
  ⟨(some 9), .p (.bin .eql (.s 3) (.c (.v (.int .i64 6)))), none, 0⟩,
  ⟨(some 8), .p (.mov (.s 9)), none, 0⟩]) c60_2))
def c60_4 : ACode := (.cond (.s 4) (.seq (.ops [
  ⟨(some 2), .p (.mov (.c (.v (.int .i64 6)))), none, 0⟩]) .ret) (.seq (.ops [
  ⟨(some 7), .p (.bin .eql (.s 3) (.c (.v (.int .i64 5)))), none, 0⟩,
  ⟨(some 6), .p (.mov (.s 7)), none, 0⟩]) c60_3))
def c60_5 : ACode := (.block 0 (.seq (.ops [
  ⟨(some 5), .p (.bin .eql (.s 3) (.c (.v (.int .i64 3)))), none, 0⟩,
  ⟨(some 4), .p (.mov (.s 5)), none, 0⟩]) c60_4))
def c60_6 : ACode := (.seq (.ops [
  ⟨(some 2), .p (.mov (.c (.v (.int .i64 0)))), none, 0⟩]) .ret)
def c60_7 : ACode := (.seq (.seq (.ops [
  ⟨(some 3), .p (.mov (.s 0)), none, 0⟩]) c60_5) c60_6)
def c60 : ACode := (.seq (.ops [
  ⟨(some 2), .p (.mov (.c (.v (.int .i64 0)))), none, 0⟩]) c60_7)
theorem t60 : trC Try.prog Try.f60.ntmps (bodyOf Try.f60) = some c60 := by kernel_rfl
theorem r60 : Try.f60.results.toList.mapM (trR Try.prog) = some [.tmp 2] := by kernel_rfl
def i60 : FI := ⟨14, c60, [.tmp 2]⟩
theorem k60 : Knows Try.prog 60 i60 := ⟨Try.f60, bodyOf Try.f60, Try.func60, by kernel_rfl, by kernel_rfl, t60, r60, by kernel_rfl⟩
-- 61 drover/droverref06.size []
def c61_0 : ACode := (.cond (.s 8) (.seq (.ops [
  ⟨(some 2), .p (.mov (.c (.v (.int .i64 4)))), none, 0⟩]) .ret) .skip)
def c61_1 : ACode := (.seq (.ops [
  ⟨(some 2), .p (.mov (.c (.v (.int .i64 2)))), none, 0⟩]) .ret)
def c61_2 : ACode := (.seq (.seq (.ops [
  ⟨(some 3), .p (.mov (.s 0)), none, 0⟩,
  ⟨(some 4), .p (.bin .eql (.s 3) (.c (.v (.int .i64 5)))), none, 0⟩,
  ⟨(some 5), .p (.mov (.s 4)), none, 0⟩,
  ⟨(some 6), .p (.mov (.s 0)), (some (5, false)), 0⟩,
  ⟨(some 7), .p (.bin .eql (.s 6) (.c (.v (.int .i64 6)))), (some (5, false)), 0⟩,
  ⟨(some 8), .p (.pick (.s 5) (.c (.v (.bool true))) (.s 7)), none, 0⟩]) c61_0) c61_1)
def c61 : ACode := (.seq (.ops [
  ⟨(some 2), .p (.mov (.c (.v (.int .i64 0)))), none, 0⟩]) c61_2)
theorem t61 : trC Try.prog Try.f61.ntmps (bodyOf Try.f61) = some c61 := by kernel_rfl
theorem r61 : Try.f61.results.toList.mapM (trR Try.prog) = some [.tmp 2] := by kernel_rfl
def i61 : FI := ⟨9, c61, [.tmp 2]⟩
theorem k61 : Knows Try.prog 61 i61 := ⟨Try.f61, bodyOf Try.f61, Try.func61, by kernel_rfl, by kernel_rfl, t61, r61, by kernel_rfl⟩
-- 62 slices.Grow[[]drover/api.Action,drover/api.Action] []
def c62_0 : ACode := (.cond (.s 6) (.ops [
  ⟨(some 7), .p (.mkIfc 9 (.c (.v (.string ⟨#[99, 97, 110, 110, 111, 116, 32, 98, 101, 32, 110, 101, 103, 97, 116, 105, 118, 101]⟩)))), none, 0⟩,
  ⟨none, .never, none, 0⟩]) .skip)
def c62_1 : ACode := (.cond (.s 16) (.ops [
  ⟨(some 17), .p (.mov (.s 0)), none, 0⟩,
  ⟨(some 18), .p (.mov (.s 0)), none, 0⟩,
  ⟨(some 19), .m (.ext (.capK (.s 18))), none, 31⟩,
  ⟨(some 20), .p (.slSl 3 (.s 17) none (some (.s 19)) none), none, 0⟩,
  ⟨(some 21), .p (.mov (.s 1)), none, 0⟩,
  ⟨(some 22), .m (.appendZ 3 24 [(.v (.int .i64 0)), (.v (.int .i64 0)), (.v (.int .u64 0))] (.s 20) (.s 21)), none, 31⟩,
  ⟨(some 23), .p (.mov (.s 0)), none, 0⟩,
  ⟨(some 24), .p (.len false (.s 23)), none, 31⟩,
  ⟨(some 25), .p (.slSl 3 (.s 22) none (some (.s 24)) none), none, 0⟩,
  ⟨(some 0), .p (.mov (.s 25)), none, 0⟩]) .skip)
def c62_2 : ACode := (.seq (.ops [
  ⟨(some 15), .p (.mov (.s 1)), none, 0⟩,
  ⟨(some 16), .p (.bin .gtr (.s 15) (.c (.v (.int .i64 0)))), none, 0⟩]) c62_1)
def c62_3 : ACode := (.seq (.ops [
  ⟨(some 26), .p (.mov (.s 0)), none, 0⟩,
  ⟨(some 4), .p (.mov (.s 26)), none, 0⟩]) .ret)
def c62_4 : ACode := (.seq (.seq (.ops [
  ⟨(some 8), .p (.mov (.s 1)), none, 0⟩,
  ⟨(some 9), .p (.mov (.s 0)), none, 0⟩,
  ⟨(some 10), .m (.ext (.capK (.s 9))), none, 31⟩,
  ⟨(some 11), .p (.mov (.s 0)), none, 0⟩,
  ⟨(some 12), .p (.len false (.s 11)), none, 31⟩,
  ⟨(some 13), .p (.bin .sub (.s 10) (.s 12)), none, 0⟩,
  ⟨(some 14), .p (.bin .sub (.s 8) (.s 13)), none, 0⟩,
  ⟨(some 1), .p (.mov (.s 14)), none, 0⟩]) c62_2) c62_3)
def c62_5 : ACode := (.seq (.seq (.ops [
  ⟨(some 5), .p (.mov (.s 1)), none, 0⟩,
  ⟨(some 6), .p (.bin .lss (.s 5) (.c (.v (.int .i64 0)))), none, 0⟩]) c62_0) c62_4)
def c62 : ACode := (.seq (.ops [
  ⟨(some 4), .p (.mov (.c (.v (.slice none 0 0)))), none, 0⟩]) c62_5)
theorem t62 : trC Try.prog Try.f62.ntmps (bodyOf Try.f62) = some c62 := by kernel_rfl
theorem r62 : Try.f62.results.toList.mapM (trR Try.prog) = some [.tmp 4] := by kernel_rfl
def i62 : FI := ⟨27, c62, [.tmp 4]⟩
theorem k62 : Knows Try.prog 62 i62 := ⟨Try.f62, bodyOf Try.f62, Try.func62, by kernel_rfl, by kernel_rfl, t62, r62, by kernel_rfl⟩
-- 63 slices.Index[[]int,int] []
def c63_0 : ACode := (.cond (.s 16) (.seq (.ops [
  ⟨(some 17), .p (.mov (.s 5)), none, 0⟩,
  ⟨(some 4), .p (.mov (.s 17)), none, 0⟩]) .ret) .skip)
def c63_1 : ACode := (.seq (.ops [
  ⟨(some 11), .p (.mov (.s 1)), none, 0⟩,
  ⟨(some 12), .p (.mov (.s 0)), none, 0⟩,
  ⟨(some 13), .p (.mov (.s 5)), none, 0⟩,
  ⟨(some 14), .p (.adrSl 1 (.s 12) (.s 13)), none, 0⟩,
  ⟨(some 15), .m (.load none (.s 14)), none, 0⟩,
  ⟨(some 16), .p (.bin .eql (.s 11) (.s 15)), none, 0⟩]) c63_0)
def c63_2 : ACode := (.ops [
  ⟨(some 18), .p (.bin .add (.s 8) (.c (.v (.int .i64 1)))), none, 0⟩,
  ⟨(some 8), .p (.mov (.s 18)), none, 0⟩])
def c63_3 : ACode := (.seq (.block 1 (.seq (.ops [
  ⟨(some 10), .p (.mov (.s 8)), none, 0⟩,
  ⟨(some 5), .p (.mov (.s 10)), none, 0⟩]) c63_1)) c63_2)
def c63_4 : ACode := (.seq (.cond (.s 9) .skip (.exit 0)) c63_3)
def c63_5 : ACode := (.seq (.ops [
  ⟨(some 9), .p (.bin .lss (.s 8) (.s 7)), none, 0⟩]) c63_4)
def c63_6 : ACode := (.block 0 (.loop c63_5))
def c63_7 : ACode := (.seq (.ops [
  ⟨(some 4), .p (.mov (.c (.v (.int .i64 (-1))))), none, 0⟩]) .ret)
def c63_8 : ACode := (.seq (.seq (.ops [
  ⟨(some 6), .p (.mov (.s 0)), none, 0⟩,
  ⟨(some 7), .p (.len false (.s 6)), none, 3⟩,
  ⟨(some 8), .p (.mov (.c (.v (.int .i64 0)))), none, 0⟩]) c63_6) c63_7)
def c63 : ACode := (.seq (.ops [
  ⟨(some 4), .p (.mov (.c (.v (.int .i64 0)))), none, 0⟩]) c63_8)
theorem t63 : trC Try.prog Try.f63.ntmps (bodyOf Try.f63) = some c63 := by kernel_rfl
theorem r63 : Try.f63.results.toList.mapM (trR Try.prog) = some [.tmp 4] := by kernel_rfl
def i63 : FI := ⟨19, c63, [.tmp 4]⟩
theorem k63 : Knows Try.prog 63 i63 := ⟨Try.f63, bodyOf Try.f63, Try.func63, by kernel_rfl, by kernel_rfl, t63, r63, by kernel_rfl⟩
-- 64 slices.stableCmpFunc[drover/api.Action] []
def c64_0 : ACode := (.cond (.s 13) .skip (.exit 0))
def c64_1 : ACode := (.ops [
  ⟨(some 20), .p (.mov (.s 8)), none, 0⟩,
  ⟨(some 21), .p (.mov (.s 6)), none, 0⟩,
  ⟨(some 22), .p (.bin .add (.s 20) (.s 21)), none, 0⟩,
  ⟨(some 8), .p (.mov (.s 22)), none, 0⟩])
def c64_2 : ACode := (.seq (.ops [
  ⟨(some 19), .p (.mov (.s 8)), none, 0⟩,
  ⟨(some 7), .p (.mov (.s 19)), none, 0⟩]) c64_1)
def c64_3 : ACode := (.block 1 (.seq (.ops [
  ⟨(some 14), .p (.mov (.s 0)), none, 0⟩,
  ⟨(some 15), .p (.mov (.s 7)), none, 0⟩,
  ⟨(some 16), .p (.mov (.s 8)), none, 0⟩,
  ⟨(some 17), .p (.mov (.s 2)), none, 0⟩,
  ⟨(some 18), .call (.c (.fn 86 [])) [(.s 14), (.s 15), (.s 16), (.s 17)], none, 31⟩]) c64_2))
def c64_4 : ACode := (.seq (.seq (.ops [
  ⟨(some 11), .p (.mov (.s 8)), none, 0⟩,
  ⟨(some 12), .p (.mov (.s 1)), none, 0⟩,
  ⟨(some 13), .p (.bin .leq (.s 11) (.s 12)), none, 0⟩]) c64_0) c64_3)
def c64_5 : ACode := (.cond (.s 30) .skip (.exit 2))
def c64_6 : ACode := (.cond (.s 35) .skip (.exit 4))
def c64_7 : ACode := (.ops [
  ⟨(some 45), .p (.mov (.s 8)), none, 0⟩,
  ⟨(some 46), .p (.mov (.s 6)), none, 0⟩,
  ⟨(some 47), .p (.bin .mul (.c (.v (.int .i64 2))) (.s 46)), none, 0⟩,
  ⟨(some 48), .p (.bin .add (.s 45) (.s 47)), none, 0⟩,
  ⟨(some 8), .p (.mov (.s 48)), none, 0⟩])
def c64_8 : ACode := (.seq (.ops [
  ⟨(some 44), .p (.mov (.s 8)), none, 0⟩,
  ⟨(some 7), .p (.mov (.s 44)), none, 0⟩]) c64_7)
def c64_9 : ACode := (.block 5 (.seq (.ops [
  ⟨(some 36), .p (.mov (.s 0)), none, 0⟩,
  ⟨(some 37), .p (.mov (.s 7)), none, 0⟩,
  ⟨(some 38), .p (.mov (.s 7)), none, 0⟩,
  ⟨(some 39), .p (.mov (.s 6)), none, 0⟩,
  ⟨(some 40), .p (.bin .add (.s 38) (.s 39)), none, 0⟩,
  ⟨(some 41), .p (.mov (.s 8)), none, 0⟩,
  ⟨(some 42), .p (.mov (.s 2)), none, 0⟩,
  ⟨(some 43), .call (.c (.fn 87 [])) [(.s 36), (.s 37), (.s 40), (.s 41), (.s 42)], none, 31⟩]) c64_8))
def c64_10 : ACode := (.seq (.seq (.ops [
  ⟨(some 33), .p (.mov (.s 8)), none, 0⟩,
  ⟨(some 34), .p (.mov (.s 1)), none, 0⟩,
  ⟨(some 35), .p (.bin .leq (.s 33) (.s 34)), none, 0⟩]) c64_6) c64_9)
def c64_11 : ACode := (.cond (.s 54) (.ops [
  ⟨(some 55), .p (.mov (.s 0)), none, 0⟩,
  ⟨(some 56), .p (.mov (.s 7)), none, 0⟩,
  ⟨(some 57), .p (.mov (.s 9)), none, 0⟩,
  ⟨(some 58), .p (.mov (.s 1)), none, 0⟩,
  ⟨(some 59), .p (.mov (.s 2)), none, 0⟩,
  ⟨(some 60), .call (.c (.fn 87 [])) [(.s 55), (.s 56), (.s 57), (.s 58), (.s 59)], none, 31⟩]) .skip)
def c64_12 : ACode := (.seq (.ops [
  ⟨(some 52), .p (.mov (.s 9)), none, 0⟩,
  ⟨(some 53), .p (.mov (.s 1)), none, 0⟩,
  ⟨(some 54), .p (.bin .lss (.s 52) (.s 53)), none, 0⟩]) c64_11)
def c64_13 : ACode := (.ops [
  ⟨(some 61), .p (.mov (.s 6)), none, 0⟩,
  ⟨(some 62), .p (.bin .mul (.s 61) (.c (.v (.int .i64 2)))), none, 0⟩,
  ⟨(some 6), .p (.mov (.s 62)), none, 0⟩])
def c64_14 : ACode := (.seq (.seq (.ops [
  ⟨(some 49), .p (.mov (.s 7)), none, 0⟩,
  ⟨(some 50), .p (.mov (.s 6)), none, 0⟩,
  ⟨(some 51), .p (.bin .add (.s 49) (.s 50)), none, 0⟩,
  ⟨(some 9), .p (.mov (.s 51)), none, 0⟩]) c64_12) c64_13)
def c64_15 : ACode := (.seq (.block 4 (.loop c64_10)) c64_14)
def c64_16 : ACode := (.block 3 (.seq (.ops [
  ⟨(some 31), .p (.mov (.s 6)), none, 0⟩,
  ⟨(some 32), .p (.bin .mul (.c (.v (.int .i64 2))) (.s 31)), none, 0⟩,
  ⟨(some 7), .p (.mov (.c (.v (.int .i64 0)))), none, 0⟩,
  ⟨(some 8), .p (.mov (.s 32)), none, 0⟩]) c64_15))
def c64_17 : ACode := (.seq (.seq (.ops [
  ⟨(some 28), .p (.mov (.s 6)), none, 0⟩,
  ⟨(some 29), .p (.mov (.s 1)), none, 0⟩,
  ⟨(some 30), .p (.bin .lss (.s 28) (.s 29)), none, 0⟩]) c64_5) c64_16)
def c64_18 : ACode := (.block 2 (.loop c64_17))
def c64_19 : ACode := (.seq (.ops [
  ⟨(some 23), .p (.mov (.s 0)), none, 0⟩,
  ⟨(some 24), .p (.mov (.s 7)), none, 0⟩,
  ⟨(some 25), .p (.mov (.s 1)), none, 0⟩,
  ⟨(some 26), .p (.mov (.s 2)), none, 0⟩,
  ⟨(some 27), .call (.c (.fn 86 [])) [(.s 23), (.s 24), (.s 25), (.s 26)], none, 31⟩]) c64_18)
def c64_20 : ACode := (.seq (.block 0 (.loop c64_4)) c64_19)
def c64_21 : ACode := (.seq (.ops [
  ⟨(some 10), .p (.mov (.s 6)), none, 0⟩,
  ⟨(some 7), .p (.mov (.c (.v (.int .i64 0)))), none, 0⟩,
  ⟨(some 8), .p (.mov (.s 10)), none, 0⟩]) c64_20)
def c64 : ACode := (.seq (.ops [
  ⟨(some 6), .p (.mov (.c (.v (.int .i64 20)))), none, 0⟩]) c64_21)
theorem t64 : trC Try.prog Try.f64.ntmps (bodyOf Try.f64) = some c64 := by kernel_rfl
theorem r64 : Try.f64.results.toList.mapM (trR Try.prog) = some [] := by kernel_rfl
def i64 : FI := ⟨63, c64, []⟩
theorem k64 : Knows Try.prog 64 i64 := ⟨Try.f64, bodyOf Try.f64, Try.func64, by kernel_rfl, by kernel_rfl, t64, r64, by kernel_rfl⟩
-- 65 cmp.Compare[int] []
def c65_0 : List AOper := [
  ⟨(some 5), .p (.mov (.s 8)), none, 0⟩]
def c65_1 : List AOper := [
  ⟨(some 6), .p (.mov (.s 10)), none, 0⟩]
def c65_2 : ACode := (.cond (.s 12) (.seq (.ops [
  ⟨(some 4), .p (.mov (.c (.v (.int .i64 0)))), none, 0⟩]) .ret) .skip)
def c65_3 : ACode := (.seq (.ops [
  ⟨(some 4), .p (.mov (.c (.v (.int .i64 (-1))))), none, 0⟩]) .ret)
def c65_4 : ACode := (.cond (.s 11) (.seq (.seq (.ops [
  ⟨(some 12), .p (.mov (.s 6)), none, 0⟩]) c65_2) c65_3) .skip)
def c65_5 : ACode := (.cond (.s 13) (.seq (.ops [
  ⟨(some 4), .p (.mov (.c (.v (.int .i64 1)))), none, 0⟩]) .ret) .skip)
def c65_6 : ACode := (.cond (.s 16) (.seq (.ops [
  ⟨(some 4), .p (.mov (.c (.v (.int .i64 (-1))))), none, 0⟩]) .ret) .skip)
def c65_7 : ACode := (.cond (.s 19) (.seq (.ops [
  ⟨(some 4), .p (.mov (.c (.v (.int .i64 1)))), none, 0⟩]) .ret) .skip)
def c65_8 : ACode := (.seq (.ops [
  ⟨(some 4), .p (.mov (.c (.v (.int .i64 0)))), none, 0⟩]) .ret)
def c65_9 : ACode := (.seq (.seq (.ops [
  ⟨(some 17), .p (.mov (.s 0)), none, 0⟩,
  ⟨(some 18), .p (.mov (.s 1)), none, 0⟩,
  ⟨(some 19), .p (.bin .gtr (.s 17) (.s 18)), none, 0⟩]) c65_7) c65_8)
def c65_10 : ACode := (.seq (.seq (.ops [
  ⟨(some 14), .p (.mov (.s 0)), none, 0⟩,
  ⟨(some 15), .p (.mov (.s 1)), none, 0⟩,
  ⟨(some 16), .p (.bin .lss (.s 14) (.s 15)), none, 0⟩]) c65_6) c65_9)
def c65_11 : ACode := (.seq (.seq (.ops [
  ⟨(some 13), .p (.mov (.s 6)), none, 0⟩]) c65_5) c65_10)
def c65_12 : ACode := (.seq (.seq (.ops [
  ⟨(some 11), .p (.mov (.s 5)), none, 0⟩]) c65_4) c65_11)
def c65_13 : ACode := (.seq (.ops (⟨(some 9), .p (.mov (.s 1)), none, 0⟩ ::
  ⟨(some 10), .call (.c (.fn 88 [])) [(.s 9)], none, 0⟩ :: c65_1)) c65_12)
def c65_14 : ACode := (.seq (.ops (⟨(some 7), .p (.mov (.s 0)), none, 0⟩ ::
  ⟨(some 8), .call (.c (.fn 88 [])) [(.s 7)], none, 0⟩ :: c65_0)) c65_13)
def c65 : ACode := (.seq (.ops [
  ⟨(some 4), .p (.mov (.c (.v (.int .i64 0)))), none, 0⟩]) c65_14)
theorem t65 : trC Try.prog Try.f65.ntmps (bodyOf Try.f65) = some c65 := by kernel_rfl
theorem r65 : Try.f65.results.toList.mapM (trR Try.prog) = some [.tmp 4] := by kernel_rfl
def i65 : FI := ⟨20, c65, [.tmp 4]⟩
theorem k65 : Knows Try.prog 65 i65 := ⟨Try.f65, bodyOf Try.f65, Try.func65, by kernel_rfl, by kernel_rfl, t65, r65, by kernel_rfl⟩
-- 66 (drover/field.Seen).has []
def c66_0 : ACode := (.cond (.s 6) .skip (.ops [
  ⟨(some 10), .p (.bin .eql (.s 5) (.c (.v (.int .i64 4)))), none, 0⟩,
  ⟨(some 6), .p (.mov (.s 10)), none, 0⟩]))
def c66_1 : ACode := (.cond (.s 6) .skip (.seq (.ops [
  ⟨(some 9), .p (.bin .eql (.s 5) (.c (.v (.int .i64 3)))), none, 0⟩,
  ⟨(some 6), .p (.mov (.s 9)), none, 0⟩]) c66_0))
def c66_2 : ACode := (.cond (.s 6) .skip (.seq (.ops [
  ⟨(some 8), .p (.bin .eql (.s 5) (.c (.v (.int .i64 2)))), none, 0⟩,
  ⟨(some 6), .p (.mov (.s 8)), none, 0⟩]) c66_1))
def c66_3 : ACode := (.cond (.s 11) .skip (.ops [
  ⟨(some 14), .p (.bin .eql (.s 5) (.c (.v (.int .i64 7)))), none, 0⟩,
  ⟨(some 11), .p (.mov (.s 14)), none, 0⟩]))
def c66_4 : ACode := (.cond (.s 11) .skip (.seq (.ops [
  ⟨(some 13), .p (.bin .eql (.s 5) (.c (.v (.int .i64 6)))), none, 0⟩,
  ⟨(some 11), .p (.mov (.s 13)), none, 0⟩]) c66_3))
def c66_5 : ACode := (.cond (.s 19) .skip (.ops [
  ⟨(some 21), .p (.bin .eql (.s 5) (.c (.v (.int .i64 9)))), none, 0⟩,
  ⟨(some 19), .p (.mov (.s 21)), none, 0⟩]))
def c66_6 : ACode := (.cond (.s 19) (.seq (.ops [
  ⟨(some 22), .p (.fieldAddr 2 (some 11) (.s 2)), none, 0⟩,
  ⟨(some 23), .p (.fieldAddr 3 none (.s 22)), none, 0⟩,
  ⟨(some 24), .m (.load none (.s 23)), none, 0⟩,
  ⟨(some 25), .p (.bin .eql (.s 24) (.c (.v (.int .i64 2048)))), none, 0⟩,
  ⟨(some 26), .p (.mov (.s 25)), none, 0⟩,
  ⟨(some 27), .p (.fieldAddr 2 (some 11) (.s 2)), (some (26, true)), 0⟩,
  ⟨(some 28), .p (.fieldAddr 7 none (.s 27)), (some (26, true)), 0⟩,
  ⟨(some 29), .m (.load none (.s 28)), (some (26, true)), 0⟩,
  ⟨(some 30), .p (.bin .eql (.s 29) (.c (.v (.int .i64 6)))), (some (26, true)), 0⟩,
  ⟨(some 31), .p (.mov (.s 30)), (some (26, true)), 0⟩,
  ⟨(some 32), .p (.fieldAddr 2 (some 11) (.s 2)), (some (31, false)), 0⟩,
  ⟨(some 33), .p (.fieldAddr 7 none (.s 32)), (some (31, false)), 0⟩,
  ⟨(some 34), .m (.load none (.s 33)), (some (31, false)), 0⟩,
  ⟨(some 35), .p (.bin .eql (.s 34) (.c (.v (.int .i64 17)))), (some (31, false)), 0⟩,
  ⟨(some 36), .p (.pick (.s 31) (.c (.v (.bool true))) (.s 35)), (some (26, true)), 0⟩,
  ⟨(some 37), .p (.pick (.s 26) (.s 36) (.c (.v (.bool false)))), none, 0⟩,
  ⟨(some 4), .p (.mov (.s 37)), none, 0⟩]) .ret) .skip)
def c66_7 : ACode := (.cond (.s 11) (.seq (.ops [
  ⟨(some 15), .p (.fieldAddr 2 (some 11) (.s 2)), none, 0⟩,
  ⟨(some 16), .p (.fieldAddr 3 none (.s 15)), none, 0⟩,
  ⟨(some 17), .m (.load none (.s 16)), none, 0⟩,
  ⟨(some 18), .p (.bin .eql (.s 17) (.c (.v (.int .i64 2048)))), none, 0⟩,
  ⟨(some 4), .p (.mov (.s 18)), none, 0⟩]) .ret) (.seq (.seq (.ops [
  ⟨(some 20), .p (.bin .eql (.s 5) (.c (.v (.int .i64 8)))), none, 0⟩,
  ⟨(some 19), .p (.mov (.s 20)), none, 0⟩]) c66_5) c66_6))
def c66_8 : ACode := (.cond (.s 6) (.seq (.ops [
  ⟨(some 4), .p (.mov (.c (.v (.bool true)))), none, 0⟩]) .ret) (.seq (.seq (.ops [
  ⟨(some 12), .p (.bin .eql (.s 5) (.c (.v (.int .i64 5)))), none, 0⟩,
  ⟨(some 11), .p (.mov (.s 12)), none, 0⟩]) c66_4) c66_7))
def c66_9 : ACode := (.block 0 (.seq (.seq (.ops [
  ⟨(some 7), .p (.bin .eql (.s 5) (.c (.v (.int .i64 1)))), none, 0⟩,
  ⟨(some 6), .p (.mov (.s 7)), none, 0⟩]) c66_2) c66_8))
def c66_10 : ACode := (.seq (.ops [
  ⟨(some 4), .p (.mov (.c (.v (.bool false)))), none, 0⟩]) .ret)
def c66_11 : ACode := (.seq (.seq (.ops [
  ⟨(some 5), .p (.mov (.s 1)), none, 0⟩]) c66_9) c66_10)
def c66 : ACode := (.seq (.ops [
  ⟨(some 2), .m (.box (.s 0)), none, 0⟩,
  ⟨(some 4), .p (.mov (.c (.v (.bool false)))), none, 0⟩]) c66_11)
theorem t66 : trC Try.prog Try.f66.ntmps (bodyOf Try.f66) = some c66 := by kernel_rfl
theorem r66 : Try.f66.results.toList.mapM (trR Try.prog) = some [.tmp 4] := by kernel_rfl
def i66 : FI := ⟨38, c66, [.tmp 4]⟩
theorem k66 : Knows Try.prog 66 i66 := ⟨Try.f66, bodyOf Try.f66, Try.func66, by kernel_rfl, by kernel_rfl, t66, r66, by kernel_rfl⟩
-- 67 drover/field.greatest []
def c67_0 : List AOper := [
  ⟨(some 5), .p (.bin .sub (.c (.v (.int .i64 64))) (.s 4)), none, 0⟩,
  ⟨(some 6), .p (.bin .shr (.c (.v (.int .u64 18446744073709551615))) (.s 5)), none, 0⟩,
  ⟨(some 2), .p (.mov (.s 6)), none, 0⟩]
def c67_1 : ACode := (.seq (.ops (⟨(some 3), .p (.mov (.s 0)), none, 0⟩ ::
  ⟨(some 4), .call (.c (.fn 33 [])) [(.s 3)], none, 0⟩ :: c67_0)) .ret)
def c67 : ACode := (.seq (.ops [
  ⟨(some 2), .p (.mov (.c (.v (.int .u64 0)))), none, 0⟩]) c67_1)
theorem t67 : trC Try.prog Try.f67.ntmps (bodyOf Try.f67) = some c67 := by kernel_rfl
theorem r67 : Try.f67.results.toList.mapM (trR Try.prog) = some [.tmp 2] := by kernel_rfl
def i67 : FI := ⟨7, c67, [.tmp 2]⟩
theorem k67 : Knows Try.prog 67 i67 := ⟨Try.f67, bodyOf Try.f67, Try.func67, by kernel_rfl, by kernel_rfl, t67, r67, by kernel_rfl⟩
-- 68 drover/droverref04.Has []
def c68_0 : ACode := (.cond (.s 10) (.seq (.ops [
  ⟨(some 4), .p (.mov (.c (.v (.bool false)))), none, 0⟩]) .ret) .skip)
def c68_1 : ACode := (.cond (.s 12) (.seq (.ops [
  ⟨(some 4), .p (.mov (.c (.v (.bool true)))), none, 0⟩]) .ret) .skip)
def c68_2 : ACode := (.cond (.s 16) (.seq (.ops [
  ⟨(some 4), .p (.mov (.c (.v (.bool false)))), none, 0⟩]) .ret) .skip)
def c68_3 : ACode := (.seq (.ops [
  ⟨(some 17), .p (.mov (.s 1)), none, 0⟩,
  ⟨(some 18), .p (.bin .leq (.s 17) (.c (.v (.int .i64 7)))), none, 0⟩,
  ⟨(some 19), .p (.mov (.s 18)), none, 0⟩,
  ⟨(some 20), .p (.fieldAddr 2 (some 11) (.s 2)), (some (19, false)), 0⟩,
  ⟨(some 21), .p (.fieldAddr 7 none (.s 20)), (some (19, false)), 0⟩,
  ⟨(some 22), .m (.load none (.s 21)), (some (19, false)), 0⟩,
  ⟨(some 23), .p (.bin .eql (.s 22) (.c (.v (.int .i64 6)))), (some (19, false)), 0⟩,
  ⟨(some 24), .p (.pick (.s 19) (.c (.v (.bool true))) (.s 23)), none, 0⟩,
  ⟨(some 25), .p (.mov (.s 24)), none, 0⟩,
  ⟨(some 26), .p (.fieldAddr 2 (some 11) (.s 2)), (some (25, false)), 0⟩,
  ⟨(some 27), .p (.fieldAddr 7 none (.s 26)), (some (25, false)), 0⟩,
  ⟨(some 28), .m (.load none (.s 27)), (some (25, false)), 0⟩,
  ⟨(some 29), .p (.bin .eql (.s 28) (.c (.v (.int .i64 17)))), (some (25, false)), 0⟩,
  ⟨(some 30), .p (.pick (.s 25) (.c (.v (.bool true))) (.s 29)), none, 0⟩,
  ⟨(some 4), .p (.mov (.s 30)), none, 0⟩]) .ret)
def c68_4 : ACode := (.seq (.seq (.ops [
  ⟨(some 13), .p (.fieldAddr 2 (some 11) (.s 2)), none, 0⟩,
  ⟨(some 14), .p (.fieldAddr 3 none (.s 13)), none, 0⟩,
  ⟨(some 15), .m (.load none (.s 14)), none, 0⟩,
  ⟨(some 16), .p (.bin .neq (.s 15) (.c (.v (.int .i64 2048)))), none, 0⟩]) c68_2) c68_3)
def c68_5 : ACode := (.seq (.seq (.ops [
  ⟨(some 11), .p (.mov (.s 1)), none, 0⟩,
  ⟨(some 12), .p (.bin .leq (.s 11) (.c (.v (.int .i64 4)))), none, 0⟩]) c68_1) c68_4)
def c68_6 : ACode := (.seq (.seq (.ops [
  ⟨(some 5), .p (.mov (.s 1)), none, 0⟩,
  ⟨(some 6), .p (.bin .lss (.s 5) (.c (.v (.int .i64 1)))), none, 0⟩,
  ⟨(some 7), .p (.mov (.s 6)), none, 0⟩,
  ⟨(some 8), .p (.mov (.s 1)), (some (7, false)), 0⟩,
  ⟨(some 9), .p (.bin .gtr (.s 8) (.c (.v (.int .i64 9)))), (some (7, false)), 0⟩,
  ⟨(some 10), .p (.pick (.s 7) (.c (.v (.bool true))) (.s 9)), none, 0⟩]) c68_0) c68_5)
def c68 : ACode := (.seq (.ops [
  ⟨(some 2), .m (.box (.s 0)), none, 0⟩,
  ⟨(some 4), .p (.mov (.c (.v (.bool false)))), none, 0⟩]) c68_6)
theorem t68 : trC Try.prog Try.f68.ntmps (bodyOf Try.f68) = some c68 := by kernel_rfl
theorem r68 : Try.f68.results.toList.mapM (trR Try.prog) = some [.tmp 4] := by kernel_rfl
def i68 : FI := ⟨31, c68, [.tmp 4]⟩
theorem k68 : Knows Try.prog 68 i68 := ⟨Try.f68, bodyOf Try.f68, Try.func68, by kernel_rfl, by kernel_rfl, t68, r68, by kernel_rfl⟩
-- 69 drover/droverref04.low []
def c69_0 : ACode := (.cond (.s 6) (.seq (.ops [
  ⟨(some 7), .p (.mov (.s 0)), none, 0⟩,
  ⟨(some 4), .p (.mov (.s 7)), none, 0⟩]) .ret) .skip)
def c69_1 : ACode := (.seq (.ops [
  ⟨(some 8), .p (.mov (.s 0)), none, 0⟩,
  ⟨(some 9), .p (.mov (.s 1)), none, 0⟩,
  ⟨(some 10), .p (.bin .shl (.c (.v (.int .u64 1))) (.s 9)), none, 0⟩,
  ⟨(some 11), .p (.bin .sub (.s 10) (.c (.v (.int .u64 1)))), none, 0⟩,
  ⟨(some 12), .p (.bin .and (.s 8) (.s 11)), none, 0⟩,
  ⟨(some 4), .p (.mov (.s 12)), none, 0⟩]) .ret)
def c69_2 : ACode := (.seq (.seq (.ops [
  ⟨(some 5), .p (.mov (.s 1)), none, 0⟩,
  ⟨(some 6), .p (.bin .eql (.s 5) (.c (.v (.int .i64 64)))), none, 0⟩]) c69_0) c69_1)
def c69 : ACode := (.seq (.ops [
  ⟨(some 4), .p (.mov (.c (.v (.int .u64 0)))), none, 0⟩]) c69_2)
theorem t69 : trC Try.prog Try.f69.ntmps (bodyOf Try.f69) = some c69 := by kernel_rfl
theorem r69 : Try.f69.results.toList.mapM (trR Try.prog) = some [.tmp 4] := by kernel_rfl
def i69 : FI := ⟨13, c69, [.tmp 4]⟩
theorem k69 : Knows Try.prog 69 i69 := ⟨Try.f69, bodyOf Try.f69, Try.func69, by kernel_rfl, by kernel_rfl, t69, r69, by kernel_rfl⟩
-- 70 drover/droverref04.Width []
def c70_0 : ACode := (.cond (.s 8) (.seq (.ops [
  ⟨(some 2), .p (.mov (.c (.v (.int .i64 0)))), none, 0⟩]) .ret) .skip)
def c70_1 : ACode := (.seq (.ops [
  ⟨(some 9), .m (.buildSlice 1 9 [(.v (.int .i64 0)), (.v (.int .i64 0)), (.v (.int .i64 0)), (.v (.int .i64 0)), (.v (.int .i64 0)), (.v (.int .i64 0)), (.v (.int .i64 0)), (.v (.int .i64 0)), (.v (.int .i64 0))] [(0, 1, (.c (.v (.int .i64 32)))), (1, 1, (.c (.v (.int .i64 64)))), (2, 1, (.c (.v (.int .i64 13)))), (3, 1, (.c (.v (.int .i64 16)))), (4, 1, (.c (.v (.int .i64 32)))), (5, 1, (.c (.v (.int .i64 32)))), (6, 1, (.c (.v (.int .i64 8)))), (7, 1, (.c (.v (.int .i64 16)))), (8, 1, (.c (.v (.int .i64 16))))]), none, 3⟩,
  ⟨(some 10), .p (.mov (.s 0)), none, 0⟩,
  ⟨(some 11), .p (.bin .sub (.s 10) (.c (.v (.int .i64 1)))), none, 0⟩,
  ⟨(some 12), .p (.adrSl 1 (.s 9) (.s 11)), none, 0⟩,
  ⟨(some 13), .m (.load none (.s 12)), none, 0⟩,
  ⟨(some 2), .p (.mov (.s 13)), none, 0⟩]) .ret)
def c70_2 : ACode := (.seq (.seq (.ops [
  ⟨(some 3), .p (.mov (.s 0)), none, 0⟩,
  ⟨(some 4), .p (.bin .lss (.s 3) (.c (.v (.int .i64 1)))), none, 0⟩,
  ⟨(some 5), .p (.mov (.s 4)), none, 0⟩,
  ⟨(some 6), .p (.mov (.s 0)), (some (5, false)), 0⟩,
  ⟨(some 7), .p (.bin .gtr (.s 6) (.c (.v (.int .i64 9)))), (some (5, false)), 0⟩,
  ⟨(some 8), .p (.pick (.s 5) (.c (.v (.bool true))) (.s 7)), none, 0⟩]) c70_0) c70_1)
def c70 : ACode := (.seq (.ops [
  ⟨(some 2), .p (.mov (.c (.v (.int .i64 0)))), none, 0⟩]) c70_2)
theorem t70 : trC Try.prog Try.f70.ntmps (bodyOf Try.f70) = some c70 := by kernel_rfl
theorem r70 : Try.f70.results.toList.mapM (trR Try.prog) = some [.tmp 2] := by kernel_rfl
def i70 : FI := ⟨14, c70, [.tmp 2]⟩
theorem k70 : Knows Try.prog 70 i70 := ⟨Try.f70, bodyOf Try.f70, Try.func70, by kernel_rfl, by kernel_rfl, t70, r70, by kernel_rfl⟩
-- 71 drover/nums.Read []
def c71_0 : ACode := (.seq (.ops [
  ⟨(some 3), .p (.mov (.s 0)), none, 0⟩,
  ⟨(some 4), .p (.build [(.v (.string ⟨#[]⟩)), (.v (.int .i64 0))] [(0, 1, (.s 3))]), none, 0⟩,
  ⟨(some 5), .m (.box (.s 4)), none, 0⟩,
  ⟨(some 2), .p (.mov (.s 5)), none, 0⟩]) .ret)
def c71 : ACode := (.seq (.ops [
  ⟨(some 2), .p (.mov (.c (.v (.pointer none)))), none, 0⟩]) c71_0)
theorem t71 : trC Try.prog Try.f71.ntmps (bodyOf Try.f71) = some c71 := by kernel_rfl
theorem r71 : Try.f71.results.toList.mapM (trR Try.prog) = some [.tmp 2] := by kernel_rfl
def i71 : FI := ⟨6, c71, [.tmp 2]⟩
theorem k71 : Knows Try.prog 71 i71 := ⟨Try.f71, bodyOf Try.f71, Try.func71, by kernel_rfl, by kernel_rfl, t71, r71, by kernel_rfl⟩
-- 72 (*drover/nums.Reader).Num []
def c72_0 : List AOper := [
  ⟨(some 17), .m (.s2b (.s 16)), none, 5⟩,
  ⟨(some 18), .p (.len false (.s 17)), none, 5⟩,
  ⟨(some 19), .p (.mov (.c (.v (.int .i64 0)))), none, 0⟩]
def c72_1 : ACode := (.ops [
  ⟨(some 23), .p (.mov (.s 5)), none, 0⟩,
  ⟨(some 24), .p (.bin .shl (.s 23) (.c (.v (.int .u64 8)))), none, 0⟩,
  ⟨(some 25), .p (.mov (.s 7)), none, 0⟩,
  ⟨(some 26), .p (.cint .u64 (.s 25)), none, 0⟩,
  ⟨(some 27), .p (.bin .or (.s 24) (.s 26)), none, 0⟩,
  ⟨(some 5), .p (.mov (.s 27)), none, 0⟩])
def c72_2 : ACode := (.ops [
  ⟨(some 28), .p (.bin .add (.s 19) (.c (.v (.int .i64 1)))), none, 0⟩,
  ⟨(some 19), .p (.mov (.s 28)), none, 0⟩])
def c72_3 : ACode := (.seq (.block 1 (.seq (.ops [
  ⟨(some 21), .p (.adrSl 1 (.s 17) (.s 19)), none, 0⟩,
  ⟨(some 22), .m (.load none (.s 21)), none, 0⟩,
  ⟨(some 7), .p (.mov (.s 22)), none, 0⟩]) c72_1)) c72_2)
def c72_4 : ACode := (.seq (.cond (.s 20) .skip (.exit 0)) c72_3)
def c72_5 : ACode := (.seq (.ops [
  ⟨(some 20), .p (.bin .lss (.s 19) (.s 18)), none, 0⟩]) c72_4)
def c72_6 : ACode := (.block 0 (.loop c72_5))
def c72_7 : ACode := (.seq (.ops [
  ⟨(some 29), .p (.mov (.s 5)), none, 0⟩,
  ⟨(some 4), .p (.mov (.s 29)), none, 0⟩]) .ret)
def c72_8 : ACode := (.seq (.seq (.ops (⟨(some 8), .p (.mov (.s 0)), none, 0⟩ ::
  ⟨(some 9), .p (.mov (.s 1)), none, 0⟩ ::
  ⟨(some 10), .p (.mov (.s 1)), none, 0⟩ ::
  ⟨(some 11), .p (.bin .geq (.s 10) (.c (.v (.int .i64 1)))), none, 0⟩ ::
  ⟨(some 12), .p (.mov (.s 11)), none, 0⟩ ::
  ⟨(some 13), .p (.mov (.s 1)), (some (12, true)), 0⟩ ::
  ⟨(some 14), .p (.bin .leq (.s 13) (.c (.v (.int .i64 8)))), (some (12, true)), 0⟩ ::
  ⟨(some 15), .p (.pick (.s 12) (.s 14) (.c (.v (.bool false)))), none, 0⟩ ::
  ⟨(some 16), .call (.c (.fn 89 [])) [(.s 8), (.s 9), (.s 15)], none, 121⟩ :: c72_0)) c72_6) c72_7)
def c72_9 : ACode := (.seq (.ops [
  ⟨(some 5), .p (.mov (.c (.v (.int .u64 0)))), none, 0⟩]) c72_8)
def c72 : ACode := (.seq (.ops [
  ⟨(some 4), .p (.mov (.c (.v (.int .u64 0)))), none, 0⟩]) c72_9)
theorem t72 : trC Try.prog Try.f72.ntmps (bodyOf Try.f72) = some c72 := by kernel_rfl
theorem r72 : Try.f72.results.toList.mapM (trR Try.prog) = some [.tmp 4] := by kernel_rfl
def i72 : FI := ⟨30, c72, [.tmp 4]⟩
theorem k72 : Knows Try.prog 72 i72 := ⟨Try.f72, bodyOf Try.f72, Try.func72, by kernel_rfl, by kernel_rfl, t72, r72, by kernel_rfl⟩
-- 73 drover/act.named []
def c73_0 : ACode := (.cond (.s 7) .skip (.exit 0))
def c73_1 : List AOper := [
  ⟨(some 10), .p (.mov (.s 12)), none, 0⟩,
  ⟨(some 13), .p (.extract (.s 10) 0), none, 0⟩,
  ⟨(some 14), .p (.extract (.s 10) 1), none, 0⟩,
  ⟨(some 4), .p (.mov (.s 13)), none, 0⟩,
  ⟨(some 5), .p (.mov (.s 14)), none, 0⟩]
def c73_2 : ACode := (.cond (.s 22) (.seq (.ops [
  ⟨(some 23), .p (.mov (.s 3)), none, 0⟩,
  ⟨(some 2), .p (.mov (.s 23)), none, 0⟩]) .ret) .skip)
def c73_3 : ACode := (.seq (.ops [
  ⟨(some 15), .p (.mov (.s 5)), none, 0⟩,
  ⟨(some 16), .p (.bin .gtr (.s 15) (.c (.v (.int .i64 0)))), none, 0⟩,
  ⟨(some 17), .p (.mov (.s 16)), none, 0⟩,
  ⟨(some 18), .p (.mov (.s 4)), (some (17, true)), 0⟩,
  ⟨(some 19), .p (.bin .mul (.c (.v (.int .u64 2))) (.s 18)), (some (17, true)), 0⟩,
  ⟨(some 20), .p (.mov (.s 0)), (some (17, true)), 0⟩,
  ⟨(some 21), .p (.bin .eql (.s 19) (.s 20)), (some (17, true)), 0⟩,
  ⟨(some 22), .p (.pick (.s 17) (.s 21) (.c (.v (.bool false)))), none, 0⟩]) c73_2)
def c73_4 : ACode := (.ops [
  ⟨(some 8), .p (.mov (.s 3)), none, 0⟩,
  ⟨(some 9), .p (.bin .add (.s 8) (.c (.v (.int .i64 1)))), none, 0⟩,
  ⟨(some 3), .p (.mov (.s 9)), none, 0⟩])
def c73_5 : ACode := (.seq (.block 1 (.seq (.ops (⟨(some 11), .p (.mov (.s 3)), none, 0⟩ ::
  ⟨(some 12), .call (.c (.fn 32 [])) [(.s 11)], none, 0⟩ :: c73_1)) c73_3)) c73_4)
def c73_6 : ACode := (.seq (.seq (.ops [
  ⟨(some 6), .p (.mov (.s 3)), none, 0⟩,
  ⟨(some 7), .p (.bin .leq (.s 6) (.c (.v (.int .i64 9)))), none, 0⟩]) c73_0) c73_5)
def c73_7 : ACode := (.block 0 (.loop c73_6))
def c73_8 : ACode := (.seq (.ops [
  ⟨(some 2), .p (.mov (.c (.v (.int .i64 0)))), none, 0⟩]) .ret)
def c73_9 : ACode := (.seq (.seq (.ops [
  ⟨(some 3), .p (.mov (.c (.v (.int .i64 3)))), none, 0⟩]) c73_7) c73_8)
def c73 : ACode := (.seq (.ops [
  ⟨(some 2), .p (.mov (.c (.v (.int .i64 0)))), none, 0⟩]) c73_9)
theorem t73 : trC Try.prog Try.f73.ntmps (bodyOf Try.f73) = some c73 := by kernel_rfl
theorem r73 : Try.f73.results.toList.mapM (trR Try.prog) = some [.tmp 2] := by kernel_rfl
def i73 : FI := ⟨24, c73, [.tmp 2]⟩
theorem k73 : Knows Try.prog 73 i73 := ⟨Try.f73, bodyOf Try.f73, Try.func73, by kernel_rfl, by kernel_rfl, t73, r73, by kernel_rfl⟩
end Go.Proofs.Act
