/- A part of a law's proof: ActX3. -/
import Derived.KernelRfl
import Derived.Test.YtngoeofpjpdpoaaActX0
import Derived.Test.YtngoeofpjpdpoaaProg
import Derived.Test.YtngoeofpjpdpoaaSvCod
set_option linter.unusedSimpArgs false
set_option linter.constructorNameAsVariable false
namespace Go.Proofs.Act
open Go Go.Ab Go.Proofs
set_option linter.unusedVariables false
-- 74 drover/frame.below []
def c74_0 : ACode := (.cond (.s 19) (.seq (.ops [
  ⟨(some 4), .p (.mov (.c (.v (.bool false)))), none, 0⟩]) .ret) .skip)
def c74_1 : ACode := (.seq (.ops [
  ⟨(some 13), .p (.mov (.s 6)), none, 0⟩,
  ⟨(some 14), .p (.bin .lss (.s 13) (.c (.v (.int .i64 0)))), none, 0⟩,
  ⟨(some 15), .p (.mov (.s 14)), none, 0⟩,
  ⟨(some 16), .p (.mov (.s 6)), (some (15, false)), 0⟩,
  ⟨(some 17), .p (.mov (.s 0)), (some (15, false)), 0⟩,
  ⟨(some 18), .p (.bin .gtr (.s 16) (.s 17)), (some (15, false)), 0⟩,
  ⟨(some 19), .p (.pick (.s 15) (.c (.v (.bool true))) (.s 18)), none, 0⟩]) c74_0)
def c74_2 : ACode := (.ops [
  ⟨(some 20), .p (.bin .add (.s 9) (.c (.v (.int .i64 1)))), none, 0⟩,
  ⟨(some 9), .p (.mov (.s 20)), none, 0⟩])
def c74_3 : ACode := (.seq (.block 1 (.seq (.ops [
  ⟨(some 11), .p (.adrSl 1 (.s 7) (.s 9)), none, 0⟩,
  ⟨(some 12), .m (.load none (.s 11)), none, 0⟩,
  ⟨(some 6), .p (.mov (.s 12)), none, 0⟩]) c74_1)) c74_2)
def c74_4 : ACode := (.seq (.cond (.s 10) .skip (.exit 0)) c74_3)
def c74_5 : ACode := (.seq (.ops [
  ⟨(some 10), .p (.bin .lss (.s 9) (.s 8)), none, 0⟩]) c74_4)
def c74_6 : ACode := (.block 0 (.loop c74_5))
def c74_7 : ACode := (.seq (.ops [
  ⟨(some 4), .p (.mov (.c (.v (.bool true)))), none, 0⟩]) .ret)
def c74_8 : ACode := (.seq (.seq (.ops [
  ⟨(some 7), .p (.mov (.s 1)), none, 0⟩,
  ⟨(some 8), .p (.len false (.s 7)), none, 3⟩,
  ⟨(some 9), .p (.mov (.c (.v (.int .i64 0)))), none, 0⟩]) c74_6) c74_7)
def c74 : ACode := (.seq (.ops [
  ⟨(some 4), .p (.mov (.c (.v (.bool false)))), none, 0⟩]) c74_8)
theorem t74 : trC Try.prog Try.f74.ntmps (bodyOf Try.f74) = some c74 := by kernel_rfl
theorem r74 : Try.f74.results.toList.mapM (trR Try.prog) = some [.tmp 4] := by kernel_rfl
def i74 : FI := ⟨21, c74, [.tmp 4]⟩
theorem k74 : Knows Try.prog 74 i74 := ⟨Try.f74, bodyOf Try.f74, Try.func74, by kernel_rfl, by kernel_rfl, t74, r74, by kernel_rfl⟩
-- 75 drover/frame.ported []
def c75_0 : ACode := (.seq (.ops [
  ⟨(some 3), .p (.fieldAddr 7 none (.s 1)), none, 0⟩,
  ⟨(some 4), .m (.load none (.s 3)), none, 0⟩,
  ⟨(some 5), .p (.bin .eql (.s 4) (.c (.v (.int .i64 6)))), none, 0⟩,
  ⟨(some 6), .p (.mov (.s 5)), none, 0⟩,
  ⟨(some 7), .p (.fieldAddr 7 none (.s 1)), (some (6, false)), 0⟩,
  ⟨(some 8), .m (.load none (.s 7)), (some (6, false)), 0⟩,
  ⟨(some 9), .p (.bin .eql (.s 8) (.c (.v (.int .i64 17)))), (some (6, false)), 0⟩,
  ⟨(some 10), .p (.pick (.s 6) (.c (.v (.bool true))) (.s 9)), none, 0⟩,
  ⟨(some 2), .p (.mov (.s 10)), none, 0⟩]) .ret)
def c75 : ACode := (.seq (.ops [
  ⟨(some 1), .m (.box (.s 0)), none, 0⟩,
  ⟨(some 2), .p (.mov (.c (.v (.bool false)))), none, 0⟩]) c75_0)
theorem t75 : trC Try.prog Try.f75.ntmps (bodyOf Try.f75) = some c75 := by kernel_rfl
theorem r75 : Try.f75.results.toList.mapM (trR Try.prog) = some [.tmp 2] := by kernel_rfl
def i75 : FI := ⟨11, c75, [.tmp 2]⟩
theorem k75 : Knows Try.prog 75 i75 := ⟨Try.f75, bodyOf Try.f75, Try.func75, by kernel_rfl, by kernel_rfl, t75, r75, by kernel_rfl⟩
-- 76 drover/frame.put []
def c76_0 : List AOper := [
  ⟨(some 7), .p (.mov (.s 10)), none, 0⟩,
  ⟨(some 11), .p (.extract (.s 7) 0), none, 0⟩,
  ⟨(some 12), .p (.extract (.s 7) 1), none, 0⟩,
  ⟨(some 5), .p (.mov (.s 11)), none, 0⟩,
  ⟨(some 6), .p (.mov (.s 12)), none, 0⟩]
def c76_1 : ACode := (.seq (.ops [
  ⟨(some 13), .p (.mov (.s 5)), none, 0⟩,
  ⟨(some 4), .p (.mov (.s 13)), none, 0⟩]) .ret)
def c76_2 : ACode := (.seq (.ops (⟨(some 8), .p (.mov (.s 0)), none, 0⟩ ::
  ⟨(some 9), .p (.mov (.s 1)), none, 0⟩ ::
  ⟨(some 10), .call (.c (.fn 81 [])) [(.s 8), (.s 9)], none, 0⟩ :: c76_0)) c76_1)
def c76 : ACode := (.seq (.ops [
  ⟨(some 4), .p (.mov (.c (.v (.string ⟨#[]⟩)))), none, 0⟩]) c76_2)
theorem t76 : trC Try.prog Try.f76.ntmps (bodyOf Try.f76) = some c76 := by kernel_rfl
theorem r76 : Try.f76.results.toList.mapM (trR Try.prog) = some [.tmp 4] := by kernel_rfl
def i76 : FI := ⟨14, c76, [.tmp 4]⟩
theorem k76 : Knows Try.prog 76 i76 := ⟨Try.f76, bodyOf Try.f76, Try.func76, by kernel_rfl, by kernel_rfl, t76, r76, by kernel_rfl⟩
-- 77 drover/frame.part []
def c77_0 : ACode := (.cond (.s 35) (.seq (.draw [
  ⟨(some 37), .p (.mov (.s 5)), none, 0⟩,
  ⟨(some 38), .p (.bin .add (.s 37) (.c (.v (.string ⟨#[0, 0, 0, 0, 0, 0, 0, 0, 80, 16, 255, 255]⟩)))), none, 0⟩,
  ⟨(some 39), .p (.fieldAddr 1 none (.s 3)), none, 0⟩,
  ⟨(some 40), .m (.load none (.s 39)), none, 0⟩,
  ⟨(some 41), .p (.cint .u64 (.s 40)), none, 0⟩,
  ⟨(some 42), .qcall (.c (.fn 76 [])) [(.s 41), (.c (.v (.int .i64 2)))], none, 0⟩,
  ⟨(some 43), .p (.bin .add (.s 38) (.s 42)), none, 0⟩,
  ⟨(some 44), .p (.bin .add (.s 43) (.c (.v (.string ⟨#[0, 0]⟩)))), none, 0⟩,
  ⟨(some 45), .p (.fieldAddr 10 none (.s 2)), none, 0⟩,
  ⟨(some 46), .m (.load none (.s 45)), none, 0⟩,
  ⟨(some 47), .p (.bin .add (.s 44) (.s 46)), none, 0⟩,
  ⟨(some 4), .p (.mov (.s 47)), none, 0⟩]) .ret) .skip)
def c77_1 : ACode := (.cond (.s 17) (.seq (.draw [
  ⟨(some 19), .p (.mov (.s 5)), none, 0⟩,
  ⟨(some 20), .p (.fieldAddr 10 none (.s 2)), none, 0⟩,
  ⟨(some 21), .m (.load none (.s 20)), none, 0⟩,
  ⟨(some 22), .p (.len true (.s 21)), none, 0⟩,
  ⟨(some 23), .p (.bin .add (.c (.v (.int .i64 8))) (.s 22)), none, 0⟩,
  ⟨(some 24), .p (.cint .u64 (.s 23)), none, 0⟩,
  ⟨(some 25), .qcall (.c (.fn 76 [])) [(.s 24), (.c (.v (.int .i64 2)))], none, 0⟩,
  ⟨(some 26), .p (.bin .add (.s 19) (.s 25)), none, 0⟩,
  ⟨(some 27), .p (.fieldAddr 1 none (.s 3)), none, 0⟩,
  ⟨(some 28), .m (.load none (.s 27)), none, 0⟩,
  ⟨(some 29), .p (.cint .u64 (.s 28)), none, 0⟩,
  ⟨(some 30), .qcall (.c (.fn 76 [])) [(.s 29), (.c (.v (.int .i64 2)))], none, 0⟩,
  ⟨(some 31), .p (.bin .add (.s 26) (.s 30)), none, 0⟩,
  ⟨(some 32), .p (.fieldAddr 10 none (.s 2)), none, 0⟩,
  ⟨(some 33), .m (.load none (.s 32)), none, 0⟩,
  ⟨(some 34), .p (.bin .add (.s 31) (.s 33)), none, 0⟩,
  ⟨(some 4), .p (.mov (.s 34)), none, 0⟩]) .ret) (.seq (.ops [
  ⟨(some 36), .p (.bin .eql (.s 16) (.c (.v (.int .i64 6)))), none, 0⟩,
  ⟨(some 35), .p (.mov (.s 36)), none, 0⟩]) c77_0))
def c77_2 : ACode := (.block 0 (.seq (.ops [
  ⟨(some 18), .p (.bin .eql (.s 16) (.c (.v (.int .i64 17)))), none, 0⟩,
  ⟨(some 17), .p (.mov (.s 18)), none, 0⟩]) c77_1))
def c77_3 : ACode := (.seq (.ops [
  ⟨(some 48), .p (.fieldAddr 10 none (.s 2)), none, 0⟩,
  ⟨(some 49), .m (.load none (.s 48)), none, 0⟩,
  ⟨(some 4), .p (.mov (.s 49)), none, 0⟩]) .ret)
def c77_4 : ACode := (.seq (.seq (.ops [
  ⟨(some 15), .p (.fieldAddr 7 none (.s 2)), none, 0⟩,
  ⟨(some 16), .m (.load none (.s 15)), none, 0⟩]) c77_2) c77_3)
def c77_5 : ACode := (.seq (.draw [
  ⟨(some 6), .p (.fieldAddr 8 none (.s 2)), none, 0⟩,
  ⟨(some 7), .m (.load none (.s 6)), none, 0⟩,
  ⟨(some 8), .p (.cint .u64 (.s 7)), none, 0⟩,
  ⟨(some 9), .qcall (.c (.fn 76 [])) [(.s 8), (.c (.v (.int .i64 2)))], none, 0⟩,
  ⟨(some 10), .p (.fieldAddr 9 none (.s 2)), none, 0⟩,
  ⟨(some 11), .m (.load none (.s 10)), none, 0⟩,
  ⟨(some 12), .p (.cint .u64 (.s 11)), none, 0⟩,
  ⟨(some 13), .call (.c (.fn 76 [])) [(.s 12), (.c (.v (.int .i64 2)))], none, 0⟩,
  ⟨(some 14), .p (.bin .add (.s 9) (.s 13)), none, 0⟩,
  ⟨(some 5), .p (.mov (.s 14)), none, 0⟩]) c77_4)
def c77 : ACode := (.seq (.ops [
  ⟨(some 2), .m (.box (.s 0)), none, 0⟩,
  ⟨(some 3), .m (.box (.s 1)), none, 0⟩,
  ⟨(some 4), .p (.mov (.c (.v (.string ⟨#[]⟩)))), none, 0⟩]) c77_5)
theorem t77 : trC Try.prog Try.f77.ntmps (bodyOf Try.f77) = some c77 := by kernel_rfl
theorem r77 : Try.f77.results.toList.mapM (trR Try.prog) = some [.tmp 4] := by kernel_rfl
def i77 : FI := ⟨50, c77, [.tmp 4]⟩
theorem k77 : Knows Try.prog 77 i77 := ⟨Try.f77, bodyOf Try.f77, Try.func77, by kernel_rfl, by kernel_rfl, t77, r77, by kernel_rfl⟩
-- 78 drover/frame.head []
def c78_0 : ACode := (.seq (.draw [
  ⟨(some 7), .p (.mov (.s 1)), none, 0⟩,
  ⟨(some 8), .p (.bin .add (.c (.v (.int .i64 20))) (.s 7)), none, 0⟩,
  ⟨(some 9), .p (.cint .u64 (.s 8)), none, 0⟩,
  ⟨(some 10), .qcall (.c (.fn 76 [])) [(.s 9), (.c (.v (.int .i64 2)))], none, 0⟩,
  ⟨(some 11), .p (.bin .add (.c (.v (.string ⟨#[69, 0]⟩))) (.s 10)), none, 0⟩,
  ⟨(some 12), .p (.bin .add (.s 11) (.c (.v (.string ⟨#[0, 0, 0, 0]⟩)))), none, 0⟩,
  ⟨(some 13), .p (.fieldAddr 6 none (.s 3)), none, 0⟩,
  ⟨(some 14), .m (.load none (.s 13)), none, 0⟩,
  ⟨(some 15), .p (.cint .u64 (.s 14)), none, 0⟩,
  ⟨(some 16), .qcall (.c (.fn 76 [])) [(.s 15), (.c (.v (.int .i64 1)))], none, 0⟩,
  ⟨(some 17), .p (.bin .add (.s 12) (.s 16)), none, 0⟩,
  ⟨(some 18), .p (.fieldAddr 7 none (.s 3)), none, 0⟩,
  ⟨(some 19), .m (.load none (.s 18)), none, 0⟩,
  ⟨(some 20), .p (.cint .u64 (.s 19)), none, 0⟩,
  ⟨(some 21), .qcall (.c (.fn 76 [])) [(.s 20), (.c (.v (.int .i64 1)))], none, 0⟩,
  ⟨(some 22), .p (.bin .add (.s 17) (.s 21)), none, 0⟩,
  ⟨(some 23), .p (.fieldAddr 0 none (.s 5)), none, 0⟩,
  ⟨(some 24), .m (.load none (.s 23)), none, 0⟩,
  ⟨(some 25), .p (.cint .u64 (.s 24)), none, 0⟩,
  ⟨(some 26), .qcall (.c (.fn 76 [])) [(.s 25), (.c (.v (.int .i64 2)))], none, 0⟩,
  ⟨(some 27), .p (.bin .add (.s 22) (.s 26)), none, 0⟩,
  ⟨(some 28), .p (.fieldAddr 4 none (.s 3)), none, 0⟩,
  ⟨(some 29), .m (.load none (.s 28)), none, 0⟩,
  ⟨(some 30), .p (.cint .u64 (.s 29)), none, 0⟩,
  ⟨(some 31), .qcall (.c (.fn 76 [])) [(.s 30), (.c (.v (.int .i64 4)))], none, 0⟩,
  ⟨(some 32), .p (.bin .add (.s 27) (.s 31)), none, 0⟩,
  ⟨(some 33), .p (.fieldAddr 5 none (.s 3)), none, 0⟩,
  ⟨(some 34), .m (.load none (.s 33)), none, 0⟩,
  ⟨(some 35), .p (.cint .u64 (.s 34)), none, 0⟩,
  ⟨(some 36), .call (.c (.fn 76 [])) [(.s 35), (.c (.v (.int .i64 4)))], none, 0⟩,
  ⟨(some 37), .p (.bin .add (.s 32) (.s 36)), none, 0⟩,
  ⟨(some 6), .p (.mov (.s 37)), none, 0⟩]) .ret)
def c78 : ACode := (.seq (.ops [
  ⟨(some 3), .m (.box (.s 0)), none, 0⟩,
  ⟨(some 5), .m (.box (.s 2)), none, 0⟩,
  ⟨(some 6), .p (.mov (.c (.v (.string ⟨#[]⟩)))), none, 0⟩]) c78_0)
theorem t78 : trC Try.prog Try.f78.ntmps (bodyOf Try.f78) = some c78 := by kernel_rfl
theorem r78 : Try.f78.results.toList.mapM (trR Try.prog) = some [.tmp 6] := by kernel_rfl
def i78 : FI := ⟨38, c78, [.tmp 6]⟩
theorem k78 : Knows Try.prog 78 i78 := ⟨Try.f78, bodyOf Try.f78, Try.func78, by kernel_rfl, by kernel_rfl, t78, r78, by kernel_rfl⟩
-- 79 drover/sum.Sum []
def c79_0 : ACode := (.cond (.s 17) (.ops [
  ⟨(some 18), .p (.mov (.s 5)), none, 0⟩,
  ⟨(some 19), .p (.bin .shl (.s 18) (.c (.v (.int .u64 8)))), none, 0⟩,
  ⟨(some 5), .p (.mov (.s 19)), none, 0⟩]) .skip)
def c79_1 : List AOper := [
  ⟨(some 28), .p (.cint .u64 (.s 27)), none, 0⟩,
  ⟨(some 3), .p (.mov (.s 28)), none, 0⟩]
def c79_2 : ACode := (.cond (.s 25) (.ops (⟨(some 26), .p (.mov (.s 3)), none, 0⟩ ::
  ⟨(some 27), .call (.c (.fn 90 [])) [(.s 26)], none, 0⟩ :: c79_1)) .skip)
def c79_3 : ACode := (.seq (.ops [
  ⟨(some 23), .p (.mov (.s 3)), none, 0⟩,
  ⟨(some 24), .p (.bin .shr (.s 23) (.c (.v (.int .u64 62)))), none, 0⟩,
  ⟨(some 25), .p (.bin .gtr (.s 24) (.c (.v (.int .u64 0)))), none, 0⟩]) c79_2)
def c79_4 : ACode := (.seq (.ops [
  ⟨(some 20), .p (.mov (.s 3)), none, 0⟩,
  ⟨(some 21), .p (.mov (.s 5)), none, 0⟩,
  ⟨(some 22), .p (.bin .add (.s 20) (.s 21)), none, 0⟩,
  ⟨(some 3), .p (.mov (.s 22)), none, 0⟩]) c79_3)
def c79_5 : ACode := (.seq (.seq (.ops [
  ⟨(some 15), .p (.mov (.s 4)), none, 0⟩,
  ⟨(some 16), .p (.bin .rem (.s 15) (.c (.v (.int .i64 2)))), none, 0⟩,
  ⟨(some 17), .p (.bin .eql (.s 16) (.c (.v (.int .i64 0)))), none, 0⟩]) c79_0) c79_4)
def c79_6 : ACode := (.seq (.ops [
  ⟨(some 11), .p (.mov (.s 0)), none, 0⟩,
  ⟨(some 12), .p (.mov (.s 4)), none, 0⟩,
  ⟨(some 13), .p (.idxStr (.s 11) (.s 12)), none, 0⟩,
  ⟨(some 14), .p (.cint .u64 (.s 13)), none, 0⟩,
  ⟨(some 5), .p (.mov (.s 14)), none, 0⟩]) c79_5)
def c79_7 : ACode := (.ops [
  ⟨(some 29), .p (.bin .add (.s 8) (.c (.v (.int .i64 1)))), none, 0⟩,
  ⟨(some 8), .p (.mov (.s 29)), none, 0⟩])
def c79_8 : ACode := (.seq (.block 1 (.seq (.ops [
  ⟨(some 10), .p (.mov (.s 8)), none, 0⟩,
  ⟨(some 4), .p (.mov (.s 10)), none, 0⟩]) c79_6)) c79_7)
def c79_9 : ACode := (.seq (.cond (.s 9) .skip (.exit 0)) c79_8)
def c79_10 : ACode := (.seq (.ops [
  ⟨(some 9), .p (.bin .lss (.s 8) (.s 7)), none, 0⟩]) c79_9)
def c79_11 : ACode := (.block 0 (.loop c79_10))
def c79_12 : List AOper := [
  ⟨(some 32), .p (.un .xor (.s 31)), none, 0⟩,
  ⟨(some 33), .p (.cint .i64 (.s 32)), none, 0⟩,
  ⟨(some 2), .p (.mov (.s 33)), none, 0⟩]
def c79_13 : ACode := (.seq (.ops (⟨(some 30), .p (.mov (.s 3)), none, 0⟩ ::
  ⟨(some 31), .call (.c (.fn 90 [])) [(.s 30)], none, 0⟩ :: c79_12)) .ret)
def c79_14 : ACode := (.seq (.seq (.ops [
  ⟨(some 6), .p (.mov (.s 0)), none, 0⟩,
  ⟨(some 7), .p (.len true (.s 6)), none, 0⟩,
  ⟨(some 8), .p (.mov (.c (.v (.int .i64 0)))), none, 0⟩]) c79_11) c79_13)
def c79_15 : ACode := (.seq (.ops [
  ⟨(some 3), .p (.mov (.c (.v (.int .u64 0)))), none, 0⟩]) c79_14)
def c79 : ACode := (.seq (.ops [
  ⟨(some 2), .p (.mov (.c (.v (.int .i64 0)))), none, 0⟩]) c79_15)
theorem t79 : trC Try.prog Try.f79.ntmps (bodyOf Try.f79) = some c79 := by kernel_rfl
theorem r79 : Try.f79.results.toList.mapM (trR Try.prog) = some [.tmp 2] := by kernel_rfl
def i79 : FI := ⟨34, c79, [.tmp 2]⟩
theorem k79 : Knows Try.prog 79 i79 := ⟨Try.f79, bodyOf Try.f79, Try.func79, by kernel_rfl, by kernel_rfl, t79, r79, by kernel_rfl⟩
-- 81 drover/nums.Put []
def c81_0 : ACode := (.cond (.s 24) (.seq (.ops [
  ⟨(some 4), .p (.mov (.c (.v (.string ⟨#[]⟩)))), none, 0⟩,
  ⟨(some 5), .p (.mov (.c (.v (.int .i64 1)))), none, 0⟩]) .ret) .skip)
def c81_1 : ACode := (.ops [
  ⟨(some 32), .p (.mov (.s 6)), none, 0⟩,
  ⟨(some 33), .p (.mov (.s 1)), none, 0⟩,
  ⟨(some 34), .p (.bin .sub (.s 33) (.c (.v (.int .i64 1)))), none, 0⟩,
  ⟨(some 35), .p (.mov (.s 7)), none, 0⟩,
  ⟨(some 36), .p (.bin .sub (.s 34) (.s 35)), none, 0⟩,
  ⟨(some 37), .p (.mov (.s 0)), none, 0⟩,
  ⟨(some 38), .p (.mov (.s 7)), none, 0⟩,
  ⟨(some 39), .p (.bin .mul (.c (.v (.int .i64 8))) (.s 38)), none, 0⟩,
  ⟨(some 40), .p (.bin .shr (.s 37) (.s 39)), none, 0⟩,
  ⟨(some 41), .p (.cint .u8 (.s 40)), none, 0⟩,
  ⟨(some 42), .p (.adrSl 1 (.s 32) (.s 36)), none, 0⟩,
  ⟨none, .m (.store none (.s 42) (.s 41)), none, 0⟩])
def c81_2 : ACode := (.ops [
  ⟨(some 43), .p (.bin .add (.s 29) (.c (.v (.int .i64 1)))), none, 0⟩,
  ⟨(some 29), .p (.mov (.s 43)), none, 0⟩])
def c81_3 : ACode := (.seq (.block 1 (.seq (.ops [
  ⟨(some 31), .p (.mov (.s 29)), none, 0⟩,
  ⟨(some 7), .p (.mov (.s 31)), none, 0⟩]) c81_1)) c81_2)
def c81_4 : ACode := (.seq (.cond (.s 30) .skip (.exit 0)) c81_3)
def c81_5 : ACode := (.seq (.ops [
  ⟨(some 30), .p (.bin .lss (.s 29) (.s 28)), none, 0⟩]) c81_4)
def c81_6 : ACode := (.block 0 (.loop c81_5))
def c81_7 : ACode := (.seq (.ops [
  ⟨(some 44), .p (.mov (.s 6)), none, 0⟩,
  ⟨(some 45), .m (.b2s (.s 44)), none, 0⟩,
  ⟨(some 4), .p (.mov (.s 45)), none, 0⟩,
  ⟨(some 5), .p (.mov (.c (.v (.int .i64 0)))), none, 0⟩]) .ret)
def c81_8 : ACode := (.seq (.seq (.ops [
  ⟨(some 27), .p (.mov (.s 6)), none, 0⟩,
  ⟨(some 28), .p (.len false (.s 27)), none, 5⟩,
  ⟨(some 29), .p (.mov (.c (.v (.int .i64 0)))), none, 0⟩]) c81_6) c81_7)
def c81_9 : ACode := (.seq (.ops [
  ⟨(some 25), .p (.mov (.s 1)), none, 0⟩,
  ⟨(some 26), .m (.mkSlice 1 1 [(.v (.int .u8 0))] (.s 25) (.s 25)), none, 5⟩,
  ⟨(some 6), .p (.mov (.s 26)), none, 0⟩]) c81_8)
def c81_10 : ACode := (.seq (.seq (.ops [
  ⟨(some 8), .p (.mov (.s 1)), none, 0⟩,
  ⟨(some 9), .p (.bin .lss (.s 8) (.c (.v (.int .i64 1)))), none, 0⟩,
  ⟨(some 10), .p (.mov (.s 9)), none, 0⟩,
  ⟨(some 11), .p (.mov (.s 1)), (some (10, false)), 0⟩,
  ⟨(some 12), .p (.bin .gtr (.s 11) (.c (.v (.int .i64 8)))), (some (10, false)), 0⟩,
  ⟨(some 13), .p (.pick (.s 10) (.c (.v (.bool true))) (.s 12)), none, 0⟩,
  ⟨(some 14), .p (.mov (.s 13)), none, 0⟩,
  ⟨(some 15), .p (.mov (.s 1)), (some (14, false)), 0⟩,
  ⟨(some 16), .p (.bin .lss (.s 15) (.c (.v (.int .i64 8)))), (some (14, false)), 0⟩,
  ⟨(some 17), .p (.mov (.s 16)), (some (14, false)), 0⟩,
  ⟨(some 18), .p (.mov (.s 0)), (some (17, true)), 0⟩,
  ⟨(some 19), .p (.mov (.s 1)), (some (17, true)), 0⟩,
  ⟨(some 20), .p (.bin .mul (.c (.v (.int .i64 8))) (.s 19)), (some (17, true)), 0⟩,
  ⟨(some 21), .p (.bin .shr (.s 18) (.s 20)), (some (17, true)), 0⟩,
  ⟨(some 22), .p (.bin .gtr (.s 21) (.c (.v (.int .u64 0)))), (some (17, true)), 0⟩,
  ⟨(some 23), .p (.pick (.s 17) (.s 22) (.c (.v (.bool false)))), (some (14, false)), 0⟩,
  ⟨(some 24), .p (.pick (.s 14) (.c (.v (.bool true))) (.s 23)), none, 0⟩]) c81_0) c81_9)
def c81 : ACode := (.seq (.ops [
  ⟨(some 4), .p (.mov (.c (.v (.string ⟨#[]⟩)))), none, 0⟩,
  ⟨(some 5), .p (.mov (.c (.v (.int .i64 0)))), none, 0⟩]) c81_10)
theorem t81 : trC Try.prog Try.f81.ntmps (bodyOf Try.f81) = some c81 := by kernel_rfl
theorem r81 : Try.f81.results.toList.mapM (trR Try.prog) = some [.tmp 4, .tmp 5] := by kernel_rfl
def i81 : FI := ⟨46, c81, [.tmp 4, .tmp 5]⟩
theorem k81 : Knows Try.prog 81 i81 := ⟨Try.f81, bodyOf Try.f81, Try.func81, by kernel_rfl, by kernel_rfl, t81, r81, by kernel_rfl⟩
-- 82 math/bits.Mul []
def c82_0 : List AOper := [
  ⟨(some 10), .p (.mov (.s 15)), none, 0⟩,
  ⟨(some 16), .p (.extract (.s 10) 0), none, 0⟩,
  ⟨(some 17), .p (.extract (.s 10) 1), none, 0⟩,
  ⟨(some 6), .p (.mov (.s 16)), none, 0⟩,
  ⟨(some 7), .p (.mov (.s 17)), none, 0⟩]
def c82_1 : ACode := (.seq (.ops [
  ⟨(some 18), .p (.mov (.s 6)), none, 0⟩,
  ⟨(some 19), .p (.cint .u64 (.s 18)), none, 0⟩,
  ⟨(some 20), .p (.mov (.s 7)), none, 0⟩,
  ⟨(some 21), .p (.cint .u64 (.s 20)), none, 0⟩,
  ⟨(some 4), .p (.mov (.s 19)), none, 0⟩,
  ⟨(some 5), .p (.mov (.s 21)), none, 0⟩]) .ret)
def c82_2 : List AOper := [
  ⟨(some 22), .p (.mov (.s 25)), none, 0⟩,
  ⟨(some 26), .p (.extract (.s 22) 0), none, 0⟩,
  ⟨(some 27), .p (.extract (.s 22) 1), none, 0⟩,
  ⟨(some 8), .p (.mov (.s 26)), none, 0⟩,
  ⟨(some 9), .p (.mov (.s 27)), none, 0⟩]
def c82_3 : ACode := (.seq (.ops [
  ⟨(some 28), .p (.mov (.s 8)), none, 0⟩,
  ⟨(some 29), .p (.mov (.s 9)), none, 0⟩,
  ⟨(some 4), .p (.mov (.s 28)), none, 0⟩,
  ⟨(some 5), .p (.mov (.s 29)), none, 0⟩]) .ret)
def c82_4 : ACode := (.seq (.ops (⟨(some 23), .p (.mov (.s 0)), none, 0⟩ ::
  ⟨(some 24), .p (.mov (.s 1)), none, 0⟩ ::
  ⟨(some 25), .call (.c (.fn 92 [])) [(.s 23), (.s 24)], none, 0⟩ :: c82_2)) c82_3)
def c82_5 : ACode := (.seq (.cond (.c (.v (.bool false))) (.seq (.ops (⟨(some 11), .p (.mov (.s 0)), none, 0⟩ ::
  ⟨(some 12), .p (.cint .u32 (.s 11)), none, 0⟩ ::
  ⟨(some 13), .p (.mov (.s 1)), none, 0⟩ ::
  ⟨(some 14), .p (.cint .u32 (.s 13)), none, 0⟩ ::
  ⟨(some 15), .call (.c (.fn 91 [])) [(.s 12), (.s 14)], none, 0⟩ :: c82_0)) c82_1) .skip) c82_4)
def c82 : ACode := (.seq (.ops [
  ⟨(some 4), .p (.mov (.c (.v (.int .u64 0)))), none, 0⟩,
  ⟨(some 5), .p (.mov (.c (.v (.int .u64 0)))), none, 0⟩]) c82_5)
theorem t82 : trC Try.prog Try.f82.ntmps (bodyOf Try.f82) = some c82 := by kernel_rfl
theorem r82 : Try.f82.results.toList.mapM (trR Try.prog) = some [.tmp 4, .tmp 5] := by kernel_rfl
def i82 : FI := ⟨30, c82, [.tmp 4, .tmp 5]⟩
theorem k82 : Knows Try.prog 82 i82 := ⟨Try.f82, bodyOf Try.f82, Try.func82, by kernel_rfl, by kernel_rfl, t82, r82, by kernel_rfl⟩
-- 83 strings.HasPrefix []
def c83_0 : List AOper := [
  ⟨(some 4), .p (.mov (.s 7)), none, 0⟩]
def c83_1 : ACode := (.seq (.ops (⟨(some 5), .p (.mov (.s 0)), none, 0⟩ ::
  ⟨(some 6), .p (.mov (.s 1)), none, 0⟩ ::
  ⟨(some 7), .call (.c (.fn 93 [])) [(.s 5), (.s 6)], none, 0⟩ :: c83_0)) .ret)
def c83 : ACode := (.seq (.ops [
  ⟨(some 4), .p (.mov (.c (.v (.bool false)))), none, 0⟩]) c83_1)
theorem t83 : trC Try.prog Try.f83.ntmps (bodyOf Try.f83) = some c83 := by kernel_rfl
theorem r83 : Try.f83.results.toList.mapM (trR Try.prog) = some [.tmp 4] := by kernel_rfl
def i83 : FI := ⟨8, c83, [.tmp 4]⟩
theorem k83 : Knows Try.prog 83 i83 := ⟨Try.f83, bodyOf Try.f83, Try.func83, by kernel_rfl, by kernel_rfl, t83, r83, by kernel_rfl⟩
-- 84 (*strings.Builder).Grow []
def c84_0 : ACode := (.cond (.s 7) (.ops [
  ⟨(some 8), .p (.mkIfc 9 (.c (.v (.string ⟨#[115, 116, 114, 105, 110, 103, 115, 46, 66, 117, 105, 108, 100, 101, 114, 46, 71, 114, 111, 119, 58, 32, 110, 101, 103, 97, 116, 105, 118, 101, 32, 99, 111, 117, 110, 116]⟩)))), none, 0⟩,
  ⟨none, .never, none, 0⟩]) .skip)
def c84_1 : ACode := (.cond (.s 21) (.ops [
  ⟨(some 22), .p (.mov (.s 0)), none, 0⟩,
  ⟨(some 23), .p (.mov (.s 1)), none, 0⟩,
  ⟨(some 24), .call (.c (.fn 94 [])) [(.s 22), (.s 23)], none, 58⟩]) .skip)
def c84_2 : ACode := (.seq (.draw [
  ⟨(some 9), .p (.mov (.s 0)), none, 0⟩,
  ⟨(some 10), .p (.nilCheck (.s 9)), none, 0⟩,
  ⟨(some 11), .p (.fieldAddr 1 none (.s 10)), none, 0⟩,
  ⟨(some 12), .m (.load none (.s 11)), none, 0⟩,
  ⟨(some 13), .m (.ext (.capK (.s 12))), none, 5⟩,
  ⟨(some 14), .p (.mov (.s 0)), none, 0⟩,
  ⟨(some 15), .p (.nilCheck (.s 14)), none, 0⟩,
  ⟨(some 16), .p (.fieldAddr 1 none (.s 15)), none, 0⟩,
  ⟨(some 17), .m (.load none (.s 16)), none, 0⟩,
  ⟨(some 18), .p (.len false (.s 17)), none, 5⟩,
  ⟨(some 19), .p (.bin .sub (.s 13) (.s 18)), none, 0⟩,
  ⟨(some 20), .p (.mov (.s 1)), none, 0⟩,
  ⟨(some 21), .p (.bin .lss (.s 19) (.s 20)), none, 0⟩]) c84_1)
def c84_3 : ACode := (.seq (.seq (.ops [
  ⟨(some 6), .p (.mov (.s 1)), none, 0⟩,
  ⟨(some 7), .p (.bin .lss (.s 6) (.c (.v (.int .i64 0)))), none, 0⟩]) c84_0) c84_2)
def c84 : ACode := (.seq (.ops [
  ⟨(some 4), .p (.mov (.s 0)), none, 0⟩,
  ⟨(some 5), .call (.c (.fn 56 [])) [(.s 4)], none, 58⟩]) c84_3)
theorem t84 : trC Try.prog Try.f84.ntmps (bodyOf Try.f84) = some c84 := by kernel_rfl
theorem r84 : Try.f84.results.toList.mapM (trR Try.prog) = some [] := by kernel_rfl
def i84 : FI := ⟨25, c84, []⟩
theorem k84 : Knows Try.prog 84 i84 := ⟨Try.f84, bodyOf Try.f84, Try.func84, by kernel_rfl, by kernel_rfl, t84, r84, by kernel_rfl⟩
-- 85 (*strings.Builder).Len []
def c85_0 : ACode := (.seq (.ops [
  ⟨(some 3), .p (.mov (.s 0)), none, 0⟩,
  ⟨(some 4), .p (.nilCheck (.s 3)), none, 0⟩,
  ⟨(some 5), .p (.fieldAddr 1 none (.s 4)), none, 0⟩,
  ⟨(some 6), .m (.load none (.s 5)), none, 0⟩,
  ⟨(some 7), .p (.len false (.s 6)), none, 5⟩,
  ⟨(some 2), .p (.mov (.s 7)), none, 0⟩]) .ret)
def c85 : ACode := (.seq (.ops [
  ⟨(some 2), .p (.mov (.c (.v (.int .i64 0)))), none, 0⟩]) c85_0)
theorem t85 : trC Try.prog Try.f85.ntmps (bodyOf Try.f85) = some c85 := by kernel_rfl
theorem r85 : Try.f85.results.toList.mapM (trR Try.prog) = some [.tmp 2] := by kernel_rfl
def i85 : FI := ⟨8, c85, [.tmp 2]⟩
theorem k85 : Knows Try.prog 85 i85 := ⟨Try.f85, bodyOf Try.f85, Try.func85, by kernel_rfl, by kernel_rfl, t85, r85, by kernel_rfl⟩
-- 86 slices.insertionSortCmpFunc[drover/api.Action] []
def c86_0 : ACode := (.cond (.s 14) .skip (.exit 0))
def c86_1 : ACode := (.cond (.s 34) .skip (.exit 2))
def c86_2 : ACode := (.ops [
  ⟨(some 35), .p (.mov (.s 9)), none, 0⟩,
  ⟨(some 36), .p (.bin .sub (.s 35) (.c (.v (.int .i64 1)))), none, 0⟩,
  ⟨(some 9), .p (.mov (.s 36)), none, 0⟩])
def c86_3 : ACode := (.seq (.block 3 (.draw [
  ⟨(some 37), .p (.mov (.s 0)), none, 0⟩,
  ⟨(some 38), .p (.mov (.s 9)), none, 0⟩,
  ⟨(some 39), .p (.mov (.s 0)), none, 0⟩,
  ⟨(some 40), .p (.mov (.s 9)), none, 0⟩,
  ⟨(some 41), .p (.bin .sub (.s 40) (.c (.v (.int .i64 1)))), none, 0⟩,
  ⟨(some 42), .p (.mov (.s 0)), none, 0⟩,
  ⟨(some 43), .p (.mov (.s 9)), none, 0⟩,
  ⟨(some 44), .p (.bin .sub (.s 43) (.c (.v (.int .i64 1)))), none, 0⟩,
  ⟨(some 45), .p (.adrSl 3 (.s 42) (.s 44)), none, 0⟩,
  ⟨(some 46), .m (.load (some 3) (.s 45)), none, 0⟩,
  ⟨(some 47), .p (.mov (.s 0)), none, 0⟩,
  ⟨(some 48), .p (.mov (.s 9)), none, 0⟩,
  ⟨(some 49), .p (.adrSl 3 (.s 47) (.s 48)), none, 0⟩,
  ⟨(some 50), .m (.load (some 3) (.s 49)), none, 0⟩,
  ⟨(some 51), .p (.adrSl 3 (.s 37) (.s 38)), none, 0⟩,
  ⟨none, .m (.store (some 3) (.s 51) (.s 46)), none, 0⟩,
  ⟨(some 52), .p (.adrSl 3 (.s 39) (.s 41)), none, 0⟩,
  ⟨none, .m (.store (some 3) (.s 52) (.s 50)), none, 0⟩])) c86_2)
def c86_4 : ACode := (.seq (.seq (.draw [
  ⟨(some 18), .p (.mov (.s 9)), none, 0⟩,
  ⟨(some 19), .p (.mov (.s 1)), none, 0⟩,
  ⟨(some 20), .p (.bin .gtr (.s 18) (.s 19)), none, 0⟩,
  ⟨(some 21), .p (.mov (.s 20)), none, 0⟩,
  ⟨(some 22), .p (.mov (.s 3)), (some (21, true)), 0⟩,
  ⟨(some 23), .p (.mov (.s 0)), (some (21, true)), 0⟩,
  ⟨(some 24), .p (.mov (.s 9)), (some (21, true)), 0⟩,
  ⟨(some 25), .p (.adrSl 3 (.s 23) (.s 24)), (some (21, true)), 0⟩,
  ⟨(some 26), .m (.load (some 3) (.s 25)), (some (21, true)), 0⟩,
  ⟨(some 27), .p (.mov (.s 0)), (some (21, true)), 0⟩,
  ⟨(some 28), .p (.mov (.s 9)), (some (21, true)), 0⟩,
  ⟨(some 29), .p (.bin .sub (.s 28) (.c (.v (.int .i64 1)))), (some (21, true)), 0⟩,
  ⟨(some 30), .p (.adrSl 3 (.s 27) (.s 29)), (some (21, true)), 0⟩,
  ⟨(some 31), .m (.load (some 3) (.s 30)), (some (21, true)), 0⟩,
  ⟨(some 32), .call (.s 22) [(.s 26), (.s 31)], (some (21, true)), 0⟩,
  ⟨(some 33), .p (.bin .lss (.s 32) (.c (.v (.int .i64 0)))), (some (21, true)), 0⟩,
  ⟨(some 34), .p (.pick (.s 21) (.s 33) (.c (.v (.bool false)))), none, 0⟩]) c86_1) c86_3)
def c86_5 : ACode := (.block 2 (.loop c86_4))
def c86_6 : ACode := (.ops [
  ⟨(some 15), .p (.mov (.s 8)), none, 0⟩,
  ⟨(some 16), .p (.bin .add (.s 15) (.c (.v (.int .i64 1)))), none, 0⟩,
  ⟨(some 8), .p (.mov (.s 16)), none, 0⟩])
def c86_7 : ACode := (.seq (.block 1 (.seq (.ops [
  ⟨(some 17), .p (.mov (.s 8)), none, 0⟩,
  ⟨(some 9), .p (.mov (.s 17)), none, 0⟩]) c86_5)) c86_6)
def c86_8 : ACode := (.seq (.seq (.ops [
  ⟨(some 12), .p (.mov (.s 8)), none, 0⟩,
  ⟨(some 13), .p (.mov (.s 2)), none, 0⟩,
  ⟨(some 14), .p (.bin .lss (.s 12) (.s 13)), none, 0⟩]) c86_0) c86_7)
def c86_9 : ACode := (.block 0 (.loop c86_8))
def c86 : ACode := (.seq (.ops [
  ⟨(some 10), .p (.mov (.s 1)), none, 0⟩,
  ⟨(some 11), .p (.bin .add (.s 10) (.c (.v (.int .i64 1)))), none, 0⟩,
  ⟨(some 8), .p (.mov (.s 11)), none, 0⟩]) c86_9)
theorem t86 : trC Try.prog Try.f86.ntmps (bodyOf Try.f86) = some c86 := by kernel_rfl
theorem r86 : Try.f86.results.toList.mapM (trR Try.prog) = some [] := by kernel_rfl
def i86 : FI := ⟨53, c86, []⟩
theorem k86 : Knows Try.prog 86 i86 := ⟨Try.f86, bodyOf Try.f86, Try.func86, by kernel_rfl, by kernel_rfl, t86, r86, by kernel_rfl⟩
-- 87 slices.symMergeCmpFunc[drover/api.Action] []
def c87_0 : ACode := (.cond (.s 33) .skip (.exit 0))
def c87_1 : ACode := (.cond (.s 50) (.ops [
  ⟨(some 51), .p (.mov (.s 12)), none, 0⟩,
  ⟨(some 52), .p (.bin .add (.s 51) (.c (.v (.int .i64 1)))), none, 0⟩,
  ⟨(some 10), .p (.mov (.s 52)), none, 0⟩]) (.ops [
  ⟨(some 53), .p (.mov (.s 12)), none, 0⟩,
  ⟨(some 11), .p (.mov (.s 53)), none, 0⟩]))
def c87_2 : ACode := (.seq (.draw [
  ⟨(some 40), .p (.mov (.s 4)), none, 0⟩,
  ⟨(some 41), .p (.mov (.s 0)), none, 0⟩,
  ⟨(some 42), .p (.mov (.s 12)), none, 0⟩,
  ⟨(some 43), .p (.adrSl 3 (.s 41) (.s 42)), none, 0⟩,
  ⟨(some 44), .m (.load (some 3) (.s 43)), none, 0⟩,
  ⟨(some 45), .p (.mov (.s 0)), none, 0⟩,
  ⟨(some 46), .p (.mov (.s 1)), none, 0⟩,
  ⟨(some 47), .p (.adrSl 3 (.s 45) (.s 46)), none, 0⟩,
  ⟨(some 48), .m (.load (some 3) (.s 47)), none, 0⟩,
  ⟨(some 49), .call (.s 40) [(.s 44), (.s 48)], none, 0⟩,
  ⟨(some 50), .p (.bin .lss (.s 49) (.c (.v (.int .i64 0)))), none, 0⟩]) c87_1)
def c87_3 : ACode := (.block 1 (.seq (.ops [
  ⟨(some 34), .p (.mov (.s 10)), none, 0⟩,
  ⟨(some 35), .p (.mov (.s 11)), none, 0⟩,
  ⟨(some 36), .p (.bin .add (.s 34) (.s 35)), none, 0⟩,
  ⟨(some 37), .p (.cint .u64 (.s 36)), none, 0⟩,
  ⟨(some 38), .p (.bin .shr (.s 37) (.c (.v (.int .u64 1)))), none, 0⟩,
  ⟨(some 39), .p (.cint .i64 (.s 38)), none, 0⟩,
  ⟨(some 12), .p (.mov (.s 39)), none, 0⟩]) c87_2))
def c87_4 : ACode := (.seq (.seq (.ops [
  ⟨(some 31), .p (.mov (.s 10)), none, 0⟩,
  ⟨(some 32), .p (.mov (.s 11)), none, 0⟩,
  ⟨(some 33), .p (.bin .lss (.s 31) (.s 32)), none, 0⟩]) c87_0) c87_3)
def c87_5 : ACode := (.cond (.s 58) .skip (.exit 2))
def c87_6 : ACode := (.ops [
  ⟨(some 59), .p (.mov (.s 13)), none, 0⟩,
  ⟨(some 60), .p (.bin .add (.s 59) (.c (.v (.int .i64 1)))), none, 0⟩,
  ⟨(some 13), .p (.mov (.s 60)), none, 0⟩])
def c87_7 : ACode := (.seq (.block 3 (.draw [
  ⟨(some 61), .p (.mov (.s 0)), none, 0⟩,
  ⟨(some 62), .p (.mov (.s 13)), none, 0⟩,
  ⟨(some 63), .p (.mov (.s 0)), none, 0⟩,
  ⟨(some 64), .p (.mov (.s 13)), none, 0⟩,
  ⟨(some 65), .p (.bin .add (.s 64) (.c (.v (.int .i64 1)))), none, 0⟩,
  ⟨(some 66), .p (.mov (.s 0)), none, 0⟩,
  ⟨(some 67), .p (.mov (.s 13)), none, 0⟩,
  ⟨(some 68), .p (.bin .add (.s 67) (.c (.v (.int .i64 1)))), none, 0⟩,
  ⟨(some 69), .p (.adrSl 3 (.s 66) (.s 68)), none, 0⟩,
  ⟨(some 70), .m (.load (some 3) (.s 69)), none, 0⟩,
  ⟨(some 71), .p (.mov (.s 0)), none, 0⟩,
  ⟨(some 72), .p (.mov (.s 13)), none, 0⟩,
  ⟨(some 73), .p (.adrSl 3 (.s 71) (.s 72)), none, 0⟩,
  ⟨(some 74), .m (.load (some 3) (.s 73)), none, 0⟩,
  ⟨(some 75), .p (.adrSl 3 (.s 61) (.s 62)), none, 0⟩,
  ⟨none, .m (.store (some 3) (.s 75) (.s 70)), none, 0⟩,
  ⟨(some 76), .p (.adrSl 3 (.s 63) (.s 65)), none, 0⟩,
  ⟨none, .m (.store (some 3) (.s 76) (.s 74)), none, 0⟩])) c87_6)
def c87_8 : ACode := (.seq (.seq (.ops [
  ⟨(some 55), .p (.mov (.s 13)), none, 0⟩,
  ⟨(some 56), .p (.mov (.s 10)), none, 0⟩,
  ⟨(some 57), .p (.bin .sub (.s 56) (.c (.v (.int .i64 1)))), none, 0⟩,
  ⟨(some 58), .p (.bin .lss (.s 55) (.s 57)), none, 0⟩]) c87_5) c87_7)
def c87_9 : ACode := (.block 2 (.loop c87_8))
def c87_10 : ACode := (.seq (.seq (.ops [
  ⟨(some 54), .p (.mov (.s 1)), none, 0⟩,
  ⟨(some 13), .p (.mov (.s 54)), none, 0⟩]) c87_9) .ret)
def c87_11 : ACode := (.seq (.block 0 (.loop c87_4)) c87_10)
def c87_12 : ACode := (.seq (.ops [
  ⟨(some 30), .p (.mov (.s 3)), none, 0⟩,
  ⟨(some 11), .p (.mov (.s 30)), none, 0⟩]) c87_11)
def c87_13 : ACode := (.cond (.s 28) (.seq (.ops [
  ⟨(some 29), .p (.mov (.s 2)), none, 0⟩,
  ⟨(some 10), .p (.mov (.s 29)), none, 0⟩]) c87_12) .skip)
def c87_14 : ACode := (.cond (.s 85) .skip (.exit 4))
def c87_15 : ACode := (.cond (.s 103) (.ops [
  ⟨(some 104), .p (.mov (.s 16)), none, 0⟩,
  ⟨(some 105), .p (.bin .add (.s 104) (.c (.v (.int .i64 1)))), none, 0⟩,
  ⟨(some 14), .p (.mov (.s 105)), none, 0⟩]) (.ops [
  ⟨(some 106), .p (.mov (.s 16)), none, 0⟩,
  ⟨(some 15), .p (.mov (.s 106)), none, 0⟩]))
def c87_16 : ACode := (.seq (.draw [
  ⟨(some 92), .p (.mov (.s 4)), none, 0⟩,
  ⟨(some 93), .p (.mov (.s 0)), none, 0⟩,
  ⟨(some 94), .p (.mov (.s 2)), none, 0⟩,
  ⟨(some 95), .p (.adrSl 3 (.s 93) (.s 94)), none, 0⟩,
  ⟨(some 96), .m (.load (some 3) (.s 95)), none, 0⟩,
  ⟨(some 97), .p (.mov (.s 0)), none, 0⟩,
  ⟨(some 98), .p (.mov (.s 16)), none, 0⟩,
  ⟨(some 99), .p (.adrSl 3 (.s 97) (.s 98)), none, 0⟩,
  ⟨(some 100), .m (.load (some 3) (.s 99)), none, 0⟩,
  ⟨(some 101), .call (.s 92) [(.s 96), (.s 100)], none, 0⟩,
  ⟨(some 102), .p (.bin .lss (.s 101) (.c (.v (.int .i64 0)))), none, 0⟩,
  ⟨(some 103), .p (.un .not (.s 102)), none, 0⟩]) c87_15)
def c87_17 : ACode := (.block 5 (.seq (.ops [
  ⟨(some 86), .p (.mov (.s 14)), none, 0⟩,
  ⟨(some 87), .p (.mov (.s 15)), none, 0⟩,
  ⟨(some 88), .p (.bin .add (.s 86) (.s 87)), none, 0⟩,
  ⟨(some 89), .p (.cint .u64 (.s 88)), none, 0⟩,
  ⟨(some 90), .p (.bin .shr (.s 89) (.c (.v (.int .u64 1)))), none, 0⟩,
  ⟨(some 91), .p (.cint .i64 (.s 90)), none, 0⟩,
  ⟨(some 16), .p (.mov (.s 91)), none, 0⟩]) c87_16))
def c87_18 : ACode := (.seq (.seq (.ops [
  ⟨(some 83), .p (.mov (.s 14)), none, 0⟩,
  ⟨(some 84), .p (.mov (.s 15)), none, 0⟩,
  ⟨(some 85), .p (.bin .lss (.s 83) (.s 84)), none, 0⟩]) c87_14) c87_17)
def c87_19 : ACode := (.cond (.s 110) .skip (.exit 6))
def c87_20 : ACode := (.ops [
  ⟨(some 111), .p (.mov (.s 17)), none, 0⟩,
  ⟨(some 112), .p (.bin .sub (.s 111) (.c (.v (.int .i64 1)))), none, 0⟩,
  ⟨(some 17), .p (.mov (.s 112)), none, 0⟩])
def c87_21 : ACode := (.seq (.block 7 (.draw [
  ⟨(some 113), .p (.mov (.s 0)), none, 0⟩,
  ⟨(some 114), .p (.mov (.s 17)), none, 0⟩,
  ⟨(some 115), .p (.mov (.s 0)), none, 0⟩,
  ⟨(some 116), .p (.mov (.s 17)), none, 0⟩,
  ⟨(some 117), .p (.bin .sub (.s 116) (.c (.v (.int .i64 1)))), none, 0⟩,
  ⟨(some 118), .p (.mov (.s 0)), none, 0⟩,
  ⟨(some 119), .p (.mov (.s 17)), none, 0⟩,
  ⟨(some 120), .p (.bin .sub (.s 119) (.c (.v (.int .i64 1)))), none, 0⟩,
  ⟨(some 121), .p (.adrSl 3 (.s 118) (.s 120)), none, 0⟩,
  ⟨(some 122), .m (.load (some 3) (.s 121)), none, 0⟩,
  ⟨(some 123), .p (.mov (.s 0)), none, 0⟩,
  ⟨(some 124), .p (.mov (.s 17)), none, 0⟩,
  ⟨(some 125), .p (.adrSl 3 (.s 123) (.s 124)), none, 0⟩,
  ⟨(some 126), .m (.load (some 3) (.s 125)), none, 0⟩,
  ⟨(some 127), .p (.adrSl 3 (.s 113) (.s 114)), none, 0⟩,
  ⟨none, .m (.store (some 3) (.s 127) (.s 122)), none, 0⟩,
  ⟨(some 128), .p (.adrSl 3 (.s 115) (.s 117)), none, 0⟩,
  ⟨none, .m (.store (some 3) (.s 128) (.s 126)), none, 0⟩])) c87_20)
def c87_22 : ACode := (.seq (.seq (.ops [
  ⟨(some 108), .p (.mov (.s 17)), none, 0⟩,
  ⟨(some 109), .p (.mov (.s 14)), none, 0⟩,
  ⟨(some 110), .p (.bin .gtr (.s 108) (.s 109)), none, 0⟩]) c87_19) c87_21)
def c87_23 : ACode := (.block 6 (.loop c87_22))
def c87_24 : ACode := (.seq (.seq (.ops [
  ⟨(some 107), .p (.mov (.s 2)), none, 0⟩,
  ⟨(some 17), .p (.mov (.s 107)), none, 0⟩]) c87_23) .ret)
def c87_25 : ACode := (.seq (.block 4 (.loop c87_18)) c87_24)
def c87_26 : ACode := (.seq (.ops [
  ⟨(some 82), .p (.mov (.s 2)), none, 0⟩,
  ⟨(some 15), .p (.mov (.s 82)), none, 0⟩]) c87_25)
def c87_27 : ACode := (.cond (.s 80) (.seq (.ops [
  ⟨(some 81), .p (.mov (.s 1)), none, 0⟩,
  ⟨(some 14), .p (.mov (.s 81)), none, 0⟩]) c87_26) .skip)
def c87_28 : ACode := (.ops [
  ⟨(some 144), .p (.mov (.s 18)), none, 0⟩,
  ⟨(some 21), .p (.mov (.s 144)), none, 0⟩])
def c87_29 : ACode := (.ops [
  ⟨(some 146), .p (.mov (.s 2)), none, 0⟩,
  ⟨(some 21), .p (.mov (.s 146)), none, 0⟩])
def c87_30 : ACode := (.cond (.s 140) (.seq (.ops [
  ⟨(some 141), .p (.mov (.s 19)), none, 0⟩,
  ⟨(some 142), .p (.mov (.s 3)), none, 0⟩,
  ⟨(some 143), .p (.bin .sub (.s 141) (.s 142)), none, 0⟩,
  ⟨(some 20), .p (.mov (.s 143)), none, 0⟩]) c87_28) (.seq (.ops [
  ⟨(some 145), .p (.mov (.s 1)), none, 0⟩,
  ⟨(some 20), .p (.mov (.s 145)), none, 0⟩]) c87_29))
def c87_31 : ACode := (.cond (.s 151) .skip (.exit 8))
def c87_32 : ACode := (.cond (.s 171) (.ops [
  ⟨(some 172), .p (.mov (.s 23)), none, 0⟩,
  ⟨(some 173), .p (.bin .add (.s 172) (.c (.v (.int .i64 1)))), none, 0⟩,
  ⟨(some 20), .p (.mov (.s 173)), none, 0⟩]) (.ops [
  ⟨(some 174), .p (.mov (.s 23)), none, 0⟩,
  ⟨(some 21), .p (.mov (.s 174)), none, 0⟩]))
def c87_33 : ACode := (.seq (.draw [
  ⟨(some 158), .p (.mov (.s 4)), none, 0⟩,
  ⟨(some 159), .p (.mov (.s 0)), none, 0⟩,
  ⟨(some 160), .p (.mov (.s 22)), none, 0⟩,
  ⟨(some 161), .p (.mov (.s 23)), none, 0⟩,
  ⟨(some 162), .p (.bin .sub (.s 160) (.s 161)), none, 0⟩,
  ⟨(some 163), .p (.adrSl 3 (.s 159) (.s 162)), none, 0⟩,
  ⟨(some 164), .m (.load (some 3) (.s 163)), none, 0⟩,
  ⟨(some 165), .p (.mov (.s 0)), none, 0⟩,
  ⟨(some 166), .p (.mov (.s 23)), none, 0⟩,
  ⟨(some 167), .p (.adrSl 3 (.s 165) (.s 166)), none, 0⟩,
  ⟨(some 168), .m (.load (some 3) (.s 167)), none, 0⟩,
  ⟨(some 169), .call (.s 158) [(.s 164), (.s 168)], none, 0⟩,
  ⟨(some 170), .p (.bin .lss (.s 169) (.c (.v (.int .i64 0)))), none, 0⟩,
  ⟨(some 171), .p (.un .not (.s 170)), none, 0⟩]) c87_32)
def c87_34 : ACode := (.block 9 (.seq (.ops [
  ⟨(some 152), .p (.mov (.s 20)), none, 0⟩,
  ⟨(some 153), .p (.mov (.s 21)), none, 0⟩,
  ⟨(some 154), .p (.bin .add (.s 152) (.s 153)), none, 0⟩,
  ⟨(some 155), .p (.cint .u64 (.s 154)), none, 0⟩,
  ⟨(some 156), .p (.bin .shr (.s 155) (.c (.v (.int .u64 1)))), none, 0⟩,
  ⟨(some 157), .p (.cint .i64 (.s 156)), none, 0⟩,
  ⟨(some 23), .p (.mov (.s 157)), none, 0⟩]) c87_33))
def c87_35 : ACode := (.seq (.seq (.ops [
  ⟨(some 149), .p (.mov (.s 20)), none, 0⟩,
  ⟨(some 150), .p (.mov (.s 21)), none, 0⟩,
  ⟨(some 151), .p (.bin .lss (.s 149) (.s 150)), none, 0⟩]) c87_31) c87_34)
def c87_36 : ACode := (.cond (.s 185) (.ops [
  ⟨(some 186), .p (.mov (.s 0)), none, 0⟩,
  ⟨(some 187), .p (.mov (.s 20)), none, 0⟩,
  ⟨(some 188), .p (.mov (.s 2)), none, 0⟩,
  ⟨(some 189), .p (.mov (.s 24)), none, 0⟩,
  ⟨(some 190), .p (.mov (.s 4)), none, 0⟩,
  ⟨(some 191), .call (.c (.fn 95 [])) [(.s 186), (.s 187), (.s 188), (.s 189), (.s 190)], none, 31⟩]) .skip)
def c87_37 : ACode := (.cond (.s 199) (.ops [
  ⟨(some 200), .p (.mov (.s 0)), none, 0⟩,
  ⟨(some 201), .p (.mov (.s 1)), none, 0⟩,
  ⟨(some 202), .p (.mov (.s 20)), none, 0⟩,
  ⟨(some 203), .p (.mov (.s 18)), none, 0⟩,
  ⟨(some 204), .p (.mov (.s 4)), none, 0⟩,
  ⟨(some 205), .call (.c (.fn 87 [])) [(.s 200), (.s 201), (.s 202), (.s 203), (.s 204)], none, 31⟩]) .skip)
def c87_38 : ACode := (.cond (.s 213) (.ops [
  ⟨(some 214), .p (.mov (.s 0)), none, 0⟩,
  ⟨(some 215), .p (.mov (.s 18)), none, 0⟩,
  ⟨(some 216), .p (.mov (.s 24)), none, 0⟩,
  ⟨(some 217), .p (.mov (.s 3)), none, 0⟩,
  ⟨(some 218), .p (.mov (.s 4)), none, 0⟩,
  ⟨(some 219), .call (.c (.fn 87 [])) [(.s 214), (.s 215), (.s 216), (.s 217), (.s 218)], none, 31⟩]) .skip)
def c87_39 : ACode := (.seq (.ops [
  ⟨(some 206), .p (.mov (.s 18)), none, 0⟩,
  ⟨(some 207), .p (.mov (.s 24)), none, 0⟩,
  ⟨(some 208), .p (.bin .lss (.s 206) (.s 207)), none, 0⟩,
  ⟨(some 209), .p (.mov (.s 208)), none, 0⟩,
  ⟨(some 210), .p (.mov (.s 24)), (some (209, true)), 0⟩,
  ⟨(some 211), .p (.mov (.s 3)), (some (209, true)), 0⟩,
  ⟨(some 212), .p (.bin .lss (.s 210) (.s 211)), (some (209, true)), 0⟩,
  ⟨(some 213), .p (.pick (.s 209) (.s 212) (.c (.v (.bool false)))), none, 0⟩]) c87_38)
def c87_40 : ACode := (.seq (.seq (.ops [
  ⟨(some 192), .p (.mov (.s 1)), none, 0⟩,
  ⟨(some 193), .p (.mov (.s 20)), none, 0⟩,
  ⟨(some 194), .p (.bin .lss (.s 192) (.s 193)), none, 0⟩,
  ⟨(some 195), .p (.mov (.s 194)), none, 0⟩,
  ⟨(some 196), .p (.mov (.s 20)), (some (195, true)), 0⟩,
  ⟨(some 197), .p (.mov (.s 18)), (some (195, true)), 0⟩,
  ⟨(some 198), .p (.bin .lss (.s 196) (.s 197)), (some (195, true)), 0⟩,
  ⟨(some 199), .p (.pick (.s 195) (.s 198) (.c (.v (.bool false)))), none, 0⟩]) c87_37) c87_39)
def c87_41 : ACode := (.seq (.seq (.ops [
  ⟨(some 178), .p (.mov (.s 20)), none, 0⟩,
  ⟨(some 179), .p (.mov (.s 2)), none, 0⟩,
  ⟨(some 180), .p (.bin .lss (.s 178) (.s 179)), none, 0⟩,
  ⟨(some 181), .p (.mov (.s 180)), none, 0⟩,
  ⟨(some 182), .p (.mov (.s 2)), (some (181, true)), 0⟩,
  ⟨(some 183), .p (.mov (.s 24)), (some (181, true)), 0⟩,
  ⟨(some 184), .p (.bin .lss (.s 182) (.s 183)), (some (181, true)), 0⟩,
  ⟨(some 185), .p (.pick (.s 181) (.s 184) (.c (.v (.bool false)))), none, 0⟩]) c87_36) c87_40)
def c87_42 : ACode := (.seq (.ops [
  ⟨(some 175), .p (.mov (.s 19)), none, 0⟩,
  ⟨(some 176), .p (.mov (.s 20)), none, 0⟩,
  ⟨(some 177), .p (.bin .sub (.s 175) (.s 176)), none, 0⟩,
  ⟨(some 24), .p (.mov (.s 177)), none, 0⟩]) c87_41)
def c87_43 : ACode := (.seq (.block 8 (.loop c87_35)) c87_42)
def c87_44 : ACode := (.seq (.ops [
  ⟨(some 147), .p (.mov (.s 19)), none, 0⟩,
  ⟨(some 148), .p (.bin .sub (.s 147) (.c (.v (.int .i64 1)))), none, 0⟩,
  ⟨(some 22), .p (.mov (.s 148)), none, 0⟩]) c87_43)
def c87_45 : ACode := (.seq (.seq (.ops [
  ⟨(some 138), .p (.mov (.s 2)), none, 0⟩,
  ⟨(some 139), .p (.mov (.s 18)), none, 0⟩,
  ⟨(some 140), .p (.bin .gtr (.s 138) (.s 139)), none, 0⟩]) c87_30) c87_44)
def c87_46 : ACode := (.seq (.ops [
  ⟨(some 20), .p (.mov (.c (.v (.int .i64 0)))), none, 0⟩,
  ⟨(some 21), .p (.mov (.c (.v (.int .i64 0)))), none, 0⟩]) c87_45)
def c87_47 : ACode := (.seq (.ops [
  ⟨(some 135), .p (.mov (.s 18)), none, 0⟩,
  ⟨(some 136), .p (.mov (.s 2)), none, 0⟩,
  ⟨(some 137), .p (.bin .add (.s 135) (.s 136)), none, 0⟩,
  ⟨(some 19), .p (.mov (.s 137)), none, 0⟩]) c87_46)
def c87_48 : ACode := (.seq (.ops [
  ⟨(some 129), .p (.mov (.s 1)), none, 0⟩,
  ⟨(some 130), .p (.mov (.s 3)), none, 0⟩,
  ⟨(some 131), .p (.bin .add (.s 129) (.s 130)), none, 0⟩,
  ⟨(some 132), .p (.cint .u64 (.s 131)), none, 0⟩,
  ⟨(some 133), .p (.bin .shr (.s 132) (.c (.v (.int .u64 1)))), none, 0⟩,
  ⟨(some 134), .p (.cint .i64 (.s 133)), none, 0⟩,
  ⟨(some 18), .p (.mov (.s 134)), none, 0⟩]) c87_47)
def c87_49 : ACode := (.seq (.seq (.ops [
  ⟨(some 77), .p (.mov (.s 3)), none, 0⟩,
  ⟨(some 78), .p (.mov (.s 2)), none, 0⟩,
  ⟨(some 79), .p (.bin .sub (.s 77) (.s 78)), none, 0⟩,
  ⟨(some 80), .p (.bin .eql (.s 79) (.c (.v (.int .i64 1)))), none, 0⟩]) c87_27) c87_48)
def c87 : ACode := (.seq (.seq (.ops [
  ⟨(some 25), .p (.mov (.s 2)), none, 0⟩,
  ⟨(some 26), .p (.mov (.s 1)), none, 0⟩,
  ⟨(some 27), .p (.bin .sub (.s 25) (.s 26)), none, 0⟩,
  ⟨(some 28), .p (.bin .eql (.s 27) (.c (.v (.int .i64 1)))), none, 0⟩]) c87_13) c87_49)
theorem t87 : trC Try.prog Try.f87.ntmps (bodyOf Try.f87) = some c87 := by kernel_rfl
theorem r87 : Try.f87.results.toList.mapM (trR Try.prog) = some [] := by kernel_rfl
def i87 : FI := ⟨220, c87, []⟩
theorem k87 : Knows Try.prog 87 i87 := ⟨Try.f87, bodyOf Try.f87, Try.func87, by kernel_rfl, by kernel_rfl, t87, r87, by kernel_rfl⟩
-- 88 cmp.isNaN[int] []
def c88_0 : ACode := (.seq (.ops [
  ⟨(some 3), .p (.mov (.s 0)), none, 0⟩,
  ⟨(some 4), .p (.mov (.s 0)), none, 0⟩,
  ⟨(some 5), .p (.bin .neq (.s 3) (.s 4)), none, 0⟩,
  ⟨(some 2), .p (.mov (.s 5)), none, 0⟩]) .ret)
def c88 : ACode := (.seq (.ops [
  ⟨(some 2), .p (.mov (.c (.v (.bool false)))), none, 0⟩]) c88_0)
theorem t88 : trC Try.prog Try.f88.ntmps (bodyOf Try.f88) = some c88 := by kernel_rfl
theorem r88 : Try.f88.results.toList.mapM (trR Try.prog) = some [.tmp 2] := by kernel_rfl
def i88 : FI := ⟨6, c88, [.tmp 2]⟩
theorem k88 : Knows Try.prog 88 i88 := ⟨Try.f88, bodyOf Try.f88, Try.func88, by kernel_rfl, by kernel_rfl, t88, r88, by kernel_rfl⟩
-- 89 (*drover/nums.Reader).take []
def c89_0 : ACode := (.seq (.ops [
  ⟨(some 6), .p (.mov (.c (.v (.string ⟨#[]⟩)))), none, 0⟩]) .ret)
def c89_1 : ACode := (.cond (.s 24) (.seq (.ops [
  ⟨(some 32), .p (.mov (.s 0)), none, 0⟩,
  ⟨(some 33), .p (.nilCheck (.s 32)), none, 0⟩,
  ⟨(some 34), .p (.fieldAddr 1 none (.s 33)), none, 0⟩,
  ⟨none, .m (.store none (.s 34) (.c (.v (.int .i64 10)))), none, 0⟩]) c89_0) .skip)
def c89_2 : ACode := (.cond (.s 18) (.seq (.ops [
  ⟨(some 21), .p (.mov (.s 0)), none, 0⟩,
  ⟨(some 22), .p (.nilCheck (.s 21)), none, 0⟩,
  ⟨(some 23), .p (.fieldAddr 1 none (.s 22)), none, 0⟩,
  ⟨none, .m (.store none (.s 23) (.c (.v (.int .i64 1)))), none, 0⟩]) c89_0) (.seq (.ops [
  ⟨(some 25), .p (.mov (.s 0)), none, 0⟩,
  ⟨(some 26), .p (.nilCheck (.s 25)), none, 0⟩,
  ⟨(some 27), .p (.fieldAddr 0 none (.s 26)), none, 0⟩,
  ⟨(some 28), .m (.load none (.s 27)), none, 0⟩,
  ⟨(some 29), .p (.len true (.s 28)), none, 0⟩,
  ⟨(some 30), .p (.mov (.s 1)), none, 0⟩,
  ⟨(some 31), .p (.bin .lss (.s 29) (.s 30)), none, 0⟩,
  ⟨(some 24), .p (.mov (.s 31)), none, 0⟩]) c89_1))
def c89_3 : ACode := (.cond (.s 8) (.seq (.ops [
  ⟨(some 6), .p (.mov (.c (.v (.string ⟨#[]⟩)))), none, 0⟩]) .ret) (.seq (.ops [
  ⟨(some 19), .p (.mov (.s 2)), none, 0⟩,
  ⟨(some 20), .p (.un .not (.s 19)), none, 0⟩,
  ⟨(some 18), .p (.mov (.s 20)), none, 0⟩]) c89_2))
def c89_4 : ACode := (.seq (.ops [
  ⟨(some 50), .p (.mov (.s 7)), none, 0⟩,
  ⟨(some 6), .p (.mov (.s 50)), none, 0⟩]) .ret)
def c89_5 : ACode := (.seq (.ops [
  ⟨(some 41), .p (.mov (.s 0)), none, 0⟩,
  ⟨(some 42), .p (.mov (.s 0)), none, 0⟩,
  ⟨(some 43), .p (.nilCheck (.s 42)), none, 0⟩,
  ⟨(some 44), .p (.fieldAddr 0 none (.s 43)), none, 0⟩,
  ⟨(some 45), .m (.load none (.s 44)), none, 0⟩,
  ⟨(some 46), .p (.mov (.s 1)), none, 0⟩,
  ⟨(some 47), .p (.slStr (.s 45) (some (.s 46)) none), none, 0⟩,
  ⟨(some 48), .p (.nilCheck (.s 41)), none, 0⟩,
  ⟨(some 49), .p (.fieldAddr 0 none (.s 48)), none, 0⟩,
  ⟨none, .m (.store none (.s 49) (.s 47)), none, 0⟩]) c89_4)
def c89_6 : ACode := (.seq (.ops [
  ⟨(some 35), .p (.mov (.s 0)), none, 0⟩,
  ⟨(some 36), .p (.nilCheck (.s 35)), none, 0⟩,
  ⟨(some 37), .p (.fieldAddr 0 none (.s 36)), none, 0⟩,
  ⟨(some 38), .m (.load none (.s 37)), none, 0⟩,
  ⟨(some 39), .p (.mov (.s 1)), none, 0⟩,
  ⟨(some 40), .p (.slStr (.s 38) none (some (.s 39))), none, 0⟩,
  ⟨(some 7), .p (.mov (.s 40)), none, 0⟩]) c89_5)
def c89_7 : ACode := (.seq (.block 0 (.seq (.ops [
  ⟨(some 9), .p (.mov (.s 0)), none, 0⟩,
  ⟨(some 10), .p (.eqn false (.pointer 121) (.s 9)), none, 0⟩,
  ⟨(some 11), .p (.mov (.s 10)), none, 0⟩,
  ⟨(some 12), .p (.mov (.s 0)), (some (11, false)), 0⟩,
  ⟨(some 13), .p (.nilCheck (.s 12)), (some (11, false)), 0⟩,
  ⟨(some 14), .p (.fieldAddr 1 none (.s 13)), (some (11, false)), 0⟩,
  ⟨(some 15), .m (.load none (.s 14)), (some (11, false)), 0⟩,
  ⟨(some 16), .p (.bin .neq (.s 15) (.c (.v (.int .i64 0)))), (some (11, false)), 0⟩,
  ⟨(some 17), .p (.pick (.s 11) (.c (.v (.bool true))) (.s 16)), none, 0⟩,
  ⟨(some 8), .p (.mov (.s 17)), none, 0⟩]) c89_3)) c89_6)
def c89 : ACode := (.seq (.ops [
  ⟨(some 6), .p (.mov (.c (.v (.string ⟨#[]⟩)))), none, 0⟩]) c89_7)
theorem t89 : trC Try.prog Try.f89.ntmps (bodyOf Try.f89) = some c89 := by kernel_rfl
theorem r89 : Try.f89.results.toList.mapM (trR Try.prog) = some [.tmp 6] := by kernel_rfl
def i89 : FI := ⟨51, c89, [.tmp 6]⟩
theorem k89 : Knows Try.prog 89 i89 := ⟨Try.f89, bodyOf Try.f89, Try.func89, by kernel_rfl, by kernel_rfl, t89, r89, by kernel_rfl⟩
-- 90 drover/sum.folded []
def c90_0 : ACode := (.cond (.s 5) .skip (.exit 0))
def c90_1 : ACode := (.block 1 (.ops [
  ⟨(some 6), .p (.mov (.s 0)), none, 0⟩,
  ⟨(some 7), .p (.bin .and (.s 6) (.c (.v (.int .u64 65535)))), none, 0⟩,
  ⟨(some 8), .p (.mov (.s 0)), none, 0⟩,
  ⟨(some 9), .p (.bin .shr (.s 8) (.c (.v (.int .u64 16)))), none, 0⟩,
  ⟨(some 10), .p (.bin .add (.s 7) (.s 9)), none, 0⟩,
  ⟨(some 0), .p (.mov (.s 10)), none, 0⟩]))
def c90_2 : ACode := (.seq (.seq (.ops [
  ⟨(some 3), .p (.mov (.s 0)), none, 0⟩,
  ⟨(some 4), .p (.bin .shr (.s 3) (.c (.v (.int .u64 16)))), none, 0⟩,
  ⟨(some 5), .p (.bin .gtr (.s 4) (.c (.v (.int .u64 0)))), none, 0⟩]) c90_0) c90_1)
def c90_3 : ACode := (.seq (.ops [
  ⟨(some 11), .p (.mov (.s 0)), none, 0⟩,
  ⟨(some 12), .p (.cint .u16 (.s 11)), none, 0⟩,
  ⟨(some 2), .p (.mov (.s 12)), none, 0⟩]) .ret)
def c90_4 : ACode := (.seq (.block 0 (.loop c90_2)) c90_3)
def c90 : ACode := (.seq (.ops [
  ⟨(some 2), .p (.mov (.c (.v (.int .u16 0)))), none, 0⟩]) c90_4)
theorem t90 : trC Try.prog Try.f90.ntmps (bodyOf Try.f90) = some c90 := by kernel_rfl
theorem r90 : Try.f90.results.toList.mapM (trR Try.prog) = some [.tmp 2] := by kernel_rfl
def i90 : FI := ⟨13, c90, [.tmp 2]⟩
theorem k90 : Knows Try.prog 90 i90 := ⟨Try.f90, bodyOf Try.f90, Try.func90, by kernel_rfl, by kernel_rfl, t90, r90, by kernel_rfl⟩
-- 91 math/bits.Mul32 []
def c91_0 : ACode := (.seq (.ops [
  ⟨(some 12), .p (.mov (.s 6)), none, 0⟩,
  ⟨(some 13), .p (.bin .shr (.s 12) (.c (.v (.int .u64 32)))), none, 0⟩,
  ⟨(some 14), .p (.cint .u32 (.s 13)), none, 0⟩,
  ⟨(some 15), .p (.mov (.s 6)), none, 0⟩,
  ⟨(some 16), .p (.cint .u32 (.s 15)), none, 0⟩,
  ⟨(some 4), .p (.mov (.s 14)), none, 0⟩,
  ⟨(some 5), .p (.mov (.s 16)), none, 0⟩]) .ret)
def c91_1 : ACode := (.seq (.ops [
  ⟨(some 7), .p (.mov (.s 0)), none, 0⟩,
  ⟨(some 8), .p (.cint .u64 (.s 7)), none, 0⟩,
  ⟨(some 9), .p (.mov (.s 1)), none, 0⟩,
  ⟨(some 10), .p (.cint .u64 (.s 9)), none, 0⟩,
  ⟨(some 11), .p (.bin .mul (.s 8) (.s 10)), none, 0⟩,
  ⟨(some 6), .p (.mov (.s 11)), none, 0⟩]) c91_0)
def c91 : ACode := (.seq (.ops [
  ⟨(some 4), .p (.mov (.c (.v (.int .u32 0)))), none, 0⟩,
  ⟨(some 5), .p (.mov (.c (.v (.int .u32 0)))), none, 0⟩]) c91_1)
theorem t91 : trC Try.prog Try.f91.ntmps (bodyOf Try.f91) = some c91 := by kernel_rfl
theorem r91 : Try.f91.results.toList.mapM (trR Try.prog) = some [.tmp 4, .tmp 5] := by kernel_rfl
def i91 : FI := ⟨17, c91, [.tmp 4, .tmp 5]⟩
theorem k91 : Knows Try.prog 91 i91 := ⟨Try.f91, bodyOf Try.f91, Try.func91, by kernel_rfl, by kernel_rfl, t91, r91, by kernel_rfl⟩
-- 92 math/bits.Mul64 []
def c92_0 : ACode := (.seq (.ops [
  ⟨(some 48), .p (.mov (.s 0)), none, 0⟩,
  ⟨(some 49), .p (.mov (.s 1)), none, 0⟩,
  ⟨(some 50), .p (.bin .mul (.s 48) (.s 49)), none, 0⟩,
  ⟨(some 5), .p (.mov (.s 50)), none, 0⟩]) .ret)
def c92_1 : ACode := (.seq (.ops [
  ⟨(some 40), .p (.mov (.s 7)), none, 0⟩,
  ⟨(some 41), .p (.mov (.s 9)), none, 0⟩,
  ⟨(some 42), .p (.bin .mul (.s 40) (.s 41)), none, 0⟩,
  ⟨(some 43), .p (.mov (.s 13)), none, 0⟩,
  ⟨(some 44), .p (.bin .add (.s 42) (.s 43)), none, 0⟩,
  ⟨(some 45), .p (.mov (.s 12)), none, 0⟩,
  ⟨(some 46), .p (.bin .shr (.s 45) (.c (.v (.int .u64 32)))), none, 0⟩,
  ⟨(some 47), .p (.bin .add (.s 44) (.s 46)), none, 0⟩,
  ⟨(some 4), .p (.mov (.s 47)), none, 0⟩]) c92_0)
def c92_2 : ACode := (.seq (.ops [
  ⟨(some 35), .p (.mov (.s 12)), none, 0⟩,
  ⟨(some 36), .p (.mov (.s 6)), none, 0⟩,
  ⟨(some 37), .p (.mov (.s 9)), none, 0⟩,
  ⟨(some 38), .p (.bin .mul (.s 36) (.s 37)), none, 0⟩,
  ⟨(some 39), .p (.bin .add (.s 35) (.s 38)), none, 0⟩,
  ⟨(some 12), .p (.mov (.s 39)), none, 0⟩]) c92_1)
def c92_3 : ACode := (.seq (.ops [
  ⟨(some 33), .p (.mov (.s 11)), none, 0⟩,
  ⟨(some 34), .p (.bin .shr (.s 33) (.c (.v (.int .u64 32)))), none, 0⟩,
  ⟨(some 13), .p (.mov (.s 34)), none, 0⟩]) c92_2)
def c92_4 : ACode := (.seq (.ops [
  ⟨(some 31), .p (.mov (.s 11)), none, 0⟩,
  ⟨(some 32), .p (.bin .and (.s 31) (.c (.v (.int .u64 4294967295)))), none, 0⟩,
  ⟨(some 12), .p (.mov (.s 32)), none, 0⟩]) c92_3)
def c92_5 : ACode := (.seq (.ops [
  ⟨(some 25), .p (.mov (.s 7)), none, 0⟩,
  ⟨(some 26), .p (.mov (.s 8)), none, 0⟩,
  ⟨(some 27), .p (.bin .mul (.s 25) (.s 26)), none, 0⟩,
  ⟨(some 28), .p (.mov (.s 10)), none, 0⟩,
  ⟨(some 29), .p (.bin .shr (.s 28) (.c (.v (.int .u64 32)))), none, 0⟩,
  ⟨(some 30), .p (.bin .add (.s 27) (.s 29)), none, 0⟩,
  ⟨(some 11), .p (.mov (.s 30)), none, 0⟩]) c92_4)
def c92_6 : ACode := (.seq (.ops [
  ⟨(some 22), .p (.mov (.s 6)), none, 0⟩,
  ⟨(some 23), .p (.mov (.s 8)), none, 0⟩,
  ⟨(some 24), .p (.bin .mul (.s 22) (.s 23)), none, 0⟩,
  ⟨(some 10), .p (.mov (.s 24)), none, 0⟩]) c92_5)
def c92_7 : ACode := (.seq (.ops [
  ⟨(some 20), .p (.mov (.s 1)), none, 0⟩,
  ⟨(some 21), .p (.bin .shr (.s 20) (.c (.v (.int .u64 32)))), none, 0⟩,
  ⟨(some 9), .p (.mov (.s 21)), none, 0⟩]) c92_6)
def c92_8 : ACode := (.seq (.ops [
  ⟨(some 18), .p (.mov (.s 1)), none, 0⟩,
  ⟨(some 19), .p (.bin .and (.s 18) (.c (.v (.int .u64 4294967295)))), none, 0⟩,
  ⟨(some 8), .p (.mov (.s 19)), none, 0⟩]) c92_7)
def c92_9 : ACode := (.seq (.ops [
  ⟨(some 16), .p (.mov (.s 0)), none, 0⟩,
  ⟨(some 17), .p (.bin .shr (.s 16) (.c (.v (.int .u64 32)))), none, 0⟩,
  ⟨(some 7), .p (.mov (.s 17)), none, 0⟩]) c92_8)
def c92_10 : ACode := (.seq (.ops [
  ⟨(some 14), .p (.mov (.s 0)), none, 0⟩,
  ⟨(some 15), .p (.bin .and (.s 14) (.c (.v (.int .u64 4294967295)))), none, 0⟩,
  ⟨(some 6), .p (.mov (.s 15)), none, 0⟩]) c92_9)
def c92 : ACode := (.seq (.ops [
  ⟨(some 4), .p (.mov (.c (.v (.int .u64 0)))), none, 0⟩,
  ⟨(some 5), .p (.mov (.c (.v (.int .u64 0)))), none, 0⟩]) c92_10)
theorem t92 : trC Try.prog Try.f92.ntmps (bodyOf Try.f92) = some c92 := by kernel_rfl
theorem r92 : Try.f92.results.toList.mapM (trR Try.prog) = some [.tmp 4, .tmp 5] := by kernel_rfl
def i92 : FI := ⟨51, c92, [.tmp 4, .tmp 5]⟩
theorem k92 : Knows Try.prog 92 i92 := ⟨Try.f92, bodyOf Try.f92, Try.func92, by kernel_rfl, by kernel_rfl, t92, r92, by kernel_rfl⟩
-- 93 internal/stringslite.HasPrefix []
def c93_0 : ACode := (.seq (.ops [
  ⟨(some 5), .p (.mov (.s 0)), none, 0⟩,
  ⟨(some 6), .p (.len true (.s 5)), none, 0⟩,
  ⟨(some 7), .p (.mov (.s 1)), none, 0⟩,
  ⟨(some 8), .p (.len true (.s 7)), none, 0⟩,
  ⟨(some 9), .p (.bin .geq (.s 6) (.s 8)), none, 0⟩,
  ⟨(some 10), .p (.mov (.s 9)), none, 0⟩,
  ⟨(some 11), .p (.mov (.s 0)), (some (10, true)), 0⟩,
  ⟨(some 12), .p (.mov (.s 1)), (some (10, true)), 0⟩,
  ⟨(some 13), .p (.len true (.s 12)), (some (10, true)), 0⟩,
  ⟨(some 14), .p (.slStr (.s 11) none (some (.s 13))), (some (10, true)), 0⟩,
  ⟨(some 15), .p (.mov (.s 1)), (some (10, true)), 0⟩,
  ⟨(some 16), .p (.bin .eql (.s 14) (.s 15)), (some (10, true)), 0⟩,
  ⟨(some 17), .p (.pick (.s 10) (.s 16) (.c (.v (.bool false)))), none, 0⟩,
  ⟨(some 4), .p (.mov (.s 17)), none, 0⟩]) .ret)
def c93 : ACode := (.seq (.ops [
  ⟨(some 4), .p (.mov (.c (.v (.bool false)))), none, 0⟩]) c93_0)
theorem t93 : trC Try.prog Try.f93.ntmps (bodyOf Try.f93) = some c93 := by kernel_rfl
theorem r93 : Try.f93.results.toList.mapM (trR Try.prog) = some [.tmp 4] := by kernel_rfl
def i93 : FI := ⟨18, c93, [.tmp 4]⟩
theorem k93 : Knows Try.prog 93 i93 := ⟨Try.f93, bodyOf Try.f93, Try.func93, by kernel_rfl, by kernel_rfl, t93, r93, by kernel_rfl⟩
-- 94 (*strings.Builder).grow []
def c94_0 : ACode := (.ops [
  ⟨(some 26), .p (.mov (.s 0)), none, 0⟩,
  ⟨(some 27), .p (.mov (.s 4)), none, 0⟩,
  ⟨(some 28), .p (.nilCheck (.s 26)), none, 0⟩,
  ⟨(some 29), .p (.fieldAddr 1 none (.s 28)), none, 0⟩,
  ⟨none, .m (.store none (.s 29) (.s 27)), none, 0⟩])
def c94_1 : ACode := (.seq (.ops [
  ⟨(some 20), .p (.mov (.s 4)), none, 0⟩,
  ⟨(some 21), .p (.mov (.s 0)), none, 0⟩,
  ⟨(some 22), .p (.nilCheck (.s 21)), none, 0⟩,
  ⟨(some 23), .p (.fieldAddr 1 none (.s 22)), none, 0⟩,
  ⟨(some 24), .m (.load none (.s 23)), none, 0⟩,
  ⟨(some 25), .m (.copy 1 (.s 20) (.s 24)), none, 5⟩]) c94_0)
def c94 : ACode := (.seq (.draw [
  ⟨(some 5), .p (.mov (.s 0)), none, 0⟩,
  ⟨(some 6), .p (.nilCheck (.s 5)), none, 0⟩,
  ⟨(some 7), .p (.fieldAddr 1 none (.s 6)), none, 0⟩,
  ⟨(some 8), .m (.load none (.s 7)), none, 0⟩,
  ⟨(some 9), .m (.ext (.capK (.s 8))), none, 5⟩,
  ⟨(some 10), .p (.bin .mul (.c (.v (.int .i64 2))) (.s 9)), none, 0⟩,
  ⟨(some 11), .p (.mov (.s 1)), none, 0⟩,
  ⟨(some 12), .p (.bin .add (.s 10) (.s 11)), none, 0⟩,
  ⟨(some 13), .qcall (.c (.fn 96 [])) [(.s 12)], none, 0⟩,
  ⟨(some 14), .p (.mov (.s 0)), none, 0⟩,
  ⟨(some 15), .p (.nilCheck (.s 14)), none, 0⟩,
  ⟨(some 16), .p (.fieldAddr 1 none (.s 15)), none, 0⟩,
  ⟨(some 17), .m (.load none (.s 16)), none, 0⟩,
  ⟨(some 18), .p (.len false (.s 17)), none, 5⟩,
  ⟨(some 19), .p (.slSl 1 (.s 13) none (some (.s 18)) none), none, 0⟩,
  ⟨(some 4), .p (.mov (.s 19)), none, 0⟩]) c94_1)
theorem t94 : trC Try.prog Try.f94.ntmps (bodyOf Try.f94) = some c94 := by kernel_rfl
theorem r94 : Try.f94.results.toList.mapM (trR Try.prog) = some [] := by kernel_rfl
def i94 : FI := ⟨30, c94, []⟩
theorem k94 : Knows Try.prog 94 i94 := ⟨Try.f94, bodyOf Try.f94, Try.func94, by kernel_rfl, by kernel_rfl, t94, r94, by kernel_rfl⟩
-- 95 slices.rotateCmpFunc[drover/api.Action] []
def c95_0 : ACode := (.cond (.s 20) .skip (.exit 0))
def c95_1 : ACode := (.ops [
  ⟨(some 32), .p (.mov (.s 10)), none, 0⟩,
  ⟨(some 33), .p (.mov (.s 11)), none, 0⟩,
  ⟨(some 34), .p (.bin .sub (.s 32) (.s 33)), none, 0⟩,
  ⟨(some 10), .p (.mov (.s 34)), none, 0⟩])
def c95_2 : ACode := (.ops [
  ⟨(some 47), .p (.mov (.s 11)), none, 0⟩,
  ⟨(some 48), .p (.mov (.s 10)), none, 0⟩,
  ⟨(some 49), .p (.bin .sub (.s 47) (.s 48)), none, 0⟩,
  ⟨(some 11), .p (.mov (.s 49)), none, 0⟩])
def c95_3 : ACode := (.cond (.s 23) (.seq (.ops [
  ⟨(some 24), .p (.mov (.s 0)), none, 0⟩,
  ⟨(some 25), .p (.mov (.s 2)), none, 0⟩,
  ⟨(some 26), .p (.mov (.s 10)), none, 0⟩,
  ⟨(some 27), .p (.bin .sub (.s 25) (.s 26)), none, 0⟩,
  ⟨(some 28), .p (.mov (.s 2)), none, 0⟩,
  ⟨(some 29), .p (.mov (.s 11)), none, 0⟩,
  ⟨(some 30), .p (.mov (.s 4)), none, 0⟩,
  ⟨(some 31), .call (.c (.fn 97 [])) [(.s 24), (.s 27), (.s 28), (.s 29), (.s 30)], none, 31⟩]) c95_1) (.seq (.ops [
  ⟨(some 35), .p (.mov (.s 0)), none, 0⟩,
  ⟨(some 36), .p (.mov (.s 2)), none, 0⟩,
  ⟨(some 37), .p (.mov (.s 10)), none, 0⟩,
  ⟨(some 38), .p (.bin .sub (.s 36) (.s 37)), none, 0⟩,
  ⟨(some 39), .p (.mov (.s 2)), none, 0⟩,
  ⟨(some 40), .p (.mov (.s 11)), none, 0⟩,
  ⟨(some 41), .p (.bin .add (.s 39) (.s 40)), none, 0⟩,
  ⟨(some 42), .p (.mov (.s 10)), none, 0⟩,
  ⟨(some 43), .p (.bin .sub (.s 41) (.s 42)), none, 0⟩,
  ⟨(some 44), .p (.mov (.s 10)), none, 0⟩,
  ⟨(some 45), .p (.mov (.s 4)), none, 0⟩,
  ⟨(some 46), .call (.c (.fn 97 [])) [(.s 35), (.s 38), (.s 43), (.s 44), (.s 45)], none, 31⟩]) c95_2))
def c95_4 : ACode := (.block 1 (.seq (.ops [
  ⟨(some 21), .p (.mov (.s 10)), none, 0⟩,
  ⟨(some 22), .p (.mov (.s 11)), none, 0⟩,
  ⟨(some 23), .p (.bin .gtr (.s 21) (.s 22)), none, 0⟩]) c95_3))
def c95_5 : ACode := (.seq (.seq (.ops [
  ⟨(some 18), .p (.mov (.s 10)), none, 0⟩,
  ⟨(some 19), .p (.mov (.s 11)), none, 0⟩,
  ⟨(some 20), .p (.bin .neq (.s 18) (.s 19)), none, 0⟩]) c95_0) c95_4)
def c95_6 : ACode := (.ops [
  ⟨(some 50), .p (.mov (.s 0)), none, 0⟩,
  ⟨(some 51), .p (.mov (.s 2)), none, 0⟩,
  ⟨(some 52), .p (.mov (.s 10)), none, 0⟩,
  ⟨(some 53), .p (.bin .sub (.s 51) (.s 52)), none, 0⟩,
  ⟨(some 54), .p (.mov (.s 2)), none, 0⟩,
  ⟨(some 55), .p (.mov (.s 10)), none, 0⟩,
  ⟨(some 56), .p (.mov (.s 4)), none, 0⟩,
  ⟨(some 57), .call (.c (.fn 97 [])) [(.s 50), (.s 53), (.s 54), (.s 55), (.s 56)], none, 31⟩])
def c95_7 : ACode := (.seq (.block 0 (.loop c95_5)) c95_6)
def c95_8 : ACode := (.seq (.ops [
  ⟨(some 15), .p (.mov (.s 3)), none, 0⟩,
  ⟨(some 16), .p (.mov (.s 2)), none, 0⟩,
  ⟨(some 17), .p (.bin .sub (.s 15) (.s 16)), none, 0⟩,
  ⟨(some 11), .p (.mov (.s 17)), none, 0⟩]) c95_7)
def c95 : ACode := (.seq (.ops [
  ⟨(some 12), .p (.mov (.s 2)), none, 0⟩,
  ⟨(some 13), .p (.mov (.s 1)), none, 0⟩,
  ⟨(some 14), .p (.bin .sub (.s 12) (.s 13)), none, 0⟩,
  ⟨(some 10), .p (.mov (.s 14)), none, 0⟩]) c95_8)
theorem t95 : trC Try.prog Try.f95.ntmps (bodyOf Try.f95) = some c95 := by kernel_rfl
theorem r95 : Try.f95.results.toList.mapM (trR Try.prog) = some [] := by kernel_rfl
def i95 : FI := ⟨58, c95, []⟩
theorem k95 : Knows Try.prog 95 i95 := ⟨Try.f95, bodyOf Try.f95, Try.func95, by kernel_rfl, by kernel_rfl, t95, r95, by kernel_rfl⟩
-- 97 slices.swapRangeCmpFunc[drover/api.Action] []
def c97_0 : ACode := (.cond (.s 13) .skip (.exit 0))
def c97_1 : ACode := (.ops [
  ⟨(some 14), .p (.mov (.s 10)), none, 0⟩,
  ⟨(some 15), .p (.bin .add (.s 14) (.c (.v (.int .i64 1)))), none, 0⟩,
  ⟨(some 10), .p (.mov (.s 15)), none, 0⟩])
def c97_2 : ACode := (.seq (.block 1 (.draw [
  ⟨(some 16), .p (.mov (.s 0)), none, 0⟩,
  ⟨(some 17), .p (.mov (.s 1)), none, 0⟩,
  ⟨(some 18), .p (.mov (.s 10)), none, 0⟩,
  ⟨(some 19), .p (.bin .add (.s 17) (.s 18)), none, 0⟩,
  ⟨(some 20), .p (.mov (.s 0)), none, 0⟩,
  ⟨(some 21), .p (.mov (.s 2)), none, 0⟩,
  ⟨(some 22), .p (.mov (.s 10)), none, 0⟩,
  ⟨(some 23), .p (.bin .add (.s 21) (.s 22)), none, 0⟩,
  ⟨(some 24), .p (.mov (.s 0)), none, 0⟩,
  ⟨(some 25), .p (.mov (.s 2)), none, 0⟩,
  ⟨(some 26), .p (.mov (.s 10)), none, 0⟩,
  ⟨(some 27), .p (.bin .add (.s 25) (.s 26)), none, 0⟩,
  ⟨(some 28), .p (.adrSl 3 (.s 24) (.s 27)), none, 0⟩,
  ⟨(some 29), .m (.load (some 3) (.s 28)), none, 0⟩,
  ⟨(some 30), .p (.mov (.s 0)), none, 0⟩,
  ⟨(some 31), .p (.mov (.s 1)), none, 0⟩,
  ⟨(some 32), .p (.mov (.s 10)), none, 0⟩,
  ⟨(some 33), .p (.bin .add (.s 31) (.s 32)), none, 0⟩,
  ⟨(some 34), .p (.adrSl 3 (.s 30) (.s 33)), none, 0⟩,
  ⟨(some 35), .m (.load (some 3) (.s 34)), none, 0⟩,
  ⟨(some 36), .p (.adrSl 3 (.s 16) (.s 19)), none, 0⟩,
  ⟨none, .m (.store (some 3) (.s 36) (.s 29)), none, 0⟩,
  ⟨(some 37), .p (.adrSl 3 (.s 20) (.s 23)), none, 0⟩,
  ⟨none, .m (.store (some 3) (.s 37) (.s 35)), none, 0⟩])) c97_1)
def c97_3 : ACode := (.seq (.seq (.ops [
  ⟨(some 11), .p (.mov (.s 10)), none, 0⟩,
  ⟨(some 12), .p (.mov (.s 3)), none, 0⟩,
  ⟨(some 13), .p (.bin .lss (.s 11) (.s 12)), none, 0⟩]) c97_0) c97_2)
def c97_4 : ACode := (.block 0 (.loop c97_3))
def c97 : ACode := (.seq (.ops [
  ⟨(some 10), .p (.mov (.c (.v (.int .i64 0)))), none, 0⟩]) c97_4)
theorem t97 : trC Try.prog Try.f97.ntmps (bodyOf Try.f97) = some c97 := by kernel_rfl
theorem r97 : Try.f97.results.toList.mapM (trR Try.prog) = some [] := by kernel_rfl
def i97 : FI := ⟨38, c97, []⟩
theorem k97 : Knows Try.prog 97 i97 := ⟨Try.f97, bodyOf Try.f97, Try.func97, by kernel_rfl, by kernel_rfl, t97, r97, by kernel_rfl⟩
end Go.Proofs.Act
