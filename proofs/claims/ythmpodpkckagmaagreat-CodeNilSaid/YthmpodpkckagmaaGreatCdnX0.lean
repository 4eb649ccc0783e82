/- A part of the proof of CodeNil: CdnX0. -/
import Derived.Test.YthmpodpkckagmaaGreatProg
import Derived.Test.YthmpodpkckagmaaGreatSvCod
import Derived.KernelRfl
set_option linter.unusedSimpArgs false
set_option linter.constructorNameAsVariable false
namespace Go.Proofs.Cdn
open Go Go.Ab Go.Proofs
set_option linter.unusedVariables false
noncomputable abbrev PG : Program := Tryz.prog
def bodyOf (fn : Func) : Code := fn.body.getD .skip
-- 3 drover/droverlaw23.CodeNil []
def c3_0 : List AOper := [
  ⟨(some 5), .p (.mov (.s 8)), none, 0⟩,
  ⟨(some 9), .p (.extract (.s 5) 0), none, 0⟩,
  ⟨(some 10), .p (.extract (.s 5) 1), none, 0⟩,
  ⟨(some 3), .p (.mov (.s 9)), none, 0⟩,
  ⟨(some 4), .p (.mov (.s 10)), none, 0⟩]
def c3_1 : List AOper := [
  ⟨(some 20), .p (.pick (.s 18) (.s 19) (.c (.v (.bool false)))), none, 0⟩,
  ⟨(some 2), .p (.mov (.s 20)), none, 0⟩]
def c3_2 : ACode := (.seq (.ops (⟨(some 11), .p (.mov (.s 3)), none, 0⟩ ::
  ⟨(some 12), .p (.len false (.s 11)), none, 40⟩ ::
  ⟨(some 13), .p (.bin .eql (.s 12) (.c (.v (.int .i64 0)))), none, 0⟩ ::
  ⟨(some 14), .p (.mov (.s 13)), none, 0⟩ ::
  ⟨(some 15), .p (.mov (.s 4)), (some (14, true)), 0⟩ ::
  ⟨(some 16), .p (.bin .eql (.s 15) (.c (.v (.int .i64 2)))), (some (14, true)), 0⟩ ::
  ⟨(some 17), .p (.pick (.s 14) (.s 16) (.c (.v (.bool false)))), none, 0⟩ ::
  ⟨(some 18), .p (.mov (.s 17)), none, 0⟩ ::
  ⟨(some 19), .call (.c (.fn 5 [])) [], (some (18, true)), 0⟩ :: c3_1)) .ret)
def c3_3 : ACode := (.seq (.ops (⟨(some 6), .p (.build [(.v (.slice none 0 0)), (.v (.slice none 0 0)), (.v (.slice none 0 0))] []), none, 0⟩ ::
  ⟨(some 7), .p (.mov (.s 0)), none, 0⟩ ::
  ⟨(some 8), .call (.c (.fn 4 [])) [(.c (.v (.pointer none))), (.s 6), (.s 7)], none, 67⟩ :: c3_0)) c3_2)
def c3 : ACode := (.seq (.ops [
  ⟨(some 2), .p (.mov (.c (.v (.bool false)))), none, 0⟩]) c3_3)
theorem t3 : trC Tryz.prog Tryz.f3.ntmps (bodyOf Tryz.f3) = some c3 := by kernel_rfl
theorem r3 : Tryz.f3.results.toList.mapM (trR Tryz.prog) = some [.tmp 2] := by kernel_rfl
def i3 : FI := ⟨21, c3, [.tmp 2]⟩
theorem k3 : Knows Tryz.prog 3 i3 := ⟨Tryz.f3, bodyOf Tryz.f3, Tryz.func3, by kernel_rfl, by kernel_rfl, t3, r3, by kernel_rfl⟩
-- 5 drover/droverlaw23.awake []
def c5_0 : List AOper := [
  ⟨(some 7), .p (.mov (.s 12)), none, 0⟩,
  ⟨(some 13), .p (.extract (.s 7) 0), none, 0⟩,
  ⟨(some 14), .p (.extract (.s 7) 1), none, 0⟩,
  ⟨(some 1), .p (.mov (.s 13)), none, 0⟩,
  ⟨(some 2), .p (.mov (.s 14)), none, 0⟩]
def c5_1 : List AOper := [
  ⟨(some 15), .p (.mov (.s 16)), none, 0⟩,
  ⟨(some 17), .p (.extract (.s 15) 0), none, 0⟩,
  ⟨(some 18), .p (.extract (.s 15) 1), none, 0⟩,
  ⟨(some 3), .p (.mov (.s 17)), none, 0⟩,
  ⟨(some 4), .p (.mov (.s 18)), none, 0⟩]
def c5_2 : List AOper := [
  ⟨(some 19), .p (.mov (.s 24)), none, 0⟩,
  ⟨(some 25), .p (.extract (.s 19) 0), none, 0⟩,
  ⟨(some 26), .p (.extract (.s 19) 1), none, 0⟩,
  ⟨(some 5), .p (.mov (.s 25)), none, 0⟩,
  ⟨(some 6), .p (.mov (.s 26)), none, 0⟩]
def c5_3 : ACode := (.seq (.ops [
  ⟨(some 27), .p (.mov (.s 2)), none, 0⟩,
  ⟨(some 28), .p (.un .not (.s 27)), none, 0⟩,
  ⟨(some 29), .p (.mov (.s 28)), none, 0⟩,
  ⟨(some 30), .p (.mov (.s 4)), (some (29, true)), 0⟩,
  ⟨(some 31), .p (.bin .eql (.s 30) (.c (.v (.int .i64 0)))), (some (29, true)), 0⟩,
  ⟨(some 32), .p (.pick (.s 29) (.s 31) (.c (.v (.bool false)))), none, 0⟩,
  ⟨(some 33), .p (.mov (.s 32)), none, 0⟩,
  ⟨(some 34), .p (.mov (.s 6)), (some (33, true)), 0⟩,
  ⟨(some 35), .p (.bin .eql (.s 34) (.c (.v (.int .i64 1)))), (some (33, true)), 0⟩,
  ⟨(some 36), .p (.pick (.s 33) (.s 35) (.c (.v (.bool false)))), none, 0⟩,
  ⟨(some 0), .p (.mov (.s 36)), none, 0⟩]) .ret)
def c5_4 : ACode := (.seq (.ops (⟨(some 20), .p (.mov (.s 3)), none, 0⟩ ::
  ⟨(some 21), .p (.build [(.v (.int .i64 0)), (.v (.int .i64 0)), (.v (.int .i64 0)), (.v (.int .i64 0))] []), none, 0⟩ ::
  ⟨(some 22), .m (.buildSlice 4 1 [(.v (.int .i64 0)), (.v (.int .i64 0)), (.v (.int .i64 0)), (.v (.int .i64 0))] [(0, 4, (.s 21))]), none, 57⟩ ::
  ⟨(some 23), .p (.build [(.v (.slice none 0 0)), (.v (.slice none 0 0)), (.v (.slice none 0 0))] [(2, 1, (.s 22))]), none, 0⟩ ::
  ⟨(some 24), .call (.c (.fn 4 [])) [(.s 20), (.s 23), (.c (.v (.slice none 0 0)))], none, 67⟩ :: c5_2)) c5_3)
def c5_5 : ACode := (.seq (.ops (⟨(some 16), .call (.c (.fn 10 [])) [(.c (.v (.int .i64 1))), (.c (.v (.slice none 0 0)))], none, 0⟩ :: c5_1)) c5_4)
def c5_6 : ACode := (.seq (.ops (⟨(some 8), .p (.build [(.v (.int .i64 0)), (.v (.int .u64 0)), (.v (.int .u64 0))] [(0, 1, (.c (.v (.int .i64 5)))), (1, 1, (.c (.v (.int .u64 1)))), (2, 1, (.c (.v (.int .u64 1))))]), none, 0⟩ ::
  ⟨(some 9), .m (.buildSlice 3 1 [(.v (.int .i64 0)), (.v (.int .u64 0)), (.v (.int .u64 0))] [(0, 3, (.s 8))]), none, 53⟩ ::
  ⟨(some 10), .p (.build [(.v (.int .i64 0)), (.v (.int .u64 0)), (.v (.int .u64 0))] [(0, 1, (.c (.v (.int .i64 5)))), (2, 1, (.c (.v (.int .u64 1))))]), none, 0⟩ ::
  ⟨(some 11), .m (.buildSlice 3 1 [(.v (.int .i64 0)), (.v (.int .u64 0)), (.v (.int .u64 0))] [(0, 3, (.s 10))]), none, 53⟩ ::
  ⟨(some 12), .call (.c (.fn 9 [])) [(.s 9), (.s 11)], none, 53⟩ :: c5_0)) c5_5)
def c5 : ACode := (.seq (.ops [
  ⟨(some 0), .p (.mov (.c (.v (.bool false)))), none, 0⟩]) c5_6)
theorem t5 : trC Tryz.prog Tryz.f5.ntmps (bodyOf Tryz.f5) = some c5 := by kernel_rfl
theorem r5 : Tryz.f5.results.toList.mapM (trR Tryz.prog) = some [.tmp 0] := by kernel_rfl
def i5 : FI := ⟨37, c5, [.tmp 0]⟩
theorem k5 : Knows Tryz.prog 5 i5 := ⟨Tryz.f5, bodyOf Tryz.f5, Tryz.func5, by kernel_rfl, by kernel_rfl, t5, r5, by kernel_rfl⟩
-- 9 drover/code.Meet []
def c9_0 : List AOper := [
  ⟨(some 15), .p (.len false (.s 14)), none, 53⟩,
  ⟨(some 16), .p (.mov (.c (.v (.int .i64 0)))), none, 0⟩]
def c9_1 : List AOper := [
  ⟨(some 20), .p (.mov (.s 24)), none, 0⟩,
  ⟨(some 25), .p (.extract (.s 20) 0), none, 0⟩,
  ⟨(some 26), .p (.extract (.s 20) 1), none, 0⟩,
  ⟨(some 9), .p (.mov (.s 25)), none, 0⟩,
  ⟨(some 10), .p (.mov (.s 26)), none, 0⟩]
def c9_2 : List AOper := [
  ⟨(some 6), .p (.mov (.s 54)), none, 0⟩]
def c9_3 : ACode := (.draw [
  ⟨(some 37), .p (.mov (.s 6)), none, 0⟩,
  ⟨(some 38), .p (.mov (.s 9)), none, 0⟩,
  ⟨(some 39), .p (.adrSl 3 (.s 37) (.s 38)), none, 0⟩,
  ⟨(some 40), .p (.fieldAddr 2 none (.s 39)), none, 0⟩,
  ⟨(some 41), .m (.load none (.s 40)), none, 0⟩,
  ⟨(some 42), .p (.fieldAddr 2 none (.s 8)), none, 0⟩,
  ⟨(some 43), .m (.load none (.s 42)), none, 0⟩,
  ⟨(some 44), .p (.bin .or (.s 41) (.s 43)), none, 0⟩,
  ⟨(some 45), .p (.adrSl 3 (.s 37) (.s 38)), none, 0⟩,
  ⟨(some 46), .p (.fieldAddr 2 none (.s 45)), none, 0⟩,
  ⟨none, .m (.store none (.s 46) (.s 44)), none, 0⟩])
def c9_4 : ACode := (.cond (.s 55) (.seq (.ops [
  ⟨(some 4), .p (.mov (.c (.v (.slice none 0 0)))), none, 0⟩,
  ⟨(some 5), .p (.mov (.c (.v (.bool false)))), none, 0⟩]) .ret) (.seq (.draw [
  ⟨(some 27), .p (.mov (.s 6)), none, 0⟩,
  ⟨(some 28), .p (.mov (.s 9)), none, 0⟩,
  ⟨(some 29), .p (.adrSl 3 (.s 27) (.s 28)), none, 0⟩,
  ⟨(some 30), .p (.fieldAddr 1 none (.s 29)), none, 0⟩,
  ⟨(some 31), .m (.load none (.s 30)), none, 0⟩,
  ⟨(some 32), .p (.fieldAddr 1 none (.s 8)), none, 0⟩,
  ⟨(some 33), .m (.load none (.s 32)), none, 0⟩,
  ⟨(some 34), .p (.bin .or (.s 31) (.s 33)), none, 0⟩,
  ⟨(some 35), .p (.adrSl 3 (.s 27) (.s 28)), none, 0⟩,
  ⟨(some 36), .p (.fieldAddr 1 none (.s 35)), none, 0⟩,
  ⟨none, .m (.store none (.s 36) (.s 34)), none, 0⟩]) c9_3))
def c9_5 : ACode := (.cond (.s 47) (.ops (⟨(some 50), .p (.mov (.s 6)), none, 0⟩ ::
  ⟨(some 51), .p (.mov (.s 9)), none, 0⟩ ::
  ⟨(some 52), .m (.load (some 3) (.s 8)), none, 0⟩ ::
  ⟨(some 53), .m (.buildSlice 3 1 [(.v (.int .i64 0)), (.v (.int .u64 0)), (.v (.int .u64 0))] [(0, 3, (.s 52))]), none, 53⟩ ::
  ⟨(some 54), .call (.c (.fn 23 [])) [(.s 50), (.s 51), (.s 53)], none, 53⟩ :: c9_2)) (.seq (.draw [
  ⟨(some 56), .p (.mov (.s 6)), none, 0⟩,
  ⟨(some 57), .p (.mov (.s 9)), none, 0⟩,
  ⟨(some 58), .p (.adrSl 3 (.s 56) (.s 57)), none, 0⟩,
  ⟨(some 59), .p (.fieldAddr 1 none (.s 58)), none, 0⟩,
  ⟨(some 60), .m (.load none (.s 59)), none, 0⟩,
  ⟨(some 61), .p (.fieldAddr 1 none (.s 8)), none, 0⟩,
  ⟨(some 62), .m (.load none (.s 61)), none, 0⟩,
  ⟨(some 63), .p (.bin .xor (.s 60) (.s 62)), none, 0⟩,
  ⟨(some 64), .p (.mov (.s 6)), none, 0⟩,
  ⟨(some 65), .p (.mov (.s 9)), none, 0⟩,
  ⟨(some 66), .p (.adrSl 3 (.s 64) (.s 65)), none, 0⟩,
  ⟨(some 67), .p (.fieldAddr 2 none (.s 66)), none, 0⟩,
  ⟨(some 68), .m (.load none (.s 67)), none, 0⟩,
  ⟨(some 69), .p (.bin .and (.s 63) (.s 68)), none, 0⟩,
  ⟨(some 70), .p (.fieldAddr 2 none (.s 8)), none, 0⟩,
  ⟨(some 71), .m (.load none (.s 70)), none, 0⟩,
  ⟨(some 72), .p (.bin .and (.s 69) (.s 71)), none, 0⟩,
  ⟨(some 73), .p (.bin .neq (.s 72) (.c (.v (.int .u64 0)))), none, 0⟩,
  ⟨(some 55), .p (.mov (.s 73)), none, 0⟩]) c9_4))
def c9_6 : ACode := (.block 2 (.seq (.ops [
  ⟨(some 48), .p (.mov (.s 10)), none, 0⟩,
  ⟨(some 49), .p (.un .not (.s 48)), none, 0⟩,
  ⟨(some 47), .p (.mov (.s 49)), none, 0⟩]) c9_5))
def c9_7 : ACode := (.seq (.ops (⟨(some 21), .p (.mov (.s 6)), none, 0⟩ ::
  ⟨(some 22), .p (.fieldAddr 0 none (.s 8)), none, 0⟩ ::
  ⟨(some 23), .m (.load none (.s 22)), none, 0⟩ ::
  ⟨(some 24), .call (.c (.fn 20 [])) [(.s 21), (.s 23), (.c (.fn 21 []))], none, 53⟩ :: c9_1)) c9_6)
def c9_8 : ACode := (.ops [
  ⟨(some 74), .p (.bin .add (.s 16) (.c (.v (.int .i64 1)))), none, 0⟩,
  ⟨(some 16), .p (.mov (.s 74)), none, 0⟩])
def c9_9 : ACode := (.seq (.block 1 (.seq (.ops [
  ⟨(some 18), .p (.adrSl 3 (.s 14) (.s 16)), none, 0⟩,
  ⟨(some 19), .m (.load (some 3) (.s 18)), none, 0⟩,
  ⟨(some 8), .m (.alloc [(.v (.int .i64 0)), (.v (.int .u64 0)), (.v (.int .u64 0))]), none, 0⟩,
  ⟨none, .m (.store (some 3) (.s 8) (.s 19)), none, 0⟩]) c9_7)) c9_8)
def c9_10 : ACode := (.seq (.cond (.s 17) .skip (.exit 0)) c9_9)
def c9_11 : ACode := (.seq (.ops [
  ⟨(some 17), .p (.bin .lss (.s 16) (.s 15)), none, 0⟩]) c9_10)
def c9_12 : ACode := (.block 0 (.loop c9_11))
def c9_13 : ACode := (.seq (.ops [
  ⟨(some 75), .p (.mov (.s 6)), none, 0⟩,
  ⟨(some 4), .p (.mov (.s 75)), none, 0⟩,
  ⟨(some 5), .p (.mov (.c (.v (.bool true)))), none, 0⟩]) .ret)
def c9_14 : ACode := (.seq (.seq (.ops (⟨(some 11), .p (.mov (.s 0)), none, 0⟩ ::
  ⟨(some 12), .p (.mov (.s 1)), none, 0⟩ ::
  ⟨(some 13), .m (.buildSlice 1 2 [(.v (.slice none 0 0)), (.v (.slice none 0 0))] [(0, 1, (.s 11)), (1, 1, (.s 12))]), none, 48⟩ ::
  ⟨(some 14), .call (.c (.fn 19 [])) [(.s 13)], none, 48⟩ :: c9_0)) c9_12) c9_13)
def c9_15 : ACode := (.seq (.ops [
  ⟨(some 6), .p (.mov (.c (.v (.slice none 0 0)))), none, 0⟩]) c9_14)
def c9 : ACode := (.seq (.ops [
  ⟨(some 4), .p (.mov (.c (.v (.slice none 0 0)))), none, 0⟩,
  ⟨(some 5), .p (.mov (.c (.v (.bool false)))), none, 0⟩]) c9_15)
theorem t9 : trC Tryz.prog Tryz.f9.ntmps (bodyOf Tryz.f9) = some c9 := by kernel_rfl
theorem r9 : Tryz.f9.results.toList.mapM (trR Tryz.prog) = some [.tmp 4, .tmp 5] := by kernel_rfl
def i9 : FI := ⟨76, c9, [.tmp 4, .tmp 5]⟩
theorem k9 : Knows Tryz.prog 9 i9 := ⟨Tryz.f9, bodyOf Tryz.f9, Tryz.func9, by kernel_rfl, by kernel_rfl, t9, r9, by kernel_rfl⟩
-- 10 drover/topo.New []
def c10_0 : ACode := (.cond (.s 19) (.seq (.ops [
  ⟨(some 4), .p (.mov (.c (.v (.pointer none)))), none, 0⟩,
  ⟨(some 5), .p (.mov (.c (.v (.int .i64 42)))), none, 0⟩]) .ret) .skip)
def c10_1 : List AOper := [
  ⟨(some 39), .p (.un .not (.s 38)), (some (35, false)), 0⟩,
  ⟨(some 40), .p (.pick (.s 35) (.c (.v (.bool true))) (.s 39)), none, 0⟩]
def c10_2 : List AOper := (⟨(some 34), .p (.un .not (.s 33)), none, 0⟩ ::
  ⟨(some 35), .p (.mov (.s 34)), none, 0⟩ ::
  ⟨(some 36), .p (.mov (.s 6)), (some (35, false)), 0⟩ ::
  ⟨(some 37), .m (.load (some 5) (.s 8)), (some (35, false)), 0⟩ ::
  ⟨(some 38), .call (.c (.fn 25 [])) [(.s 36), (.s 37)], (some (35, false)), 67⟩ :: c10_1)
def c10_3 : ACode := (.cond (.s 40) (.seq (.ops [
  ⟨(some 4), .p (.mov (.c (.v (.pointer none)))), none, 0⟩,
  ⟨(some 5), .p (.mov (.c (.v (.int .i64 42)))), none, 0⟩]) .ret) .skip)
def c10_4 : ACode := (.seq (.ops (⟨(some 31), .m (.load (some 5) (.s 8)), none, 0⟩ ::
  ⟨(some 32), .p (.mov (.s 0)), none, 0⟩ ::
  ⟨(some 33), .call (.c (.fn 24 [])) [(.s 31), (.s 32)], none, 0⟩ :: c10_2)) c10_3)
def c10_5 : ACode := (.ops [
  ⟨(some 41), .p (.bin .add (.s 27) (.c (.v (.int .i64 1)))), none, 0⟩,
  ⟨(some 27), .p (.mov (.s 41)), none, 0⟩])
def c10_6 : ACode := (.seq (.block 1 (.seq (.ops [
  ⟨(some 29), .p (.adrSl 5 (.s 25) (.s 27)), none, 0⟩,
  ⟨(some 30), .m (.load (some 5) (.s 29)), none, 0⟩,
  ⟨(some 8), .m (.alloc [(.v (.int .i64 0)), (.v (.int .i64 0)), (.v (.int .i64 0)), (.v (.int .i64 0)), (.v (.float .f64 0))]), none, 0⟩,
  ⟨none, .m (.store (some 5) (.s 8) (.s 30)), none, 0⟩]) c10_4)) c10_5)
def c10_7 : ACode := (.seq (.cond (.s 28) .skip (.exit 0)) c10_6)
def c10_8 : ACode := (.seq (.ops [
  ⟨(some 28), .p (.bin .lss (.s 27) (.s 26)), none, 0⟩]) c10_7)
def c10_9 : ACode := (.block 0 (.loop c10_8))
def c10_10 : ACode := (.seq (.ops [
  ⟨(some 42), .p (.mov (.s 6)), none, 0⟩,
  ⟨(some 4), .p (.mov (.s 42)), none, 0⟩,
  ⟨(some 5), .p (.mov (.c (.v (.int .i64 0)))), none, 0⟩]) .ret)
def c10_11 : ACode := (.seq (.seq (.ops [
  ⟨(some 25), .p (.mov (.s 1)), none, 0⟩,
  ⟨(some 26), .p (.len false (.s 25)), none, 78⟩,
  ⟨(some 27), .p (.mov (.c (.v (.int .i64 0)))), none, 0⟩]) c10_9) c10_10)
def c10_12 : ACode := (.seq (.ops [
  ⟨(some 20), .p (.mov (.s 0)), none, 0⟩,
  ⟨(some 21), .m (.ext (.map (.mk))), none, 5963897⟩,
  ⟨(some 22), .m (.ext (.map (.mk))), none, 196699⟩,
  ⟨(some 23), .p (.build [(.v (.int .i64 0)), (.v (.map none)), (.v (.map none)), (.v (.slice none 0 0))] [(0, 1, (.s 20)), (1, 1, (.s 21)), (2, 1, (.s 22))]), none, 0⟩,
  ⟨(some 24), .m (.box (.s 23)), none, 0⟩,
  ⟨(some 6), .p (.mov (.s 24)), none, 0⟩]) c10_11)
def c10_13 : ACode := (.seq (.seq (.ops [
  ⟨(some 9), .p (.mov (.s 0)), none, 0⟩,
  ⟨(some 10), .p (.bin .lss (.s 9) (.c (.v (.int .i64 1)))), none, 0⟩,
  ⟨(some 11), .p (.mov (.s 10)), none, 0⟩,
  ⟨(some 12), .p (.mov (.s 0)), (some (11, false)), 0⟩,
  ⟨(some 13), .p (.bin .gtr (.s 12) (.c (.v (.int .i64 32)))), (some (11, false)), 0⟩,
  ⟨(some 14), .p (.pick (.s 11) (.c (.v (.bool true))) (.s 13)), none, 0⟩,
  ⟨(some 15), .p (.mov (.s 14)), none, 0⟩,
  ⟨(some 16), .p (.mov (.s 1)), (some (15, false)), 0⟩,
  ⟨(some 17), .p (.len false (.s 16)), (some (15, false)), 78⟩,
  ⟨(some 18), .p (.bin .gtr (.s 17) (.c (.v (.int .i64 64)))), (some (15, false)), 0⟩,
  ⟨(some 19), .p (.pick (.s 15) (.c (.v (.bool true))) (.s 18)), none, 0⟩]) c10_0) c10_12)
def c10 : ACode := (.seq (.ops [
  ⟨(some 4), .p (.mov (.c (.v (.pointer none)))), none, 0⟩,
  ⟨(some 5), .p (.mov (.c (.v (.int .i64 0)))), none, 0⟩]) c10_13)
theorem t10 : trC Tryz.prog Tryz.f10.ntmps (bodyOf Tryz.f10) = some c10 := by kernel_rfl
theorem r10 : Tryz.f10.results.toList.mapM (trR Tryz.prog) = some [.tmp 4, .tmp 5] := by kernel_rfl
def i10 : FI := ⟨43, c10, [.tmp 4, .tmp 5]⟩
theorem k10 : Knows Tryz.prog 10 i10 := ⟨Tryz.f10, bodyOf Tryz.f10, Tryz.func10, by kernel_rfl, by kernel_rfl, t10, r10, by kernel_rfl⟩
-- 4 drover/code.Make []
def c4_0 : List AOper := [
  ⟨(some 23), .p (.un .not (.s 22)), none, 0⟩,
  ⟨(some 17), .p (.mov (.s 23)), none, 0⟩]
def c4_1 : ACode := (.cond (.s 17) (.seq (.ops [
  ⟨(some 6), .p (.mov (.c (.v (.slice none 0 0)))), none, 0⟩,
  ⟨(some 7), .p (.mov (.c (.v (.int .i64 1)))), none, 0⟩]) .ret) .skip)
def c4_2 : ACode := (.cond (.s 14) (.seq (.ops [
  ⟨(some 6), .p (.mov (.c (.v (.slice none 0 0)))), none, 0⟩,
  ⟨(some 7), .p (.mov (.c (.v (.int .i64 2)))), none, 0⟩]) .ret) (.seq (.ops (⟨(some 18), .p (.mov (.s 0)), none, 0⟩ ::
  ⟨(some 19), .m (.load (some 3) (.s 4)), none, 0⟩ ::
  ⟨(some 20), .p (.mov (.s 2)), none, 0⟩ ::
  ⟨(some 21), .p (.len false (.s 20)), none, 38⟩ ::
  ⟨(some 22), .call (.c (.fn 6 [])) [(.s 18), (.s 19), (.s 21)], none, 67⟩ :: c4_0)) c4_1))
def c4_3 : ACode := (.cond (.s 57) (.seq (.ops [
  ⟨(some 6), .p (.mov (.c (.v (.slice none 0 0)))), none, 0⟩,
  ⟨(some 7), .p (.mov (.c (.v (.int .i64 25)))), none, 0⟩]) .ret) .skip)
def c4_4 : ACode := (.seq (.ops [
  ⟨(some 31), .p (.fieldAddr 1 none (.s 9)), none, 0⟩,
  ⟨(some 32), .m (.load none (.s 31)), none, 0⟩,
  ⟨(some 33), .p (.bin .lss (.s 32) (.c (.v (.int .i64 0)))), none, 0⟩,
  ⟨(some 34), .p (.mov (.s 33)), none, 0⟩,
  ⟨(some 35), .p (.fieldAddr 1 none (.s 9)), (some (34, false)), 0⟩,
  ⟨(some 36), .m (.load none (.s 35)), (some (34, false)), 0⟩,
  ⟨(some 37), .p (.bin .gtr (.s 36) (.c (.v (.int .i64 4294967295)))), (some (34, false)), 0⟩,
  ⟨(some 38), .p (.pick (.s 34) (.c (.v (.bool true))) (.s 37)), none, 0⟩,
  ⟨(some 39), .p (.mov (.s 38)), none, 0⟩,
  ⟨(some 40), .p (.fieldAddr 2 none (.s 9)), (some (39, false)), 0⟩,
  ⟨(some 41), .m (.load none (.s 40)), (some (39, false)), 0⟩,
  ⟨(some 42), .p (.bin .lss (.s 41) (.c (.v (.int .i64 0)))), (some (39, false)), 0⟩,
  ⟨(some 43), .p (.pick (.s 39) (.c (.v (.bool true))) (.s 42)), none, 0⟩,
  ⟨(some 44), .p (.mov (.s 43)), none, 0⟩,
  ⟨(some 45), .p (.fieldAddr 2 none (.s 9)), (some (44, false)), 0⟩,
  ⟨(some 46), .m (.load none (.s 45)), (some (44, false)), 0⟩,
  ⟨(some 47), .p (.bin .gtr (.s 46) (.c (.v (.int .i64 4294967295)))), (some (44, false)), 0⟩,
  ⟨(some 48), .p (.pick (.s 44) (.c (.v (.bool true))) (.s 47)), none, 0⟩,
  ⟨(some 49), .p (.mov (.s 48)), none, 0⟩,
  ⟨(some 50), .p (.fieldAddr 1 none (.s 9)), (some (49, false)), 0⟩,
  ⟨(some 51), .m (.load none (.s 50)), (some (49, false)), 0⟩,
  ⟨(some 52), .p (.bin .gtr (.s 51) (.c (.v (.int .i64 0)))), (some (49, false)), 0⟩,
  ⟨(some 53), .p (.mov (.s 52)), (some (49, false)), 0⟩,
  ⟨(some 54), .p (.mov (.s 8)), (some (53, true)), 0⟩,
  ⟨(some 55), .p (.bin .geq (.s 54) (.c (.v (.int .i64 16)))), (some (53, true)), 0⟩,
  ⟨(some 56), .p (.pick (.s 53) (.s 55) (.c (.v (.bool false)))), (some (49, false)), 0⟩,
  ⟨(some 57), .p (.pick (.s 49) (.c (.v (.bool true))) (.s 56)), none, 0⟩]) c4_3)
def c4_5 : ACode := (.ops [
  ⟨(some 58), .p (.bin .add (.s 26) (.c (.v (.int .i64 1)))), none, 0⟩,
  ⟨(some 26), .p (.mov (.s 58)), none, 0⟩])
def c4_6 : ACode := (.seq (.block 2 (.seq (.ops [
  ⟨(some 28), .p (.mov (.s 26)), none, 0⟩,
  ⟨(some 29), .p (.adrSl 3 (.s 24) (.s 26)), none, 0⟩,
  ⟨(some 30), .m (.load (some 3) (.s 29)), none, 0⟩,
  ⟨(some 9), .m (.alloc [(.v (.slice none 0 0)), (.v (.int .i64 0)), (.v (.int .i64 0))]), none, 48⟩,
  ⟨(some 8), .p (.mov (.s 28)), none, 0⟩,
  ⟨none, .m (.store (some 3) (.s 9) (.s 30)), none, 0⟩]) c4_4)) c4_5)
def c4_7 : ACode := (.seq (.cond (.s 27) .skip (.exit 1)) c4_6)
def c4_8 : ACode := (.seq (.ops [
  ⟨(some 27), .p (.bin .lss (.s 26) (.s 25)), none, 0⟩]) c4_7)
def c4_9 : ACode := (.block 1 (.loop c4_8))
def c4_10 : List AOper := [
  ⟨(some 61), .p (.mov (.c (.v (.int .i64 0)))), none, 0⟩]
def c4_11 : List AOper := [
  ⟨(some 64), .p (.mov (.s 72)), none, 0⟩,
  ⟨(some 73), .p (.extract (.s 64) 0), none, 0⟩,
  ⟨(some 74), .p (.extract (.s 64) 1), none, 0⟩,
  ⟨(some 12), .p (.mov (.s 73)), none, 0⟩,
  ⟨(some 13), .p (.mov (.s 74)), none, 0⟩]
def c4_12 : ACode := (.cond (.s 76) (.seq (.ops [
  ⟨(some 77), .p (.mov (.s 13)), none, 0⟩,
  ⟨(some 6), .p (.mov (.c (.v (.slice none 0 0)))), none, 0⟩,
  ⟨(some 7), .p (.mov (.s 77)), none, 0⟩]) .ret) .skip)
def c4_13 : ACode := (.ops [
  ⟨(some 78), .p (.mov (.s 10)), none, 0⟩,
  ⟨(some 79), .p (.mov (.s 12)), none, 0⟩,
  ⟨(some 80), .m (.buildSlice 1 1 [(.v (.slice none 0 0))] [(0, 1, (.s 79))]), none, 40⟩,
  ⟨(some 81), .m (.append 1 24 (.s 78) (.s 80)), none, 40⟩,
  ⟨(some 10), .p (.mov (.s 81)), none, 0⟩])
def c4_14 : ACode := (.seq (.seq (.ops [
  ⟨(some 75), .p (.mov (.s 13)), none, 0⟩,
  ⟨(some 76), .p (.bin .neq (.s 75) (.c (.v (.int .i64 0)))), none, 0⟩]) c4_12) c4_13)
def c4_15 : ACode := (.seq (.ops (⟨(some 65), .p (.mov (.s 0)), none, 0⟩ ::
  ⟨(some 66), .m (.load (some 3) (.s 4)), none, 0⟩ ::
  ⟨(some 67), .p (.mov (.s 2)), none, 0⟩ ::
  ⟨(some 68), .p (.mov (.s 11)), none, 0⟩ ::
  ⟨(some 69), .p (.bin .add (.s 68) (.c (.v (.int .i64 1)))), none, 0⟩ ::
  ⟨(some 70), .p (.build [(.v (.pointer none)), (.v (.slice none 0 0)), (.v (.slice none 0 0)), (.v (.slice none 0 0)), (.v (.slice none 0 0)), (.v (.int .i64 0)), (.v (.slice none 0 0)), (.v (.int .i64 0)), (.v (.int .i64 0)), (.v (.int .i64 0))] [(0, 1, (.s 65)), (1, 3, (.s 66)), (4, 1, (.s 67)), (5, 1, (.s 69))]), none, 0⟩ ::
  ⟨(some 71), .m (.box (.s 70)), none, 0⟩ ::
  ⟨(some 72), .call (.c (.fn 8 [])) [(.s 71)], none, 45⟩ :: c4_11)) c4_14)
def c4_16 : ACode := (.ops [
  ⟨(some 82), .p (.bin .add (.s 61) (.c (.v (.int .i64 1)))), none, 0⟩,
  ⟨(some 61), .p (.mov (.s 82)), none, 0⟩])
def c4_17 : ACode := (.seq (.block 4 (.seq (.ops [
  ⟨(some 63), .p (.mov (.s 61)), none, 0⟩,
  ⟨(some 11), .p (.mov (.s 63)), none, 0⟩]) c4_15)) c4_16)
def c4_18 : ACode := (.seq (.cond (.s 62) .skip (.exit 3)) c4_17)
def c4_19 : ACode := (.seq (.ops [
  ⟨(some 62), .p (.bin .lss (.s 61) (.s 60)), none, 0⟩]) c4_18)
def c4_20 : ACode := (.block 3 (.loop c4_19))
def c4_21 : ACode := (.seq (.ops [
  ⟨(some 83), .p (.mov (.s 10)), none, 0⟩,
  ⟨(some 6), .p (.mov (.s 83)), none, 0⟩,
  ⟨(some 7), .p (.mov (.c (.v (.int .i64 0)))), none, 0⟩]) .ret)
def c4_22 : ACode := (.seq (.seq (.ops (⟨(some 59), .p (.mov (.s 0)), none, 0⟩ ::
  ⟨(some 60), .call (.c (.fn 7 [])) [(.s 59)], none, 67⟩ :: c4_10)) c4_20) c4_21)
def c4_23 : ACode := (.seq (.ops [
  ⟨(some 10), .p (.mov (.c (.v (.slice none 0 0)))), none, 0⟩]) c4_22)
def c4_24 : ACode := (.seq (.seq (.ops [
  ⟨(some 24), .p (.mov (.s 2)), none, 0⟩,
  ⟨(some 25), .p (.len false (.s 24)), none, 38⟩,
  ⟨(some 26), .p (.mov (.c (.v (.int .i64 0)))), none, 0⟩]) c4_9) c4_23)
def c4_25 : ACode := (.seq (.block 0 (.seq (.ops [
  ⟨(some 15), .p (.mov (.s 0)), none, 0⟩,
  ⟨(some 16), .p (.eqn false (.pointer 67) (.s 15)), none, 0⟩,
  ⟨(some 14), .p (.mov (.s 16)), none, 0⟩]) c4_2)) c4_24)
def c4 : ACode := (.seq (.ops [
  ⟨(some 4), .m (.box (.s 1)), none, 0⟩,
  ⟨(some 6), .p (.mov (.c (.v (.slice none 0 0)))), none, 0⟩,
  ⟨(some 7), .p (.mov (.c (.v (.int .i64 0)))), none, 0⟩]) c4_25)
theorem t4 : trC Tryz.prog Tryz.f4.ntmps (bodyOf Tryz.f4) = some c4 := by kernel_rfl
theorem r4 : Tryz.f4.results.toList.mapM (trR Tryz.prog) = some [.tmp 6, .tmp 7] := by kernel_rfl
def i4 : FI := ⟨84, c4, [.tmp 6, .tmp 7]⟩
theorem k4 : Knows Tryz.prog 4 i4 := ⟨Tryz.f4, bodyOf Tryz.f4, Tryz.func4, by kernel_rfl, by kernel_rfl, t4, r4, by kernel_rfl⟩
-- 19 slices.Concat[drover/api.Cube,drover/api.Test] []
def c19_0 : ACode := (.cond (.s 20) (.ops [
  ⟨(some 21), .p (.mkIfc 9 (.c (.v (.string ⟨#[108, 101, 110, 32, 111, 117, 116, 32, 111, 102, 32, 114, 97, 110, 103, 101]⟩)))), none, 0⟩,
  ⟨none, .never, none, 0⟩]) .skip)
def c19_1 : ACode := (.seq (.ops [
  ⟨(some 19), .p (.mov (.s 3)), none, 0⟩,
  ⟨(some 20), .p (.bin .lss (.s 19) (.c (.v (.int .i64 0)))), none, 0⟩]) c19_0)
def c19_2 : ACode := (.seq (.ops [
  ⟨(some 15), .p (.mov (.s 3)), none, 0⟩,
  ⟨(some 16), .p (.mov (.s 5)), none, 0⟩,
  ⟨(some 17), .p (.len false (.s 16)), none, 53⟩,
  ⟨(some 18), .p (.bin .add (.s 15) (.s 17)), none, 0⟩,
  ⟨(some 3), .p (.mov (.s 18)), none, 0⟩]) c19_1)
def c19_3 : ACode := (.ops [
  ⟨(some 22), .p (.bin .add (.s 11) (.c (.v (.int .i64 1)))), none, 0⟩,
  ⟨(some 11), .p (.mov (.s 22)), none, 0⟩])
def c19_4 : ACode := (.seq (.block 1 (.seq (.ops [
  ⟨(some 13), .p (.adrSl 1 (.s 9) (.s 11)), none, 0⟩,
  ⟨(some 14), .m (.load none (.s 13)), none, 0⟩,
  ⟨(some 5), .p (.mov (.s 14)), none, 0⟩]) c19_2)) c19_3)
def c19_5 : ACode := (.seq (.cond (.s 12) .skip (.exit 0)) c19_4)
def c19_6 : ACode := (.seq (.ops [
  ⟨(some 12), .p (.bin .lss (.s 11) (.s 10)), none, 0⟩]) c19_5)
def c19_7 : ACode := (.block 0 (.loop c19_6))
def c19_8 : List AOper := [
  ⟨(some 6), .p (.mov (.s 24)), none, 0⟩]
def c19_9 : ACode := (.ops [
  ⟨(some 31), .p (.mov (.s 6)), none, 0⟩,
  ⟨(some 32), .p (.mov (.s 8)), none, 0⟩,
  ⟨(some 33), .m (.append 3 24 (.s 31) (.s 32)), none, 53⟩,
  ⟨(some 6), .p (.mov (.s 33)), none, 0⟩])
def c19_10 : ACode := (.ops [
  ⟨(some 34), .p (.bin .add (.s 27) (.c (.v (.int .i64 1)))), none, 0⟩,
  ⟨(some 27), .p (.mov (.s 34)), none, 0⟩])
def c19_11 : ACode := (.seq (.block 3 (.seq (.ops [
  ⟨(some 29), .p (.adrSl 1 (.s 25) (.s 27)), none, 0⟩,
  ⟨(some 30), .m (.load none (.s 29)), none, 0⟩,
  ⟨(some 8), .p (.mov (.s 30)), none, 0⟩]) c19_9)) c19_10)
def c19_12 : ACode := (.seq (.cond (.s 28) .skip (.exit 2)) c19_11)
def c19_13 : ACode := (.seq (.ops [
  ⟨(some 28), .p (.bin .lss (.s 27) (.s 26)), none, 0⟩]) c19_12)
def c19_14 : ACode := (.block 2 (.loop c19_13))
def c19_15 : ACode := (.seq (.ops [
  ⟨(some 35), .p (.mov (.s 6)), none, 0⟩,
  ⟨(some 2), .p (.mov (.s 35)), none, 0⟩]) .ret)
def c19_16 : ACode := (.seq (.seq (.ops [
  ⟨(some 25), .p (.mov (.s 0)), none, 0⟩,
  ⟨(some 26), .p (.len false (.s 25)), none, 48⟩,
  ⟨(some 27), .p (.mov (.c (.v (.int .i64 0)))), none, 0⟩]) c19_14) c19_15)
def c19_17 : ACode := (.seq (.ops (⟨(some 23), .p (.mov (.s 3)), none, 0⟩ ::
  ⟨(some 24), .call (.c (.fn 40 [])) [(.c (.v (.slice none 0 0))), (.s 23)], none, 53⟩ :: c19_8)) c19_16)
def c19_18 : ACode := (.seq (.seq (.ops [
  ⟨(some 9), .p (.mov (.s 0)), none, 0⟩,
  ⟨(some 10), .p (.len false (.s 9)), none, 48⟩,
  ⟨(some 11), .p (.mov (.c (.v (.int .i64 0)))), none, 0⟩]) c19_7) c19_17)
def c19_19 : ACode := (.seq (.ops [
  ⟨(some 3), .p (.mov (.c (.v (.int .i64 0)))), none, 0⟩]) c19_18)
def c19 : ACode := (.seq (.ops [
  ⟨(some 2), .p (.mov (.c (.v (.slice none 0 0)))), none, 0⟩]) c19_19)
theorem t19 : trC Tryz.prog Tryz.f19.ntmps (bodyOf Tryz.f19) = some c19 := by kernel_rfl
theorem r19 : Tryz.f19.results.toList.mapM (trR Tryz.prog) = some [.tmp 2] := by kernel_rfl
def i19 : FI := ⟨36, c19, [.tmp 2]⟩
theorem k19 : Knows Tryz.prog 19 i19 := ⟨Tryz.f19, bodyOf Tryz.f19, Tryz.func19, by kernel_rfl, by kernel_rfl, t19, r19, by kernel_rfl⟩
-- 20 slices.BinarySearchFunc[drover/api.Cube,drover/api.Test,int] []
def c20_0 : ACode := (.cond (.s 17) .skip (.exit 0))
def c20_1 : List AOper := [
  ⟨(some 31), .p (.bin .lss (.s 30) (.c (.v (.int .i64 0)))), none, 0⟩]
def c20_2 : ACode := (.cond (.s 31) (.ops [
  ⟨(some 32), .p (.mov (.s 11)), none, 0⟩,
  ⟨(some 33), .p (.bin .add (.s 32) (.c (.v (.int .i64 1)))), none, 0⟩,
  ⟨(some 9), .p (.mov (.s 33)), none, 0⟩]) (.ops [
  ⟨(some 34), .p (.mov (.s 11)), none, 0⟩,
  ⟨(some 10), .p (.mov (.s 34)), none, 0⟩]))
def c20_3 : ACode := (.seq (.ops (⟨(some 24), .p (.mov (.s 2)), none, 0⟩ ::
  ⟨(some 25), .p (.mov (.s 0)), none, 0⟩ ::
  ⟨(some 26), .p (.mov (.s 11)), none, 0⟩ ::
  ⟨(some 27), .p (.adrSl 3 (.s 25) (.s 26)), none, 0⟩ ::
  ⟨(some 28), .m (.load (some 3) (.s 27)), none, 0⟩ ::
  ⟨(some 29), .p (.mov (.s 1)), none, 0⟩ ::
  ⟨(some 30), .call (.s 24) [(.s 28), (.s 29)], none, 0⟩ :: c20_1)) c20_2)
def c20_4 : ACode := (.block 1 (.seq (.ops [
  ⟨(some 18), .p (.mov (.s 9)), none, 0⟩,
  ⟨(some 19), .p (.mov (.s 10)), none, 0⟩,
  ⟨(some 20), .p (.bin .add (.s 18) (.s 19)), none, 0⟩,
  ⟨(some 21), .p (.cint .u64 (.s 20)), none, 0⟩,
  ⟨(some 22), .p (.bin .shr (.s 21) (.c (.v (.int .u64 1)))), none, 0⟩,
  ⟨(some 23), .p (.cint .i64 (.s 22)), none, 0⟩,
  ⟨(some 11), .p (.mov (.s 23)), none, 0⟩]) c20_3))
def c20_5 : ACode := (.seq (.seq (.ops [
  ⟨(some 15), .p (.mov (.s 9)), none, 0⟩,
  ⟨(some 16), .p (.mov (.s 10)), none, 0⟩,
  ⟨(some 17), .p (.bin .lss (.s 15) (.s 16)), none, 0⟩]) c20_0) c20_4)
def c20_6 : List AOper := [
  ⟨(some 47), .p (.bin .eql (.s 46) (.c (.v (.int .i64 0)))), (some (39, true)), 0⟩,
  ⟨(some 48), .p (.pick (.s 39) (.s 47) (.c (.v (.bool false)))), none, 0⟩,
  ⟨(some 6), .p (.mov (.s 35)), none, 0⟩,
  ⟨(some 7), .p (.mov (.s 48)), none, 0⟩]
def c20_7 : ACode := (.seq (.ops (⟨(some 35), .p (.mov (.s 9)), none, 0⟩ ::
  ⟨(some 36), .p (.mov (.s 9)), none, 0⟩ ::
  ⟨(some 37), .p (.mov (.s 8)), none, 0⟩ ::
  ⟨(some 38), .p (.bin .lss (.s 36) (.s 37)), none, 0⟩ ::
  ⟨(some 39), .p (.mov (.s 38)), none, 0⟩ ::
  ⟨(some 40), .p (.mov (.s 2)), (some (39, true)), 0⟩ ::
  ⟨(some 41), .p (.mov (.s 0)), (some (39, true)), 0⟩ ::
  ⟨(some 42), .p (.mov (.s 9)), (some (39, true)), 0⟩ ::
  ⟨(some 43), .p (.adrSl 3 (.s 41) (.s 42)), (some (39, true)), 0⟩ ::
  ⟨(some 44), .m (.load (some 3) (.s 43)), (some (39, true)), 0⟩ ::
  ⟨(some 45), .p (.mov (.s 1)), (some (39, true)), 0⟩ ::
  ⟨(some 46), .call (.s 40) [(.s 44), (.s 45)], (some (39, true)), 0⟩ :: c20_6)) .ret)
def c20_8 : ACode := (.seq (.block 0 (.loop c20_5)) c20_7)
def c20_9 : ACode := (.seq (.ops [
  ⟨(some 14), .p (.mov (.s 8)), none, 0⟩,
  ⟨(some 9), .p (.mov (.c (.v (.int .i64 0)))), none, 0⟩,
  ⟨(some 10), .p (.mov (.s 14)), none, 0⟩]) c20_8)
def c20_10 : ACode := (.seq (.ops [
  ⟨(some 12), .p (.mov (.s 0)), none, 0⟩,
  ⟨(some 13), .p (.len false (.s 12)), none, 53⟩,
  ⟨(some 8), .p (.mov (.s 13)), none, 0⟩]) c20_9)
def c20 : ACode := (.seq (.ops [
  ⟨(some 6), .p (.mov (.c (.v (.int .i64 0)))), none, 0⟩,
  ⟨(some 7), .p (.mov (.c (.v (.bool false)))), none, 0⟩]) c20_10)
theorem t20 : trC Tryz.prog Tryz.f20.ntmps (bodyOf Tryz.f20) = some c20 := by kernel_rfl
theorem r20 : Tryz.f20.results.toList.mapM (trR Tryz.prog) = some [.tmp 6, .tmp 7] := by kernel_rfl
def i20 : FI := ⟨49, c20, [.tmp 6, .tmp 7]⟩
theorem k20 : Knows Tryz.prog 20 i20 := ⟨Tryz.f20, bodyOf Tryz.f20, Tryz.func20, by kernel_rfl, by kernel_rfl, t20, r20, by kernel_rfl⟩
-- 21 drover/code.Meet$1 []
def c21_0 : List AOper := [
  ⟨(some 4), .p (.mov (.s 8)), none, 0⟩]
def c21_1 : ACode := (.seq (.ops (⟨(some 5), .p (.fieldAddr 0 none (.s 2)), none, 0⟩ ::
  ⟨(some 6), .m (.load none (.s 5)), none, 0⟩ ::
  ⟨(some 7), .p (.mov (.s 1)), none, 0⟩ ::
  ⟨(some 8), .call (.c (.fn 22 [])) [(.s 6), (.s 7)], none, 0⟩ :: c21_0)) .ret)
def c21 : ACode := (.seq (.ops [
  ⟨(some 2), .m (.box (.s 0)), none, 0⟩,
  ⟨(some 4), .p (.mov (.c (.v (.int .i64 0)))), none, 0⟩]) c21_1)
theorem t21 : trC Tryz.prog Tryz.f21.ntmps (bodyOf Tryz.f21) = some c21 := by kernel_rfl
theorem r21 : Tryz.f21.results.toList.mapM (trR Tryz.prog) = some [.tmp 4] := by kernel_rfl
def i21 : FI := ⟨9, c21, [.tmp 4]⟩
theorem k21 : Knows Tryz.prog 21 i21 := ⟨Tryz.f21, bodyOf Tryz.f21, Tryz.func21, by kernel_rfl, by kernel_rfl, t21, r21, by kernel_rfl⟩
-- 22 cmp.Compare[int] []
def c22_0 : List AOper := [
  ⟨(some 5), .p (.mov (.s 8)), none, 0⟩]
def c22_1 : List AOper := [
  ⟨(some 6), .p (.mov (.s 10)), none, 0⟩]
def c22_2 : ACode := (.cond (.s 12) (.seq (.ops [
  ⟨(some 4), .p (.mov (.c (.v (.int .i64 0)))), none, 0⟩]) .ret) .skip)
def c22_3 : ACode := (.seq (.ops [
  ⟨(some 4), .p (.mov (.c (.v (.int .i64 (-1))))), none, 0⟩]) .ret)
def c22_4 : ACode := (.cond (.s 11) (.seq (.seq (.ops [
  ⟨(some 12), .p (.mov (.s 6)), none, 0⟩]) c22_2) c22_3) .skip)
def c22_5 : ACode := (.cond (.s 13) (.seq (.ops [
  ⟨(some 4), .p (.mov (.c (.v (.int .i64 1)))), none, 0⟩]) .ret) .skip)
def c22_6 : ACode := (.cond (.s 16) (.seq (.ops [
  ⟨(some 4), .p (.mov (.c (.v (.int .i64 (-1))))), none, 0⟩]) .ret) .skip)
def c22_7 : ACode := (.cond (.s 19) (.seq (.ops [
  ⟨(some 4), .p (.mov (.c (.v (.int .i64 1)))), none, 0⟩]) .ret) .skip)
def c22_8 : ACode := (.seq (.ops [
  ⟨(some 4), .p (.mov (.c (.v (.int .i64 0)))), none, 0⟩]) .ret)
def c22_9 : ACode := (.seq (.seq (.ops [
  ⟨(some 17), .p (.mov (.s 0)), none, 0⟩,
  ⟨(some 18), .p (.mov (.s 1)), none, 0⟩,
  ⟨(some 19), .p (.bin .gtr (.s 17) (.s 18)), none, 0⟩]) c22_7) c22_8)
def c22_10 : ACode := (.seq (.seq (.ops [
  ⟨(some 14), .p (.mov (.s 0)), none, 0⟩,
  ⟨(some 15), .p (.mov (.s 1)), none, 0⟩,
  ⟨(some 16), .p (.bin .lss (.s 14) (.s 15)), none, 0⟩]) c22_6) c22_9)
def c22_11 : ACode := (.seq (.seq (.ops [
  ⟨(some 13), .p (.mov (.s 6)), none, 0⟩]) c22_5) c22_10)
def c22_12 : ACode := (.seq (.seq (.ops [
  ⟨(some 11), .p (.mov (.s 5)), none, 0⟩]) c22_4) c22_11)
def c22_13 : ACode := (.seq (.ops (⟨(some 9), .p (.mov (.s 1)), none, 0⟩ ::
  ⟨(some 10), .call (.c (.fn 41 [])) [(.s 9)], none, 0⟩ :: c22_1)) c22_12)
def c22_14 : ACode := (.seq (.ops (⟨(some 7), .p (.mov (.s 0)), none, 0⟩ ::
  ⟨(some 8), .call (.c (.fn 41 [])) [(.s 7)], none, 0⟩ :: c22_0)) c22_13)
def c22 : ACode := (.seq (.ops [
  ⟨(some 4), .p (.mov (.c (.v (.int .i64 0)))), none, 0⟩]) c22_14)
theorem t22 : trC Tryz.prog Tryz.f22.ntmps (bodyOf Tryz.f22) = some c22 := by kernel_rfl
theorem r22 : Tryz.f22.results.toList.mapM (trR Tryz.prog) = some [.tmp 4] := by kernel_rfl
def i22 : FI := ⟨20, c22, [.tmp 4]⟩
theorem k22 : Knows Tryz.prog 22 i22 := ⟨Tryz.f22, bodyOf Tryz.f22, Tryz.func22, by kernel_rfl, by kernel_rfl, t22, r22, by kernel_rfl⟩
-- 23 slices.Insert[drover/api.Cube,drover/api.Test] []
def c23_0 : ACode := (.cond (.s 16) (.seq (.ops [
  ⟨(some 17), .p (.mov (.s 0)), none, 0⟩,
  ⟨(some 6), .p (.mov (.s 17)), none, 0⟩]) .ret) .skip)
def c23_1 : ACode := (.cond (.s 22) (.seq (.ops [
  ⟨(some 23), .p (.mov (.s 0)), none, 0⟩,
  ⟨(some 24), .p (.mov (.s 2)), none, 0⟩,
  ⟨(some 25), .m (.append 3 24 (.s 23) (.s 24)), none, 53⟩,
  ⟨(some 6), .p (.mov (.s 25)), none, 0⟩]) .ret) .skip)
def c23_2 : ACode := (.seq (.ops [
  ⟨(some 55), .p (.mov (.s 9)), none, 0⟩,
  ⟨(some 6), .p (.mov (.s 55)), none, 0⟩]) .ret)
def c23_3 : ACode := (.seq (.draw [
  ⟨(some 46), .p (.mov (.s 9)), none, 0⟩,
  ⟨(some 47), .p (.mov (.s 1)), none, 0⟩,
  ⟨(some 48), .p (.mov (.s 7)), none, 0⟩,
  ⟨(some 49), .p (.bin .add (.s 47) (.s 48)), none, 0⟩,
  ⟨(some 50), .p (.slSl 3 (.s 46) (some (.s 49)) none none), none, 0⟩,
  ⟨(some 51), .p (.mov (.s 0)), none, 0⟩,
  ⟨(some 52), .p (.mov (.s 1)), none, 0⟩,
  ⟨(some 53), .p (.slSl 3 (.s 51) (some (.s 52)) none none), none, 0⟩,
  ⟨(some 54), .m (.copy 3 (.s 50) (.s 53)), none, 53⟩]) c23_2)
def c23_4 : ACode := (.seq (.ops [
  ⟨(some 41), .p (.mov (.s 9)), none, 0⟩,
  ⟨(some 42), .p (.mov (.s 1)), none, 0⟩,
  ⟨(some 43), .p (.slSl 3 (.s 41) (some (.s 42)) none none), none, 0⟩,
  ⟨(some 44), .p (.mov (.s 2)), none, 0⟩,
  ⟨(some 45), .m (.copy 3 (.s 43) (.s 44)), none, 53⟩]) c23_3)
def c23_5 : ACode := (.cond (.s 31) (.seq (.ops [
  ⟨(some 32), .p (.mov (.s 0)), none, 0⟩,
  ⟨(some 33), .p (.mov (.s 1)), none, 0⟩,
  ⟨(some 34), .p (.slSl 3 (.s 32) none (some (.s 33)) none), none, 0⟩,
  ⟨(some 35), .p (.mov (.s 8)), none, 0⟩,
  ⟨(some 36), .p (.mov (.s 7)), none, 0⟩,
  ⟨(some 37), .p (.bin .add (.s 35) (.s 36)), none, 0⟩,
  ⟨(some 38), .p (.mov (.s 1)), none, 0⟩,
  ⟨(some 39), .p (.bin .sub (.s 37) (.s 38)), none, 0⟩,
  ⟨(some 40), .m (.appendZ 3 24 [(.v (.int .i64 0)), (.v (.int .u64 0)), (.v (.int .u64 0))] (.s 34) (.s 39)), none, 53⟩,
  ⟨(some 9), .p (.mov (.s 40)), none, 0⟩]) c23_4) .skip)
def c23_6 : List AOper := [
  ⟨(some 68), .p (.un .not (.s 67)), none, 0⟩]
def c23_7 : ACode := (.seq (.ops [
  ⟨(some 83), .p (.mov (.s 0)), none, 0⟩,
  ⟨(some 6), .p (.mov (.s 83)), none, 0⟩]) .ret)
def c23_8 : ACode := (.seq (.ops [
  ⟨(some 78), .p (.mov (.s 0)), none, 0⟩,
  ⟨(some 79), .p (.mov (.s 1)), none, 0⟩,
  ⟨(some 80), .p (.slSl 3 (.s 78) (some (.s 79)) none none), none, 0⟩,
  ⟨(some 81), .p (.mov (.s 2)), none, 0⟩,
  ⟨(some 82), .m (.copy 3 (.s 80) (.s 81)), none, 53⟩]) c23_7)
def c23_9 : ACode := (.cond (.s 68) (.seq (.draw [
  ⟨(some 69), .p (.mov (.s 0)), none, 0⟩,
  ⟨(some 70), .p (.mov (.s 1)), none, 0⟩,
  ⟨(some 71), .p (.mov (.s 7)), none, 0⟩,
  ⟨(some 72), .p (.bin .add (.s 70) (.s 71)), none, 0⟩,
  ⟨(some 73), .p (.slSl 3 (.s 69) (some (.s 72)) none none), none, 0⟩,
  ⟨(some 74), .p (.mov (.s 0)), none, 0⟩,
  ⟨(some 75), .p (.mov (.s 1)), none, 0⟩,
  ⟨(some 76), .p (.slSl 3 (.s 74) (some (.s 75)) none none), none, 0⟩,
  ⟨(some 77), .m (.copy 3 (.s 73) (.s 76)), none, 53⟩]) c23_8) .skip)
def c23_10 : ACode := (.seq (.ops [
  ⟨(some 94), .p (.mov (.s 0)), none, 0⟩,
  ⟨(some 6), .p (.mov (.s 94)), none, 0⟩]) .ret)
def c23_11 : ACode := (.seq (.ops [
  ⟨(some 89), .p (.mov (.s 0)), none, 0⟩,
  ⟨(some 90), .p (.mov (.s 1)), none, 0⟩,
  ⟨(some 91), .p (.slSl 3 (.s 89) (some (.s 90)) none none), none, 0⟩,
  ⟨(some 92), .p (.mov (.s 7)), none, 0⟩,
  ⟨(some 93), .call (.c (.fn 43 [])) [(.s 91), (.s 92)], none, 53⟩]) c23_10)
def c23_12 : ACode := (.seq (.ops [
  ⟨(some 84), .p (.mov (.s 0)), none, 0⟩,
  ⟨(some 85), .p (.mov (.s 8)), none, 0⟩,
  ⟨(some 86), .p (.slSl 3 (.s 84) (some (.s 85)) none none), none, 0⟩,
  ⟨(some 87), .p (.mov (.s 2)), none, 0⟩,
  ⟨(some 88), .m (.copy 3 (.s 86) (.s 87)), none, 53⟩]) c23_11)
def c23_13 : ACode := (.seq (.seq (.ops (⟨(some 61), .p (.mov (.s 2)), none, 0⟩ ::
  ⟨(some 62), .p (.mov (.s 0)), none, 0⟩ ::
  ⟨(some 63), .p (.mov (.s 1)), none, 0⟩ ::
  ⟨(some 64), .p (.mov (.s 7)), none, 0⟩ ::
  ⟨(some 65), .p (.bin .add (.s 63) (.s 64)), none, 0⟩ ::
  ⟨(some 66), .p (.slSl 3 (.s 62) (some (.s 65)) none none), none, 0⟩ ::
  ⟨(some 67), .call (.c (.fn 42 [])) [(.s 61), (.s 66)], none, 53⟩ :: c23_6)) c23_9) c23_12)
def c23_14 : ACode := (.seq (.ops [
  ⟨(some 56), .p (.mov (.s 0)), none, 0⟩,
  ⟨(some 57), .p (.mov (.s 8)), none, 0⟩,
  ⟨(some 58), .p (.mov (.s 7)), none, 0⟩,
  ⟨(some 59), .p (.bin .add (.s 57) (.s 58)), none, 0⟩,
  ⟨(some 60), .p (.slSl 3 (.s 56) none (some (.s 59)) none), none, 0⟩,
  ⟨(some 0), .p (.mov (.s 60)), none, 0⟩]) c23_13)
def c23_15 : ACode := (.seq (.seq (.ops [
  ⟨(some 26), .p (.mov (.s 8)), none, 0⟩,
  ⟨(some 27), .p (.mov (.s 7)), none, 0⟩,
  ⟨(some 28), .p (.bin .add (.s 26) (.s 27)), none, 0⟩,
  ⟨(some 29), .p (.mov (.s 0)), none, 0⟩,
  ⟨(some 30), .m (.ext (.capK (.s 29))), none, 53⟩,
  ⟨(some 31), .p (.bin .gtr (.s 28) (.s 30)), none, 0⟩]) c23_5) c23_14)
def c23_16 : ACode := (.seq (.seq (.ops [
  ⟨(some 20), .p (.mov (.s 1)), none, 0⟩,
  ⟨(some 21), .p (.mov (.s 8)), none, 0⟩,
  ⟨(some 22), .p (.bin .eql (.s 20) (.s 21)), none, 0⟩]) c23_1) c23_15)
def c23_17 : ACode := (.seq (.ops [
  ⟨(some 18), .p (.mov (.s 0)), none, 0⟩,
  ⟨(some 19), .p (.len false (.s 18)), none, 53⟩,
  ⟨(some 8), .p (.mov (.s 19)), none, 0⟩]) c23_16)
def c23_18 : ACode := (.seq (.seq (.ops [
  ⟨(some 15), .p (.mov (.s 7)), none, 0⟩,
  ⟨(some 16), .p (.bin .eql (.s 15) (.c (.v (.int .i64 0)))), none, 0⟩]) c23_0) c23_17)
def c23_19 : ACode := (.seq (.ops [
  ⟨(some 13), .p (.mov (.s 2)), none, 0⟩,
  ⟨(some 14), .p (.len false (.s 13)), none, 53⟩,
  ⟨(some 7), .p (.mov (.s 14)), none, 0⟩]) c23_18)
def c23_20 : ACode := (.seq (.ops [
  ⟨(some 10), .p (.mov (.s 0)), none, 0⟩,
  ⟨(some 11), .p (.mov (.s 1)), none, 0⟩,
  ⟨(some 12), .p (.slSl 3 (.s 10) (some (.s 11)) none none), none, 0⟩]) c23_19)
def c23 : ACode := (.seq (.ops [
  ⟨(some 6), .p (.mov (.c (.v (.slice none 0 0)))), none, 0⟩]) c23_20)
theorem t23 : trC Tryz.prog Tryz.f23.ntmps (bodyOf Tryz.f23) = some c23 := by kernel_rfl
theorem r23 : Tryz.f23.results.toList.mapM (trR Tryz.prog) = some [.tmp 6] := by kernel_rfl
def i23 : FI := ⟨95, c23, [.tmp 6]⟩
theorem k23 : Knows Tryz.prog 23 i23 := ⟨Tryz.f23, bodyOf Tryz.f23, Tryz.func23, by kernel_rfl, by kernel_rfl, t23, r23, by kernel_rfl⟩
-- 41 cmp.isNaN[int] []
def c41_0 : ACode := (.seq (.ops [
  ⟨(some 3), .p (.mov (.s 0)), none, 0⟩,
  ⟨(some 4), .p (.mov (.s 0)), none, 0⟩,
  ⟨(some 5), .p (.bin .neq (.s 3) (.s 4)), none, 0⟩,
  ⟨(some 2), .p (.mov (.s 5)), none, 0⟩]) .ret)
def c41 : ACode := (.seq (.ops [
  ⟨(some 2), .p (.mov (.c (.v (.bool false)))), none, 0⟩]) c41_0)
theorem t41 : trC Tryz.prog Tryz.f41.ntmps (bodyOf Tryz.f41) = some c41 := by kernel_rfl
theorem r41 : Tryz.f41.results.toList.mapM (trR Tryz.prog) = some [.tmp 2] := by kernel_rfl
def i41 : FI := ⟨6, c41, [.tmp 2]⟩
theorem k41 : Knows Tryz.prog 41 i41 := ⟨Tryz.f41, bodyOf Tryz.f41, Tryz.func41, by kernel_rfl, by kernel_rfl, t41, r41, by kernel_rfl⟩
-- 6 drover/code.right []
def c6_0 : ACode := (.cond (.s 20) (.seq (.ops [
  ⟨(some 6), .p (.mov (.c (.v (.bool false)))), none, 0⟩]) .ret) .skip)
def c6_1 : List AOper := [
  ⟨(some 32), .p (.un .not (.s 31)), none, 0⟩]
def c6_2 : ACode := (.cond (.s 32) (.seq (.ops [
  ⟨(some 6), .p (.mov (.c (.v (.bool false)))), none, 0⟩]) .ret) .skip)
def c6_3 : ACode := (.seq (.ops (⟨(some 27), .m (.load none (.s 3)), none, 0⟩ ::
  ⟨(some 28), .m (.load (some 3) (.s 4)), none, 0⟩ ::
  ⟨(some 29), .p (.mov (.s 7)), none, 0⟩ ::
  ⟨(some 30), .m (.load none (.s 5)), none, 0⟩ ::
  ⟨(some 31), .call (.c (.fn 11 [])) [(.s 27), (.s 28), (.s 29), (.s 30)], none, 67⟩ :: c6_1)) c6_2)
def c6_4 : ACode := (.ops [
  ⟨(some 33), .p (.bin .add (.s 24) (.c (.v (.int .i64 1)))), none, 0⟩,
  ⟨(some 24), .p (.mov (.s 33)), none, 0⟩])
def c6_5 : ACode := (.seq (.block 1 (.seq (.ops [
  ⟨(some 26), .p (.mov (.s 24)), none, 0⟩,
  ⟨(some 7), .p (.mov (.s 26)), none, 0⟩]) c6_3)) c6_4)
def c6_6 : ACode := (.seq (.cond (.s 25) .skip (.exit 0)) c6_5)
def c6_7 : ACode := (.seq (.ops [
  ⟨(some 25), .p (.bin .lss (.s 24) (.s 23)), none, 0⟩]) c6_6)
def c6_8 : ACode := (.block 0 (.loop c6_7))
def c6_9 : List AOper := [
  ⟨(some 38), .p (.un .not (.s 37)), none, 0⟩,
  ⟨(some 6), .p (.mov (.s 38)), none, 0⟩]
def c6_10 : ACode := (.seq (.ops (⟨(some 34), .p (.fieldAddr 2 none (.s 4)), none, 0⟩ ::
  ⟨(some 35), .m (.load none (.s 34)), none, 0⟩ ::
  ⟨(some 36), .p (.mkFn 13 [(.s 3), (.s 5), (.s 4)]), none, 0⟩ ::
  ⟨(some 37), .call (.c (.fn 12 [])) [(.s 35), (.s 36)], none, 57⟩ :: c6_9)) .ret)
def c6_11 : ACode := (.seq (.seq (.ops [
  ⟨(some 21), .p (.fieldAddr 0 none (.s 4)), none, 0⟩,
  ⟨(some 22), .m (.load none (.s 21)), none, 0⟩,
  ⟨(some 23), .p (.len false (.s 22)), none, 83⟩,
  ⟨(some 24), .p (.mov (.c (.v (.int .i64 0)))), none, 0⟩]) c6_8) c6_10)
def c6_12 : ACode := (.seq (.seq (.ops [
  ⟨(some 8), .p (.fieldAddr 0 none (.s 4)), none, 0⟩,
  ⟨(some 9), .m (.load none (.s 8)), none, 0⟩,
  ⟨(some 10), .p (.len false (.s 9)), none, 83⟩,
  ⟨(some 11), .p (.bin .gtr (.s 10) (.c (.v (.int .i64 1000)))), none, 0⟩,
  ⟨(some 12), .p (.mov (.s 11)), none, 0⟩,
  ⟨(some 13), .p (.fieldAddr 1 none (.s 4)), (some (12, false)), 0⟩,
  ⟨(some 14), .m (.load none (.s 13)), (some (12, false)), 0⟩,
  ⟨(some 15), .p (.len false (.s 14)), (some (12, false)), 84⟩,
  ⟨(some 16), .p (.fieldAddr 0 none (.s 4)), (some (12, false)), 0⟩,
  ⟨(some 17), .m (.load none (.s 16)), (some (12, false)), 0⟩,
  ⟨(some 18), .p (.len false (.s 17)), (some (12, false)), 83⟩,
  ⟨(some 19), .p (.bin .neq (.s 15) (.s 18)), (some (12, false)), 0⟩,
  ⟨(some 20), .p (.pick (.s 12) (.c (.v (.bool true))) (.s 19)), none, 0⟩]) c6_0) c6_11)
def c6 : ACode := (.seq (.ops [
  ⟨(some 3), .m (.box (.s 0)), none, 0⟩,
  ⟨(some 4), .m (.box (.s 1)), none, 0⟩,
  ⟨(some 5), .m (.box (.s 2)), none, 0⟩,
  ⟨(some 6), .p (.mov (.c (.v (.bool false)))), none, 0⟩]) c6_12)
theorem t6 : trC Tryz.prog Tryz.f6.ntmps (bodyOf Tryz.f6) = some c6 := by kernel_rfl
theorem r6 : Tryz.f6.results.toList.mapM (trR Tryz.prog) = some [.tmp 6] := by kernel_rfl
def i6 : FI := ⟨39, c6, [.tmp 6]⟩
theorem k6 : Knows Tryz.prog 6 i6 := ⟨Tryz.f6, bodyOf Tryz.f6, Tryz.func6, by kernel_rfl, by kernel_rfl, t6, r6, by kernel_rfl⟩
-- 7 (*drover/topo.Topo).Size []
def c7_0 : ACode := (.cond (.s 4) (.seq (.ops [
  ⟨(some 2), .p (.mov (.c (.v (.int .i64 0)))), none, 0⟩]) .ret) .skip)
def c7_1 : ACode := (.seq (.ops [
  ⟨(some 5), .p (.mov (.s 0)), none, 0⟩,
  ⟨(some 6), .p (.nilCheck (.s 5)), none, 0⟩,
  ⟨(some 7), .p (.fieldAddr 0 none (.s 6)), none, 0⟩,
  ⟨(some 8), .m (.load none (.s 7)), none, 0⟩,
  ⟨(some 2), .p (.mov (.s 8)), none, 0⟩]) .ret)
def c7_2 : ACode := (.seq (.seq (.ops [
  ⟨(some 3), .p (.mov (.s 0)), none, 0⟩,
  ⟨(some 4), .p (.eqn false (.pointer 67) (.s 3)), none, 0⟩]) c7_0) c7_1)
def c7 : ACode := (.seq (.ops [
  ⟨(some 2), .p (.mov (.c (.v (.int .i64 0)))), none, 0⟩]) c7_2)
theorem t7 : trC Tryz.prog Tryz.f7.ntmps (bodyOf Tryz.f7) = some c7 := by kernel_rfl
theorem r7 : Tryz.f7.results.toList.mapM (trR Tryz.prog) = some [.tmp 2] := by kernel_rfl
def i7 : FI := ⟨9, c7, [.tmp 2]⟩
theorem k7 : Knows Tryz.prog 7 i7 := ⟨Tryz.f7, bodyOf Tryz.f7, Tryz.func7, by kernel_rfl, by kernel_rfl, t7, r7, by kernel_rfl⟩
-- 40 slices.Grow[drover/api.Cube,drover/api.Test] []
def c40_0 : ACode := (.cond (.s 6) (.ops [
  ⟨(some 7), .p (.mkIfc 9 (.c (.v (.string ⟨#[99, 97, 110, 110, 111, 116, 32, 98, 101, 32, 110, 101, 103, 97, 116, 105, 118, 101]⟩)))), none, 0⟩,
  ⟨none, .never, none, 0⟩]) .skip)
def c40_1 : ACode := (.cond (.s 16) (.ops [
  ⟨(some 17), .p (.mov (.s 0)), none, 0⟩,
  ⟨(some 18), .p (.mov (.s 0)), none, 0⟩,
  ⟨(some 19), .m (.ext (.capK (.s 18))), none, 53⟩,
  ⟨(some 20), .p (.slSl 3 (.s 17) none (some (.s 19)) none), none, 0⟩,
  ⟨(some 21), .p (.mov (.s 1)), none, 0⟩,
  ⟨(some 22), .m (.appendZ 3 24 [(.v (.int .i64 0)), (.v (.int .u64 0)), (.v (.int .u64 0))] (.s 20) (.s 21)), none, 53⟩,
  ⟨(some 23), .p (.mov (.s 0)), none, 0⟩,
  ⟨(some 24), .p (.len false (.s 23)), none, 53⟩,
  ⟨(some 25), .p (.slSl 3 (.s 22) none (some (.s 24)) none), none, 0⟩,
  ⟨(some 0), .p (.mov (.s 25)), none, 0⟩]) .skip)
def c40_2 : ACode := (.seq (.ops [
  ⟨(some 15), .p (.mov (.s 1)), none, 0⟩,
  ⟨(some 16), .p (.bin .gtr (.s 15) (.c (.v (.int .i64 0)))), none, 0⟩]) c40_1)
def c40_3 : ACode := (.seq (.ops [
  ⟨(some 26), .p (.mov (.s 0)), none, 0⟩,
  ⟨(some 4), .p (.mov (.s 26)), none, 0⟩]) .ret)
def c40_4 : ACode := (.seq (.seq (.ops [
  ⟨(some 8), .p (.mov (.s 1)), none, 0⟩,
  ⟨(some 9), .p (.mov (.s 0)), none, 0⟩,
  ⟨(some 10), .m (.ext (.capK (.s 9))), none, 53⟩,
  ⟨(some 11), .p (.mov (.s 0)), none, 0⟩,
  ⟨(some 12), .p (.len false (.s 11)), none, 53⟩,
  ⟨(some 13), .p (.bin .sub (.s 10) (.s 12)), none, 0⟩,
  ⟨(some 14), .p (.bin .sub (.s 8) (.s 13)), none, 0⟩,
  ⟨(some 1), .p (.mov (.s 14)), none, 0⟩]) c40_2) c40_3)
def c40_5 : ACode := (.seq (.seq (.ops [
  ⟨(some 5), .p (.mov (.s 1)), none, 0⟩,
  ⟨(some 6), .p (.bin .lss (.s 5) (.c (.v (.int .i64 0)))), none, 0⟩]) c40_0) c40_4)
def c40 : ACode := (.seq (.ops [
  ⟨(some 4), .p (.mov (.c (.v (.slice none 0 0)))), none, 0⟩]) c40_5)
theorem t40 : trC Tryz.prog Tryz.f40.ntmps (bodyOf Tryz.f40) = some c40 := by kernel_rfl
theorem r40 : Tryz.f40.results.toList.mapM (trR Tryz.prog) = some [.tmp 4] := by kernel_rfl
def i40 : FI := ⟨27, c40, [.tmp 4]⟩
theorem k40 : Knows Tryz.prog 40 i40 := ⟨Tryz.f40, bodyOf Tryz.f40, Tryz.func40, by kernel_rfl, by kernel_rfl, t40, r40, by kernel_rfl⟩
-- 12 slices.ContainsFunc[[]drover/plan.Start,drover/plan.Start] []
def c12_0 : List AOper := [
  ⟨(some 8), .p (.bin .geq (.s 7) (.c (.v (.int .i64 0)))), none, 0⟩,
  ⟨(some 4), .p (.mov (.s 8)), none, 0⟩]
def c12_1 : ACode := (.seq (.ops (⟨(some 5), .p (.mov (.s 0)), none, 0⟩ ::
  ⟨(some 6), .p (.mov (.s 1)), none, 0⟩ ::
  ⟨(some 7), .call (.c (.fn 28 [])) [(.s 5), (.s 6)], none, 57⟩ :: c12_0)) .ret)
def c12 : ACode := (.seq (.ops [
  ⟨(some 4), .p (.mov (.c (.v (.bool false)))), none, 0⟩]) c12_1)
theorem t12 : trC Tryz.prog Tryz.f12.ntmps (bodyOf Tryz.f12) = some c12 := by kernel_rfl
theorem r12 : Tryz.f12.results.toList.mapM (trR Tryz.prog) = some [.tmp 4] := by kernel_rfl
def i12 : FI := ⟨9, c12, [.tmp 4]⟩
theorem k12 : Knows Tryz.prog 12 i12 := ⟨Tryz.f12, bodyOf Tryz.f12, Tryz.func12, by kernel_rfl, by kernel_rfl, t12, r12, by kernel_rfl⟩
-- 13 drover/code.right$1 []
def c13_0 : List AOper := [
  ⟨(some 8), .p (.mov (.s 12)), none, 0⟩,
  ⟨(some 13), .p (.extract (.s 8) 0), none, 0⟩,
  ⟨(some 14), .p (.extract (.s 8) 1), none, 0⟩,
  ⟨(some 6), .p (.mov (.s 13)), none, 0⟩,
  ⟨(some 7), .p (.mov (.s 14)), none, 0⟩]
def c13_1 : ACode := (.seq (.ops [
  ⟨(some 15), .p (.mov (.s 6)), none, 0⟩,
  ⟨(some 16), .p (.bin .eql (.s 15) (.c (.v (.int .i64 0)))), none, 0⟩,
  ⟨(some 17), .p (.mov (.s 16)), none, 0⟩,
  ⟨(some 18), .p (.fieldAddr 0 none (.s 4)), (some (17, false)), 0⟩,
  ⟨(some 19), .m (.load none (.s 18)), (some (17, false)), 0⟩,
  ⟨(some 20), .p (.bin .lss (.s 19) (.c (.v (.int .i64 0)))), (some (17, false)), 0⟩,
  ⟨(some 21), .p (.pick (.s 17) (.c (.v (.bool true))) (.s 20)), none, 0⟩,
  ⟨(some 22), .p (.mov (.s 21)), none, 0⟩,
  ⟨(some 23), .p (.fieldAddr 0 none (.s 4)), (some (22, false)), 0⟩,
  ⟨(some 24), .m (.load none (.s 23)), (some (22, false)), 0⟩,
  ⟨(some 25), .m (.load none (.s 2)), (some (22, false)), 0⟩,
  ⟨(some 26), .p (.bin .geq (.s 24) (.s 25)), (some (22, false)), 0⟩,
  ⟨(some 27), .p (.pick (.s 22) (.c (.v (.bool true))) (.s 26)), none, 0⟩,
  ⟨(some 28), .p (.mov (.s 27)), none, 0⟩,
  ⟨(some 29), .p (.fieldAddr 3 none (.s 4)), (some (28, false)), 0⟩,
  ⟨(some 30), .m (.load none (.s 29)), (some (28, false)), 0⟩,
  ⟨(some 31), .p (.bin .lss (.s 30) (.c (.v (.int .i64 0)))), (some (28, false)), 0⟩,
  ⟨(some 32), .p (.pick (.s 28) (.c (.v (.bool true))) (.s 31)), none, 0⟩,
  ⟨(some 33), .p (.mov (.s 32)), none, 0⟩,
  ⟨(some 34), .p (.fieldAddr 3 none (.s 4)), (some (33, false)), 0⟩,
  ⟨(some 35), .m (.load none (.s 34)), (some (33, false)), 0⟩,
  ⟨(some 36), .p (.fieldAddr 0 none (.s 3)), (some (33, false)), 0⟩,
  ⟨(some 37), .m (.load none (.s 36)), (some (33, false)), 0⟩,
  ⟨(some 38), .p (.len false (.s 37)), (some (33, false)), 83⟩,
  ⟨(some 39), .p (.bin .geq (.s 35) (.s 38)), (some (33, false)), 0⟩,
  ⟨(some 40), .p (.pick (.s 33) (.c (.v (.bool true))) (.s 39)), none, 0⟩,
  ⟨(some 5), .p (.mov (.s 40)), none, 0⟩]) .ret)
def c13_2 : ACode := (.seq (.ops (⟨(some 9), .m (.load none (.s 1)), none, 0⟩ ::
  ⟨(some 10), .p (.fieldAddr 1 none (.s 4)), none, 0⟩ ::
  ⟨(some 11), .m (.load none (.s 10)), none, 0⟩ ::
  ⟨(some 12), .call (.c (.fn 14 [])) [(.s 9), (.s 11)], none, 67⟩ :: c13_0)) c13_1)
def c13 : ACode := (.seq (.ops [
  ⟨(some 4), .m (.box (.s 0)), none, 0⟩,
  ⟨(some 5), .p (.mov (.c (.v (.bool false)))), none, 0⟩]) c13_2)
theorem t13 : trC Tryz.prog Tryz.f13.ntmps (bodyOf Tryz.f13) = some c13 := by kernel_rfl
theorem r13 : Tryz.f13.results.toList.mapM (trR Tryz.prog) = some [.tmp 5] := by kernel_rfl
def i13 : FI := ⟨41, c13, [.tmp 5]⟩
theorem k13 : Knows Tryz.prog 13 i13 := ⟨Tryz.f13, bodyOf Tryz.f13, Tryz.func13, by kernel_rfl, by kernel_rfl, t13, r13, by kernel_rfl⟩
-- 14 (*drover/topo.Topo).Home []
def c14_0 : ACode := (.cond (.s 8) (.seq (.ops [
  ⟨(some 4), .p (.mov (.c (.v (.int .i64 0)))), none, 0⟩,
  ⟨(some 5), .p (.mov (.c (.v (.int .i64 0)))), none, 0⟩]) .ret) .skip)
def c14_1 : ACode := (.seq (.draw [
  ⟨(some 15), .p (.fieldAddr 0 none (.s 6)), none, 0⟩,
  ⟨(some 16), .m (.load none (.s 15)), none, 0⟩,
  ⟨(some 17), .p (.fieldAddr 1 none (.s 6)), none, 0⟩,
  ⟨(some 18), .m (.load none (.s 17)), none, 0⟩,
  ⟨(some 4), .p (.mov (.s 16)), none, 0⟩,
  ⟨(some 5), .p (.mov (.s 18)), none, 0⟩]) .ret)
def c14_2 : ACode := (.seq (.ops [
  ⟨(some 9), .p (.mov (.s 0)), none, 0⟩,
  ⟨(some 10), .p (.nilCheck (.s 9)), none, 0⟩,
  ⟨(some 11), .p (.fieldAddr 2 none (.s 10)), none, 0⟩,
  ⟨(some 12), .m (.load none (.s 11)), none, 0⟩,
  ⟨(some 13), .p (.mov (.s 1)), none, 0⟩,
  ⟨(some 14), .m (.ext (.map (.look [(.int .i64)] false false (.agg [(.v (.int .i64 0)), (.v (.int .i64 0))]) (.s 12) (.s 13)))), none, 0⟩,
  ⟨(some 6), .m (.alloc [(.v (.int .i64 0)), (.v (.int .i64 0))]), none, 0⟩,
  ⟨none, .m (.store (some 2) (.s 6) (.s 14)), none, 0⟩]) c14_1)
def c14_3 : ACode := (.seq (.seq (.ops [
  ⟨(some 7), .p (.mov (.s 0)), none, 0⟩,
  ⟨(some 8), .p (.eqn false (.pointer 67) (.s 7)), none, 0⟩]) c14_0) c14_2)
def c14 : ACode := (.seq (.ops [
  ⟨(some 4), .p (.mov (.c (.v (.int .i64 0)))), none, 0⟩,
  ⟨(some 5), .p (.mov (.c (.v (.int .i64 0)))), none, 0⟩]) c14_3)
theorem t14 : trC Tryz.prog Tryz.f14.ntmps (bodyOf Tryz.f14) = some c14 := by kernel_rfl
theorem r14 : Tryz.f14.results.toList.mapM (trR Tryz.prog) = some [.tmp 4, .tmp 5] := by kernel_rfl
def i14 : FI := ⟨19, c14, [.tmp 4, .tmp 5]⟩
theorem k14 : Knows Tryz.prog 14 i14 := ⟨Tryz.f14, bodyOf Tryz.f14, Tryz.func14, by kernel_rfl, by kernel_rfl, t14, r14, by kernel_rfl⟩
-- 28 slices.IndexFunc[[]drover/plan.Start,drover/plan.Start] []
def c28_0 : ACode := (.cond (.s 16) (.seq (.ops [
  ⟨(some 17), .p (.mov (.s 5)), none, 0⟩,
  ⟨(some 4), .p (.mov (.s 17)), none, 0⟩]) .ret) .skip)
def c28_1 : ACode := (.seq (.ops [
  ⟨(some 11), .p (.mov (.s 1)), none, 0⟩,
  ⟨(some 12), .p (.mov (.s 0)), none, 0⟩,
  ⟨(some 13), .p (.mov (.s 5)), none, 0⟩,
  ⟨(some 14), .p (.adrSl 4 (.s 12) (.s 13)), none, 0⟩,
  ⟨(some 15), .m (.load (some 4) (.s 14)), none, 0⟩,
  ⟨(some 16), .call (.s 11) [(.s 15)], none, 0⟩]) c28_0)
def c28_2 : ACode := (.ops [
  ⟨(some 18), .p (.bin .add (.s 8) (.c (.v (.int .i64 1)))), none, 0⟩,
  ⟨(some 8), .p (.mov (.s 18)), none, 0⟩])
def c28_3 : ACode := (.seq (.block 1 (.seq (.ops [
  ⟨(some 10), .p (.mov (.s 8)), none, 0⟩,
  ⟨(some 5), .p (.mov (.s 10)), none, 0⟩]) c28_1)) c28_2)
def c28_4 : ACode := (.seq (.cond (.s 9) .skip (.exit 0)) c28_3)
def c28_5 : ACode := (.seq (.ops [
  ⟨(some 9), .p (.bin .lss (.s 8) (.s 7)), none, 0⟩]) c28_4)
def c28_6 : ACode := (.block 0 (.loop c28_5))
def c28_7 : ACode := (.seq (.ops [
  ⟨(some 4), .p (.mov (.c (.v (.int .i64 (-1))))), none, 0⟩]) .ret)
def c28_8 : ACode := (.seq (.seq (.ops [
  ⟨(some 6), .p (.mov (.s 0)), none, 0⟩,
  ⟨(some 7), .p (.len false (.s 6)), none, 57⟩,
  ⟨(some 8), .p (.mov (.c (.v (.int .i64 0)))), none, 0⟩]) c28_6) c28_7)
def c28 : ACode := (.seq (.ops [
  ⟨(some 4), .p (.mov (.c (.v (.int .i64 0)))), none, 0⟩]) c28_8)
theorem t28 : trC Tryz.prog Tryz.f28.ntmps (bodyOf Tryz.f28) = some c28 := by kernel_rfl
theorem r28 : Tryz.f28.results.toList.mapM (trR Tryz.prog) = some [.tmp 4] := by kernel_rfl
def i28 : FI := ⟨19, c28, [.tmp 4]⟩
theorem k28 : Knows Tryz.prog 28 i28 := ⟨Tryz.f28, bodyOf Tryz.f28, Tryz.func28, by kernel_rfl, by kernel_rfl, t28, r28, by kernel_rfl⟩
end Go.Proofs.Cdn
