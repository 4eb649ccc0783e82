/- A part of a law's proof: CdmX0. -/
import Derived.KernelRfl
import Derived.Test.YtnaljkdgcooidaaGreatProg
import Derived.Test.YtnaljkdgcooidaaGreatSvCod
set_option linter.unusedSimpArgs false
set_option linter.constructorNameAsVariable false
namespace Go.Proofs.Cdm
open Go Go.Ab Go.Proofs
set_option linter.unusedVariables false
noncomputable abbrev PG : Program := Tryz.prog
def bodyOf (fn : Func) : Code := fn.body.getD .skip
-- 3 drover/droverlaw23.CodeMeets []
def c3_0 : List AOper := [
  ⟨(some 4), .p (.mov (.s 17)), none, 0⟩]
def c3_1 : ACode := (.cond (.s 16) (.seq (.ops (⟨(some 17), .call (.c (.fn 5 [])) [], none, 0⟩ :: c3_0)) .ret) .skip)
def c3_2 : List AOper := [
  ⟨(some 18), .p (.mov (.s 21)), none, 0⟩,
  ⟨(some 22), .p (.extract (.s 18) 0), none, 0⟩,
  ⟨(some 23), .p (.extract (.s 18) 1), none, 0⟩,
  ⟨(some 5), .p (.mov (.s 22)), none, 0⟩,
  ⟨(some 6), .p (.mov (.s 23)), none, 0⟩]
def c3_3 : List AOper := [
  ⟨(some 24), .p (.mov (.s 27)), none, 0⟩,
  ⟨(some 28), .p (.extract (.s 24) 0), none, 0⟩,
  ⟨(some 29), .p (.extract (.s 24) 1), none, 0⟩,
  ⟨(some 7), .p (.mov (.s 28)), none, 0⟩,
  ⟨(some 8), .p (.mov (.s 29)), none, 0⟩]
def c3_4 : List AOper := [
  ⟨(some 40), .p (.pick (.s 38) (.s 39) (.c (.v (.bool false)))), none, 0⟩,
  ⟨(some 4), .p (.mov (.s 40)), none, 0⟩]
def c3_5 : List AOper := (⟨(some 33), .p (.mov (.s 32)), none, 0⟩ ::
  ⟨(some 34), .p (.mov (.s 6)), (some (33, true)), 0⟩ ::
  ⟨(some 35), .p (.mov (.s 8)), (some (33, true)), 0⟩ ::
  ⟨(some 36), .p (.eqa false [.bool] false (.s 34) (.s 35)), (some (33, true)), 0⟩ ::
  ⟨(some 37), .p (.pick (.s 33) (.s 36) (.c (.v (.bool false)))), none, 0⟩ ::
  ⟨(some 38), .p (.mov (.s 37)), none, 0⟩ ::
  ⟨(some 39), .call (.c (.fn 5 [])) [], (some (38, true)), 0⟩ :: c3_4)
def c3_6 : ACode := (.seq (.ops (⟨(some 30), .p (.mov (.s 5)), none, 0⟩ ::
  ⟨(some 31), .p (.mov (.s 7)), none, 0⟩ ::
  ⟨(some 32), .call (.c (.fn 8 [])) [(.s 30), (.s 31)], none, 35⟩ :: c3_5)) .ret)
def c3_7 : ACode := (.seq (.ops (⟨(some 25), .p (.mov (.s 0)), none, 0⟩ ::
  ⟨(some 26), .p (.mov (.s 1)), none, 0⟩ ::
  ⟨(some 27), .call (.c (.fn 7 [])) [(.s 25), (.s 26)], none, 35⟩ :: c3_3)) c3_6)
def c3_8 : ACode := (.seq (.ops (⟨(some 19), .p (.mov (.s 0)), none, 0⟩ ::
  ⟨(some 20), .p (.mov (.s 1)), none, 0⟩ ::
  ⟨(some 21), .call (.c (.fn 6 [])) [(.s 19), (.s 20)], none, 35⟩ :: c3_2)) c3_7)
def c3_9 : ACode := (.seq (.seq (.ops [
  ⟨(some 9), .p (.mov (.s 0)), none, 0⟩,
  ⟨(some 10), .p (.len false (.s 9)), none, 35⟩,
  ⟨(some 11), .p (.bin .gtr (.s 10) (.c (.v (.int .i64 40)))), none, 0⟩,
  ⟨(some 12), .p (.mov (.s 11)), none, 0⟩,
  ⟨(some 13), .p (.mov (.s 1)), (some (12, false)), 0⟩,
  ⟨(some 14), .p (.len false (.s 13)), (some (12, false)), 35⟩,
  ⟨(some 15), .p (.bin .gtr (.s 14) (.c (.v (.int .i64 40)))), (some (12, false)), 0⟩,
  ⟨(some 16), .p (.pick (.s 12) (.c (.v (.bool true))) (.s 15)), none, 0⟩]) c3_1) c3_8)
def c3 : ACode := (.seq (.ops [
  ⟨(some 4), .p (.mov (.c (.v (.bool false)))), none, 0⟩]) c3_9)
theorem t3 : trC Tryz.prog Tryz.f3.ntmps (bodyOf Tryz.f3) = some c3 := by kernel_rfl
theorem r3 : Tryz.f3.results.toList.mapM (trR Tryz.prog) = some [.tmp 4] := by kernel_rfl
def i3 : FI := ⟨41, c3, [.tmp 4]⟩
theorem k3 : Knows Tryz.prog 3 i3 := ⟨Tryz.f3, bodyOf Tryz.f3, Tryz.func3, by kernel_rfl, by kernel_rfl, t3, r3, by kernel_rfl⟩
-- 4 drover/droverlaw23.CodeBoth []
def c4_0 : List AOper := [
  ⟨(some 6), .p (.mov (.s 24)), none, 0⟩]
def c4_1 : ACode := (.cond (.s 23) (.seq (.ops (⟨(some 24), .call (.c (.fn 5 [])) [], none, 0⟩ :: c4_0)) .ret) .skip)
def c4_2 : List AOper := [
  ⟨(some 25), .p (.mov (.s 28)), none, 0⟩,
  ⟨(some 29), .p (.extract (.s 25) 0), none, 0⟩,
  ⟨(some 30), .p (.extract (.s 25) 1), none, 0⟩,
  ⟨(some 7), .p (.mov (.s 29)), none, 0⟩,
  ⟨(some 8), .p (.mov (.s 30)), none, 0⟩]
def c4_3 : List AOper := [
  ⟨(some 9), .p (.mov (.s 33)), none, 0⟩,
  ⟨(some 10), .p (.mov (.s 36)), none, 0⟩]
def c4_4 : List AOper := (⟨(some 34), .p (.mov (.s 1)), none, 0⟩ ::
  ⟨(some 35), .p (.mov (.s 2)), none, 0⟩ ::
  ⟨(some 36), .call (.c (.fn 9 [])) [(.s 34), (.s 35)], none, 35⟩ :: c4_3)
def c4_5 : List AOper := [
  ⟨(some 6), .p (.mov (.s 43)), none, 0⟩]
def c4_6 : ACode := (.cond (.s 42) (.seq (.ops (⟨(some 43), .call (.c (.fn 5 [])) [], none, 0⟩ :: c4_5)) .ret) .skip)
def c4_7 : List AOper := [
  ⟨(some 52), .p (.pick (.s 50) (.s 51) (.c (.v (.bool false)))), none, 0⟩,
  ⟨(some 6), .p (.mov (.s 52)), none, 0⟩]
def c4_8 : ACode := (.cond (.s 45) (.seq (.ops (⟨(some 46), .p (.mov (.s 9)), none, 0⟩ ::
  ⟨(some 47), .p (.mov (.s 10)), none, 0⟩ ::
  ⟨(some 48), .p (.bin .mul (.s 46) (.s 47)), none, 0⟩ ::
  ⟨(some 49), .p (.bin .eql (.s 48) (.c (.v (.int .i64 0)))), none, 0⟩ ::
  ⟨(some 50), .p (.mov (.s 49)), none, 0⟩ ::
  ⟨(some 51), .call (.c (.fn 5 [])) [], (some (50, true)), 0⟩ :: c4_7)) .ret) .skip)
def c4_9 : List AOper := [
  ⟨(some 62), .p (.pick (.s 60) (.s 61) (.c (.v (.bool false)))), none, 0⟩,
  ⟨(some 6), .p (.mov (.s 62)), none, 0⟩]
def c4_10 : List AOper := (⟨(some 56), .p (.mov (.s 9)), none, 0⟩ ::
  ⟨(some 57), .p (.mov (.s 10)), none, 0⟩ ::
  ⟨(some 58), .p (.bin .mul (.s 56) (.s 57)), none, 0⟩ ::
  ⟨(some 59), .p (.bin .eql (.s 55) (.s 58)), none, 0⟩ ::
  ⟨(some 60), .p (.mov (.s 59)), none, 0⟩ ::
  ⟨(some 61), .call (.c (.fn 5 [])) [], (some (60, true)), 0⟩ :: c4_9)
def c4_11 : ACode := (.seq (.ops (⟨(some 53), .p (.mov (.s 7)), none, 0⟩ ::
  ⟨(some 54), .p (.mov (.s 2)), none, 0⟩ ::
  ⟨(some 55), .call (.c (.fn 9 [])) [(.s 53), (.s 54)], none, 35⟩ :: c4_10)) .ret)
def c4_12 : ACode := (.seq (.seq (.ops [
  ⟨(some 44), .p (.mov (.s 8)), none, 0⟩,
  ⟨(some 45), .p (.un .not (.s 44)), none, 0⟩]) c4_8) c4_11)
def c4_13 : ACode := (.seq (.seq (.ops [
  ⟨(some 37), .p (.mov (.s 9)), none, 0⟩,
  ⟨(some 38), .p (.bin .lss (.s 37) (.c (.v (.int .i64 0)))), none, 0⟩,
  ⟨(some 39), .p (.mov (.s 38)), none, 0⟩,
  ⟨(some 40), .p (.mov (.s 10)), (some (39, false)), 0⟩,
  ⟨(some 41), .p (.bin .lss (.s 40) (.c (.v (.int .i64 0)))), (some (39, false)), 0⟩,
  ⟨(some 42), .p (.pick (.s 39) (.c (.v (.bool true))) (.s 41)), none, 0⟩]) c4_6) c4_12)
def c4_14 : ACode := (.seq (.ops (⟨(some 31), .p (.mov (.s 0)), none, 0⟩ ::
  ⟨(some 32), .p (.mov (.s 2)), none, 0⟩ ::
  ⟨(some 33), .call (.c (.fn 9 [])) [(.s 31), (.s 32)], none, 35⟩ :: c4_4)) c4_13)
def c4_15 : ACode := (.seq (.ops (⟨(some 26), .p (.mov (.s 0)), none, 0⟩ ::
  ⟨(some 27), .p (.mov (.s 1)), none, 0⟩ ::
  ⟨(some 28), .call (.c (.fn 6 [])) [(.s 26), (.s 27)], none, 35⟩ :: c4_2)) c4_14)
def c4_16 : ACode := (.seq (.seq (.ops [
  ⟨(some 11), .p (.mov (.s 0)), none, 0⟩,
  ⟨(some 12), .p (.len false (.s 11)), none, 35⟩,
  ⟨(some 13), .p (.bin .gtr (.s 12) (.c (.v (.int .i64 40)))), none, 0⟩,
  ⟨(some 14), .p (.mov (.s 13)), none, 0⟩,
  ⟨(some 15), .p (.mov (.s 1)), (some (14, false)), 0⟩,
  ⟨(some 16), .p (.len false (.s 15)), (some (14, false)), 35⟩,
  ⟨(some 17), .p (.bin .gtr (.s 16) (.c (.v (.int .i64 40)))), (some (14, false)), 0⟩,
  ⟨(some 18), .p (.pick (.s 14) (.c (.v (.bool true))) (.s 17)), none, 0⟩,
  ⟨(some 19), .p (.mov (.s 18)), none, 0⟩,
  ⟨(some 20), .p (.mov (.s 2)), (some (19, false)), 0⟩,
  ⟨(some 21), .p (.len false (.s 20)), (some (19, false)), 33⟩,
  ⟨(some 22), .p (.bin .neq (.s 21) (.c (.v (.int .i64 10)))), (some (19, false)), 0⟩,
  ⟨(some 23), .p (.pick (.s 19) (.c (.v (.bool true))) (.s 22)), none, 0⟩]) c4_1) c4_15)
def c4 : ACode := (.seq (.ops [
  ⟨(some 6), .p (.mov (.c (.v (.bool false)))), none, 0⟩]) c4_16)
theorem t4 : trC Tryz.prog Tryz.f4.ntmps (bodyOf Tryz.f4) = some c4 := by kernel_rfl
theorem r4 : Tryz.f4.results.toList.mapM (trR Tryz.prog) = some [.tmp 6] := by kernel_rfl
def i4 : FI := ⟨63, c4, [.tmp 6]⟩
theorem k4 : Knows Tryz.prog 4 i4 := ⟨Tryz.f4, bodyOf Tryz.f4, Tryz.func4, by kernel_rfl, by kernel_rfl, t4, r4, by kernel_rfl⟩
-- 5 drover/droverlaw23.awake []
def c5_0 : List AOper := [
  ⟨(some 7), .p (.mov (.s 12)), none, 0⟩,
  ⟨(some 13), .p (.extract (.s 7) 0), none, 0⟩,
  ⟨(some 14), .p (.extract (.s 7) 1), none, 0⟩,
  ⟨(some 1), .p (.mov (.s 13)), none, 0⟩,
  ⟨(some 2), .p (.mov (.s 14)), none, 0⟩]
def c5_1 : List AOper := [
  ⟨(some 15), .p (.mov (.s 16)), none, 0⟩,
  ⟨(some 17), .p (.extract (.s 15) 0), none, 0⟩,
  ⟨(some 18), .p (.extract (.s 15) 1), none, 0⟩,
  ⟨(some 3), .p (.mov (.s 17)), none, 0⟩,
  ⟨(some 4), .p (.mov (.s 18)), none, 0⟩]
def c5_2 : List AOper := [
  ⟨(some 19), .p (.mov (.s 24)), none, 0⟩,
  ⟨(some 25), .p (.extract (.s 19) 0), none, 0⟩,
  ⟨(some 26), .p (.extract (.s 19) 1), none, 0⟩,
  ⟨(some 5), .p (.mov (.s 25)), none, 0⟩,
  ⟨(some 6), .p (.mov (.s 26)), none, 0⟩]
def c5_3 : ACode := (.seq (.ops [
  ⟨(some 27), .p (.mov (.s 2)), none, 0⟩,
  ⟨(some 28), .p (.un .not (.s 27)), none, 0⟩,
  ⟨(some 29), .p (.mov (.s 28)), none, 0⟩,
  ⟨(some 30), .p (.mov (.s 4)), (some (29, true)), 0⟩,
  ⟨(some 31), .p (.bin .eql (.s 30) (.c (.v (.int .i64 0)))), (some (29, true)), 0⟩,
  ⟨(some 32), .p (.pick (.s 29) (.s 31) (.c (.v (.bool false)))), none, 0⟩,
  ⟨(some 33), .p (.mov (.s 32)), none, 0⟩,
  ⟨(some 34), .p (.mov (.s 6)), (some (33, true)), 0⟩,
  ⟨(some 35), .p (.bin .eql (.s 34) (.c (.v (.int .i64 1)))), (some (33, true)), 0⟩,
  ⟨(some 36), .p (.pick (.s 33) (.s 35) (.c (.v (.bool false)))), none, 0⟩,
  ⟨(some 0), .p (.mov (.s 36)), none, 0⟩]) .ret)
def c5_4 : ACode := (.seq (.ops (⟨(some 20), .p (.mov (.s 3)), none, 0⟩ ::
  ⟨(some 21), .p (.build [(.v (.int .i64 0)), (.v (.int .i64 0)), (.v (.int .i64 0)), (.v (.int .i64 0))] []), none, 0⟩ ::
  ⟨(some 22), .m (.buildSlice 4 1 [(.v (.int .i64 0)), (.v (.int .i64 0)), (.v (.int .i64 0)), (.v (.int .i64 0))] [(0, 4, (.s 21))]), none, 44⟩ ::
  ⟨(some 23), .p (.build [(.v (.slice none 0 0)), (.v (.slice none 0 0)), (.v (.slice none 0 0))] [(2, 1, (.s 22))]), none, 0⟩ ::
  ⟨(some 24), .call (.c (.fn 11 [])) [(.s 20), (.s 23), (.c (.v (.slice none 0 0)))], none, 61⟩ :: c5_2)) c5_3)
def c5_5 : ACode := (.seq (.ops (⟨(some 16), .call (.c (.fn 10 [])) [(.c (.v (.int .i64 1))), (.c (.v (.slice none 0 0)))], none, 0⟩ :: c5_1)) c5_4)
def c5_6 : ACode := (.seq (.ops (⟨(some 8), .p (.build [(.v (.int .i64 0)), (.v (.int .u64 0)), (.v (.int .u64 0))] [(0, 1, (.c (.v (.int .i64 5)))), (1, 1, (.c (.v (.int .u64 1)))), (2, 1, (.c (.v (.int .u64 1))))]), none, 0⟩ ::
  ⟨(some 9), .m (.buildSlice 3 1 [(.v (.int .i64 0)), (.v (.int .u64 0)), (.v (.int .u64 0))] [(0, 3, (.s 8))]), none, 35⟩ ::
  ⟨(some 10), .p (.build [(.v (.int .i64 0)), (.v (.int .u64 0)), (.v (.int .u64 0))] [(0, 1, (.c (.v (.int .i64 5)))), (2, 1, (.c (.v (.int .u64 1))))]), none, 0⟩ ::
  ⟨(some 11), .m (.buildSlice 3 1 [(.v (.int .i64 0)), (.v (.int .u64 0)), (.v (.int .u64 0))] [(0, 3, (.s 10))]), none, 35⟩ ::
  ⟨(some 12), .call (.c (.fn 6 [])) [(.s 9), (.s 11)], none, 35⟩ :: c5_0)) c5_5)
def c5 : ACode := (.seq (.ops [
  ⟨(some 0), .p (.mov (.c (.v (.bool false)))), none, 0⟩]) c5_6)
theorem t5 : trC Tryz.prog Tryz.f5.ntmps (bodyOf Tryz.f5) = some c5 := by kernel_rfl
theorem r5 : Tryz.f5.results.toList.mapM (trR Tryz.prog) = some [.tmp 0] := by kernel_rfl
def i5 : FI := ⟨37, c5, [.tmp 0]⟩
theorem k5 : Knows Tryz.prog 5 i5 := ⟨Tryz.f5, bodyOf Tryz.f5, Tryz.func5, by kernel_rfl, by kernel_rfl, t5, r5, by kernel_rfl⟩
-- 6 drover/code.Meet []
def c6_0 : List AOper := [
  ⟨(some 15), .p (.len false (.s 14)), none, 35⟩,
  ⟨(some 16), .p (.mov (.c (.v (.int .i64 0)))), none, 0⟩]
def c6_1 : List AOper := [
  ⟨(some 20), .p (.mov (.s 24)), none, 0⟩,
  ⟨(some 25), .p (.extract (.s 20) 0), none, 0⟩,
  ⟨(some 26), .p (.extract (.s 20) 1), none, 0⟩,
  ⟨(some 9), .p (.mov (.s 25)), none, 0⟩,
  ⟨(some 10), .p (.mov (.s 26)), none, 0⟩]
def c6_2 : List AOper := [
  ⟨(some 6), .p (.mov (.s 54)), none, 0⟩]
def c6_3 : ACode := (.draw [
  ⟨(some 37), .p (.mov (.s 6)), none, 0⟩,
  ⟨(some 38), .p (.mov (.s 9)), none, 0⟩,
  ⟨(some 39), .p (.adrSl 3 (.s 37) (.s 38)), none, 0⟩,
  ⟨(some 40), .p (.fieldAddr 2 none (.s 39)), none, 0⟩,
  ⟨(some 41), .m (.load none (.s 40)), none, 0⟩,
  ⟨(some 42), .p (.fieldAddr 2 none (.s 8)), none, 0⟩,
  ⟨(some 43), .m (.load none (.s 42)), none, 0⟩,
  ⟨(some 44), .p (.bin .or (.s 41) (.s 43)), none, 0⟩,
  ⟨(some 45), .p (.adrSl 3 (.s 37) (.s 38)), none, 0⟩,
  ⟨(some 46), .p (.fieldAddr 2 none (.s 45)), none, 0⟩,
  ⟨none, .m (.store none (.s 46) (.s 44)), none, 0⟩])
def c6_4 : ACode := (.cond (.s 55) (.seq (.ops [
  ⟨(some 4), .p (.mov (.c (.v (.slice none 0 0)))), none, 0⟩,
  ⟨(some 5), .p (.mov (.c (.v (.bool false)))), none, 0⟩]) .ret) (.seq (.draw [
  ⟨(some 27), .p (.mov (.s 6)), none, 0⟩,
  ⟨(some 28), .p (.mov (.s 9)), none, 0⟩,
  ⟨(some 29), .p (.adrSl 3 (.s 27) (.s 28)), none, 0⟩,
  ⟨(some 30), .p (.fieldAddr 1 none (.s 29)), none, 0⟩,
  ⟨(some 31), .m (.load none (.s 30)), none, 0⟩,
  ⟨(some 32), .p (.fieldAddr 1 none (.s 8)), none, 0⟩,
  ⟨(some 33), .m (.load none (.s 32)), none, 0⟩,
  ⟨(some 34), .p (.bin .or (.s 31) (.s 33)), none, 0⟩,
  ⟨(some 35), .p (.adrSl 3 (.s 27) (.s 28)), none, 0⟩,
  ⟨(some 36), .p (.fieldAddr 1 none (.s 35)), none, 0⟩,
  ⟨none, .m (.store none (.s 36) (.s 34)), none, 0⟩]) c6_3))
def c6_5 : ACode := (.cond (.s 47) (.ops (⟨(some 50), .p (.mov (.s 6)), none, 0⟩ ::
  ⟨(some 51), .p (.mov (.s 9)), none, 0⟩ ::
  ⟨(some 52), .m (.load (some 3) (.s 8)), none, 0⟩ ::
  ⟨(some 53), .m (.buildSlice 3 1 [(.v (.int .i64 0)), (.v (.int .u64 0)), (.v (.int .u64 0))] [(0, 3, (.s 52))]), none, 35⟩ ::
  ⟨(some 54), .call (.c (.fn 16 [])) [(.s 50), (.s 51), (.s 53)], none, 35⟩ :: c6_2)) (.seq (.draw [
  ⟨(some 56), .p (.mov (.s 6)), none, 0⟩,
  ⟨(some 57), .p (.mov (.s 9)), none, 0⟩,
  ⟨(some 58), .p (.adrSl 3 (.s 56) (.s 57)), none, 0⟩,
  ⟨(some 59), .p (.fieldAddr 1 none (.s 58)), none, 0⟩,
  ⟨(some 60), .m (.load none (.s 59)), none, 0⟩,
  ⟨(some 61), .p (.fieldAddr 1 none (.s 8)), none, 0⟩,
  ⟨(some 62), .m (.load none (.s 61)), none, 0⟩,
  ⟨(some 63), .p (.bin .xor (.s 60) (.s 62)), none, 0⟩,
  ⟨(some 64), .p (.mov (.s 6)), none, 0⟩,
  ⟨(some 65), .p (.mov (.s 9)), none, 0⟩,
  ⟨(some 66), .p (.adrSl 3 (.s 64) (.s 65)), none, 0⟩,
  ⟨(some 67), .p (.fieldAddr 2 none (.s 66)), none, 0⟩,
  ⟨(some 68), .m (.load none (.s 67)), none, 0⟩,
  ⟨(some 69), .p (.bin .and (.s 63) (.s 68)), none, 0⟩,
  ⟨(some 70), .p (.fieldAddr 2 none (.s 8)), none, 0⟩,
  ⟨(some 71), .m (.load none (.s 70)), none, 0⟩,
  ⟨(some 72), .p (.bin .and (.s 69) (.s 71)), none, 0⟩,
  ⟨(some 73), .p (.bin .neq (.s 72) (.c (.v (.int .u64 0)))), none, 0⟩,
  ⟨(some 55), .p (.mov (.s 73)), none, 0⟩]) c6_4))
def c6_6 : ACode := (.block 2 (.seq (.ops [
  ⟨(some 48), .p (.mov (.s 10)), none, 0⟩,
  ⟨(some 49), .p (.un .not (.s 48)), none, 0⟩,
  ⟨(some 47), .p (.mov (.s 49)), none, 0⟩]) c6_5))
def c6_7 : ACode := (.seq (.ops (⟨(some 21), .p (.mov (.s 6)), none, 0⟩ ::
  ⟨(some 22), .p (.fieldAddr 0 none (.s 8)), none, 0⟩ ::
  ⟨(some 23), .m (.load none (.s 22)), none, 0⟩ ::
  ⟨(some 24), .call (.c (.fn 13 [])) [(.s 21), (.s 23), (.c (.fn 14 []))], none, 35⟩ :: c6_1)) c6_6)
def c6_8 : ACode := (.ops [
  ⟨(some 74), .p (.bin .add (.s 16) (.c (.v (.int .i64 1)))), none, 0⟩,
  ⟨(some 16), .p (.mov (.s 74)), none, 0⟩])
def c6_9 : ACode := (.seq (.block 1 (.seq (.ops [
  ⟨(some 18), .p (.adrSl 3 (.s 14) (.s 16)), none, 0⟩,
  ⟨(some 19), .m (.load (some 3) (.s 18)), none, 0⟩,
  ⟨(some 8), .m (.alloc [(.v (.int .i64 0)), (.v (.int .u64 0)), (.v (.int .u64 0))]), none, 0⟩,
  ⟨none, .m (.store (some 3) (.s 8) (.s 19)), none, 0⟩]) c6_7)) c6_8)
def c6_10 : ACode := (.seq (.cond (.s 17) .skip (.exit 0)) c6_9)
def c6_11 : ACode := (.seq (.ops [
  ⟨(some 17), .p (.bin .lss (.s 16) (.s 15)), none, 0⟩]) c6_10)
def c6_12 : ACode := (.block 0 (.loop c6_11))
def c6_13 : ACode := (.seq (.ops [
  ⟨(some 75), .p (.mov (.s 6)), none, 0⟩,
  ⟨(some 4), .p (.mov (.s 75)), none, 0⟩,
  ⟨(some 5), .p (.mov (.c (.v (.bool true)))), none, 0⟩]) .ret)
def c6_14 : ACode := (.seq (.seq (.ops (⟨(some 11), .p (.mov (.s 0)), none, 0⟩ ::
  ⟨(some 12), .p (.mov (.s 1)), none, 0⟩ ::
  ⟨(some 13), .m (.buildSlice 1 2 [(.v (.slice none 0 0)), (.v (.slice none 0 0))] [(0, 1, (.s 11)), (1, 1, (.s 12))]), none, 24⟩ ::
  ⟨(some 14), .call (.c (.fn 12 [])) [(.s 13)], none, 24⟩ :: c6_0)) c6_12) c6_13)
def c6_15 : ACode := (.seq (.ops [
  ⟨(some 6), .p (.mov (.c (.v (.slice none 0 0)))), none, 0⟩]) c6_14)
def c6 : ACode := (.seq (.ops [
  ⟨(some 4), .p (.mov (.c (.v (.slice none 0 0)))), none, 0⟩,
  ⟨(some 5), .p (.mov (.c (.v (.bool false)))), none, 0⟩]) c6_15)
theorem t6 : trC Tryz.prog Tryz.f6.ntmps (bodyOf Tryz.f6) = some c6 := by kernel_rfl
theorem r6 : Tryz.f6.results.toList.mapM (trR Tryz.prog) = some [.tmp 4, .tmp 5] := by kernel_rfl
def i6 : FI := ⟨76, c6, [.tmp 4, .tmp 5]⟩
theorem k6 : Knows Tryz.prog 6 i6 := ⟨Tryz.f6, bodyOf Tryz.f6, Tryz.func6, by kernel_rfl, by kernel_rfl, t6, r6, by kernel_rfl⟩
-- 7 drover/droverref23.Meet []
def c7_0 : ACode := (.cond (.s 21) .skip (.exit 0))
def c7_1 : ACode := (.cond (.s 41) .skip (.exit 2))
def c7_2 : ACode := (.block 3 (.ops [
  ⟨(some 42), .p (.mov (.s 10)), none, 0⟩,
  ⟨(some 43), .p (.bin .add (.s 42) (.c (.v (.int .i64 1)))), none, 0⟩,
  ⟨(some 10), .p (.mov (.s 43)), none, 0⟩]))
def c7_3 : ACode := (.seq (.seq (.draw [
  ⟨(some 28), .p (.mov (.s 10)), none, 0⟩,
  ⟨(some 29), .p (.mov (.s 7)), none, 0⟩,
  ⟨(some 30), .p (.len false (.s 29)), none, 35⟩,
  ⟨(some 31), .p (.bin .lss (.s 28) (.s 30)), none, 0⟩,
  ⟨(some 32), .p (.mov (.s 31)), none, 0⟩,
  ⟨(some 33), .p (.mov (.s 7)), (some (32, true)), 0⟩,
  ⟨(some 34), .p (.mov (.s 10)), (some (32, true)), 0⟩,
  ⟨(some 35), .p (.adrSl 3 (.s 33) (.s 34)), (some (32, true)), 0⟩,
  ⟨(some 36), .p (.fieldAddr 0 none (.s 35)), (some (32, true)), 0⟩,
  ⟨(some 37), .m (.load none (.s 36)), (some (32, true)), 0⟩,
  ⟨(some 38), .p (.fieldAddr 0 none (.s 9)), (some (32, true)), 0⟩,
  ⟨(some 39), .m (.load none (.s 38)), (some (32, true)), 0⟩,
  ⟨(some 40), .p (.bin .lss (.s 37) (.s 39)), (some (32, true)), 0⟩,
  ⟨(some 41), .p (.pick (.s 32) (.s 40) (.c (.v (.bool false)))), none, 0⟩]) c7_1) c7_2)
def c7_4 : ACode := (.cond (.s 75) (.seq (.ops [
  ⟨(some 4), .p (.mov (.c (.v (.slice none 0 0)))), none, 0⟩,
  ⟨(some 5), .p (.mov (.c (.v (.bool false)))), none, 0⟩]) .ret) .skip)
def c7_5 : ACode := (.seq (.draw [
  ⟨(some 88), .p (.mov (.s 7)), none, 0⟩,
  ⟨(some 89), .p (.mov (.s 10)), none, 0⟩,
  ⟨(some 90), .p (.mov (.s 7)), none, 0⟩,
  ⟨(some 91), .p (.mov (.s 10)), none, 0⟩,
  ⟨(some 92), .p (.adrSl 3 (.s 90) (.s 91)), none, 0⟩,
  ⟨(some 93), .p (.fieldAddr 2 none (.s 92)), none, 0⟩,
  ⟨(some 94), .m (.load none (.s 93)), none, 0⟩,
  ⟨(some 95), .p (.fieldAddr 2 none (.s 9)), none, 0⟩,
  ⟨(some 96), .m (.load none (.s 95)), none, 0⟩,
  ⟨(some 97), .p (.bin .or (.s 94) (.s 96)), none, 0⟩,
  ⟨(some 98), .p (.adrSl 3 (.s 88) (.s 89)), none, 0⟩,
  ⟨(some 99), .p (.fieldAddr 2 none (.s 98)), none, 0⟩,
  ⟨none, .m (.store none (.s 99) (.s 97)), none, 0⟩]) (.exit 1))
def c7_6 : ACode := (.seq (.draw [
  ⟨(some 76), .p (.mov (.s 7)), none, 0⟩,
  ⟨(some 77), .p (.mov (.s 10)), none, 0⟩,
  ⟨(some 78), .p (.mov (.s 7)), none, 0⟩,
  ⟨(some 79), .p (.mov (.s 10)), none, 0⟩,
  ⟨(some 80), .p (.adrSl 3 (.s 78) (.s 79)), none, 0⟩,
  ⟨(some 81), .p (.fieldAddr 1 none (.s 80)), none, 0⟩,
  ⟨(some 82), .m (.load none (.s 81)), none, 0⟩,
  ⟨(some 83), .p (.fieldAddr 1 none (.s 9)), none, 0⟩,
  ⟨(some 84), .m (.load none (.s 83)), none, 0⟩,
  ⟨(some 85), .p (.bin .or (.s 82) (.s 84)), none, 0⟩,
  ⟨(some 86), .p (.adrSl 3 (.s 76) (.s 77)), none, 0⟩,
  ⟨(some 87), .p (.fieldAddr 1 none (.s 86)), none, 0⟩,
  ⟨none, .m (.store none (.s 87) (.s 85)), none, 0⟩]) c7_5)
def c7_7 : ACode := (.cond (.s 57) (.seq (.seq (.draw [
  ⟨(some 58), .p (.mov (.s 7)), none, 0⟩,
  ⟨(some 59), .p (.mov (.s 10)), none, 0⟩,
  ⟨(some 60), .p (.adrSl 3 (.s 58) (.s 59)), none, 0⟩,
  ⟨(some 61), .p (.fieldAddr 1 none (.s 60)), none, 0⟩,
  ⟨(some 62), .m (.load none (.s 61)), none, 0⟩,
  ⟨(some 63), .p (.fieldAddr 1 none (.s 9)), none, 0⟩,
  ⟨(some 64), .m (.load none (.s 63)), none, 0⟩,
  ⟨(some 65), .p (.bin .xor (.s 62) (.s 64)), none, 0⟩,
  ⟨(some 66), .p (.mov (.s 7)), none, 0⟩,
  ⟨(some 67), .p (.mov (.s 10)), none, 0⟩,
  ⟨(some 68), .p (.adrSl 3 (.s 66) (.s 67)), none, 0⟩,
  ⟨(some 69), .p (.fieldAddr 2 none (.s 68)), none, 0⟩,
  ⟨(some 70), .m (.load none (.s 69)), none, 0⟩,
  ⟨(some 71), .p (.bin .and (.s 65) (.s 70)), none, 0⟩,
  ⟨(some 72), .p (.fieldAddr 2 none (.s 9)), none, 0⟩,
  ⟨(some 73), .m (.load none (.s 72)), none, 0⟩,
  ⟨(some 74), .p (.bin .and (.s 71) (.s 73)), none, 0⟩,
  ⟨(some 75), .p (.bin .neq (.s 74) (.c (.v (.int .u64 0)))), none, 0⟩]) c7_4) c7_6) .skip)
def c7_8 : ACode := (.ops [
  ⟨(some 109), .p (.mov (.s 11)), none, 0⟩,
  ⟨(some 110), .p (.mov (.s 7)), none, 0⟩,
  ⟨(some 111), .p (.mov (.s 10)), none, 0⟩,
  ⟨(some 112), .p (.slSl 3 (.s 110) (some (.s 111)) none none), none, 0⟩,
  ⟨(some 113), .m (.append 3 24 (.s 109) (.s 112)), none, 35⟩,
  ⟨(some 7), .p (.mov (.s 113)), none, 0⟩])
def c7_9 : ACode := (.seq (.ops [
  ⟨(some 105), .p (.mov (.s 11)), none, 0⟩,
  ⟨(some 106), .m (.load (some 3) (.s 9)), none, 0⟩,
  ⟨(some 107), .m (.buildSlice 3 1 [(.v (.int .i64 0)), (.v (.int .u64 0)), (.v (.int .u64 0))] [(0, 3, (.s 106))]), none, 35⟩,
  ⟨(some 108), .m (.append 3 24 (.s 105) (.s 107)), none, 35⟩,
  ⟨(some 11), .p (.mov (.s 108)), none, 0⟩]) c7_8)
def c7_10 : ACode := (.seq (.ops [
  ⟨(some 100), .p (.mov (.s 11)), none, 0⟩,
  ⟨(some 101), .p (.mov (.s 7)), none, 0⟩,
  ⟨(some 102), .p (.mov (.s 10)), none, 0⟩,
  ⟨(some 103), .p (.slSl 3 (.s 101) none (some (.s 102)) none), none, 0⟩,
  ⟨(some 104), .m (.append 3 24 (.s 100) (.s 103)), none, 35⟩,
  ⟨(some 11), .p (.mov (.s 104)), none, 0⟩]) c7_9)
def c7_11 : ACode := (.seq (.ops [
  ⟨(some 11), .p (.mov (.c (.v (.slice none 0 0)))), none, 0⟩]) c7_10)
def c7_12 : ACode := (.seq (.seq (.draw [
  ⟨(some 44), .p (.mov (.s 10)), none, 0⟩,
  ⟨(some 45), .p (.mov (.s 7)), none, 0⟩,
  ⟨(some 46), .p (.len false (.s 45)), none, 35⟩,
  ⟨(some 47), .p (.bin .lss (.s 44) (.s 46)), none, 0⟩,
  ⟨(some 48), .p (.mov (.s 47)), none, 0⟩,
  ⟨(some 49), .p (.mov (.s 7)), (some (48, true)), 0⟩,
  ⟨(some 50), .p (.mov (.s 10)), (some (48, true)), 0⟩,
  ⟨(some 51), .p (.adrSl 3 (.s 49) (.s 50)), (some (48, true)), 0⟩,
  ⟨(some 52), .p (.fieldAddr 0 none (.s 51)), (some (48, true)), 0⟩,
  ⟨(some 53), .m (.load none (.s 52)), (some (48, true)), 0⟩,
  ⟨(some 54), .p (.fieldAddr 0 none (.s 9)), (some (48, true)), 0⟩,
  ⟨(some 55), .m (.load none (.s 54)), (some (48, true)), 0⟩,
  ⟨(some 56), .p (.bin .eql (.s 53) (.s 55)), (some (48, true)), 0⟩,
  ⟨(some 57), .p (.pick (.s 48) (.s 56) (.c (.v (.bool false)))), none, 0⟩]) c7_7) c7_11)
def c7_13 : ACode := (.seq (.block 2 (.loop c7_3)) c7_12)
def c7_14 : ACode := (.seq (.ops [
  ⟨(some 10), .p (.mov (.c (.v (.int .i64 0)))), none, 0⟩]) c7_13)
def c7_15 : ACode := (.ops [
  ⟨(some 22), .p (.mov (.s 8)), none, 0⟩,
  ⟨(some 23), .p (.bin .add (.s 22) (.c (.v (.int .i64 1)))), none, 0⟩,
  ⟨(some 8), .p (.mov (.s 23)), none, 0⟩])
def c7_16 : ACode := (.seq (.block 1 (.seq (.ops [
  ⟨(some 24), .p (.mov (.s 6)), none, 0⟩,
  ⟨(some 25), .p (.mov (.s 8)), none, 0⟩,
  ⟨(some 26), .p (.adrSl 3 (.s 24) (.s 25)), none, 0⟩,
  ⟨(some 27), .m (.load (some 3) (.s 26)), none, 0⟩,
  ⟨(some 9), .m (.alloc [(.v (.int .i64 0)), (.v (.int .u64 0)), (.v (.int .u64 0))]), none, 0⟩,
  ⟨none, .m (.store (some 3) (.s 9) (.s 27)), none, 0⟩]) c7_14)) c7_15)
def c7_17 : ACode := (.seq (.seq (.ops [
  ⟨(some 18), .p (.mov (.s 8)), none, 0⟩,
  ⟨(some 19), .p (.mov (.s 6)), none, 0⟩,
  ⟨(some 20), .p (.len false (.s 19)), none, 35⟩,
  ⟨(some 21), .p (.bin .lss (.s 18) (.s 20)), none, 0⟩]) c7_0) c7_16)
def c7_18 : ACode := (.block 0 (.loop c7_17))
def c7_19 : ACode := (.seq (.ops [
  ⟨(some 114), .p (.mov (.s 7)), none, 0⟩,
  ⟨(some 4), .p (.mov (.s 114)), none, 0⟩,
  ⟨(some 5), .p (.mov (.c (.v (.bool true)))), none, 0⟩]) .ret)
def c7_20 : ACode := (.seq (.seq (.ops [
  ⟨(some 8), .p (.mov (.c (.v (.int .i64 0)))), none, 0⟩]) c7_18) c7_19)
def c7_21 : ACode := (.seq (.ops [
  ⟨(some 7), .p (.mov (.c (.v (.slice none 0 0)))), none, 0⟩]) c7_20)
def c7_22 : ACode := (.seq (.ops [
  ⟨(some 15), .p (.mov (.s 6)), none, 0⟩,
  ⟨(some 16), .p (.mov (.s 1)), none, 0⟩,
  ⟨(some 17), .m (.append 3 24 (.s 15) (.s 16)), none, 35⟩,
  ⟨(some 6), .p (.mov (.s 17)), none, 0⟩]) c7_21)
def c7_23 : ACode := (.seq (.ops [
  ⟨(some 12), .p (.mov (.s 6)), none, 0⟩,
  ⟨(some 13), .p (.mov (.s 0)), none, 0⟩,
  ⟨(some 14), .m (.append 3 24 (.s 12) (.s 13)), none, 35⟩,
  ⟨(some 6), .p (.mov (.s 14)), none, 0⟩]) c7_22)
def c7_24 : ACode := (.seq (.ops [
  ⟨(some 6), .p (.mov (.c (.v (.slice none 0 0)))), none, 0⟩]) c7_23)
def c7 : ACode := (.seq (.ops [
  ⟨(some 4), .p (.mov (.c (.v (.slice none 0 0)))), none, 0⟩,
  ⟨(some 5), .p (.mov (.c (.v (.bool false)))), none, 0⟩]) c7_24)
theorem t7 : trC Tryz.prog Tryz.f7.ntmps (bodyOf Tryz.f7) = some c7 := by kernel_rfl
theorem r7 : Tryz.f7.results.toList.mapM (trR Tryz.prog) = some [.tmp 4, .tmp 5] := by kernel_rfl
def i7 : FI := ⟨115, c7, [.tmp 4, .tmp 5]⟩
theorem k7 : Knows Tryz.prog 7 i7 := ⟨Tryz.f7, bodyOf Tryz.f7, Tryz.func7, by kernel_rfl, by kernel_rfl, t7, r7, by kernel_rfl⟩
-- 8 drover/droverref05.Same []
def c8_0 : ACode := (.cond (.s 10) (.seq (.ops [
  ⟨(some 4), .p (.mov (.c (.v (.bool false)))), none, 0⟩]) .ret) .skip)
def c8_1 : ACode := (.cond (.s 14) .skip (.exit 0))
def c8_2 : ACode := (.cond (.s 25) (.seq (.ops [
  ⟨(some 4), .p (.mov (.c (.v (.bool false)))), none, 0⟩]) .ret) .skip)
def c8_3 : ACode := (.ops [
  ⟨(some 15), .p (.mov (.s 5)), none, 0⟩,
  ⟨(some 16), .p (.bin .add (.s 15) (.c (.v (.int .i64 1)))), none, 0⟩,
  ⟨(some 5), .p (.mov (.s 16)), none, 0⟩])
def c8_4 : ACode := (.seq (.block 1 (.seq (.draw [
  ⟨(some 17), .p (.mov (.s 0)), none, 0⟩,
  ⟨(some 18), .p (.mov (.s 5)), none, 0⟩,
  ⟨(some 19), .p (.adrSl 3 (.s 17) (.s 18)), none, 0⟩,
  ⟨(some 20), .m (.load (some 3) (.s 19)), none, 0⟩,
  ⟨(some 21), .p (.mov (.s 1)), none, 0⟩,
  ⟨(some 22), .p (.mov (.s 5)), none, 0⟩,
  ⟨(some 23), .p (.adrSl 3 (.s 21) (.s 22)), none, 0⟩,
  ⟨(some 24), .m (.load (some 3) (.s 23)), none, 0⟩,
  ⟨(some 25), .p (.eqa true [(.int .i64), (.int .u64), (.int .u64)] true (.s 20) (.s 24)), none, 0⟩]) c8_2)) c8_3)
def c8_5 : ACode := (.seq (.seq (.ops [
  ⟨(some 11), .p (.mov (.s 5)), none, 0⟩,
  ⟨(some 12), .p (.mov (.s 0)), none, 0⟩,
  ⟨(some 13), .p (.len false (.s 12)), none, 35⟩,
  ⟨(some 14), .p (.bin .lss (.s 11) (.s 13)), none, 0⟩]) c8_1) c8_4)
def c8_6 : ACode := (.block 0 (.loop c8_5))
def c8_7 : ACode := (.seq (.ops [
  ⟨(some 4), .p (.mov (.c (.v (.bool true)))), none, 0⟩]) .ret)
def c8_8 : ACode := (.seq (.seq (.ops [
  ⟨(some 5), .p (.mov (.c (.v (.int .i64 0)))), none, 0⟩]) c8_6) c8_7)
def c8_9 : ACode := (.seq (.seq (.ops [
  ⟨(some 6), .p (.mov (.s 0)), none, 0⟩,
  ⟨(some 7), .p (.len false (.s 6)), none, 35⟩,
  ⟨(some 8), .p (.mov (.s 1)), none, 0⟩,
  ⟨(some 9), .p (.len false (.s 8)), none, 35⟩,
  ⟨(some 10), .p (.bin .neq (.s 7) (.s 9)), none, 0⟩]) c8_0) c8_8)
def c8 : ACode := (.seq (.ops [
  ⟨(some 4), .p (.mov (.c (.v (.bool false)))), none, 0⟩]) c8_9)
theorem t8 : trC Tryz.prog Tryz.f8.ntmps (bodyOf Tryz.f8) = some c8 := by kernel_rfl
theorem r8 : Tryz.f8.results.toList.mapM (trR Tryz.prog) = some [.tmp 4] := by kernel_rfl
def i8 : FI := ⟨26, c8, [.tmp 4]⟩
theorem k8 : Knows Tryz.prog 8 i8 := ⟨Tryz.f8, bodyOf Tryz.f8, Tryz.func8, by kernel_rfl, by kernel_rfl, t8, r8, by kernel_rfl⟩
-- 9 drover/droverlaw23.takes []
def c9_0 : ACode := (.cond (.s 11) .skip (.exit 0))
def c9_1 : ACode := (.cond (.s 43) (.seq (.ops [
  ⟨(some 4), .p (.mov (.c (.v (.int .i64 (-1))))), none, 0⟩]) .ret) .skip)
def c9_2 : ACode := (.cond (.s 59) (.ops [
  ⟨(some 5), .p (.mov (.c (.v (.int .i64 0)))), none, 0⟩]) .skip)
def c9_3 : ACode := (.seq (.draw [
  ⟨(some 44), .p (.mov (.s 1)), none, 0⟩,
  ⟨(some 45), .p (.mov (.s 7)), none, 0⟩,
  ⟨(some 46), .p (.adrSl 1 (.s 44) (.s 45)), none, 0⟩,
  ⟨(some 47), .m (.load none (.s 46)), none, 0⟩,
  ⟨(some 48), .p (.mov (.s 0)), none, 0⟩,
  ⟨(some 49), .p (.mov (.s 6)), none, 0⟩,
  ⟨(some 50), .p (.adrSl 3 (.s 48) (.s 49)), none, 0⟩,
  ⟨(some 51), .p (.fieldAddr 2 none (.s 50)), none, 0⟩,
  ⟨(some 52), .m (.load none (.s 51)), none, 0⟩,
  ⟨(some 53), .p (.bin .and (.s 47) (.s 52)), none, 0⟩,
  ⟨(some 54), .p (.mov (.s 0)), none, 0⟩,
  ⟨(some 55), .p (.mov (.s 6)), none, 0⟩,
  ⟨(some 56), .p (.adrSl 3 (.s 54) (.s 55)), none, 0⟩,
  ⟨(some 57), .p (.fieldAddr 1 none (.s 56)), none, 0⟩,
  ⟨(some 58), .m (.load none (.s 57)), none, 0⟩,
  ⟨(some 59), .p (.bin .neq (.s 53) (.s 58)), none, 0⟩]) c9_2)
def c9_4 : ACode := (.seq (.seq (.draw [
  ⟨(some 19), .p (.mov (.s 7)), none, 0⟩,
  ⟨(some 20), .p (.bin .lss (.s 19) (.c (.v (.int .i64 0)))), none, 0⟩,
  ⟨(some 21), .p (.mov (.s 20)), none, 0⟩,
  ⟨(some 22), .p (.mov (.s 7)), (some (21, false)), 0⟩,
  ⟨(some 23), .p (.bin .gtr (.s 22) (.c (.v (.int .i64 9)))), (some (21, false)), 0⟩,
  ⟨(some 24), .p (.pick (.s 21) (.c (.v (.bool true))) (.s 23)), none, 0⟩,
  ⟨(some 25), .p (.mov (.s 24)), none, 0⟩,
  ⟨(some 26), .p (.mov (.s 0)), (some (25, false)), 0⟩,
  ⟨(some 27), .p (.mov (.s 6)), (some (25, false)), 0⟩,
  ⟨(some 28), .p (.adrSl 3 (.s 26) (.s 27)), (some (25, false)), 0⟩,
  ⟨(some 29), .p (.fieldAddr 1 none (.s 28)), (some (25, false)), 0⟩,
  ⟨(some 30), .m (.load none (.s 29)), (some (25, false)), 0⟩,
  ⟨(some 31), .p (.mov (.s 0)), (some (25, false)), 0⟩,
  ⟨(some 32), .p (.mov (.s 6)), (some (25, false)), 0⟩,
  ⟨(some 33), .p (.adrSl 3 (.s 31) (.s 32)), (some (25, false)), 0⟩,
  ⟨(some 34), .p (.fieldAddr 2 none (.s 33)), (some (25, false)), 0⟩,
  ⟨(some 35), .m (.load none (.s 34)), (some (25, false)), 0⟩,
  ⟨(some 36), .p (.bin .and (.s 30) (.s 35)), (some (25, false)), 0⟩,
  ⟨(some 37), .p (.mov (.s 0)), (some (25, false)), 0⟩,
  ⟨(some 38), .p (.mov (.s 6)), (some (25, false)), 0⟩,
  ⟨(some 39), .p (.adrSl 3 (.s 37) (.s 38)), (some (25, false)), 0⟩,
  ⟨(some 40), .p (.fieldAddr 1 none (.s 39)), (some (25, false)), 0⟩,
  ⟨(some 41), .m (.load none (.s 40)), (some (25, false)), 0⟩,
  ⟨(some 42), .p (.bin .neq (.s 36) (.s 41)), (some (25, false)), 0⟩,
  ⟨(some 43), .p (.pick (.s 25) (.c (.v (.bool true))) (.s 42)), none, 0⟩]) c9_1) c9_3)
def c9_5 : ACode := (.ops [
  ⟨(some 12), .p (.mov (.s 6)), none, 0⟩,
  ⟨(some 13), .p (.bin .add (.s 12) (.c (.v (.int .i64 1)))), none, 0⟩,
  ⟨(some 6), .p (.mov (.s 13)), none, 0⟩])
def c9_6 : ACode := (.seq (.block 1 (.seq (.ops [
  ⟨(some 14), .p (.mov (.s 0)), none, 0⟩,
  ⟨(some 15), .p (.mov (.s 6)), none, 0⟩,
  ⟨(some 16), .p (.adrSl 3 (.s 14) (.s 15)), none, 0⟩,
  ⟨(some 17), .p (.fieldAddr 0 none (.s 16)), none, 0⟩,
  ⟨(some 18), .m (.load none (.s 17)), none, 0⟩,
  ⟨(some 7), .p (.mov (.s 18)), none, 0⟩]) c9_4)) c9_5)
def c9_7 : ACode := (.seq (.seq (.ops [
  ⟨(some 8), .p (.mov (.s 6)), none, 0⟩,
  ⟨(some 9), .p (.mov (.s 0)), none, 0⟩,
  ⟨(some 10), .p (.len false (.s 9)), none, 35⟩,
  ⟨(some 11), .p (.bin .lss (.s 8) (.s 10)), none, 0⟩]) c9_0) c9_6)
def c9_8 : ACode := (.block 0 (.loop c9_7))
def c9_9 : ACode := (.seq (.ops [
  ⟨(some 60), .p (.mov (.s 5)), none, 0⟩,
  ⟨(some 4), .p (.mov (.s 60)), none, 0⟩]) .ret)
def c9_10 : ACode := (.seq (.seq (.ops [
  ⟨(some 6), .p (.mov (.c (.v (.int .i64 0)))), none, 0⟩]) c9_8) c9_9)
def c9_11 : ACode := (.seq (.ops [
  ⟨(some 5), .p (.mov (.c (.v (.int .i64 1)))), none, 0⟩]) c9_10)
def c9 : ACode := (.seq (.ops [
  ⟨(some 4), .p (.mov (.c (.v (.int .i64 0)))), none, 0⟩]) c9_11)
theorem t9 : trC Tryz.prog Tryz.f9.ntmps (bodyOf Tryz.f9) = some c9 := by kernel_rfl
theorem r9 : Tryz.f9.results.toList.mapM (trR Tryz.prog) = some [.tmp 4] := by kernel_rfl
def i9 : FI := ⟨61, c9, [.tmp 4]⟩
theorem k9 : Knows Tryz.prog 9 i9 := ⟨Tryz.f9, bodyOf Tryz.f9, Tryz.func9, by kernel_rfl, by kernel_rfl, t9, r9, by kernel_rfl⟩
-- 10 drover/topo.New []
def c10_0 : ACode := (.cond (.s 19) (.seq (.ops [
  ⟨(some 4), .p (.mov (.c (.v (.pointer none)))), none, 0⟩,
  ⟨(some 5), .p (.mov (.c (.v (.int .i64 42)))), none, 0⟩]) .ret) .skip)
def c10_1 : List AOper := [
  ⟨(some 39), .p (.un .not (.s 38)), (some (35, false)), 0⟩,
  ⟨(some 40), .p (.pick (.s 35) (.c (.v (.bool true))) (.s 39)), none, 0⟩]
def c10_2 : List AOper := (⟨(some 34), .p (.un .not (.s 33)), none, 0⟩ ::
  ⟨(some 35), .p (.mov (.s 34)), none, 0⟩ ::
  ⟨(some 36), .p (.mov (.s 6)), (some (35, false)), 0⟩ ::
  ⟨(some 37), .m (.load (some 5) (.s 8)), (some (35, false)), 0⟩ ::
  ⟨(some 38), .call (.c (.fn 18 [])) [(.s 36), (.s 37)], (some (35, false)), 61⟩ :: c10_1)
def c10_3 : ACode := (.cond (.s 40) (.seq (.ops [
  ⟨(some 4), .p (.mov (.c (.v (.pointer none)))), none, 0⟩,
  ⟨(some 5), .p (.mov (.c (.v (.int .i64 42)))), none, 0⟩]) .ret) .skip)
def c10_4 : ACode := (.seq (.ops (⟨(some 31), .m (.load (some 5) (.s 8)), none, 0⟩ ::
  ⟨(some 32), .p (.mov (.s 0)), none, 0⟩ ::
  ⟨(some 33), .call (.c (.fn 17 [])) [(.s 31), (.s 32)], none, 0⟩ :: c10_2)) c10_3)
def c10_5 : ACode := (.ops [
  ⟨(some 41), .p (.bin .add (.s 27) (.c (.v (.int .i64 1)))), none, 0⟩,
  ⟨(some 27), .p (.mov (.s 41)), none, 0⟩])
def c10_6 : ACode := (.seq (.block 1 (.seq (.ops [
  ⟨(some 29), .p (.adrSl 5 (.s 25) (.s 27)), none, 0⟩,
  ⟨(some 30), .m (.load (some 5) (.s 29)), none, 0⟩,
  ⟨(some 8), .m (.alloc [(.v (.int .i64 0)), (.v (.int .i64 0)), (.v (.int .i64 0)), (.v (.int .i64 0)), (.v (.float .f64 0))]), none, 0⟩,
  ⟨none, .m (.store (some 5) (.s 8) (.s 30)), none, 0⟩]) c10_4)) c10_5)
def c10_7 : ACode := (.seq (.cond (.s 28) .skip (.exit 0)) c10_6)
def c10_8 : ACode := (.seq (.ops [
  ⟨(some 28), .p (.bin .lss (.s 27) (.s 26)), none, 0⟩]) c10_7)
def c10_9 : ACode := (.block 0 (.loop c10_8))
def c10_10 : ACode := (.seq (.ops [
  ⟨(some 42), .p (.mov (.s 6)), none, 0⟩,
  ⟨(some 4), .p (.mov (.s 42)), none, 0⟩,
  ⟨(some 5), .p (.mov (.c (.v (.int .i64 0)))), none, 0⟩]) .ret)
def c10_11 : ACode := (.seq (.seq (.ops [
  ⟨(some 25), .p (.mov (.s 1)), none, 0⟩,
  ⟨(some 26), .p (.len false (.s 25)), none, 64⟩,
  ⟨(some 27), .p (.mov (.c (.v (.int .i64 0)))), none, 0⟩]) c10_9) c10_10)
def c10_12 : ACode := (.seq (.ops [
  ⟨(some 20), .p (.mov (.s 0)), none, 0⟩,
  ⟨(some 21), .m (.ext (.map (.mk))), none, 5570647⟩,
  ⟨(some 22), .m (.ext (.map (.mk))), none, 196693⟩,
  ⟨(some 23), .p (.build [(.v (.int .i64 0)), (.v (.map none)), (.v (.map none)), (.v (.slice none 0 0))] [(0, 1, (.s 20)), (1, 1, (.s 21)), (2, 1, (.s 22))]), none, 0⟩,
  ⟨(some 24), .m (.box (.s 23)), none, 0⟩,
  ⟨(some 6), .p (.mov (.s 24)), none, 0⟩]) c10_11)
def c10_13 : ACode := (.seq (.seq (.ops [
  ⟨(some 9), .p (.mov (.s 0)), none, 0⟩,
  ⟨(some 10), .p (.bin .lss (.s 9) (.c (.v (.int .i64 1)))), none, 0⟩,
  ⟨(some 11), .p (.mov (.s 10)), none, 0⟩,
  ⟨(some 12), .p (.mov (.s 0)), (some (11, false)), 0⟩,
  ⟨(some 13), .p (.bin .gtr (.s 12) (.c (.v (.int .i64 32)))), (some (11, false)), 0⟩,
  ⟨(some 14), .p (.pick (.s 11) (.c (.v (.bool true))) (.s 13)), none, 0⟩,
  ⟨(some 15), .p (.mov (.s 14)), none, 0⟩,
  ⟨(some 16), .p (.mov (.s 1)), (some (15, false)), 0⟩,
  ⟨(some 17), .p (.len false (.s 16)), (some (15, false)), 64⟩,
  ⟨(some 18), .p (.bin .gtr (.s 17) (.c (.v (.int .i64 64)))), (some (15, false)), 0⟩,
  ⟨(some 19), .p (.pick (.s 15) (.c (.v (.bool true))) (.s 18)), none, 0⟩]) c10_0) c10_12)
def c10 : ACode := (.seq (.ops [
  ⟨(some 4), .p (.mov (.c (.v (.pointer none)))), none, 0⟩,
  ⟨(some 5), .p (.mov (.c (.v (.int .i64 0)))), none, 0⟩]) c10_13)
theorem t10 : trC Tryz.prog Tryz.f10.ntmps (bodyOf Tryz.f10) = some c10 := by kernel_rfl
theorem r10 : Tryz.f10.results.toList.mapM (trR Tryz.prog) = some [.tmp 4, .tmp 5] := by kernel_rfl
def i10 : FI := ⟨43, c10, [.tmp 4, .tmp 5]⟩
theorem k10 : Knows Tryz.prog 10 i10 := ⟨Tryz.f10, bodyOf Tryz.f10, Tryz.func10, by kernel_rfl, by kernel_rfl, t10, r10, by kernel_rfl⟩
-- 11 drover/code.Make []
def c11_0 : List AOper := [
  ⟨(some 23), .p (.un .not (.s 22)), none, 0⟩,
  ⟨(some 17), .p (.mov (.s 23)), none, 0⟩]
def c11_1 : ACode := (.cond (.s 17) (.seq (.ops [
  ⟨(some 6), .p (.mov (.c (.v (.slice none 0 0)))), none, 0⟩,
  ⟨(some 7), .p (.mov (.c (.v (.int .i64 1)))), none, 0⟩]) .ret) .skip)
def c11_2 : ACode := (.cond (.s 14) (.seq (.ops [
  ⟨(some 6), .p (.mov (.c (.v (.slice none 0 0)))), none, 0⟩,
  ⟨(some 7), .p (.mov (.c (.v (.int .i64 2)))), none, 0⟩]) .ret) (.seq (.ops (⟨(some 18), .p (.mov (.s 0)), none, 0⟩ ::
  ⟨(some 19), .m (.load (some 3) (.s 4)), none, 0⟩ ::
  ⟨(some 20), .p (.mov (.s 2)), none, 0⟩ ::
  ⟨(some 21), .p (.len false (.s 20)), none, 71⟩ ::
  ⟨(some 22), .call (.c (.fn 19 [])) [(.s 18), (.s 19), (.s 21)], none, 61⟩ :: c11_0)) c11_1))
def c11_3 : ACode := (.cond (.s 57) (.seq (.ops [
  ⟨(some 6), .p (.mov (.c (.v (.slice none 0 0)))), none, 0⟩,
  ⟨(some 7), .p (.mov (.c (.v (.int .i64 25)))), none, 0⟩]) .ret) .skip)
def c11_4 : ACode := (.seq (.ops [
  ⟨(some 31), .p (.fieldAddr 1 none (.s 9)), none, 0⟩,
  ⟨(some 32), .m (.load none (.s 31)), none, 0⟩,
  ⟨(some 33), .p (.bin .lss (.s 32) (.c (.v (.int .i64 0)))), none, 0⟩,
  ⟨(some 34), .p (.mov (.s 33)), none, 0⟩,
  ⟨(some 35), .p (.fieldAddr 1 none (.s 9)), (some (34, false)), 0⟩,
  ⟨(some 36), .m (.load none (.s 35)), (some (34, false)), 0⟩,
  ⟨(some 37), .p (.bin .gtr (.s 36) (.c (.v (.int .i64 4294967295)))), (some (34, false)), 0⟩,
  ⟨(some 38), .p (.pick (.s 34) (.c (.v (.bool true))) (.s 37)), none, 0⟩,
  ⟨(some 39), .p (.mov (.s 38)), none, 0⟩,
  ⟨(some 40), .p (.fieldAddr 2 none (.s 9)), (some (39, false)), 0⟩,
  ⟨(some 41), .m (.load none (.s 40)), (some (39, false)), 0⟩,
  ⟨(some 42), .p (.bin .lss (.s 41) (.c (.v (.int .i64 0)))), (some (39, false)), 0⟩,
  ⟨(some 43), .p (.pick (.s 39) (.c (.v (.bool true))) (.s 42)), none, 0⟩,
  ⟨(some 44), .p (.mov (.s 43)), none, 0⟩,
  ⟨(some 45), .p (.fieldAddr 2 none (.s 9)), (some (44, false)), 0⟩,
  ⟨(some 46), .m (.load none (.s 45)), (some (44, false)), 0⟩,
  ⟨(some 47), .p (.bin .gtr (.s 46) (.c (.v (.int .i64 4294967295)))), (some (44, false)), 0⟩,
  ⟨(some 48), .p (.pick (.s 44) (.c (.v (.bool true))) (.s 47)), none, 0⟩,
  ⟨(some 49), .p (.mov (.s 48)), none, 0⟩,
  ⟨(some 50), .p (.fieldAddr 1 none (.s 9)), (some (49, false)), 0⟩,
  ⟨(some 51), .m (.load none (.s 50)), (some (49, false)), 0⟩,
  ⟨(some 52), .p (.bin .gtr (.s 51) (.c (.v (.int .i64 0)))), (some (49, false)), 0⟩,
  ⟨(some 53), .p (.mov (.s 52)), (some (49, false)), 0⟩,
  ⟨(some 54), .p (.mov (.s 8)), (some (53, true)), 0⟩,
  ⟨(some 55), .p (.bin .geq (.s 54) (.c (.v (.int .i64 16)))), (some (53, true)), 0⟩,
  ⟨(some 56), .p (.pick (.s 53) (.s 55) (.c (.v (.bool false)))), (some (49, false)), 0⟩,
  ⟨(some 57), .p (.pick (.s 49) (.c (.v (.bool true))) (.s 56)), none, 0⟩]) c11_3)
def c11_5 : ACode := (.ops [
  ⟨(some 58), .p (.bin .add (.s 26) (.c (.v (.int .i64 1)))), none, 0⟩,
  ⟨(some 26), .p (.mov (.s 58)), none, 0⟩])
def c11_6 : ACode := (.seq (.block 2 (.seq (.ops [
  ⟨(some 28), .p (.mov (.s 26)), none, 0⟩,
  ⟨(some 29), .p (.adrSl 3 (.s 24) (.s 26)), none, 0⟩,
  ⟨(some 30), .m (.load (some 3) (.s 29)), none, 0⟩,
  ⟨(some 9), .m (.alloc [(.v (.slice none 0 0)), (.v (.int .i64 0)), (.v (.int .i64 0))]), none, 24⟩,
  ⟨(some 8), .p (.mov (.s 28)), none, 0⟩,
  ⟨none, .m (.store (some 3) (.s 9) (.s 30)), none, 0⟩]) c11_4)) c11_5)
def c11_7 : ACode := (.seq (.cond (.s 27) .skip (.exit 1)) c11_6)
def c11_8 : ACode := (.seq (.ops [
  ⟨(some 27), .p (.bin .lss (.s 26) (.s 25)), none, 0⟩]) c11_7)
def c11_9 : ACode := (.block 1 (.loop c11_8))
def c11_10 : List AOper := [
  ⟨(some 61), .p (.mov (.c (.v (.int .i64 0)))), none, 0⟩]
def c11_11 : List AOper := [
  ⟨(some 64), .p (.mov (.s 72)), none, 0⟩,
  ⟨(some 73), .p (.extract (.s 64) 0), none, 0⟩,
  ⟨(some 74), .p (.extract (.s 64) 1), none, 0⟩,
  ⟨(some 12), .p (.mov (.s 73)), none, 0⟩,
  ⟨(some 13), .p (.mov (.s 74)), none, 0⟩]
def c11_12 : ACode := (.cond (.s 76) (.seq (.ops [
  ⟨(some 77), .p (.mov (.s 13)), none, 0⟩,
  ⟨(some 6), .p (.mov (.c (.v (.slice none 0 0)))), none, 0⟩,
  ⟨(some 7), .p (.mov (.s 77)), none, 0⟩]) .ret) .skip)
def c11_13 : ACode := (.ops [
  ⟨(some 78), .p (.mov (.s 10)), none, 0⟩,
  ⟨(some 79), .p (.mov (.s 12)), none, 0⟩,
  ⟨(some 80), .m (.buildSlice 1 1 [(.v (.slice none 0 0))] [(0, 1, (.s 79))]), none, 73⟩,
  ⟨(some 81), .m (.append 1 24 (.s 78) (.s 80)), none, 73⟩,
  ⟨(some 10), .p (.mov (.s 81)), none, 0⟩])
def c11_14 : ACode := (.seq (.seq (.ops [
  ⟨(some 75), .p (.mov (.s 13)), none, 0⟩,
  ⟨(some 76), .p (.bin .neq (.s 75) (.c (.v (.int .i64 0)))), none, 0⟩]) c11_12) c11_13)
def c11_15 : ACode := (.seq (.ops (⟨(some 65), .p (.mov (.s 0)), none, 0⟩ ::
  ⟨(some 66), .m (.load (some 3) (.s 4)), none, 0⟩ ::
  ⟨(some 67), .p (.mov (.s 2)), none, 0⟩ ::
  ⟨(some 68), .p (.mov (.s 11)), none, 0⟩ ::
  ⟨(some 69), .p (.bin .add (.s 68) (.c (.v (.int .i64 1)))), none, 0⟩ ::
  ⟨(some 70), .p (.build [(.v (.pointer none)), (.v (.slice none 0 0)), (.v (.slice none 0 0)), (.v (.slice none 0 0)), (.v (.slice none 0 0)), (.v (.int .i64 0)), (.v (.slice none 0 0)), (.v (.int .i64 0)), (.v (.int .i64 0)), (.v (.int .i64 0))] [(0, 1, (.s 65)), (1, 3, (.s 66)), (4, 1, (.s 67)), (5, 1, (.s 69))]), none, 0⟩ ::
  ⟨(some 71), .m (.box (.s 70)), none, 0⟩ ::
  ⟨(some 72), .call (.c (.fn 21 [])) [(.s 71)], none, 78⟩ :: c11_11)) c11_14)
def c11_16 : ACode := (.ops [
  ⟨(some 82), .p (.bin .add (.s 61) (.c (.v (.int .i64 1)))), none, 0⟩,
  ⟨(some 61), .p (.mov (.s 82)), none, 0⟩])
def c11_17 : ACode := (.seq (.block 4 (.seq (.ops [
  ⟨(some 63), .p (.mov (.s 61)), none, 0⟩,
  ⟨(some 11), .p (.mov (.s 63)), none, 0⟩]) c11_15)) c11_16)
def c11_18 : ACode := (.seq (.cond (.s 62) .skip (.exit 3)) c11_17)
def c11_19 : ACode := (.seq (.ops [
  ⟨(some 62), .p (.bin .lss (.s 61) (.s 60)), none, 0⟩]) c11_18)
def c11_20 : ACode := (.block 3 (.loop c11_19))
def c11_21 : ACode := (.seq (.ops [
  ⟨(some 83), .p (.mov (.s 10)), none, 0⟩,
  ⟨(some 6), .p (.mov (.s 83)), none, 0⟩,
  ⟨(some 7), .p (.mov (.c (.v (.int .i64 0)))), none, 0⟩]) .ret)
def c11_22 : ACode := (.seq (.seq (.ops (⟨(some 59), .p (.mov (.s 0)), none, 0⟩ ::
  ⟨(some 60), .call (.c (.fn 20 [])) [(.s 59)], none, 61⟩ :: c11_10)) c11_20) c11_21)
def c11_23 : ACode := (.seq (.ops [
  ⟨(some 10), .p (.mov (.c (.v (.slice none 0 0)))), none, 0⟩]) c11_22)
def c11_24 : ACode := (.seq (.seq (.ops [
  ⟨(some 24), .p (.mov (.s 2)), none, 0⟩,
  ⟨(some 25), .p (.len false (.s 24)), none, 71⟩,
  ⟨(some 26), .p (.mov (.c (.v (.int .i64 0)))), none, 0⟩]) c11_9) c11_23)
def c11_25 : ACode := (.seq (.block 0 (.seq (.ops [
  ⟨(some 15), .p (.mov (.s 0)), none, 0⟩,
  ⟨(some 16), .p (.eqn false (.pointer 61) (.s 15)), none, 0⟩,
  ⟨(some 14), .p (.mov (.s 16)), none, 0⟩]) c11_2)) c11_24)
def c11 : ACode := (.seq (.ops [
  ⟨(some 4), .m (.box (.s 1)), none, 0⟩,
  ⟨(some 6), .p (.mov (.c (.v (.slice none 0 0)))), none, 0⟩,
  ⟨(some 7), .p (.mov (.c (.v (.int .i64 0)))), none, 0⟩]) c11_25)
theorem t11 : trC Tryz.prog Tryz.f11.ntmps (bodyOf Tryz.f11) = some c11 := by kernel_rfl
theorem r11 : Tryz.f11.results.toList.mapM (trR Tryz.prog) = some [.tmp 6, .tmp 7] := by kernel_rfl
def i11 : FI := ⟨84, c11, [.tmp 6, .tmp 7]⟩
theorem k11 : Knows Tryz.prog 11 i11 := ⟨Tryz.f11, bodyOf Tryz.f11, Tryz.func11, by kernel_rfl, by kernel_rfl, t11, r11, by kernel_rfl⟩
-- 12 slices.Concat[drover/api.Cube,drover/api.Test] []
def c12_0 : ACode := (.cond (.s 20) (.ops [
  ⟨(some 21), .p (.mkIfc 9 (.c (.v (.string ⟨#[108, 101, 110, 32, 111, 117, 116, 32, 111, 102, 32, 114, 97, 110, 103, 101]⟩)))), none, 0⟩,
  ⟨none, .never, none, 0⟩]) .skip)
def c12_1 : ACode := (.seq (.ops [
  ⟨(some 19), .p (.mov (.s 3)), none, 0⟩,
  ⟨(some 20), .p (.bin .lss (.s 19) (.c (.v (.int .i64 0)))), none, 0⟩]) c12_0)
def c12_2 : ACode := (.seq (.ops [
  ⟨(some 15), .p (.mov (.s 3)), none, 0⟩,
  ⟨(some 16), .p (.mov (.s 5)), none, 0⟩,
  ⟨(some 17), .p (.len false (.s 16)), none, 35⟩,
  ⟨(some 18), .p (.bin .add (.s 15) (.s 17)), none, 0⟩,
  ⟨(some 3), .p (.mov (.s 18)), none, 0⟩]) c12_1)
def c12_3 : ACode := (.ops [
  ⟨(some 22), .p (.bin .add (.s 11) (.c (.v (.int .i64 1)))), none, 0⟩,
  ⟨(some 11), .p (.mov (.s 22)), none, 0⟩])
def c12_4 : ACode := (.seq (.block 1 (.seq (.ops [
  ⟨(some 13), .p (.adrSl 1 (.s 9) (.s 11)), none, 0⟩,
  ⟨(some 14), .m (.load none (.s 13)), none, 0⟩,
  ⟨(some 5), .p (.mov (.s 14)), none, 0⟩]) c12_2)) c12_3)
def c12_5 : ACode := (.seq (.cond (.s 12) .skip (.exit 0)) c12_4)
def c12_6 : ACode := (.seq (.ops [
  ⟨(some 12), .p (.bin .lss (.s 11) (.s 10)), none, 0⟩]) c12_5)
def c12_7 : ACode := (.block 0 (.loop c12_6))
def c12_8 : List AOper := [
  ⟨(some 6), .p (.mov (.s 24)), none, 0⟩]
def c12_9 : ACode := (.ops [
  ⟨(some 31), .p (.mov (.s 6)), none, 0⟩,
  ⟨(some 32), .p (.mov (.s 8)), none, 0⟩,
  ⟨(some 33), .m (.append 3 24 (.s 31) (.s 32)), none, 35⟩,
  ⟨(some 6), .p (.mov (.s 33)), none, 0⟩])
def c12_10 : ACode := (.ops [
  ⟨(some 34), .p (.bin .add (.s 27) (.c (.v (.int .i64 1)))), none, 0⟩,
  ⟨(some 27), .p (.mov (.s 34)), none, 0⟩])
def c12_11 : ACode := (.seq (.block 3 (.seq (.ops [
  ⟨(some 29), .p (.adrSl 1 (.s 25) (.s 27)), none, 0⟩,
  ⟨(some 30), .m (.load none (.s 29)), none, 0⟩,
  ⟨(some 8), .p (.mov (.s 30)), none, 0⟩]) c12_9)) c12_10)
def c12_12 : ACode := (.seq (.cond (.s 28) .skip (.exit 2)) c12_11)
def c12_13 : ACode := (.seq (.ops [
  ⟨(some 28), .p (.bin .lss (.s 27) (.s 26)), none, 0⟩]) c12_12)
def c12_14 : ACode := (.block 2 (.loop c12_13))
def c12_15 : ACode := (.seq (.ops [
  ⟨(some 35), .p (.mov (.s 6)), none, 0⟩,
  ⟨(some 2), .p (.mov (.s 35)), none, 0⟩]) .ret)
def c12_16 : ACode := (.seq (.seq (.ops [
  ⟨(some 25), .p (.mov (.s 0)), none, 0⟩,
  ⟨(some 26), .p (.len false (.s 25)), none, 24⟩,
  ⟨(some 27), .p (.mov (.c (.v (.int .i64 0)))), none, 0⟩]) c12_14) c12_15)
def c12_17 : ACode := (.seq (.ops (⟨(some 23), .p (.mov (.s 3)), none, 0⟩ ::
  ⟨(some 24), .call (.c (.fn 22 [])) [(.c (.v (.slice none 0 0))), (.s 23)], none, 35⟩ :: c12_8)) c12_16)
def c12_18 : ACode := (.seq (.seq (.ops [
  ⟨(some 9), .p (.mov (.s 0)), none, 0⟩,
  ⟨(some 10), .p (.len false (.s 9)), none, 24⟩,
  ⟨(some 11), .p (.mov (.c (.v (.int .i64 0)))), none, 0⟩]) c12_7) c12_17)
def c12_19 : ACode := (.seq (.ops [
  ⟨(some 3), .p (.mov (.c (.v (.int .i64 0)))), none, 0⟩]) c12_18)
def c12 : ACode := (.seq (.ops [
  ⟨(some 2), .p (.mov (.c (.v (.slice none 0 0)))), none, 0⟩]) c12_19)
theorem t12 : trC Tryz.prog Tryz.f12.ntmps (bodyOf Tryz.f12) = some c12 := by kernel_rfl
theorem r12 : Tryz.f12.results.toList.mapM (trR Tryz.prog) = some [.tmp 2] := by kernel_rfl
def i12 : FI := ⟨36, c12, [.tmp 2]⟩
theorem k12 : Knows Tryz.prog 12 i12 := ⟨Tryz.f12, bodyOf Tryz.f12, Tryz.func12, by kernel_rfl, by kernel_rfl, t12, r12, by kernel_rfl⟩
-- 13 slices.BinarySearchFunc[drover/api.Cube,drover/api.Test,int] []
def c13_0 : ACode := (.cond (.s 17) .skip (.exit 0))
def c13_1 : List AOper := [
  ⟨(some 31), .p (.bin .lss (.s 30) (.c (.v (.int .i64 0)))), none, 0⟩]
def c13_2 : ACode := (.cond (.s 31) (.ops [
  ⟨(some 32), .p (.mov (.s 11)), none, 0⟩,
  ⟨(some 33), .p (.bin .add (.s 32) (.c (.v (.int .i64 1)))), none, 0⟩,
  ⟨(some 9), .p (.mov (.s 33)), none, 0⟩]) (.ops [
  ⟨(some 34), .p (.mov (.s 11)), none, 0⟩,
  ⟨(some 10), .p (.mov (.s 34)), none, 0⟩]))
def c13_3 : ACode := (.seq (.ops (⟨(some 24), .p (.mov (.s 2)), none, 0⟩ ::
  ⟨(some 25), .p (.mov (.s 0)), none, 0⟩ ::
  ⟨(some 26), .p (.mov (.s 11)), none, 0⟩ ::
  ⟨(some 27), .p (.adrSl 3 (.s 25) (.s 26)), none, 0⟩ ::
  ⟨(some 28), .m (.load (some 3) (.s 27)), none, 0⟩ ::
  ⟨(some 29), .p (.mov (.s 1)), none, 0⟩ ::
  ⟨(some 30), .call (.s 24) [(.s 28), (.s 29)], none, 0⟩ :: c13_1)) c13_2)
def c13_4 : ACode := (.block 1 (.seq (.ops [
  ⟨(some 18), .p (.mov (.s 9)), none, 0⟩,
  ⟨(some 19), .p (.mov (.s 10)), none, 0⟩,
  ⟨(some 20), .p (.bin .add (.s 18) (.s 19)), none, 0⟩,
  ⟨(some 21), .p (.cint .u64 (.s 20)), none, 0⟩,
  ⟨(some 22), .p (.bin .shr (.s 21) (.c (.v (.int .u64 1)))), none, 0⟩,
  ⟨(some 23), .p (.cint .i64 (.s 22)), none, 0⟩,
  ⟨(some 11), .p (.mov (.s 23)), none, 0⟩]) c13_3))
def c13_5 : ACode := (.seq (.seq (.ops [
  ⟨(some 15), .p (.mov (.s 9)), none, 0⟩,
  ⟨(some 16), .p (.mov (.s 10)), none, 0⟩,
  ⟨(some 17), .p (.bin .lss (.s 15) (.s 16)), none, 0⟩]) c13_0) c13_4)
def c13_6 : List AOper := [
  ⟨(some 47), .p (.bin .eql (.s 46) (.c (.v (.int .i64 0)))), (some (39, true)), 0⟩,
  ⟨(some 48), .p (.pick (.s 39) (.s 47) (.c (.v (.bool false)))), none, 0⟩,
  ⟨(some 6), .p (.mov (.s 35)), none, 0⟩,
  ⟨(some 7), .p (.mov (.s 48)), none, 0⟩]
def c13_7 : ACode := (.seq (.ops (⟨(some 35), .p (.mov (.s 9)), none, 0⟩ ::
  ⟨(some 36), .p (.mov (.s 9)), none, 0⟩ ::
  ⟨(some 37), .p (.mov (.s 8)), none, 0⟩ ::
  ⟨(some 38), .p (.bin .lss (.s 36) (.s 37)), none, 0⟩ ::
  ⟨(some 39), .p (.mov (.s 38)), none, 0⟩ ::
  ⟨(some 40), .p (.mov (.s 2)), (some (39, true)), 0⟩ ::
  ⟨(some 41), .p (.mov (.s 0)), (some (39, true)), 0⟩ ::
  ⟨(some 42), .p (.mov (.s 9)), (some (39, true)), 0⟩ ::
  ⟨(some 43), .p (.adrSl 3 (.s 41) (.s 42)), (some (39, true)), 0⟩ ::
  ⟨(some 44), .m (.load (some 3) (.s 43)), (some (39, true)), 0⟩ ::
  ⟨(some 45), .p (.mov (.s 1)), (some (39, true)), 0⟩ ::
  ⟨(some 46), .call (.s 40) [(.s 44), (.s 45)], (some (39, true)), 0⟩ :: c13_6)) .ret)
def c13_8 : ACode := (.seq (.block 0 (.loop c13_5)) c13_7)
def c13_9 : ACode := (.seq (.ops [
  ⟨(some 14), .p (.mov (.s 8)), none, 0⟩,
  ⟨(some 9), .p (.mov (.c (.v (.int .i64 0)))), none, 0⟩,
  ⟨(some 10), .p (.mov (.s 14)), none, 0⟩]) c13_8)
def c13_10 : ACode := (.seq (.ops [
  ⟨(some 12), .p (.mov (.s 0)), none, 0⟩,
  ⟨(some 13), .p (.len false (.s 12)), none, 35⟩,
  ⟨(some 8), .p (.mov (.s 13)), none, 0⟩]) c13_9)
def c13 : ACode := (.seq (.ops [
  ⟨(some 6), .p (.mov (.c (.v (.int .i64 0)))), none, 0⟩,
  ⟨(some 7), .p (.mov (.c (.v (.bool false)))), none, 0⟩]) c13_10)
theorem t13 : trC Tryz.prog Tryz.f13.ntmps (bodyOf Tryz.f13) = some c13 := by kernel_rfl
theorem r13 : Tryz.f13.results.toList.mapM (trR Tryz.prog) = some [.tmp 6, .tmp 7] := by kernel_rfl
def i13 : FI := ⟨49, c13, [.tmp 6, .tmp 7]⟩
theorem k13 : Knows Tryz.prog 13 i13 := ⟨Tryz.f13, bodyOf Tryz.f13, Tryz.func13, by kernel_rfl, by kernel_rfl, t13, r13, by kernel_rfl⟩
-- 14 drover/code.Meet$1 []
def c14_0 : List AOper := [
  ⟨(some 4), .p (.mov (.s 8)), none, 0⟩]
def c14_1 : ACode := (.seq (.ops (⟨(some 5), .p (.fieldAddr 0 none (.s 2)), none, 0⟩ ::
  ⟨(some 6), .m (.load none (.s 5)), none, 0⟩ ::
  ⟨(some 7), .p (.mov (.s 1)), none, 0⟩ ::
  ⟨(some 8), .call (.c (.fn 15 [])) [(.s 6), (.s 7)], none, 0⟩ :: c14_0)) .ret)
def c14 : ACode := (.seq (.ops [
  ⟨(some 2), .m (.box (.s 0)), none, 0⟩,
  ⟨(some 4), .p (.mov (.c (.v (.int .i64 0)))), none, 0⟩]) c14_1)
theorem t14 : trC Tryz.prog Tryz.f14.ntmps (bodyOf Tryz.f14) = some c14 := by kernel_rfl
theorem r14 : Tryz.f14.results.toList.mapM (trR Tryz.prog) = some [.tmp 4] := by kernel_rfl
def i14 : FI := ⟨9, c14, [.tmp 4]⟩
theorem k14 : Knows Tryz.prog 14 i14 := ⟨Tryz.f14, bodyOf Tryz.f14, Tryz.func14, by kernel_rfl, by kernel_rfl, t14, r14, by kernel_rfl⟩
-- 15 cmp.Compare[int] []
def c15_0 : List AOper := [
  ⟨(some 5), .p (.mov (.s 8)), none, 0⟩]
def c15_1 : List AOper := [
  ⟨(some 6), .p (.mov (.s 10)), none, 0⟩]
def c15_2 : ACode := (.cond (.s 12) (.seq (.ops [
  ⟨(some 4), .p (.mov (.c (.v (.int .i64 0)))), none, 0⟩]) .ret) .skip)
def c15_3 : ACode := (.seq (.ops [
  ⟨(some 4), .p (.mov (.c (.v (.int .i64 (-1))))), none, 0⟩]) .ret)
def c15_4 : ACode := (.cond (.s 11) (.seq (.seq (.ops [
  ⟨(some 12), .p (.mov (.s 6)), none, 0⟩]) c15_2) c15_3) .skip)
def c15_5 : ACode := (.cond (.s 13) (.seq (.ops [
  ⟨(some 4), .p (.mov (.c (.v (.int .i64 1)))), none, 0⟩]) .ret) .skip)
def c15_6 : ACode := (.cond (.s 16) (.seq (.ops [
  ⟨(some 4), .p (.mov (.c (.v (.int .i64 (-1))))), none, 0⟩]) .ret) .skip)
def c15_7 : ACode := (.cond (.s 19) (.seq (.ops [
  ⟨(some 4), .p (.mov (.c (.v (.int .i64 1)))), none, 0⟩]) .ret) .skip)
def c15_8 : ACode := (.seq (.ops [
  ⟨(some 4), .p (.mov (.c (.v (.int .i64 0)))), none, 0⟩]) .ret)
def c15_9 : ACode := (.seq (.seq (.ops [
  ⟨(some 17), .p (.mov (.s 0)), none, 0⟩,
  ⟨(some 18), .p (.mov (.s 1)), none, 0⟩,
  ⟨(some 19), .p (.bin .gtr (.s 17) (.s 18)), none, 0⟩]) c15_7) c15_8)
def c15_10 : ACode := (.seq (.seq (.ops [
  ⟨(some 14), .p (.mov (.s 0)), none, 0⟩,
  ⟨(some 15), .p (.mov (.s 1)), none, 0⟩,
  ⟨(some 16), .p (.bin .lss (.s 14) (.s 15)), none, 0⟩]) c15_6) c15_9)
def c15_11 : ACode := (.seq (.seq (.ops [
  ⟨(some 13), .p (.mov (.s 6)), none, 0⟩]) c15_5) c15_10)
def c15_12 : ACode := (.seq (.seq (.ops [
  ⟨(some 11), .p (.mov (.s 5)), none, 0⟩]) c15_4) c15_11)
def c15_13 : ACode := (.seq (.ops (⟨(some 9), .p (.mov (.s 1)), none, 0⟩ ::
  ⟨(some 10), .call (.c (.fn 23 [])) [(.s 9)], none, 0⟩ :: c15_1)) c15_12)
def c15_14 : ACode := (.seq (.ops (⟨(some 7), .p (.mov (.s 0)), none, 0⟩ ::
  ⟨(some 8), .call (.c (.fn 23 [])) [(.s 7)], none, 0⟩ :: c15_0)) c15_13)
def c15 : ACode := (.seq (.ops [
  ⟨(some 4), .p (.mov (.c (.v (.int .i64 0)))), none, 0⟩]) c15_14)
theorem t15 : trC Tryz.prog Tryz.f15.ntmps (bodyOf Tryz.f15) = some c15 := by kernel_rfl
theorem r15 : Tryz.f15.results.toList.mapM (trR Tryz.prog) = some [.tmp 4] := by kernel_rfl
def i15 : FI := ⟨20, c15, [.tmp 4]⟩
theorem k15 : Knows Tryz.prog 15 i15 := ⟨Tryz.f15, bodyOf Tryz.f15, Tryz.func15, by kernel_rfl, by kernel_rfl, t15, r15, by kernel_rfl⟩
-- 16 slices.Insert[drover/api.Cube,drover/api.Test] []
def c16_0 : ACode := (.cond (.s 16) (.seq (.ops [
  ⟨(some 17), .p (.mov (.s 0)), none, 0⟩,
  ⟨(some 6), .p (.mov (.s 17)), none, 0⟩]) .ret) .skip)
def c16_1 : ACode := (.cond (.s 22) (.seq (.ops [
  ⟨(some 23), .p (.mov (.s 0)), none, 0⟩,
  ⟨(some 24), .p (.mov (.s 2)), none, 0⟩,
  ⟨(some 25), .m (.append 3 24 (.s 23) (.s 24)), none, 35⟩,
  ⟨(some 6), .p (.mov (.s 25)), none, 0⟩]) .ret) .skip)
def c16_2 : ACode := (.seq (.ops [
  ⟨(some 55), .p (.mov (.s 9)), none, 0⟩,
  ⟨(some 6), .p (.mov (.s 55)), none, 0⟩]) .ret)
def c16_3 : ACode := (.seq (.draw [
  ⟨(some 46), .p (.mov (.s 9)), none, 0⟩,
  ⟨(some 47), .p (.mov (.s 1)), none, 0⟩,
  ⟨(some 48), .p (.mov (.s 7)), none, 0⟩,
  ⟨(some 49), .p (.bin .add (.s 47) (.s 48)), none, 0⟩,
  ⟨(some 50), .p (.slSl 3 (.s 46) (some (.s 49)) none none), none, 0⟩,
  ⟨(some 51), .p (.mov (.s 0)), none, 0⟩,
  ⟨(some 52), .p (.mov (.s 1)), none, 0⟩,
  ⟨(some 53), .p (.slSl 3 (.s 51) (some (.s 52)) none none), none, 0⟩,
  ⟨(some 54), .m (.copy 3 (.s 50) (.s 53)), none, 35⟩]) c16_2)
def c16_4 : ACode := (.seq (.ops [
  ⟨(some 41), .p (.mov (.s 9)), none, 0⟩,
  ⟨(some 42), .p (.mov (.s 1)), none, 0⟩,
  ⟨(some 43), .p (.slSl 3 (.s 41) (some (.s 42)) none none), none, 0⟩,
  ⟨(some 44), .p (.mov (.s 2)), none, 0⟩,
  ⟨(some 45), .m (.copy 3 (.s 43) (.s 44)), none, 35⟩]) c16_3)
def c16_5 : ACode := (.cond (.s 31) (.seq (.ops [
  ⟨(some 32), .p (.mov (.s 0)), none, 0⟩,
  ⟨(some 33), .p (.mov (.s 1)), none, 0⟩,
  ⟨(some 34), .p (.slSl 3 (.s 32) none (some (.s 33)) none), none, 0⟩,
  ⟨(some 35), .p (.mov (.s 8)), none, 0⟩,
  ⟨(some 36), .p (.mov (.s 7)), none, 0⟩,
  ⟨(some 37), .p (.bin .add (.s 35) (.s 36)), none, 0⟩,
  ⟨(some 38), .p (.mov (.s 1)), none, 0⟩,
  ⟨(some 39), .p (.bin .sub (.s 37) (.s 38)), none, 0⟩,
  ⟨(some 40), .m (.appendZ 3 24 [(.v (.int .i64 0)), (.v (.int .u64 0)), (.v (.int .u64 0))] (.s 34) (.s 39)), none, 35⟩,
  ⟨(some 9), .p (.mov (.s 40)), none, 0⟩]) c16_4) .skip)
def c16_6 : ACode := (.seq (.ops [
  ⟨(some 83), .p (.mov (.s 0)), none, 0⟩,
  ⟨(some 6), .p (.mov (.s 83)), none, 0⟩]) .ret)
def c16_7 : ACode := (.seq (.ops [
  ⟨(some 78), .p (.mov (.s 0)), none, 0⟩,
  ⟨(some 79), .p (.mov (.s 1)), none, 0⟩,
  ⟨(some 80), .p (.slSl 3 (.s 78) (some (.s 79)) none none), none, 0⟩,
  ⟨(some 81), .p (.mov (.s 2)), none, 0⟩,
  ⟨(some 82), .m (.copy 3 (.s 80) (.s 81)), none, 35⟩]) c16_6)
def c16_8 : ACode := (.cond (.s 68) (.seq (.draw [
  ⟨(some 69), .p (.mov (.s 0)), none, 0⟩,
  ⟨(some 70), .p (.mov (.s 1)), none, 0⟩,
  ⟨(some 71), .p (.mov (.s 7)), none, 0⟩,
  ⟨(some 72), .p (.bin .add (.s 70) (.s 71)), none, 0⟩,
  ⟨(some 73), .p (.slSl 3 (.s 69) (some (.s 72)) none none), none, 0⟩,
  ⟨(some 74), .p (.mov (.s 0)), none, 0⟩,
  ⟨(some 75), .p (.mov (.s 1)), none, 0⟩,
  ⟨(some 76), .p (.slSl 3 (.s 74) (some (.s 75)) none none), none, 0⟩,
  ⟨(some 77), .m (.copy 3 (.s 73) (.s 76)), none, 35⟩]) c16_7) .skip)
def c16_9 : ACode := (.seq (.ops [
  ⟨(some 94), .p (.mov (.s 0)), none, 0⟩,
  ⟨(some 6), .p (.mov (.s 94)), none, 0⟩]) .ret)
def c16_10 : ACode := (.seq (.ops [
  ⟨(some 89), .p (.mov (.s 0)), none, 0⟩,
  ⟨(some 90), .p (.mov (.s 1)), none, 0⟩,
  ⟨(some 91), .p (.slSl 3 (.s 89) (some (.s 90)) none none), none, 0⟩,
  ⟨(some 92), .p (.mov (.s 7)), none, 0⟩,
  ⟨(some 93), .call (.c (.fn 25 [])) [(.s 91), (.s 92)], none, 35⟩]) c16_9)
def c16_11 : ACode := (.seq (.ops [
  ⟨(some 84), .p (.mov (.s 0)), none, 0⟩,
  ⟨(some 85), .p (.mov (.s 8)), none, 0⟩,
  ⟨(some 86), .p (.slSl 3 (.s 84) (some (.s 85)) none none), none, 0⟩,
  ⟨(some 87), .p (.mov (.s 2)), none, 0⟩,
  ⟨(some 88), .m (.copy 3 (.s 86) (.s 87)), none, 35⟩]) c16_10)
def c16_12 : ACode := (.seq (.seq (.ops [
  ⟨(some 61), .p (.mov (.s 2)), none, 0⟩,
  ⟨(some 62), .p (.mov (.s 0)), none, 0⟩,
  ⟨(some 63), .p (.mov (.s 1)), none, 0⟩,
  ⟨(some 64), .p (.mov (.s 7)), none, 0⟩,
  ⟨(some 65), .p (.bin .add (.s 63) (.s 64)), none, 0⟩,
  ⟨(some 66), .p (.slSl 3 (.s 62) (some (.s 65)) none none), none, 0⟩,
  ⟨(some 67), .m (.ext (.ovl (.s 61) (.s 66))), none, 35⟩,
  ⟨(some 68), .p (.un .not (.s 67)), none, 0⟩]) c16_8) c16_11)
def c16_13 : ACode := (.seq (.ops [
  ⟨(some 56), .p (.mov (.s 0)), none, 0⟩,
  ⟨(some 57), .p (.mov (.s 8)), none, 0⟩,
  ⟨(some 58), .p (.mov (.s 7)), none, 0⟩,
  ⟨(some 59), .p (.bin .add (.s 57) (.s 58)), none, 0⟩,
  ⟨(some 60), .p (.slSl 3 (.s 56) none (some (.s 59)) none), none, 0⟩,
  ⟨(some 0), .p (.mov (.s 60)), none, 0⟩]) c16_12)
def c16_14 : ACode := (.seq (.seq (.ops [
  ⟨(some 26), .p (.mov (.s 8)), none, 0⟩,
  ⟨(some 27), .p (.mov (.s 7)), none, 0⟩,
  ⟨(some 28), .p (.bin .add (.s 26) (.s 27)), none, 0⟩,
  ⟨(some 29), .p (.mov (.s 0)), none, 0⟩,
  ⟨(some 30), .m (.ext (.capK (.s 29))), none, 35⟩,
  ⟨(some 31), .p (.bin .gtr (.s 28) (.s 30)), none, 0⟩]) c16_5) c16_13)
def c16_15 : ACode := (.seq (.seq (.ops [
  ⟨(some 20), .p (.mov (.s 1)), none, 0⟩,
  ⟨(some 21), .p (.mov (.s 8)), none, 0⟩,
  ⟨(some 22), .p (.bin .eql (.s 20) (.s 21)), none, 0⟩]) c16_1) c16_14)
def c16_16 : ACode := (.seq (.ops [
  ⟨(some 18), .p (.mov (.s 0)), none, 0⟩,
  ⟨(some 19), .p (.len false (.s 18)), none, 35⟩,
  ⟨(some 8), .p (.mov (.s 19)), none, 0⟩]) c16_15)
def c16_17 : ACode := (.seq (.seq (.ops [
  ⟨(some 15), .p (.mov (.s 7)), none, 0⟩,
  ⟨(some 16), .p (.bin .eql (.s 15) (.c (.v (.int .i64 0)))), none, 0⟩]) c16_0) c16_16)
def c16_18 : ACode := (.seq (.ops [
  ⟨(some 13), .p (.mov (.s 2)), none, 0⟩,
  ⟨(some 14), .p (.len false (.s 13)), none, 35⟩,
  ⟨(some 7), .p (.mov (.s 14)), none, 0⟩]) c16_17)
def c16_19 : ACode := (.seq (.ops [
  ⟨(some 10), .p (.mov (.s 0)), none, 0⟩,
  ⟨(some 11), .p (.mov (.s 1)), none, 0⟩,
  ⟨(some 12), .p (.slSl 3 (.s 10) (some (.s 11)) none none), none, 0⟩]) c16_18)
def c16 : ACode := (.seq (.ops [
  ⟨(some 6), .p (.mov (.c (.v (.slice none 0 0)))), none, 0⟩]) c16_19)
theorem t16 : trC Tryz.prog Tryz.f16.ntmps (bodyOf Tryz.f16) = some c16 := by kernel_rfl
theorem r16 : Tryz.f16.results.toList.mapM (trR Tryz.prog) = some [.tmp 6] := by kernel_rfl
def i16 : FI := ⟨95, c16, [.tmp 6]⟩
theorem k16 : Knows Tryz.prog 16 i16 := ⟨Tryz.f16, bodyOf Tryz.f16, Tryz.func16, by kernel_rfl, by kernel_rfl, t16, r16, by kernel_rfl⟩
-- 17 drover/topo.right [region 1: binOp .geq of type 62, region 1: binOp .leq of type 62]
def c17_0 : ACode := (.cond (.s 34) (.seq (.ops [
  ⟨(some 4), .p (.mov (.c (.v (.bool false)))), none, 0⟩]) .ret) .skip)
def c17_1 : ACode := (.cond (.s 37) (.seq (.ops [
  ⟨(some 38), .p (.fieldAddr 2 none (.s 2)), none, 0⟩,
  ⟨(some 39), .m (.load none (.s 38)), none, 0⟩,
  ⟨(some 40), .p (.bin .geq (.s 39) (.c (.v (.int .i64 (-64))))), none, 0⟩,
  ⟨(some 41), .p (.mov (.s 40)), none, 0⟩,
  ⟨(some 42), .p (.fieldAddr 3 none (.s 2)), (some (41, true)), 0⟩,
  ⟨(some 43), .m (.load none (.s 42)), (some (41, true)), 0⟩,
  ⟨(some 44), .p (.bin .eql (.s 43) (.c (.v (.int .i64 0)))), (some (41, true)), 0⟩,
  ⟨(some 45), .p (.pick (.s 41) (.s 44) (.c (.v (.bool false)))), none, 0⟩,
  ⟨(some 4), .p (.mov (.s 45)), none, 0⟩]) .ret) .skip)
def c17_2 : ACode := (.seq (.ops [
  ⟨(some 46), .p (.fieldAddr 2 none (.s 2)), none, 0⟩,
  ⟨(some 47), .m (.load none (.s 46)), none, 0⟩,
  ⟨(some 48), .p (.bin .neq (.s 47) (.c (.v (.int .i64 0)))), none, 0⟩,
  ⟨(some 49), .p (.mov (.s 48)), none, 0⟩,
  ⟨(some 50), .p (.fieldAddr 2 none (.s 2)), (some (49, true)), 0⟩,
  ⟨(some 51), .m (.load none (.s 50)), (some (49, true)), 0⟩,
  ⟨(some 52), .p (.mov (.s 1)), (some (49, true)), 0⟩,
  ⟨(some 53), .p (.bin .leq (.s 51) (.s 52)), (some (49, true)), 0⟩,
  ⟨(some 54), .p (.pick (.s 49) (.s 53) (.c (.v (.bool false)))), none, 0⟩,
  ⟨(some 55), .p (.mov (.s 54)), none, 0⟩,
  ⟨(some 56), .p (.fieldAddr 2 none (.s 2)), (some (55, true)), 0⟩,
  ⟨(some 57), .m (.load none (.s 56)), (some (55, true)), 0⟩,
  ⟨(some 58), .p (.fieldAddr 0 none (.s 2)), (some (55, true)), 0⟩,
  ⟨(some 59), .m (.load none (.s 58)), (some (55, true)), 0⟩,
  ⟨(some 60), .p (.bin .neq (.s 57) (.s 59)), (some (55, true)), 0⟩,
  ⟨(some 61), .p (.pick (.s 55) (.s 60) (.c (.v (.bool false)))), none, 0⟩,
  ⟨(some 62), .p (.mov (.s 61)), none, 0⟩,
  ⟨(some 63), .p (.fieldAddr 3 none (.s 2)), (some (62, true)), 0⟩,
  ⟨(some 64), .m (.load none (.s 63)), (some (62, true)), 0⟩,
  ⟨(some 65), .p (.bin .geq (.s 64) (.c (.v (.int .i64 1)))), (some (62, true)), 0⟩,
  ⟨(some 66), .p (.pick (.s 62) (.s 65) (.c (.v (.bool false)))), none, 0⟩,
  ⟨(some 67), .p (.mov (.s 66)), none, 0⟩,
  ⟨(some 68), .p (.fieldAddr 3 none (.s 2)), (some (67, true)), 0⟩,
  ⟨(some 69), .m (.load none (.s 68)), (some (67, true)), 0⟩,
  ⟨(some 70), .p (.bin .leq (.s 69) (.c (.v (.int .i64 16)))), (some (67, true)), 0⟩,
  ⟨(some 71), .p (.pick (.s 67) (.s 70) (.c (.v (.bool false)))), none, 0⟩,
  ⟨(some 4), .p (.mov (.s 71)), none, 0⟩]) .ret)
def c17_3 : ACode := (.seq (.seq (.ops [
  ⟨(some 35), .p (.fieldAddr 2 none (.s 2)), none, 0⟩,
  ⟨(some 36), .m (.load none (.s 35)), none, 0⟩,
  ⟨(some 37), .p (.bin .lss (.s 36) (.c (.v (.int .i64 0)))), none, 0⟩]) c17_1) c17_2)
def c17_4 : ACode := (.seq (.seq .never c17_0) c17_3)
def c17 : ACode := (.seq (.ops [
  ⟨(some 2), .m (.box (.s 0)), none, 0⟩,
  ⟨(some 4), .p (.mov (.c (.v (.bool false)))), none, 0⟩]) c17_4)
theorem t17 : trC Tryz.prog Tryz.f17.ntmps (bodyOf Tryz.f17) = some c17 := by kernel_rfl
theorem r17 : Tryz.f17.results.toList.mapM (trR Tryz.prog) = some [.tmp 4] := by kernel_rfl
def i17 : FI := ⟨72, c17, [.tmp 4]⟩
theorem k17 : Knows Tryz.prog 17 i17 := ⟨Tryz.f17, bodyOf Tryz.f17, Tryz.func17, by kernel_rfl, by kernel_rfl, t17, r17, by kernel_rfl⟩
-- 18 (*drover/topo.Topo).join [region 2 draws, region 3 draws, region 5 draws, region 9 draws]
def c18_0 : ACode := (.cond (.s 60) (.seq (.ops [
  ⟨(some 4), .p (.mov (.c (.v (.bool false)))), none, 0⟩]) .ret) .skip)
def c18_1 : ACode := (.seq (.ops [
  ⟨(some 57), .p (.mov (.s 10)), none, 0⟩,
  ⟨(some 58), .p (.mov (.s 57)), none, 0⟩,
  ⟨(some 59), .p (.mov (.s 8)), (some (58, false)), 0⟩,
  ⟨(some 60), .p (.pick (.s 58) (.c (.v (.bool true))) (.s 59)), none, 0⟩]) c18_0)
def c18_2 : ACode := (.draw [
  ⟨(some 61), .p (.mov (.s 0)), none, 0⟩,
  ⟨(some 62), .p (.nilCheck (.s 61)), none, 0⟩,
  ⟨(some 63), .p (.fieldAddr 2 none (.s 62)), none, 0⟩,
  ⟨(some 64), .m (.load none (.s 63)), none, 0⟩,
  ⟨(some 65), .p (.fieldAddr 2 none (.s 3)), none, 0⟩,
  ⟨(some 66), .m (.load none (.s 65)), none, 0⟩,
  ⟨(some 67), .p (.un .neg (.s 66)), none, 0⟩,
  ⟨(some 68), .m (.load (some 2) (.s 5)), none, 0⟩,
  ⟨none, .m (.ext (.map (.upd [(.int .i64)] false (.s 64) (.s 67) (.s 68)))), none, 0⟩])
def c18_3 : ACode := (.cond (.s 81) (.seq (.ops [
  ⟨(some 4), .p (.mov (.c (.v (.bool false)))), none, 0⟩]) .ret) .skip)
def c18_4 : ACode := (.seq (.ops [
  ⟨(some 78), .p (.mov (.s 12)), none, 0⟩,
  ⟨(some 79), .p (.mov (.s 78)), none, 0⟩,
  ⟨(some 80), .p (.mov (.s 8)), (some (79, false)), 0⟩,
  ⟨(some 81), .p (.pick (.s 79) (.c (.v (.bool true))) (.s 80)), none, 0⟩]) c18_3)
def c18_5 : ACode := (.draw [
  ⟨(some 82), .p (.mov (.s 0)), none, 0⟩,
  ⟨(some 83), .p (.nilCheck (.s 82)), none, 0⟩,
  ⟨(some 84), .p (.fieldAddr 1 none (.s 83)), none, 0⟩,
  ⟨(some 85), .m (.load none (.s 84)), none, 0⟩,
  ⟨(some 86), .m (.load (some 2) (.s 6)), none, 0⟩,
  ⟨(some 87), .m (.load (some 2) (.s 5)), none, 0⟩,
  ⟨(some 88), .p (.mov (.s 0)), none, 0⟩,
  ⟨(some 89), .p (.nilCheck (.s 88)), none, 0⟩,
  ⟨(some 90), .p (.fieldAddr 3 none (.s 89)), none, 0⟩,
  ⟨(some 91), .m (.load none (.s 90)), none, 0⟩,
  ⟨(some 92), .p (.len false (.s 91)), none, 62⟩,
  ⟨(some 93), .p (.build [(.v (.int .i64 0)), (.v (.int .i64 0)), (.v (.int .i64 0))] [(0, 2, (.s 87)), (2, 1, (.s 92))]), none, 0⟩,
  ⟨none, .m (.ext (.map (.upd [(.int .i64), (.int .i64)] true (.s 85) (.s 86) (.s 93)))), none, 0⟩])
def c18_6 : ACode := (.cond (.s 45) (.seq (.seq .never c18_1) c18_2) (.seq (.seq .never c18_4) c18_5))
def c18_7 : ACode := (.seq (.ops [
  ⟨(some 4), .p (.mov (.c (.v (.bool true)))), none, 0⟩]) .ret)
def c18_8 : ACode := (.seq (.draw [
  ⟨(some 94), .p (.mov (.s 0)), none, 0⟩,
  ⟨(some 95), .p (.nilCheck (.s 94)), none, 0⟩,
  ⟨(some 96), .p (.fieldAddr 1 none (.s 95)), none, 0⟩,
  ⟨(some 97), .m (.load none (.s 96)), none, 0⟩,
  ⟨(some 98), .m (.load (some 2) (.s 5)), none, 0⟩,
  ⟨(some 99), .m (.load (some 2) (.s 6)), none, 0⟩,
  ⟨(some 100), .p (.mov (.s 0)), none, 0⟩,
  ⟨(some 101), .p (.nilCheck (.s 100)), none, 0⟩,
  ⟨(some 102), .p (.fieldAddr 3 none (.s 101)), none, 0⟩,
  ⟨(some 103), .m (.load none (.s 102)), none, 0⟩,
  ⟨(some 104), .p (.len false (.s 103)), none, 62⟩,
  ⟨(some 105), .p (.build [(.v (.int .i64 0)), (.v (.int .i64 0)), (.v (.int .i64 0))] [(0, 2, (.s 99)), (2, 1, (.s 104))]), none, 0⟩,
  ⟨none, .m (.ext (.map (.upd [(.int .i64), (.int .i64)] true (.s 97) (.s 98) (.s 105)))), none, 0⟩]) c18_7)
def c18_9 : ACode := (.seq (.seq (.ops [
  ⟨(some 43), .p (.fieldAddr 2 none (.s 3)), none, 0⟩,
  ⟨(some 44), .m (.load none (.s 43)), none, 0⟩,
  ⟨(some 45), .p (.bin .lss (.s 44) (.c (.v (.int .i64 0)))), none, 0⟩]) c18_6) c18_8)
def c18_10 : ACode := (.seq .never c18_9)
def c18_11 : ACode := (.seq .never c18_10)
def c18_12 : ACode := (.seq (.draw [
  ⟨(some 13), .p (.mov (.s 0)), none, 0⟩,
  ⟨(some 14), .p (.mov (.s 0)), none, 0⟩,
  ⟨(some 15), .p (.nilCheck (.s 14)), none, 0⟩,
  ⟨(some 16), .p (.fieldAddr 3 none (.s 15)), none, 0⟩,
  ⟨(some 17), .m (.load none (.s 16)), none, 0⟩,
  ⟨(some 18), .p (.fieldAddr 4 none (.s 3)), none, 0⟩,
  ⟨(some 19), .m (.load none (.s 18)), none, 0⟩,
  ⟨(some 20), .m (.buildSlice 1 1 [(.v (.float .f64 0))] [(0, 1, (.s 19))]), none, 62⟩,
  ⟨(some 21), .m (.append 1 8 (.s 17) (.s 20)), none, 62⟩,
  ⟨(some 22), .p (.nilCheck (.s 13)), none, 0⟩,
  ⟨(some 23), .p (.fieldAddr 3 none (.s 22)), none, 0⟩,
  ⟨none, .m (.store none (.s 23) (.s 21)), none, 0⟩]) c18_11)
def c18 : ACode := (.seq (.ops [
  ⟨(some 3), .m (.box (.s 1)), none, 0⟩,
  ⟨(some 4), .p (.mov (.c (.v (.bool false)))), none, 0⟩]) c18_12)
theorem t18 : trC Tryz.prog Tryz.f18.ntmps (bodyOf Tryz.f18) = some c18 := by kernel_rfl
theorem r18 : Tryz.f18.results.toList.mapM (trR Tryz.prog) = some [.tmp 4] := by kernel_rfl
def i18 : FI := ⟨106, c18, [.tmp 4]⟩
theorem k18 : Knows Tryz.prog 18 i18 := ⟨Tryz.f18, bodyOf Tryz.f18, Tryz.func18, by kernel_rfl, by kernel_rfl, t18, r18, by kernel_rfl⟩
-- 19 drover/code.right []
def c19_0 : ACode := (.cond (.s 20) (.seq (.ops [
  ⟨(some 6), .p (.mov (.c (.v (.bool false)))), none, 0⟩]) .ret) .skip)
def c19_1 : List AOper := [
  ⟨(some 32), .p (.un .not (.s 31)), none, 0⟩]
def c19_2 : ACode := (.cond (.s 32) (.seq (.ops [
  ⟨(some 6), .p (.mov (.c (.v (.bool false)))), none, 0⟩]) .ret) .skip)
def c19_3 : ACode := (.seq (.ops (⟨(some 27), .m (.load none (.s 3)), none, 0⟩ ::
  ⟨(some 28), .m (.load (some 3) (.s 4)), none, 0⟩ ::
  ⟨(some 29), .p (.mov (.s 7)), none, 0⟩ ::
  ⟨(some 30), .m (.load none (.s 5)), none, 0⟩ ::
  ⟨(some 31), .call (.c (.fn 26 [])) [(.s 27), (.s 28), (.s 29), (.s 30)], none, 61⟩ :: c19_1)) c19_2)
def c19_4 : ACode := (.ops [
  ⟨(some 33), .p (.bin .add (.s 24) (.c (.v (.int .i64 1)))), none, 0⟩,
  ⟨(some 24), .p (.mov (.s 33)), none, 0⟩])
def c19_5 : ACode := (.seq (.block 1 (.seq (.ops [
  ⟨(some 26), .p (.mov (.s 24)), none, 0⟩,
  ⟨(some 7), .p (.mov (.s 26)), none, 0⟩]) c19_3)) c19_4)
def c19_6 : ACode := (.seq (.cond (.s 25) .skip (.exit 0)) c19_5)
def c19_7 : ACode := (.seq (.ops [
  ⟨(some 25), .p (.bin .lss (.s 24) (.s 23)), none, 0⟩]) c19_6)
def c19_8 : ACode := (.block 0 (.loop c19_7))
def c19_9 : List AOper := [
  ⟨(some 38), .p (.un .not (.s 37)), none, 0⟩,
  ⟨(some 6), .p (.mov (.s 38)), none, 0⟩]
def c19_10 : ACode := (.seq (.ops (⟨(some 34), .p (.fieldAddr 2 none (.s 4)), none, 0⟩ ::
  ⟨(some 35), .m (.load none (.s 34)), none, 0⟩ ::
  ⟨(some 36), .p (.mkFn 28 [(.s 3), (.s 5), (.s 4)]), none, 0⟩ ::
  ⟨(some 37), .call (.c (.fn 27 [])) [(.s 35), (.s 36)], none, 44⟩ :: c19_9)) .ret)
def c19_11 : ACode := (.seq (.seq (.ops [
  ⟨(some 21), .p (.fieldAddr 0 none (.s 4)), none, 0⟩,
  ⟨(some 22), .m (.load none (.s 21)), none, 0⟩,
  ⟨(some 23), .p (.len false (.s 22)), none, 98⟩,
  ⟨(some 24), .p (.mov (.c (.v (.int .i64 0)))), none, 0⟩]) c19_8) c19_10)
def c19_12 : ACode := (.seq (.seq (.ops [
  ⟨(some 8), .p (.fieldAddr 0 none (.s 4)), none, 0⟩,
  ⟨(some 9), .m (.load none (.s 8)), none, 0⟩,
  ⟨(some 10), .p (.len false (.s 9)), none, 98⟩,
  ⟨(some 11), .p (.bin .gtr (.s 10) (.c (.v (.int .i64 1000)))), none, 0⟩,
  ⟨(some 12), .p (.mov (.s 11)), none, 0⟩,
  ⟨(some 13), .p (.fieldAddr 1 none (.s 4)), (some (12, false)), 0⟩,
  ⟨(some 14), .m (.load none (.s 13)), (some (12, false)), 0⟩,
  ⟨(some 15), .p (.len false (.s 14)), (some (12, false)), 99⟩,
  ⟨(some 16), .p (.fieldAddr 0 none (.s 4)), (some (12, false)), 0⟩,
  ⟨(some 17), .m (.load none (.s 16)), (some (12, false)), 0⟩,
  ⟨(some 18), .p (.len false (.s 17)), (some (12, false)), 98⟩,
  ⟨(some 19), .p (.bin .neq (.s 15) (.s 18)), (some (12, false)), 0⟩,
  ⟨(some 20), .p (.pick (.s 12) (.c (.v (.bool true))) (.s 19)), none, 0⟩]) c19_0) c19_11)
def c19 : ACode := (.seq (.ops [
  ⟨(some 3), .m (.box (.s 0)), none, 0⟩,
  ⟨(some 4), .m (.box (.s 1)), none, 0⟩,
  ⟨(some 5), .m (.box (.s 2)), none, 0⟩,
  ⟨(some 6), .p (.mov (.c (.v (.bool false)))), none, 0⟩]) c19_12)
theorem t19 : trC Tryz.prog Tryz.f19.ntmps (bodyOf Tryz.f19) = some c19 := by kernel_rfl
theorem r19 : Tryz.f19.results.toList.mapM (trR Tryz.prog) = some [.tmp 6] := by kernel_rfl
def i19 : FI := ⟨39, c19, [.tmp 6]⟩
theorem k19 : Knows Tryz.prog 19 i19 := ⟨Tryz.f19, bodyOf Tryz.f19, Tryz.func19, by kernel_rfl, by kernel_rfl, t19, r19, by kernel_rfl⟩
-- 20 (*drover/topo.Topo).Size []
def c20_0 : ACode := (.cond (.s 4) (.seq (.ops [
  ⟨(some 2), .p (.mov (.c (.v (.int .i64 0)))), none, 0⟩]) .ret) .skip)
def c20_1 : ACode := (.seq (.ops [
  ⟨(some 5), .p (.mov (.s 0)), none, 0⟩,
  ⟨(some 6), .p (.nilCheck (.s 5)), none, 0⟩,
  ⟨(some 7), .p (.fieldAddr 0 none (.s 6)), none, 0⟩,
  ⟨(some 8), .m (.load none (.s 7)), none, 0⟩,
  ⟨(some 2), .p (.mov (.s 8)), none, 0⟩]) .ret)
def c20_2 : ACode := (.seq (.seq (.ops [
  ⟨(some 3), .p (.mov (.s 0)), none, 0⟩,
  ⟨(some 4), .p (.eqn false (.pointer 61) (.s 3)), none, 0⟩]) c20_0) c20_1)
def c20 : ACode := (.seq (.ops [
  ⟨(some 2), .p (.mov (.c (.v (.int .i64 0)))), none, 0⟩]) c20_2)
theorem t20 : trC Tryz.prog Tryz.f20.ntmps (bodyOf Tryz.f20) = some c20 := by kernel_rfl
theorem r20 : Tryz.f20.results.toList.mapM (trR Tryz.prog) = some [.tmp 2] := by kernel_rfl
def i20 : FI := ⟨9, c20, [.tmp 2]⟩
theorem k20 : Knows Tryz.prog 20 i20 := ⟨Tryz.f20, bodyOf Tryz.f20, Tryz.func20, by kernel_rfl, by kernel_rfl, t20, r20, by kernel_rfl⟩
-- 22 slices.Grow[drover/api.Cube,drover/api.Test] []
def c22_0 : ACode := (.cond (.s 6) (.ops [
  ⟨(some 7), .p (.mkIfc 9 (.c (.v (.string ⟨#[99, 97, 110, 110, 111, 116, 32, 98, 101, 32, 110, 101, 103, 97, 116, 105, 118, 101]⟩)))), none, 0⟩,
  ⟨none, .never, none, 0⟩]) .skip)
def c22_1 : ACode := (.cond (.s 16) (.ops [
  ⟨(some 17), .p (.mov (.s 0)), none, 0⟩,
  ⟨(some 18), .p (.mov (.s 0)), none, 0⟩,
  ⟨(some 19), .m (.ext (.capK (.s 18))), none, 35⟩,
  ⟨(some 20), .p (.slSl 3 (.s 17) none (some (.s 19)) none), none, 0⟩,
  ⟨(some 21), .p (.mov (.s 1)), none, 0⟩,
  ⟨(some 22), .m (.appendZ 3 24 [(.v (.int .i64 0)), (.v (.int .u64 0)), (.v (.int .u64 0))] (.s 20) (.s 21)), none, 35⟩,
  ⟨(some 23), .p (.mov (.s 0)), none, 0⟩,
  ⟨(some 24), .p (.len false (.s 23)), none, 35⟩,
  ⟨(some 25), .p (.slSl 3 (.s 22) none (some (.s 24)) none), none, 0⟩,
  ⟨(some 0), .p (.mov (.s 25)), none, 0⟩]) .skip)
def c22_2 : ACode := (.seq (.ops [
  ⟨(some 15), .p (.mov (.s 1)), none, 0⟩,
  ⟨(some 16), .p (.bin .gtr (.s 15) (.c (.v (.int .i64 0)))), none, 0⟩]) c22_1)
def c22_3 : ACode := (.seq (.ops [
  ⟨(some 26), .p (.mov (.s 0)), none, 0⟩,
  ⟨(some 4), .p (.mov (.s 26)), none, 0⟩]) .ret)
def c22_4 : ACode := (.seq (.seq (.ops [
  ⟨(some 8), .p (.mov (.s 1)), none, 0⟩,
  ⟨(some 9), .p (.mov (.s 0)), none, 0⟩,
  ⟨(some 10), .m (.ext (.capK (.s 9))), none, 35⟩,
  ⟨(some 11), .p (.mov (.s 0)), none, 0⟩,
  ⟨(some 12), .p (.len false (.s 11)), none, 35⟩,
  ⟨(some 13), .p (.bin .sub (.s 10) (.s 12)), none, 0⟩,
  ⟨(some 14), .p (.bin .sub (.s 8) (.s 13)), none, 0⟩,
  ⟨(some 1), .p (.mov (.s 14)), none, 0⟩]) c22_2) c22_3)
def c22_5 : ACode := (.seq (.seq (.ops [
  ⟨(some 5), .p (.mov (.s 1)), none, 0⟩,
  ⟨(some 6), .p (.bin .lss (.s 5) (.c (.v (.int .i64 0)))), none, 0⟩]) c22_0) c22_4)
def c22 : ACode := (.seq (.ops [
  ⟨(some 4), .p (.mov (.c (.v (.slice none 0 0)))), none, 0⟩]) c22_5)
theorem t22 : trC Tryz.prog Tryz.f22.ntmps (bodyOf Tryz.f22) = some c22 := by kernel_rfl
theorem r22 : Tryz.f22.results.toList.mapM (trR Tryz.prog) = some [.tmp 4] := by kernel_rfl
def i22 : FI := ⟨27, c22, [.tmp 4]⟩
theorem k22 : Knows Tryz.prog 22 i22 := ⟨Tryz.f22, bodyOf Tryz.f22, Tryz.func22, by kernel_rfl, by kernel_rfl, t22, r22, by kernel_rfl⟩
-- 23 cmp.isNaN[int] []
def c23_0 : ACode := (.seq (.ops [
  ⟨(some 3), .p (.mov (.s 0)), none, 0⟩,
  ⟨(some 4), .p (.mov (.s 0)), none, 0⟩,
  ⟨(some 5), .p (.bin .neq (.s 3) (.s 4)), none, 0⟩,
  ⟨(some 2), .p (.mov (.s 5)), none, 0⟩]) .ret)
def c23 : ACode := (.seq (.ops [
  ⟨(some 2), .p (.mov (.c (.v (.bool false)))), none, 0⟩]) c23_0)
theorem t23 : trC Tryz.prog Tryz.f23.ntmps (bodyOf Tryz.f23) = some c23 := by kernel_rfl
theorem r23 : Tryz.f23.results.toList.mapM (trR Tryz.prog) = some [.tmp 2] := by kernel_rfl
def i23 : FI := ⟨6, c23, [.tmp 2]⟩
theorem k23 : Knows Tryz.prog 23 i23 := ⟨Tryz.f23, bodyOf Tryz.f23, Tryz.func23, by kernel_rfl, by kernel_rfl, t23, r23, by kernel_rfl⟩
-- 27 slices.ContainsFunc[[]drover/plan.Start,drover/plan.Start] []
def c27_0 : List AOper := [
  ⟨(some 8), .p (.bin .geq (.s 7) (.c (.v (.int .i64 0)))), none, 0⟩,
  ⟨(some 4), .p (.mov (.s 8)), none, 0⟩]
def c27_1 : ACode := (.seq (.ops (⟨(some 5), .p (.mov (.s 0)), none, 0⟩ ::
  ⟨(some 6), .p (.mov (.s 1)), none, 0⟩ ::
  ⟨(some 7), .call (.c (.fn 37 [])) [(.s 5), (.s 6)], none, 44⟩ :: c27_0)) .ret)
def c27 : ACode := (.seq (.ops [
  ⟨(some 4), .p (.mov (.c (.v (.bool false)))), none, 0⟩]) c27_1)
theorem t27 : trC Tryz.prog Tryz.f27.ntmps (bodyOf Tryz.f27) = some c27 := by kernel_rfl
theorem r27 : Tryz.f27.results.toList.mapM (trR Tryz.prog) = some [.tmp 4] := by kernel_rfl
def i27 : FI := ⟨9, c27, [.tmp 4]⟩
theorem k27 : Knows Tryz.prog 27 i27 := ⟨Tryz.f27, bodyOf Tryz.f27, Tryz.func27, by kernel_rfl, by kernel_rfl, t27, r27, by kernel_rfl⟩
-- 28 drover/code.right$1 []
def c28_0 : List AOper := [
  ⟨(some 8), .p (.mov (.s 12)), none, 0⟩,
  ⟨(some 13), .p (.extract (.s 8) 0), none, 0⟩,
  ⟨(some 14), .p (.extract (.s 8) 1), none, 0⟩,
  ⟨(some 6), .p (.mov (.s 13)), none, 0⟩,
  ⟨(some 7), .p (.mov (.s 14)), none, 0⟩]
def c28_1 : ACode := (.seq (.ops [
  ⟨(some 15), .p (.mov (.s 6)), none, 0⟩,
  ⟨(some 16), .p (.bin .eql (.s 15) (.c (.v (.int .i64 0)))), none, 0⟩,
  ⟨(some 17), .p (.mov (.s 16)), none, 0⟩,
  ⟨(some 18), .p (.fieldAddr 0 none (.s 4)), (some (17, false)), 0⟩,
  ⟨(some 19), .m (.load none (.s 18)), (some (17, false)), 0⟩,
  ⟨(some 20), .p (.bin .lss (.s 19) (.c (.v (.int .i64 0)))), (some (17, false)), 0⟩,
  ⟨(some 21), .p (.pick (.s 17) (.c (.v (.bool true))) (.s 20)), none, 0⟩,
  ⟨(some 22), .p (.mov (.s 21)), none, 0⟩,
  ⟨(some 23), .p (.fieldAddr 0 none (.s 4)), (some (22, false)), 0⟩,
  ⟨(some 24), .m (.load none (.s 23)), (some (22, false)), 0⟩,
  ⟨(some 25), .m (.load none (.s 2)), (some (22, false)), 0⟩,
  ⟨(some 26), .p (.bin .geq (.s 24) (.s 25)), (some (22, false)), 0⟩,
  ⟨(some 27), .p (.pick (.s 22) (.c (.v (.bool true))) (.s 26)), none, 0⟩,
  ⟨(some 28), .p (.mov (.s 27)), none, 0⟩,
  ⟨(some 29), .p (.fieldAddr 3 none (.s 4)), (some (28, false)), 0⟩,
  ⟨(some 30), .m (.load none (.s 29)), (some (28, false)), 0⟩,
  ⟨(some 31), .p (.bin .lss (.s 30) (.c (.v (.int .i64 0)))), (some (28, false)), 0⟩,
  ⟨(some 32), .p (.pick (.s 28) (.c (.v (.bool true))) (.s 31)), none, 0⟩,
  ⟨(some 33), .p (.mov (.s 32)), none, 0⟩,
  ⟨(some 34), .p (.fieldAddr 3 none (.s 4)), (some (33, false)), 0⟩,
  ⟨(some 35), .m (.load none (.s 34)), (some (33, false)), 0⟩,
  ⟨(some 36), .p (.fieldAddr 0 none (.s 3)), (some (33, false)), 0⟩,
  ⟨(some 37), .m (.load none (.s 36)), (some (33, false)), 0⟩,
  ⟨(some 38), .p (.len false (.s 37)), (some (33, false)), 98⟩,
  ⟨(some 39), .p (.bin .geq (.s 35) (.s 38)), (some (33, false)), 0⟩,
  ⟨(some 40), .p (.pick (.s 33) (.c (.v (.bool true))) (.s 39)), none, 0⟩,
  ⟨(some 5), .p (.mov (.s 40)), none, 0⟩]) .ret)
def c28_2 : ACode := (.seq (.ops (⟨(some 9), .m (.load none (.s 1)), none, 0⟩ ::
  ⟨(some 10), .p (.fieldAddr 1 none (.s 4)), none, 0⟩ ::
  ⟨(some 11), .m (.load none (.s 10)), none, 0⟩ ::
  ⟨(some 12), .call (.c (.fn 29 [])) [(.s 9), (.s 11)], none, 61⟩ :: c28_0)) c28_1)
def c28 : ACode := (.seq (.ops [
  ⟨(some 4), .m (.box (.s 0)), none, 0⟩,
  ⟨(some 5), .p (.mov (.c (.v (.bool false)))), none, 0⟩]) c28_2)
theorem t28 : trC Tryz.prog Tryz.f28.ntmps (bodyOf Tryz.f28) = some c28 := by kernel_rfl
theorem r28 : Tryz.f28.results.toList.mapM (trR Tryz.prog) = some [.tmp 5] := by kernel_rfl
def i28 : FI := ⟨41, c28, [.tmp 5]⟩
theorem k28 : Knows Tryz.prog 28 i28 := ⟨Tryz.f28, bodyOf Tryz.f28, Tryz.func28, by kernel_rfl, by kernel_rfl, t28, r28, by kernel_rfl⟩
-- 29 (*drover/topo.Topo).Home []
def c29_0 : ACode := (.cond (.s 8) (.seq (.ops [
  ⟨(some 4), .p (.mov (.c (.v (.int .i64 0)))), none, 0⟩,
  ⟨(some 5), .p (.mov (.c (.v (.int .i64 0)))), none, 0⟩]) .ret) .skip)
def c29_1 : ACode := (.seq (.draw [
  ⟨(some 15), .p (.fieldAddr 0 none (.s 6)), none, 0⟩,
  ⟨(some 16), .m (.load none (.s 15)), none, 0⟩,
  ⟨(some 17), .p (.fieldAddr 1 none (.s 6)), none, 0⟩,
  ⟨(some 18), .m (.load none (.s 17)), none, 0⟩,
  ⟨(some 4), .p (.mov (.s 16)), none, 0⟩,
  ⟨(some 5), .p (.mov (.s 18)), none, 0⟩]) .ret)
def c29_2 : ACode := (.seq (.ops [
  ⟨(some 9), .p (.mov (.s 0)), none, 0⟩,
  ⟨(some 10), .p (.nilCheck (.s 9)), none, 0⟩,
  ⟨(some 11), .p (.fieldAddr 2 none (.s 10)), none, 0⟩,
  ⟨(some 12), .m (.load none (.s 11)), none, 0⟩,
  ⟨(some 13), .p (.mov (.s 1)), none, 0⟩,
  ⟨(some 14), .m (.ext (.map (.look [(.int .i64)] false false (.agg [(.v (.int .i64 0)), (.v (.int .i64 0))]) (.s 12) (.s 13)))), none, 0⟩,
  ⟨(some 6), .m (.alloc [(.v (.int .i64 0)), (.v (.int .i64 0))]), none, 0⟩,
  ⟨none, .m (.store (some 2) (.s 6) (.s 14)), none, 0⟩]) c29_1)
def c29_3 : ACode := (.seq (.seq (.ops [
  ⟨(some 7), .p (.mov (.s 0)), none, 0⟩,
  ⟨(some 8), .p (.eqn false (.pointer 61) (.s 7)), none, 0⟩]) c29_0) c29_2)
def c29 : ACode := (.seq (.ops [
  ⟨(some 4), .p (.mov (.c (.v (.int .i64 0)))), none, 0⟩,
  ⟨(some 5), .p (.mov (.c (.v (.int .i64 0)))), none, 0⟩]) c29_3)
theorem t29 : trC Tryz.prog Tryz.f29.ntmps (bodyOf Tryz.f29) = some c29 := by kernel_rfl
theorem r29 : Tryz.f29.results.toList.mapM (trR Tryz.prog) = some [.tmp 4, .tmp 5] := by kernel_rfl
def i29 : FI := ⟨19, c29, [.tmp 4, .tmp 5]⟩
theorem k29 : Knows Tryz.prog 29 i29 := ⟨Tryz.f29, bodyOf Tryz.f29, Tryz.func29, by kernel_rfl, by kernel_rfl, t29, r29, by kernel_rfl⟩
end Go.Proofs.Cdm
