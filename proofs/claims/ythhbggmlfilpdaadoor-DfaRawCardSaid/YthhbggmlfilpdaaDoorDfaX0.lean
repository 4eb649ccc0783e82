/- A part of a law's proof: DfaX0. -/
import Derived.KernelRfl
import Derived.Test.YthhbggmlfilpdaaDoorProg
import Derived.Test.YthhbggmlfilpdaaDoorSvCod
set_option linter.unusedSimpArgs false
set_option linter.constructorNameAsVariable false
namespace Go.Proofs.Dfa
open Go Go.Ab Go.Proofs
set_option linter.unusedVariables false
noncomputable abbrev PG : Program := Tryd.prog
def bodyOf (fn : Func) : Code := fn.body.getD .skip
-- 4 drover/droverlaw19.DfaRaw []
def c4_0 : List AOper := [
  ⟨(some 9), .p (.mov (.s 12)), none, 0⟩,
  ⟨(some 13), .p (.extract (.s 9) 0), none, 0⟩,
  ⟨(some 14), .p (.extract (.s 9) 1), none, 0⟩,
  ⟨(some 5), .m (.alloc [(.v (.int .i64 0)), (.v (.slice none 0 0)), (.v (.slice none 0 0))]), none, 40⟩,
  ⟨none, .m (.store (some 3) (.s 5) (.s 13)), none, 0⟩,
  ⟨(some 6), .p (.mov (.s 14)), none, 0⟩]
def c4_1 : List AOper := [
  ⟨(some 15), .p (.mov (.s 18)), none, 0⟩,
  ⟨(some 19), .p (.extract (.s 15) 0), none, 0⟩,
  ⟨(some 20), .p (.extract (.s 15) 1), none, 0⟩,
  ⟨(some 7), .m (.alloc [(.v (.int .i64 0)), (.v (.slice none 0 0)), (.v (.slice none 0 0))]), none, 40⟩,
  ⟨none, .m (.store (some 3) (.s 7) (.s 19)), none, 0⟩,
  ⟨(some 8), .p (.mov (.s 20)), none, 0⟩]
def c4_2 : List AOper := [
  ⟨(some 31), .p (.pick (.s 29) (.s 30) (.c (.v (.bool false)))), none, 0⟩,
  ⟨(some 4), .p (.mov (.s 31)), none, 0⟩]
def c4_3 : List AOper := (⟨(some 28), .p (.pick (.s 24) (.s 27) (.c (.v (.bool false)))), none, 0⟩ ::
  ⟨(some 29), .p (.mov (.s 28)), none, 0⟩ ::
  ⟨(some 30), .call (.c (.fn 15 [])) [], (some (29, true)), 0⟩ :: c4_2)
def c4_4 : ACode := (.seq (.ops (⟨(some 21), .p (.mov (.s 8)), none, 0⟩ ::
  ⟨(some 22), .p (.mov (.s 6)), none, 0⟩ ::
  ⟨(some 23), .p (.bin .eql (.s 21) (.s 22)), none, 0⟩ ::
  ⟨(some 24), .p (.mov (.s 23)), none, 0⟩ ::
  ⟨(some 25), .m (.load (some 3) (.s 7)), (some (24, true)), 0⟩ ::
  ⟨(some 26), .m (.load (some 3) (.s 5)), (some (24, true)), 0⟩ ::
  ⟨(some 27), .call (.c (.fn 14 [])) [(.s 25), (.s 26)], (some (24, true)), 0⟩ :: c4_3)) .ret)
def c4_5 : ACode := (.seq (.ops (⟨(some 16), .m (.load (some 1) (.s 2)), none, 0⟩ ::
  ⟨(some 17), .p (.mov (.s 1)), none, 0⟩ ::
  ⟨(some 18), .call (.c (.fn 13 [])) [(.s 16), (.s 17)], none, 0⟩ :: c4_1)) c4_4)
def c4_6 : ACode := (.seq (.ops (⟨(some 10), .m (.load (some 1) (.s 2)), none, 0⟩ ::
  ⟨(some 11), .p (.mov (.s 1)), none, 0⟩ ::
  ⟨(some 12), .call (.c (.fn 12 [])) [(.s 10), (.s 11)], none, 0⟩ :: c4_0)) c4_5)
def c4 : ACode := (.seq (.ops [
  ⟨(some 2), .m (.box (.s 0)), none, 0⟩,
  ⟨(some 4), .p (.mov (.c (.v (.bool false)))), none, 0⟩]) c4_6)
theorem t4 : trC Tryd.prog Tryd.f4.ntmps (bodyOf Tryd.f4) = some c4 := by kernel_rfl
theorem r4 : Tryd.f4.results.toList.mapM (trR Tryd.prog) = some [.tmp 4] := by kernel_rfl
def i4 : FI := ⟨32, c4, [.tmp 4]⟩
theorem k4 : Knows Tryd.prog 4 i4 := ⟨Tryd.f4, bodyOf Tryd.f4, Tryd.func4, by kernel_rfl, by kernel_rfl, t4, r4, by kernel_rfl⟩
-- 12 drover/droverref19.From []
def c12_0 : List AOper := [
  ⟨(some 16), .p (.un .not (.s 15)), none, 0⟩,
  ⟨(some 17), .p (.mov (.s 16)), none, 0⟩,
  ⟨(some 18), .p (.mov (.s 1)), (some (17, false)), 0⟩,
  ⟨(some 19), .p (.bin .lss (.s 18) (.c (.v (.int .i64 1)))), (some (17, false)), 0⟩,
  ⟨(some 20), .p (.pick (.s 17) (.c (.v (.bool true))) (.s 19)), none, 0⟩,
  ⟨(some 21), .p (.mov (.s 20)), none, 0⟩,
  ⟨(some 22), .p (.mov (.s 1)), (some (21, false)), 0⟩,
  ⟨(some 23), .p (.bin .gtr (.s 22) (.c (.v (.int .i64 32)))), (some (21, false)), 0⟩,
  ⟨(some 24), .p (.pick (.s 21) (.c (.v (.bool true))) (.s 23)), none, 0⟩]
def c12_1 : ACode := (.cond (.s 24) (.seq (.ops [
  ⟨(some 25), .p (.build [(.v (.int .i64 0)), (.v (.slice none 0 0)), (.v (.slice none 0 0))] []), none, 0⟩,
  ⟨none, .m (.store (some 3) (.s 4) (.s 25)), none, 0⟩,
  ⟨(some 5), .p (.mov (.c (.v (.int .i64 1)))), none, 0⟩]) .ret) .skip)
def c12_2 : ACode := (.cond (.s 33) .skip (.exit 0))
def c12_3 : ACode := (.cond (.s 38) .skip (.exit 2))
def c12_4 : List AOper := [
  ⟨(some 12), .p (.mov (.s 50)), none, 0⟩]
def c12_5 : ACode := (.ops [
  ⟨(some 55), .p (.mov (.s 6)), none, 0⟩,
  ⟨(some 56), .p (.mov (.s 11)), none, 0⟩,
  ⟨(some 57), .m (.buildSlice 1 1 [(.v (.slice none 0 0))] [(0, 1, (.s 56))]), none, 40⟩,
  ⟨(some 58), .m (.append 1 24 (.s 55) (.s 57)), none, 40⟩,
  ⟨(some 6), .p (.mov (.s 58)), none, 0⟩])
def c12_6 : ACode := (.cond (.s 52) (.seq (.ops [
  ⟨(some 53), .p (.mov (.s 6)), none, 0⟩,
  ⟨(some 54), .p (.len false (.s 53)), none, 40⟩,
  ⟨(some 12), .p (.mov (.s 54)), none, 0⟩]) c12_5) .skip)
def c12_7 : ACode := (.cond (.s 61) (.seq (.ops [
  ⟨(some 62), .p (.build [(.v (.int .i64 0)), (.v (.slice none 0 0)), (.v (.slice none 0 0))] []), none, 0⟩,
  ⟨none, .m (.store (some 3) (.s 4) (.s 62)), none, 0⟩,
  ⟨(some 5), .p (.mov (.c (.v (.int .i64 44)))), none, 0⟩]) .ret) .skip)
def c12_8 : ACode := (.ops [
  ⟨(some 63), .p (.mov (.s 9)), none, 0⟩,
  ⟨(some 64), .p (.mov (.s 12)), none, 0⟩,
  ⟨(some 65), .m (.buildSlice 1 1 [(.v (.int .i64 0))] [(0, 1, (.s 64))]), none, 3⟩,
  ⟨(some 66), .m (.append 1 8 (.s 63) (.s 65)), none, 3⟩,
  ⟨(some 9), .p (.mov (.s 66)), none, 0⟩])
def c12_9 : ACode := (.seq (.seq (.ops [
  ⟨(some 59), .p (.mov (.s 6)), none, 0⟩,
  ⟨(some 60), .p (.len false (.s 59)), none, 40⟩,
  ⟨(some 61), .p (.bin .gtr (.s 60) (.c (.v (.int .i64 256)))), none, 0⟩]) c12_7) c12_8)
def c12_10 : ACode := (.seq (.seq (.ops [
  ⟨(some 51), .p (.mov (.s 12)), none, 0⟩,
  ⟨(some 52), .p (.bin .lss (.s 51) (.c (.v (.int .i64 0)))), none, 0⟩]) c12_6) c12_9)
def c12_11 : ACode := (.seq (.ops (⟨(some 48), .p (.mov (.s 6)), none, 0⟩ ::
  ⟨(some 49), .p (.mov (.s 11)), none, 0⟩ ::
  ⟨(some 50), .call (.c (.fn 44 [])) [(.s 48), (.s 49)], none, 40⟩ :: c12_4)) c12_10)
def c12_12 : ACode := (.ops [
  ⟨(some 39), .p (.mov (.s 10)), none, 0⟩,
  ⟨(some 40), .p (.bin .add (.s 39) (.c (.v (.int .i64 1)))), none, 0⟩,
  ⟨(some 10), .p (.mov (.s 40)), none, 0⟩])
def c12_13 : ACode := (.seq (.block 3 (.seq (.draw [
  ⟨(some 41), .m (.load (some 1) (.s 2)), none, 0⟩,
  ⟨(some 42), .p (.mov (.s 6)), none, 0⟩,
  ⟨(some 43), .p (.mov (.s 8)), none, 0⟩,
  ⟨(some 44), .p (.adrSl 1 (.s 42) (.s 43)), none, 0⟩,
  ⟨(some 45), .m (.load none (.s 44)), none, 0⟩,
  ⟨(some 46), .p (.mov (.s 10)), none, 0⟩,
  ⟨(some 47), .call (.c (.fn 43 [])) [(.s 41), (.s 45), (.s 46)], none, 0⟩,
  ⟨(some 11), .p (.mov (.s 47)), none, 0⟩]) c12_11)) c12_12)
def c12_14 : ACode := (.seq (.seq (.ops [
  ⟨(some 36), .p (.mov (.s 10)), none, 0⟩,
  ⟨(some 37), .p (.mov (.s 1)), none, 0⟩,
  ⟨(some 38), .p (.bin .leq (.s 36) (.s 37)), none, 0⟩]) c12_3) c12_13)
def c12_15 : ACode := (.block 2 (.loop c12_14))
def c12_16 : ACode := (.ops [
  ⟨(some 79), .p (.fieldAddr 2 none (.s 7)), none, 0⟩,
  ⟨(some 80), .m (.load none (.s 79)), none, 0⟩,
  ⟨(some 81), .p (.mov (.s 13)), none, 0⟩,
  ⟨(some 82), .m (.buildSlice 1 1 [(.v (.bool false))] [(0, 1, (.s 81))]), none, 4⟩,
  ⟨(some 83), .m (.append 1 1 (.s 80) (.s 82)), none, 4⟩,
  ⟨(some 84), .p (.fieldAddr 2 none (.s 7)), none, 0⟩,
  ⟨none, .m (.store none (.s 84) (.s 83)), none, 0⟩])
def c12_17 : ACode := (.seq (.ops [
  ⟨(some 73), .p (.fieldAddr 1 none (.s 7)), none, 0⟩,
  ⟨(some 74), .m (.load none (.s 73)), none, 0⟩,
  ⟨(some 75), .p (.mov (.s 9)), none, 0⟩,
  ⟨(some 76), .m (.buildSlice 1 1 [(.v (.slice none 0 0))] [(0, 1, (.s 75))]), none, 40⟩,
  ⟨(some 77), .m (.append 1 24 (.s 74) (.s 76)), none, 40⟩,
  ⟨(some 78), .p (.fieldAddr 1 none (.s 7)), none, 0⟩,
  ⟨none, .m (.store none (.s 78) (.s 77)), none, 0⟩]) c12_16)
def c12_18 : ACode := (.seq (.draw [
  ⟨(some 67), .m (.load (some 1) (.s 2)), none, 0⟩,
  ⟨(some 68), .p (.mov (.s 6)), none, 0⟩,
  ⟨(some 69), .p (.mov (.s 8)), none, 0⟩,
  ⟨(some 70), .p (.adrSl 1 (.s 68) (.s 69)), none, 0⟩,
  ⟨(some 71), .m (.load none (.s 70)), none, 0⟩,
  ⟨(some 72), .call (.c (.fn 45 [])) [(.s 67), (.s 71)], none, 0⟩,
  ⟨(some 13), .p (.mov (.s 72)), none, 0⟩]) c12_17)
def c12_19 : ACode := (.seq (.seq (.ops [
  ⟨(some 10), .p (.mov (.c (.v (.int .i64 1)))), none, 0⟩]) c12_15) c12_18)
def c12_20 : ACode := (.ops [
  ⟨(some 34), .p (.mov (.s 8)), none, 0⟩,
  ⟨(some 35), .p (.bin .add (.s 34) (.c (.v (.int .i64 1)))), none, 0⟩,
  ⟨(some 8), .p (.mov (.s 35)), none, 0⟩])
def c12_21 : ACode := (.seq (.block 1 (.seq (.ops [
  ⟨(some 9), .p (.mov (.c (.v (.slice none 0 0)))), none, 0⟩]) c12_19)) c12_20)
def c12_22 : ACode := (.seq (.seq (.ops [
  ⟨(some 30), .p (.mov (.s 8)), none, 0⟩,
  ⟨(some 31), .p (.mov (.s 6)), none, 0⟩,
  ⟨(some 32), .p (.len false (.s 31)), none, 40⟩,
  ⟨(some 33), .p (.bin .lss (.s 30) (.s 32)), none, 0⟩]) c12_2) c12_21)
def c12_23 : ACode := (.block 0 (.loop c12_22))
def c12_24 : ACode := (.seq (.ops [
  ⟨(some 85), .m (.load (some 3) (.s 7)), none, 0⟩,
  ⟨none, .m (.store (some 3) (.s 4) (.s 85)), none, 0⟩,
  ⟨(some 5), .p (.mov (.c (.v (.int .i64 0)))), none, 0⟩]) .ret)
def c12_25 : ACode := (.seq (.seq (.ops [
  ⟨(some 8), .p (.mov (.c (.v (.int .i64 0)))), none, 0⟩]) c12_23) c12_24)
def c12_26 : ACode := (.seq (.ops [
  ⟨(some 28), .p (.mov (.s 1)), none, 0⟩,
  ⟨(some 29), .p (.build [(.v (.int .i64 0)), (.v (.slice none 0 0)), (.v (.slice none 0 0))] [(0, 1, (.s 28))]), none, 0⟩,
  ⟨(some 7), .m (.alloc [(.v (.int .i64 0)), (.v (.slice none 0 0)), (.v (.slice none 0 0))]), none, 40⟩,
  ⟨none, .m (.store (some 3) (.s 7) (.s 29)), none, 0⟩]) c12_25)
def c12_27 : ACode := (.seq (.ops [
  ⟨(some 26), .m (.buildSlice 1 1 [(.v (.int .i64 0))] [(0, 1, (.c (.v (.int .i64 0))))]), none, 3⟩,
  ⟨(some 27), .m (.buildSlice 1 1 [(.v (.slice none 0 0))] [(0, 1, (.s 26))]), none, 40⟩,
  ⟨(some 6), .p (.mov (.s 27)), none, 0⟩]) c12_26)
def c12_28 : ACode := (.seq (.seq (.ops (⟨(some 14), .m (.load (some 1) (.s 2)), none, 0⟩ ::
  ⟨(some 15), .call (.c (.fn 42 [])) [(.s 14)], none, 0⟩ :: c12_0)) c12_1) c12_27)
def c12 : ACode := (.seq (.ops [
  ⟨(some 2), .m (.box (.s 0)), none, 0⟩,
  ⟨(some 4), .m (.alloc [(.v (.int .i64 0)), (.v (.slice none 0 0)), (.v (.slice none 0 0))]), none, 40⟩,
  ⟨(some 5), .p (.mov (.c (.v (.int .i64 0)))), none, 0⟩]) c12_28)
theorem t12 : trC Tryd.prog Tryd.f12.ntmps (bodyOf Tryd.f12) = some c12 := by kernel_rfl
theorem r12 : Tryd.f12.results.toList.mapM (trR Tryd.prog) = some [.cell 4 (some 3), .tmp 5] := by kernel_rfl
def i12 : FI := ⟨86, c12, [.cell 4 (some 3), .tmp 5]⟩
theorem k12 : Knows Tryd.prog 12 i12 := ⟨Tryd.f12, bodyOf Tryd.f12, Tryd.func12, by kernel_rfl, by kernel_rfl, t12, r12, by kernel_rfl⟩
-- 13 drover/dfa.From []
def c13_0 : List AOper := [
  ⟨(some 14), .p (.un .not (.s 13)), none, 0⟩,
  ⟨(some 15), .p (.mov (.s 14)), none, 0⟩,
  ⟨(some 16), .p (.mov (.s 1)), (some (15, false)), 0⟩,
  ⟨(some 17), .p (.bin .lss (.s 16) (.c (.v (.int .i64 1)))), (some (15, false)), 0⟩,
  ⟨(some 18), .p (.pick (.s 15) (.c (.v (.bool true))) (.s 17)), none, 0⟩,
  ⟨(some 19), .p (.mov (.s 18)), none, 0⟩,
  ⟨(some 20), .p (.mov (.s 1)), (some (19, false)), 0⟩,
  ⟨(some 21), .p (.bin .gtr (.s 20) (.c (.v (.int .i64 32)))), (some (19, false)), 0⟩,
  ⟨(some 22), .p (.pick (.s 19) (.c (.v (.bool true))) (.s 21)), none, 0⟩]
def c13_1 : ACode := (.cond (.s 22) (.seq (.ops [
  ⟨(some 23), .p (.build [(.v (.int .i64 0)), (.v (.slice none 0 0)), (.v (.slice none 0 0))] []), none, 0⟩,
  ⟨none, .m (.store (some 3) (.s 4) (.s 23)), none, 0⟩,
  ⟨(some 5), .p (.mov (.c (.v (.int .i64 1)))), none, 0⟩]) .ret) .skip)
def c13_2 : List AOper := [
  ⟨(some 24), .p (.mov (.s 27)), none, 0⟩,
  ⟨(some 28), .p (.extract (.s 24) 0), none, 0⟩,
  ⟨(some 29), .p (.extract (.s 24) 1), none, 0⟩,
  ⟨(some 30), .p (.extract (.s 24) 2), none, 0⟩,
  ⟨(some 6), .p (.mov (.s 28)), none, 0⟩,
  ⟨(some 7), .p (.mov (.s 29)), none, 0⟩,
  ⟨(some 8), .p (.mov (.s 30)), none, 0⟩]
def c13_3 : ACode := (.cond (.s 32) (.seq (.ops [
  ⟨(some 33), .p (.build [(.v (.int .i64 0)), (.v (.slice none 0 0)), (.v (.slice none 0 0))] []), none, 0⟩,
  ⟨none, .m (.store (some 3) (.s 4) (.s 33)), none, 0⟩,
  ⟨(some 5), .p (.mov (.c (.v (.int .i64 44)))), none, 0⟩]) .ret) .skip)
def c13_4 : ACode := (.draw [
  ⟨(some 43), .p (.fieldAddr 2 none (.s 9)), none, 0⟩,
  ⟨(some 44), .m (.load none (.s 43)), none, 0⟩,
  ⟨(some 45), .m (.load (some 1) (.s 2)), none, 0⟩,
  ⟨(some 46), .p (.mov (.s 11)), none, 0⟩,
  ⟨(some 47), .qcall (.c (.fn 51 [])) [(.s 46)], none, 0⟩,
  ⟨(some 48), .qcall (.c (.fn 52 [])) [(.s 45), (.s 47)], none, 0⟩,
  ⟨(some 49), .m (.buildSlice 1 1 [(.v (.bool false))] [(0, 1, (.s 48))]), none, 4⟩,
  ⟨(some 50), .m (.append 1 1 (.s 44) (.s 49)), none, 4⟩,
  ⟨(some 51), .p (.fieldAddr 2 none (.s 9)), none, 0⟩,
  ⟨none, .m (.store none (.s 51) (.s 50)), none, 0⟩])
def c13_5 : ACode := (.ops [
  ⟨(some 52), .p (.bin .add (.s 39) (.c (.v (.int .i64 1)))), none, 0⟩,
  ⟨(some 39), .p (.mov (.s 52)), none, 0⟩])
def c13_6 : ACode := (.seq (.block 1 (.seq (.ops [
  ⟨(some 41), .p (.adrSl 1 (.s 37) (.s 39)), none, 0⟩,
  ⟨(some 42), .m (.load none (.s 41)), none, 0⟩,
  ⟨(some 11), .p (.mov (.s 42)), none, 0⟩]) c13_4)) c13_5)
def c13_7 : ACode := (.seq (.cond (.s 40) .skip (.exit 0)) c13_6)
def c13_8 : ACode := (.seq (.ops [
  ⟨(some 40), .p (.bin .lss (.s 39) (.s 38)), none, 0⟩]) c13_7)
def c13_9 : ACode := (.block 0 (.loop c13_8))
def c13_10 : ACode := (.seq (.ops [
  ⟨(some 53), .m (.load (some 3) (.s 9)), none, 0⟩,
  ⟨none, .m (.store (some 3) (.s 4) (.s 53)), none, 0⟩,
  ⟨(some 5), .p (.mov (.c (.v (.int .i64 0)))), none, 0⟩]) .ret)
def c13_11 : ACode := (.seq (.seq (.ops [
  ⟨(some 37), .p (.mov (.s 6)), none, 0⟩,
  ⟨(some 38), .p (.len false (.s 37)), none, 83⟩,
  ⟨(some 39), .p (.mov (.c (.v (.int .i64 0)))), none, 0⟩]) c13_9) c13_10)
def c13_12 : ACode := (.seq (.ops [
  ⟨(some 34), .p (.mov (.s 1)), none, 0⟩,
  ⟨(some 35), .p (.mov (.s 7)), none, 0⟩,
  ⟨(some 36), .p (.build [(.v (.int .i64 0)), (.v (.slice none 0 0)), (.v (.slice none 0 0))] [(0, 1, (.s 34)), (1, 1, (.s 35))]), none, 0⟩,
  ⟨(some 9), .m (.alloc [(.v (.int .i64 0)), (.v (.slice none 0 0)), (.v (.slice none 0 0))]), none, 40⟩,
  ⟨none, .m (.store (some 3) (.s 9) (.s 36)), none, 0⟩]) c13_11)
def c13_13 : ACode := (.seq (.seq (.ops [
  ⟨(some 31), .p (.mov (.s 8)), none, 0⟩,
  ⟨(some 32), .p (.un .not (.s 31)), none, 0⟩]) c13_3) c13_12)
def c13_14 : ACode := (.seq (.ops (⟨(some 25), .p (.mov (.s 1)), none, 0⟩ ::
  ⟨(some 26), .p (.mkFn 48 [(.s 2)]), none, 0⟩ ::
  ⟨(some 27), .call (.c (.fn 47 [])) [(.c (.v (.int .u64 1))), (.s 25), (.s 26)], none, 0⟩ :: c13_2)) c13_13)
def c13_15 : ACode := (.seq (.seq (.ops (⟨(some 12), .m (.load (some 1) (.s 2)), none, 0⟩ ::
  ⟨(some 13), .call (.c (.fn 46 [])) [(.s 12)], none, 0⟩ :: c13_0)) c13_1) c13_14)
def c13 : ACode := (.seq (.ops [
  ⟨(some 2), .m (.box (.s 0)), none, 0⟩,
  ⟨(some 4), .m (.alloc [(.v (.int .i64 0)), (.v (.slice none 0 0)), (.v (.slice none 0 0))]), none, 40⟩,
  ⟨(some 5), .p (.mov (.c (.v (.int .i64 0)))), none, 0⟩]) c13_15)
theorem t13 : trC Tryd.prog Tryd.f13.ntmps (bodyOf Tryd.f13) = some c13 := by kernel_rfl
theorem r13 : Tryd.f13.results.toList.mapM (trR Tryd.prog) = some [.cell 4 (some 3), .tmp 5] := by kernel_rfl
def i13 : FI := ⟨54, c13, [.cell 4 (some 3), .tmp 5]⟩
theorem k13 : Knows Tryd.prog 13 i13 := ⟨Tryd.f13, bodyOf Tryd.f13, Tryd.func13, by kernel_rfl, by kernel_rfl, t13, r13, by kernel_rfl⟩
-- 14 drover/droverref19.Alike []
def c14_0 : ACode := (.cond (.s 29) (.seq (.ops [
  ⟨(some 4), .p (.mov (.c (.v (.bool false)))), none, 0⟩]) .ret) .skip)
def c14_1 : ACode := (.cond (.s 34) .skip (.exit 0))
def c14_2 : ACode := (.cond (.s 48) (.seq (.ops [
  ⟨(some 4), .p (.mov (.c (.v (.bool false)))), none, 0⟩]) .ret) .skip)
def c14_3 : ACode := (.ops [
  ⟨(some 35), .p (.mov (.s 5)), none, 0⟩,
  ⟨(some 36), .p (.bin .add (.s 35) (.c (.v (.int .i64 1)))), none, 0⟩,
  ⟨(some 5), .p (.mov (.s 36)), none, 0⟩])
def c14_4 : ACode := (.seq (.block 1 (.seq (.draw [
  ⟨(some 37), .p (.fieldAddr 1 none (.s 2)), none, 0⟩,
  ⟨(some 38), .m (.load none (.s 37)), none, 0⟩,
  ⟨(some 39), .p (.mov (.s 5)), none, 0⟩,
  ⟨(some 40), .p (.adrSl 1 (.s 38) (.s 39)), none, 0⟩,
  ⟨(some 41), .m (.load none (.s 40)), none, 0⟩,
  ⟨(some 42), .p (.fieldAddr 1 none (.s 3)), none, 0⟩,
  ⟨(some 43), .m (.load none (.s 42)), none, 0⟩,
  ⟨(some 44), .p (.mov (.s 5)), none, 0⟩,
  ⟨(some 45), .p (.adrSl 1 (.s 43) (.s 44)), none, 0⟩,
  ⟨(some 46), .m (.load none (.s 45)), none, 0⟩,
  ⟨(some 47), .call (.c (.fn 18 [])) [(.s 41), (.s 46)], none, 3⟩,
  ⟨(some 48), .p (.un .not (.s 47)), none, 0⟩]) c14_2)) c14_3)
def c14_5 : ACode := (.seq (.seq (.ops [
  ⟨(some 30), .p (.mov (.s 5)), none, 0⟩,
  ⟨(some 31), .p (.fieldAddr 1 none (.s 2)), none, 0⟩,
  ⟨(some 32), .m (.load none (.s 31)), none, 0⟩,
  ⟨(some 33), .p (.len false (.s 32)), none, 40⟩,
  ⟨(some 34), .p (.bin .lss (.s 30) (.s 33)), none, 0⟩]) c14_1) c14_4)
def c14_6 : ACode := (.block 0 (.loop c14_5))
def c14_7 : ACode := (.cond (.s 53) .skip (.exit 2))
def c14_8 : ACode := (.cond (.s 66) (.seq (.ops [
  ⟨(some 4), .p (.mov (.c (.v (.bool false)))), none, 0⟩]) .ret) .skip)
def c14_9 : ACode := (.ops [
  ⟨(some 54), .p (.mov (.s 6)), none, 0⟩,
  ⟨(some 55), .p (.bin .add (.s 54) (.c (.v (.int .i64 1)))), none, 0⟩,
  ⟨(some 6), .p (.mov (.s 55)), none, 0⟩])
def c14_10 : ACode := (.seq (.block 3 (.seq (.draw [
  ⟨(some 56), .p (.fieldAddr 2 none (.s 2)), none, 0⟩,
  ⟨(some 57), .m (.load none (.s 56)), none, 0⟩,
  ⟨(some 58), .p (.mov (.s 6)), none, 0⟩,
  ⟨(some 59), .p (.adrSl 1 (.s 57) (.s 58)), none, 0⟩,
  ⟨(some 60), .m (.load none (.s 59)), none, 0⟩,
  ⟨(some 61), .p (.fieldAddr 2 none (.s 3)), none, 0⟩,
  ⟨(some 62), .m (.load none (.s 61)), none, 0⟩,
  ⟨(some 63), .p (.mov (.s 6)), none, 0⟩,
  ⟨(some 64), .p (.adrSl 1 (.s 62) (.s 63)), none, 0⟩,
  ⟨(some 65), .m (.load none (.s 64)), none, 0⟩,
  ⟨(some 66), .p (.eqa true [.bool] false (.s 60) (.s 65)), none, 0⟩]) c14_8)) c14_9)
def c14_11 : ACode := (.seq (.seq (.ops [
  ⟨(some 49), .p (.mov (.s 6)), none, 0⟩,
  ⟨(some 50), .p (.fieldAddr 2 none (.s 2)), none, 0⟩,
  ⟨(some 51), .m (.load none (.s 50)), none, 0⟩,
  ⟨(some 52), .p (.len false (.s 51)), none, 4⟩,
  ⟨(some 53), .p (.bin .lss (.s 49) (.s 52)), none, 0⟩]) c14_7) c14_10)
def c14_12 : ACode := (.block 2 (.loop c14_11))
def c14_13 : ACode := (.seq (.ops [
  ⟨(some 4), .p (.mov (.c (.v (.bool true)))), none, 0⟩]) .ret)
def c14_14 : ACode := (.seq (.seq (.ops [
  ⟨(some 6), .p (.mov (.c (.v (.int .i64 0)))), none, 0⟩]) c14_12) c14_13)
def c14_15 : ACode := (.seq (.seq (.ops [
  ⟨(some 5), .p (.mov (.c (.v (.int .i64 0)))), none, 0⟩]) c14_6) c14_14)
def c14_16 : ACode := (.seq (.seq (.ops [
  ⟨(some 7), .p (.fieldAddr 0 none (.s 2)), none, 0⟩,
  ⟨(some 8), .m (.load none (.s 7)), none, 0⟩,
  ⟨(some 9), .p (.fieldAddr 0 none (.s 3)), none, 0⟩,
  ⟨(some 10), .m (.load none (.s 9)), none, 0⟩,
  ⟨(some 11), .p (.bin .neq (.s 8) (.s 10)), none, 0⟩,
  ⟨(some 12), .p (.mov (.s 11)), none, 0⟩,
  ⟨(some 13), .p (.fieldAddr 1 none (.s 2)), (some (12, false)), 0⟩,
  ⟨(some 14), .m (.load none (.s 13)), (some (12, false)), 0⟩,
  ⟨(some 15), .p (.len false (.s 14)), (some (12, false)), 40⟩,
  ⟨(some 16), .p (.fieldAddr 1 none (.s 3)), (some (12, false)), 0⟩,
  ⟨(some 17), .m (.load none (.s 16)), (some (12, false)), 0⟩,
  ⟨(some 18), .p (.len false (.s 17)), (some (12, false)), 40⟩,
  ⟨(some 19), .p (.bin .neq (.s 15) (.s 18)), (some (12, false)), 0⟩,
  ⟨(some 20), .p (.pick (.s 12) (.c (.v (.bool true))) (.s 19)), none, 0⟩,
  ⟨(some 21), .p (.mov (.s 20)), none, 0⟩,
  ⟨(some 22), .p (.fieldAddr 2 none (.s 2)), (some (21, false)), 0⟩,
  ⟨(some 23), .m (.load none (.s 22)), (some (21, false)), 0⟩,
  ⟨(some 24), .p (.len false (.s 23)), (some (21, false)), 4⟩,
  ⟨(some 25), .p (.fieldAddr 2 none (.s 3)), (some (21, false)), 0⟩,
  ⟨(some 26), .m (.load none (.s 25)), (some (21, false)), 0⟩,
  ⟨(some 27), .p (.len false (.s 26)), (some (21, false)), 4⟩,
  ⟨(some 28), .p (.bin .neq (.s 24) (.s 27)), (some (21, false)), 0⟩,
  ⟨(some 29), .p (.pick (.s 21) (.c (.v (.bool true))) (.s 28)), none, 0⟩]) c14_0) c14_15)
def c14 : ACode := (.seq (.ops [
  ⟨(some 2), .m (.box (.s 0)), none, 0⟩,
  ⟨(some 3), .m (.box (.s 1)), none, 0⟩,
  ⟨(some 4), .p (.mov (.c (.v (.bool false)))), none, 0⟩]) c14_16)
theorem t14 : trC Tryd.prog Tryd.f14.ntmps (bodyOf Tryd.f14) = some c14 := by kernel_rfl
theorem r14 : Tryd.f14.results.toList.mapM (trR Tryd.prog) = some [.tmp 4] := by kernel_rfl
def i14 : FI := ⟨67, c14, [.tmp 4]⟩
theorem k14 : Knows Tryd.prog 14 i14 := ⟨Tryd.f14, bodyOf Tryd.f14, Tryd.func14, by kernel_rfl, by kernel_rfl, t14, r14, by kernel_rfl⟩
-- 18 drover/droverref18.Ints []
def c18_0 : ACode := (.cond (.s 10) (.seq (.ops [
  ⟨(some 4), .p (.mov (.c (.v (.bool false)))), none, 0⟩]) .ret) .skip)
def c18_1 : ACode := (.cond (.s 14) .skip (.exit 0))
def c18_2 : ACode := (.cond (.s 25) (.seq (.ops [
  ⟨(some 4), .p (.mov (.c (.v (.bool false)))), none, 0⟩]) .ret) .skip)
def c18_3 : ACode := (.ops [
  ⟨(some 15), .p (.mov (.s 5)), none, 0⟩,
  ⟨(some 16), .p (.bin .add (.s 15) (.c (.v (.int .i64 1)))), none, 0⟩,
  ⟨(some 5), .p (.mov (.s 16)), none, 0⟩])
def c18_4 : ACode := (.seq (.block 1 (.seq (.draw [
  ⟨(some 17), .p (.mov (.s 0)), none, 0⟩,
  ⟨(some 18), .p (.mov (.s 5)), none, 0⟩,
  ⟨(some 19), .p (.adrSl 1 (.s 17) (.s 18)), none, 0⟩,
  ⟨(some 20), .m (.load none (.s 19)), none, 0⟩,
  ⟨(some 21), .p (.mov (.s 1)), none, 0⟩,
  ⟨(some 22), .p (.mov (.s 5)), none, 0⟩,
  ⟨(some 23), .p (.adrSl 1 (.s 21) (.s 22)), none, 0⟩,
  ⟨(some 24), .m (.load none (.s 23)), none, 0⟩,
  ⟨(some 25), .p (.bin .neq (.s 20) (.s 24)), none, 0⟩]) c18_2)) c18_3)
def c18_5 : ACode := (.seq (.seq (.ops [
  ⟨(some 11), .p (.mov (.s 5)), none, 0⟩,
  ⟨(some 12), .p (.mov (.s 0)), none, 0⟩,
  ⟨(some 13), .p (.len false (.s 12)), none, 3⟩,
  ⟨(some 14), .p (.bin .lss (.s 11) (.s 13)), none, 0⟩]) c18_1) c18_4)
def c18_6 : ACode := (.block 0 (.loop c18_5))
def c18_7 : ACode := (.seq (.ops [
  ⟨(some 4), .p (.mov (.c (.v (.bool true)))), none, 0⟩]) .ret)
def c18_8 : ACode := (.seq (.seq (.ops [
  ⟨(some 5), .p (.mov (.c (.v (.int .i64 0)))), none, 0⟩]) c18_6) c18_7)
def c18_9 : ACode := (.seq (.seq (.ops [
  ⟨(some 6), .p (.mov (.s 0)), none, 0⟩,
  ⟨(some 7), .p (.len false (.s 6)), none, 3⟩,
  ⟨(some 8), .p (.mov (.s 1)), none, 0⟩,
  ⟨(some 9), .p (.len false (.s 8)), none, 3⟩,
  ⟨(some 10), .p (.bin .neq (.s 7) (.s 9)), none, 0⟩]) c18_0) c18_8)
def c18 : ACode := (.seq (.ops [
  ⟨(some 4), .p (.mov (.c (.v (.bool false)))), none, 0⟩]) c18_9)
theorem t18 : trC Tryd.prog Tryd.f18.ntmps (bodyOf Tryd.f18) = some c18 := by kernel_rfl
theorem r18 : Tryd.f18.results.toList.mapM (trR Tryd.prog) = some [.tmp 4] := by kernel_rfl
def i18 : FI := ⟨26, c18, [.tmp 4]⟩
theorem k18 : Knows Tryd.prog 18 i18 := ⟨Tryd.f18, bodyOf Tryd.f18, Tryd.func18, by kernel_rfl, by kernel_rfl, t18, r18, by kernel_rfl⟩
-- 41 drover/droverref18.with []
def c41_0 : ACode := (.cond (.s 11) .skip (.exit 0))
def c41_1 : ACode := (.cond (.s 19) (.seq (.ops [
  ⟨(some 20), .p (.mov (.s 0)), none, 0⟩,
  ⟨(some 4), .p (.mov (.s 20)), none, 0⟩]) .ret) .skip)
def c41_2 : ACode := (.ops [
  ⟨(some 6), .p (.mov (.c (.v (.bool true)))), none, 0⟩])
def c41_3 : ACode := (.cond (.s 30) (.seq (.ops [
  ⟨(some 31), .p (.mov (.s 5)), none, 0⟩,
  ⟨(some 32), .p (.mov (.s 1)), none, 0⟩,
  ⟨(some 33), .m (.buildSlice 1 1 [(.v (.int .i64 0))] [(0, 1, (.s 32))]), none, 3⟩,
  ⟨(some 34), .m (.append 1 8 (.s 31) (.s 33)), none, 3⟩,
  ⟨(some 5), .p (.mov (.s 34)), none, 0⟩]) c41_2) .skip)
def c41_4 : ACode := (.ops [
  ⟨(some 35), .p (.mov (.s 5)), none, 0⟩,
  ⟨(some 36), .p (.mov (.s 0)), none, 0⟩,
  ⟨(some 37), .p (.mov (.s 7)), none, 0⟩,
  ⟨(some 38), .p (.adrSl 1 (.s 36) (.s 37)), none, 0⟩,
  ⟨(some 39), .m (.load none (.s 38)), none, 0⟩,
  ⟨(some 40), .m (.buildSlice 1 1 [(.v (.int .i64 0))] [(0, 1, (.s 39))]), none, 3⟩,
  ⟨(some 41), .m (.append 1 8 (.s 35) (.s 40)), none, 3⟩,
  ⟨(some 5), .p (.mov (.s 41)), none, 0⟩])
def c41_5 : ACode := (.seq (.seq (.ops [
  ⟨(some 21), .p (.mov (.s 6)), none, 0⟩,
  ⟨(some 22), .p (.un .not (.s 21)), none, 0⟩,
  ⟨(some 23), .p (.mov (.s 22)), none, 0⟩,
  ⟨(some 24), .p (.mov (.s 0)), (some (23, true)), 0⟩,
  ⟨(some 25), .p (.mov (.s 7)), (some (23, true)), 0⟩,
  ⟨(some 26), .p (.adrSl 1 (.s 24) (.s 25)), (some (23, true)), 0⟩,
  ⟨(some 27), .m (.load none (.s 26)), (some (23, true)), 0⟩,
  ⟨(some 28), .p (.mov (.s 1)), (some (23, true)), 0⟩,
  ⟨(some 29), .p (.bin .gtr (.s 27) (.s 28)), (some (23, true)), 0⟩,
  ⟨(some 30), .p (.pick (.s 23) (.s 29) (.c (.v (.bool false)))), none, 0⟩]) c41_3) c41_4)
def c41_6 : ACode := (.ops [
  ⟨(some 12), .p (.mov (.s 7)), none, 0⟩,
  ⟨(some 13), .p (.bin .add (.s 12) (.c (.v (.int .i64 1)))), none, 0⟩,
  ⟨(some 7), .p (.mov (.s 13)), none, 0⟩])
def c41_7 : ACode := (.seq (.block 1 (.seq (.seq (.ops [
  ⟨(some 14), .p (.mov (.s 0)), none, 0⟩,
  ⟨(some 15), .p (.mov (.s 7)), none, 0⟩,
  ⟨(some 16), .p (.adrSl 1 (.s 14) (.s 15)), none, 0⟩,
  ⟨(some 17), .m (.load none (.s 16)), none, 0⟩,
  ⟨(some 18), .p (.mov (.s 1)), none, 0⟩,
  ⟨(some 19), .p (.bin .eql (.s 17) (.s 18)), none, 0⟩]) c41_1) c41_5)) c41_6)
def c41_8 : ACode := (.seq (.seq (.ops [
  ⟨(some 8), .p (.mov (.s 7)), none, 0⟩,
  ⟨(some 9), .p (.mov (.s 0)), none, 0⟩,
  ⟨(some 10), .p (.len false (.s 9)), none, 3⟩,
  ⟨(some 11), .p (.bin .lss (.s 8) (.s 10)), none, 0⟩]) c41_0) c41_7)
def c41_9 : ACode := (.block 0 (.loop c41_8))
def c41_10 : ACode := (.cond (.s 43) (.ops [
  ⟨(some 44), .p (.mov (.s 5)), none, 0⟩,
  ⟨(some 45), .p (.mov (.s 1)), none, 0⟩,
  ⟨(some 46), .m (.buildSlice 1 1 [(.v (.int .i64 0))] [(0, 1, (.s 45))]), none, 3⟩,
  ⟨(some 47), .m (.append 1 8 (.s 44) (.s 46)), none, 3⟩,
  ⟨(some 5), .p (.mov (.s 47)), none, 0⟩]) .skip)
def c41_11 : ACode := (.seq (.ops [
  ⟨(some 48), .p (.mov (.s 5)), none, 0⟩,
  ⟨(some 4), .p (.mov (.s 48)), none, 0⟩]) .ret)
def c41_12 : ACode := (.seq (.seq (.ops [
  ⟨(some 42), .p (.mov (.s 6)), none, 0⟩,
  ⟨(some 43), .p (.un .not (.s 42)), none, 0⟩]) c41_10) c41_11)
def c41_13 : ACode := (.seq (.seq (.ops [
  ⟨(some 7), .p (.mov (.c (.v (.int .i64 0)))), none, 0⟩]) c41_9) c41_12)
def c41_14 : ACode := (.seq (.ops [
  ⟨(some 6), .p (.mov (.c (.v (.bool false)))), none, 0⟩]) c41_13)
def c41_15 : ACode := (.seq (.ops [
  ⟨(some 5), .p (.mov (.c (.v (.slice none 0 0)))), none, 0⟩]) c41_14)
def c41 : ACode := (.seq (.ops [
  ⟨(some 4), .p (.mov (.c (.v (.slice none 0 0)))), none, 0⟩]) c41_15)
theorem t41 : trC Tryd.prog Tryd.f41.ntmps (bodyOf Tryd.f41) = some c41 := by kernel_rfl
theorem r41 : Tryd.f41.results.toList.mapM (trR Tryd.prog) = some [.tmp 4] := by kernel_rfl
def i41 : FI := ⟨49, c41, [.tmp 4]⟩
theorem k41 : Knows Tryd.prog 41 i41 := ⟨Tryd.f41, bodyOf Tryd.f41, Tryd.func41, by kernel_rfl, by kernel_rfl, t41, r41, by kernel_rfl⟩
-- 42 drover/droverref18.Right []
def c42_0 : ACode := (.cond (.s 15) (.seq (.ops [
  ⟨(some 2), .p (.mov (.c (.v (.bool false)))), none, 0⟩]) .ret) .skip)
def c42_1 : ACode := (.cond (.s 20) .skip (.exit 0))
def c42_2 : ACode := (.cond (.s 44) (.seq (.ops [
  ⟨(some 2), .p (.mov (.c (.v (.bool false)))), none, 0⟩]) .ret) .skip)
def c42_3 : ACode := (.cond (.s 49) .skip (.exit 2))
def c42_4 : ACode := (.cond (.s 86) (.seq (.ops [
  ⟨(some 2), .p (.mov (.c (.v (.bool false)))), none, 0⟩]) .ret) .skip)
def c42_5 : ACode := (.ops [
  ⟨(some 50), .p (.mov (.s 5)), none, 0⟩,
  ⟨(some 51), .p (.bin .add (.s 50) (.c (.v (.int .i64 1)))), none, 0⟩,
  ⟨(some 5), .p (.mov (.s 51)), none, 0⟩])
def c42_6 : ACode := (.seq (.block 3 (.seq (.draw [
  ⟨(some 52), .p (.fieldAddr 2 none (.s 4)), none, 0⟩,
  ⟨(some 53), .m (.load none (.s 52)), none, 0⟩,
  ⟨(some 54), .p (.mov (.s 5)), none, 0⟩,
  ⟨(some 55), .p (.adrSl 1 (.s 53) (.s 54)), none, 0⟩,
  ⟨(some 56), .m (.load none (.s 55)), none, 0⟩,
  ⟨(some 57), .p (.bin .lss (.s 56) (.c (.v (.int .i64 1)))), none, 0⟩,
  ⟨(some 58), .p (.mov (.s 57)), none, 0⟩,
  ⟨(some 59), .p (.fieldAddr 2 none (.s 4)), (some (58, false)), 0⟩,
  ⟨(some 60), .m (.load none (.s 59)), (some (58, false)), 0⟩,
  ⟨(some 61), .p (.mov (.s 5)), (some (58, false)), 0⟩,
  ⟨(some 62), .p (.adrSl 1 (.s 60) (.s 61)), (some (58, false)), 0⟩,
  ⟨(some 63), .m (.load none (.s 62)), (some (58, false)), 0⟩,
  ⟨(some 64), .p (.fieldAddr 0 none (.s 1)), (some (58, false)), 0⟩,
  ⟨(some 65), .m (.load none (.s 64)), (some (58, false)), 0⟩,
  ⟨(some 66), .p (.len false (.s 65)), (some (58, false)), 69⟩,
  ⟨(some 67), .p (.bin .geq (.s 63) (.s 66)), (some (58, false)), 0⟩,
  ⟨(some 68), .p (.pick (.s 58) (.c (.v (.bool true))) (.s 67)), none, 0⟩,
  ⟨(some 69), .p (.mov (.s 68)), none, 0⟩,
  ⟨(some 70), .p (.mov (.s 5)), (some (69, false)), 0⟩,
  ⟨(some 71), .p (.bin .gtr (.s 70) (.c (.v (.int .i64 0)))), (some (69, false)), 0⟩,
  ⟨(some 72), .p (.mov (.s 71)), (some (69, false)), 0⟩,
  ⟨(some 73), .p (.fieldAddr 2 none (.s 4)), (some (72, true)), 0⟩,
  ⟨(some 74), .m (.load none (.s 73)), (some (72, true)), 0⟩,
  ⟨(some 75), .p (.mov (.s 5)), (some (72, true)), 0⟩,
  ⟨(some 76), .p (.adrSl 1 (.s 74) (.s 75)), (some (72, true)), 0⟩,
  ⟨(some 77), .m (.load none (.s 76)), (some (72, true)), 0⟩,
  ⟨(some 78), .p (.fieldAddr 2 none (.s 4)), (some (72, true)), 0⟩,
  ⟨(some 79), .m (.load none (.s 78)), (some (72, true)), 0⟩,
  ⟨(some 80), .p (.mov (.s 5)), (some (72, true)), 0⟩,
  ⟨(some 81), .p (.bin .sub (.s 80) (.c (.v (.int .i64 1)))), (some (72, true)), 0⟩,
  ⟨(some 82), .p (.adrSl 1 (.s 79) (.s 81)), (some (72, true)), 0⟩,
  ⟨(some 83), .m (.load none (.s 82)), (some (72, true)), 0⟩,
  ⟨(some 84), .p (.bin .leq (.s 77) (.s 83)), (some (72, true)), 0⟩,
  ⟨(some 85), .p (.pick (.s 72) (.s 84) (.c (.v (.bool false)))), (some (69, false)), 0⟩,
  ⟨(some 86), .p (.pick (.s 69) (.c (.v (.bool true))) (.s 85)), none, 0⟩]) c42_4)) c42_5)
def c42_7 : ACode := (.seq (.seq (.ops [
  ⟨(some 45), .p (.mov (.s 5)), none, 0⟩,
  ⟨(some 46), .p (.fieldAddr 2 none (.s 4)), none, 0⟩,
  ⟨(some 47), .m (.load none (.s 46)), none, 0⟩,
  ⟨(some 48), .p (.len false (.s 47)), none, 3⟩,
  ⟨(some 49), .p (.bin .lss (.s 45) (.s 48)), none, 0⟩]) c42_3) c42_6)
def c42_8 : ACode := (.block 2 (.loop c42_7))
def c42_9 : ACode := (.seq (.ops [
  ⟨(some 5), .p (.mov (.c (.v (.int .i64 0)))), none, 0⟩]) c42_8)
def c42_10 : ACode := (.seq (.seq (.ops [
  ⟨(some 28), .p (.fieldAddr 0 none (.s 4)), none, 0⟩,
  ⟨(some 29), .m (.load none (.s 28)), none, 0⟩,
  ⟨(some 30), .p (.bin .lss (.s 29) (.c (.v (.int .i64 0)))), none, 0⟩,
  ⟨(some 31), .p (.mov (.s 30)), none, 0⟩,
  ⟨(some 32), .p (.fieldAddr 0 none (.s 4)), (some (31, false)), 0⟩,
  ⟨(some 33), .m (.load none (.s 32)), (some (31, false)), 0⟩,
  ⟨(some 34), .p (.bin .gtr (.s 33) (.c (.v (.int .i64 65535)))), (some (31, false)), 0⟩,
  ⟨(some 35), .p (.pick (.s 31) (.c (.v (.bool true))) (.s 34)), none, 0⟩,
  ⟨(some 36), .p (.mov (.s 35)), none, 0⟩,
  ⟨(some 37), .p (.mov (.s 3)), (some (36, false)), 0⟩,
  ⟨(some 38), .p (.bin .eql (.s 37) (.c (.v (.int .i64 0)))), (some (36, false)), 0⟩,
  ⟨(some 39), .p (.mov (.s 38)), (some (36, false)), 0⟩,
  ⟨(some 40), .p (.fieldAddr 0 none (.s 4)), (some (39, true)), 0⟩,
  ⟨(some 41), .m (.load none (.s 40)), (some (39, true)), 0⟩,
  ⟨(some 42), .p (.bin .neq (.s 41) (.c (.v (.int .i64 0)))), (some (39, true)), 0⟩,
  ⟨(some 43), .p (.pick (.s 39) (.s 42) (.c (.v (.bool false)))), (some (36, false)), 0⟩,
  ⟨(some 44), .p (.pick (.s 36) (.c (.v (.bool true))) (.s 43)), none, 0⟩]) c42_2) c42_9)
def c42_11 : ACode := (.ops [
  ⟨(some 21), .p (.mov (.s 3)), none, 0⟩,
  ⟨(some 22), .p (.bin .add (.s 21) (.c (.v (.int .i64 1)))), none, 0⟩,
  ⟨(some 3), .p (.mov (.s 22)), none, 0⟩])
def c42_12 : ACode := (.seq (.block 1 (.seq (.ops [
  ⟨(some 23), .p (.fieldAddr 0 none (.s 1)), none, 0⟩,
  ⟨(some 24), .m (.load none (.s 23)), none, 0⟩,
  ⟨(some 25), .p (.mov (.s 3)), none, 0⟩,
  ⟨(some 26), .p (.adrSl 3 (.s 24) (.s 25)), none, 0⟩,
  ⟨(some 27), .m (.load (some 3) (.s 26)), none, 0⟩,
  ⟨(some 4), .m (.alloc [(.v (.int .i64 0)), (.v (.bool false)), (.v (.slice none 0 0))]), none, 3⟩,
  ⟨none, .m (.store (some 3) (.s 4) (.s 27)), none, 0⟩]) c42_10)) c42_11)
def c42_13 : ACode := (.seq (.seq (.ops [
  ⟨(some 16), .p (.mov (.s 3)), none, 0⟩,
  ⟨(some 17), .p (.fieldAddr 0 none (.s 1)), none, 0⟩,
  ⟨(some 18), .m (.load none (.s 17)), none, 0⟩,
  ⟨(some 19), .p (.len false (.s 18)), none, 69⟩,
  ⟨(some 20), .p (.bin .lss (.s 16) (.s 19)), none, 0⟩]) c42_1) c42_12)
def c42_14 : ACode := (.block 0 (.loop c42_13))
def c42_15 : ACode := (.seq (.ops [
  ⟨(some 2), .p (.mov (.c (.v (.bool true)))), none, 0⟩]) .ret)
def c42_16 : ACode := (.seq (.seq (.ops [
  ⟨(some 3), .p (.mov (.c (.v (.int .i64 0)))), none, 0⟩]) c42_14) c42_15)
def c42_17 : ACode := (.seq (.seq (.ops [
  ⟨(some 6), .p (.fieldAddr 0 none (.s 1)), none, 0⟩,
  ⟨(some 7), .m (.load none (.s 6)), none, 0⟩,
  ⟨(some 8), .p (.len false (.s 7)), none, 69⟩,
  ⟨(some 9), .p (.bin .lss (.s 8) (.c (.v (.int .i64 1)))), none, 0⟩,
  ⟨(some 10), .p (.mov (.s 9)), none, 0⟩,
  ⟨(some 11), .p (.fieldAddr 0 none (.s 1)), (some (10, false)), 0⟩,
  ⟨(some 12), .m (.load none (.s 11)), (some (10, false)), 0⟩,
  ⟨(some 13), .p (.len false (.s 12)), (some (10, false)), 69⟩,
  ⟨(some 14), .p (.bin .gtr (.s 13) (.c (.v (.int .i64 64)))), (some (10, false)), 0⟩,
  ⟨(some 15), .p (.pick (.s 10) (.c (.v (.bool true))) (.s 14)), none, 0⟩]) c42_0) c42_16)
def c42 : ACode := (.seq (.ops [
  ⟨(some 1), .m (.box (.s 0)), none, 0⟩,
  ⟨(some 2), .p (.mov (.c (.v (.bool false)))), none, 0⟩]) c42_17)
theorem t42 : trC Tryd.prog Tryd.f42.ntmps (bodyOf Tryd.f42) = some c42 := by kernel_rfl
theorem r42 : Tryd.f42.results.toList.mapM (trR Tryd.prog) = some [.tmp 2] := by kernel_rfl
def i42 : FI := ⟨87, c42, [.tmp 2]⟩
theorem k42 : Knows Tryd.prog 42 i42 := ⟨Tryd.f42, bodyOf Tryd.f42, Tryd.func42, by kernel_rfl, by kernel_rfl, t42, r42, by kernel_rfl⟩
-- 43 drover/droverref18.Step []
def c43_0 : List AOper := [
  ⟨(some 14), .p (.un .not (.s 13)), none, 0⟩]
def c43_1 : ACode := (.cond (.s 14) (.seq (.ops [
  ⟨(some 6), .p (.mov (.c (.v (.slice none 0 0)))), none, 0⟩]) .ret) .skip)
def c43_2 : ACode := (.cond (.s 18) .skip (.exit 0))
def c43_3 : ACode := (.cond (.s 35) (.exit 1) .skip)
def c43_4 : ACode := (.cond (.s 48) .skip (.exit 2))
def c43_5 : List AOper := [
  ⟨(some 7), .p (.mov (.s 72)), none, 0⟩]
def c43_6 : ACode := (.cond (.s 66) (.ops (⟨(some 67), .p (.mov (.s 7)), none, 0⟩ ::
  ⟨(some 68), .p (.mov (.s 9)), none, 0⟩ ::
  ⟨(some 69), .p (.mov (.s 10)), none, 0⟩ ::
  ⟨(some 70), .p (.adrSl 1 (.s 68) (.s 69)), none, 0⟩ ::
  ⟨(some 71), .m (.load none (.s 70)), none, 0⟩ ::
  ⟨(some 72), .call (.c (.fn 41 [])) [(.s 67), (.s 71)], none, 3⟩ :: c43_5)) .skip)
def c43_7 : ACode := (.seq (.ops [
  ⟨(some 60), .p (.mov (.s 11)), none, 0⟩,
  ⟨(some 61), .p (.bin .eql (.s 60) (.c (.v (.int .i64 0)))), none, 0⟩,
  ⟨(some 62), .p (.mov (.s 61)), none, 0⟩,
  ⟨(some 63), .p (.mov (.s 11)), (some (62, false)), 0⟩,
  ⟨(some 64), .p (.mov (.s 2)), (some (62, false)), 0⟩,
  ⟨(some 65), .p (.bin .eql (.s 63) (.s 64)), (some (62, false)), 0⟩,
  ⟨(some 66), .p (.pick (.s 62) (.c (.v (.bool true))) (.s 65)), none, 0⟩]) c43_6)
def c43_8 : ACode := (.ops [
  ⟨(some 49), .p (.mov (.s 10)), none, 0⟩,
  ⟨(some 50), .p (.bin .add (.s 49) (.c (.v (.int .i64 1)))), none, 0⟩,
  ⟨(some 10), .p (.mov (.s 50)), none, 0⟩])
def c43_9 : ACode := (.seq (.block 3 (.seq (.draw [
  ⟨(some 51), .p (.fieldAddr 0 none (.s 3)), none, 0⟩,
  ⟨(some 52), .m (.load none (.s 51)), none, 0⟩,
  ⟨(some 53), .p (.mov (.s 9)), none, 0⟩,
  ⟨(some 54), .p (.mov (.s 10)), none, 0⟩,
  ⟨(some 55), .p (.adrSl 1 (.s 53) (.s 54)), none, 0⟩,
  ⟨(some 56), .m (.load none (.s 55)), none, 0⟩,
  ⟨(some 57), .p (.adrSl 3 (.s 52) (.s 56)), none, 0⟩,
  ⟨(some 58), .p (.fieldAddr 0 none (.s 57)), none, 0⟩,
  ⟨(some 59), .m (.load none (.s 58)), none, 0⟩,
  ⟨(some 11), .p (.mov (.s 59)), none, 0⟩]) c43_7)) c43_8)
def c43_10 : ACode := (.seq (.seq (.ops [
  ⟨(some 45), .p (.mov (.s 10)), none, 0⟩,
  ⟨(some 46), .p (.mov (.s 9)), none, 0⟩,
  ⟨(some 47), .p (.len false (.s 46)), none, 3⟩,
  ⟨(some 48), .p (.bin .lss (.s 45) (.s 47)), none, 0⟩]) c43_4) c43_9)
def c43_11 : ACode := (.block 2 (.loop c43_10))
def c43_12 : ACode := (.seq (.ops [
  ⟨(some 10), .p (.mov (.c (.v (.int .i64 0)))), none, 0⟩]) c43_11)
def c43_13 : ACode := (.seq (.draw [
  ⟨(some 36), .p (.fieldAddr 0 none (.s 3)), none, 0⟩,
  ⟨(some 37), .m (.load none (.s 36)), none, 0⟩,
  ⟨(some 38), .p (.mov (.s 1)), none, 0⟩,
  ⟨(some 39), .p (.mov (.s 8)), none, 0⟩,
  ⟨(some 40), .p (.adrSl 1 (.s 38) (.s 39)), none, 0⟩,
  ⟨(some 41), .m (.load none (.s 40)), none, 0⟩,
  ⟨(some 42), .p (.adrSl 3 (.s 37) (.s 41)), none, 0⟩,
  ⟨(some 43), .p (.fieldAddr 2 none (.s 42)), none, 0⟩,
  ⟨(some 44), .m (.load none (.s 43)), none, 0⟩,
  ⟨(some 9), .p (.mov (.s 44)), none, 0⟩]) c43_12)
def c43_14 : ACode := (.ops [
  ⟨(some 19), .p (.mov (.s 8)), none, 0⟩,
  ⟨(some 20), .p (.bin .add (.s 19) (.c (.v (.int .i64 1)))), none, 0⟩,
  ⟨(some 8), .p (.mov (.s 20)), none, 0⟩])
def c43_15 : ACode := (.seq (.block 1 (.seq (.seq (.draw [
  ⟨(some 21), .p (.mov (.s 1)), none, 0⟩,
  ⟨(some 22), .p (.mov (.s 8)), none, 0⟩,
  ⟨(some 23), .p (.adrSl 1 (.s 21) (.s 22)), none, 0⟩,
  ⟨(some 24), .m (.load none (.s 23)), none, 0⟩,
  ⟨(some 25), .p (.bin .lss (.s 24) (.c (.v (.int .i64 0)))), none, 0⟩,
  ⟨(some 26), .p (.mov (.s 25)), none, 0⟩,
  ⟨(some 27), .p (.mov (.s 1)), (some (26, false)), 0⟩,
  ⟨(some 28), .p (.mov (.s 8)), (some (26, false)), 0⟩,
  ⟨(some 29), .p (.adrSl 1 (.s 27) (.s 28)), (some (26, false)), 0⟩,
  ⟨(some 30), .m (.load none (.s 29)), (some (26, false)), 0⟩,
  ⟨(some 31), .p (.fieldAddr 0 none (.s 3)), (some (26, false)), 0⟩,
  ⟨(some 32), .m (.load none (.s 31)), (some (26, false)), 0⟩,
  ⟨(some 33), .p (.len false (.s 32)), (some (26, false)), 69⟩,
  ⟨(some 34), .p (.bin .geq (.s 30) (.s 33)), (some (26, false)), 0⟩,
  ⟨(some 35), .p (.pick (.s 26) (.c (.v (.bool true))) (.s 34)), none, 0⟩]) c43_3) c43_13)) c43_14)
def c43_16 : ACode := (.seq (.seq (.ops [
  ⟨(some 15), .p (.mov (.s 8)), none, 0⟩,
  ⟨(some 16), .p (.mov (.s 1)), none, 0⟩,
  ⟨(some 17), .p (.len false (.s 16)), none, 3⟩,
  ⟨(some 18), .p (.bin .lss (.s 15) (.s 17)), none, 0⟩]) c43_2) c43_15)
def c43_17 : ACode := (.block 0 (.loop c43_16))
def c43_18 : ACode := (.seq (.ops [
  ⟨(some 73), .p (.mov (.s 7)), none, 0⟩,
  ⟨(some 6), .p (.mov (.s 73)), none, 0⟩]) .ret)
def c43_19 : ACode := (.seq (.seq (.ops [
  ⟨(some 8), .p (.mov (.c (.v (.int .i64 0)))), none, 0⟩]) c43_17) c43_18)
def c43_20 : ACode := (.seq (.ops [
  ⟨(some 7), .p (.mov (.c (.v (.slice none 0 0)))), none, 0⟩]) c43_19)
def c43_21 : ACode := (.seq (.seq (.ops (⟨(some 12), .m (.load (some 1) (.s 3)), none, 0⟩ ::
  ⟨(some 13), .call (.c (.fn 42 [])) [(.s 12)], none, 0⟩ :: c43_0)) c43_1) c43_20)
def c43 : ACode := (.seq (.ops [
  ⟨(some 3), .m (.box (.s 0)), none, 0⟩,
  ⟨(some 6), .p (.mov (.c (.v (.slice none 0 0)))), none, 0⟩]) c43_21)
theorem t43 : trC Tryd.prog Tryd.f43.ntmps (bodyOf Tryd.f43) = some c43 := by kernel_rfl
theorem r43 : Tryd.f43.results.toList.mapM (trR Tryd.prog) = some [.tmp 6] := by kernel_rfl
def i43 : FI := ⟨74, c43, [.tmp 6]⟩
theorem k43 : Knows Tryd.prog 43 i43 := ⟨Tryd.f43, bodyOf Tryd.f43, Tryd.func43, by kernel_rfl, by kernel_rfl, t43, r43, by kernel_rfl⟩
-- 44 drover/droverref19.find []
def c44_0 : ACode := (.cond (.s 9) .skip (.exit 0))
def c44_1 : ACode := (.cond (.s 17) (.seq (.ops [
  ⟨(some 18), .p (.mov (.s 5)), none, 0⟩,
  ⟨(some 4), .p (.mov (.s 18)), none, 0⟩]) .ret) .skip)
def c44_2 : ACode := (.ops [
  ⟨(some 10), .p (.mov (.s 5)), none, 0⟩,
  ⟨(some 11), .p (.bin .add (.s 10) (.c (.v (.int .i64 1)))), none, 0⟩,
  ⟨(some 5), .p (.mov (.s 11)), none, 0⟩])
def c44_3 : ACode := (.seq (.block 1 (.seq (.ops [
  ⟨(some 12), .p (.mov (.s 0)), none, 0⟩,
  ⟨(some 13), .p (.mov (.s 5)), none, 0⟩,
  ⟨(some 14), .p (.adrSl 1 (.s 12) (.s 13)), none, 0⟩,
  ⟨(some 15), .m (.load none (.s 14)), none, 0⟩,
  ⟨(some 16), .p (.mov (.s 1)), none, 0⟩,
  ⟨(some 17), .call (.c (.fn 18 [])) [(.s 15), (.s 16)], none, 3⟩]) c44_1)) c44_2)
def c44_4 : ACode := (.seq (.seq (.ops [
  ⟨(some 6), .p (.mov (.s 5)), none, 0⟩,
  ⟨(some 7), .p (.mov (.s 0)), none, 0⟩,
  ⟨(some 8), .p (.len false (.s 7)), none, 40⟩,
  ⟨(some 9), .p (.bin .lss (.s 6) (.s 8)), none, 0⟩]) c44_0) c44_3)
def c44_5 : ACode := (.block 0 (.loop c44_4))
def c44_6 : ACode := (.seq (.ops [
  ⟨(some 4), .p (.mov (.c (.v (.int .i64 (-1))))), none, 0⟩]) .ret)
def c44_7 : ACode := (.seq (.seq (.ops [
  ⟨(some 5), .p (.mov (.c (.v (.int .i64 0)))), none, 0⟩]) c44_5) c44_6)
def c44 : ACode := (.seq (.ops [
  ⟨(some 4), .p (.mov (.c (.v (.int .i64 0)))), none, 0⟩]) c44_7)
theorem t44 : trC Tryd.prog Tryd.f44.ntmps (bodyOf Tryd.f44) = some c44 := by kernel_rfl
theorem r44 : Tryd.f44.results.toList.mapM (trR Tryd.prog) = some [.tmp 4] := by kernel_rfl
def i44 : FI := ⟨19, c44, [.tmp 4]⟩
theorem k44 : Knows Tryd.prog 44 i44 := ⟨Tryd.f44, bodyOf Tryd.f44, Tryd.func44, by kernel_rfl, by kernel_rfl, t44, r44, by kernel_rfl⟩
-- 45 drover/droverref18.Ends []
def c45_0 : List AOper := [
  ⟨(some 8), .p (.un .not (.s 7)), none, 0⟩]
def c45_1 : ACode := (.cond (.s 8) (.seq (.ops [
  ⟨(some 4), .p (.mov (.c (.v (.bool false)))), none, 0⟩]) .ret) .skip)
def c45_2 : ACode := (.cond (.s 12) .skip (.exit 0))
def c45_3 : ACode := (.cond (.s 40) (.seq (.ops [
  ⟨(some 4), .p (.mov (.c (.v (.bool true)))), none, 0⟩]) .ret) .skip)
def c45_4 : ACode := (.ops [
  ⟨(some 13), .p (.mov (.s 5)), none, 0⟩,
  ⟨(some 14), .p (.bin .add (.s 13) (.c (.v (.int .i64 1)))), none, 0⟩,
  ⟨(some 5), .p (.mov (.s 14)), none, 0⟩])
def c45_5 : ACode := (.seq (.block 1 (.seq (.draw [
  ⟨(some 15), .p (.mov (.s 1)), none, 0⟩,
  ⟨(some 16), .p (.mov (.s 5)), none, 0⟩,
  ⟨(some 17), .p (.adrSl 1 (.s 15) (.s 16)), none, 0⟩,
  ⟨(some 18), .m (.load none (.s 17)), none, 0⟩,
  ⟨(some 19), .p (.bin .geq (.s 18) (.c (.v (.int .i64 0)))), none, 0⟩,
  ⟨(some 20), .p (.mov (.s 19)), none, 0⟩,
  ⟨(some 21), .p (.mov (.s 1)), (some (20, true)), 0⟩,
  ⟨(some 22), .p (.mov (.s 5)), (some (20, true)), 0⟩,
  ⟨(some 23), .p (.adrSl 1 (.s 21) (.s 22)), (some (20, true)), 0⟩,
  ⟨(some 24), .m (.load none (.s 23)), (some (20, true)), 0⟩,
  ⟨(some 25), .p (.fieldAddr 0 none (.s 2)), (some (20, true)), 0⟩,
  ⟨(some 26), .m (.load none (.s 25)), (some (20, true)), 0⟩,
  ⟨(some 27), .p (.len false (.s 26)), (some (20, true)), 69⟩,
  ⟨(some 28), .p (.bin .lss (.s 24) (.s 27)), (some (20, true)), 0⟩,
  ⟨(some 29), .p (.pick (.s 20) (.s 28) (.c (.v (.bool false)))), none, 0⟩,
  ⟨(some 30), .p (.mov (.s 29)), none, 0⟩,
  ⟨(some 31), .p (.fieldAddr 0 none (.s 2)), (some (30, true)), 0⟩,
  ⟨(some 32), .m (.load none (.s 31)), (some (30, true)), 0⟩,
  ⟨(some 33), .p (.mov (.s 1)), (some (30, true)), 0⟩,
  ⟨(some 34), .p (.mov (.s 5)), (some (30, true)), 0⟩,
  ⟨(some 35), .p (.adrSl 1 (.s 33) (.s 34)), (some (30, true)), 0⟩,
  ⟨(some 36), .m (.load none (.s 35)), (some (30, true)), 0⟩,
  ⟨(some 37), .p (.adrSl 3 (.s 32) (.s 36)), (some (30, true)), 0⟩,
  ⟨(some 38), .p (.fieldAddr 1 none (.s 37)), (some (30, true)), 0⟩,
  ⟨(some 39), .m (.load none (.s 38)), (some (30, true)), 0⟩,
  ⟨(some 40), .p (.pick (.s 30) (.s 39) (.c (.v (.bool false)))), none, 0⟩]) c45_3)) c45_4)
def c45_6 : ACode := (.seq (.seq (.ops [
  ⟨(some 9), .p (.mov (.s 5)), none, 0⟩,
  ⟨(some 10), .p (.mov (.s 1)), none, 0⟩,
  ⟨(some 11), .p (.len false (.s 10)), none, 3⟩,
  ⟨(some 12), .p (.bin .lss (.s 9) (.s 11)), none, 0⟩]) c45_2) c45_5)
def c45_7 : ACode := (.block 0 (.loop c45_6))
def c45_8 : ACode := (.seq (.ops [
  ⟨(some 4), .p (.mov (.c (.v (.bool false)))), none, 0⟩]) .ret)
def c45_9 : ACode := (.seq (.seq (.ops [
  ⟨(some 5), .p (.mov (.c (.v (.int .i64 0)))), none, 0⟩]) c45_7) c45_8)
def c45_10 : ACode := (.seq (.seq (.ops (⟨(some 6), .m (.load (some 1) (.s 2)), none, 0⟩ ::
  ⟨(some 7), .call (.c (.fn 42 [])) [(.s 6)], none, 0⟩ :: c45_0)) c45_1) c45_9)
def c45 : ACode := (.seq (.ops [
  ⟨(some 2), .m (.box (.s 0)), none, 0⟩,
  ⟨(some 4), .p (.mov (.c (.v (.bool false)))), none, 0⟩]) c45_10)
theorem t45 : trC Tryd.prog Tryd.f45.ntmps (bodyOf Tryd.f45) = some c45 := by kernel_rfl
theorem r45 : Tryd.f45.results.toList.mapM (trR Tryd.prog) = some [.tmp 4] := by kernel_rfl
def i45 : FI := ⟨41, c45, [.tmp 4]⟩
theorem k45 : Knows Tryd.prog 45 i45 := ⟨Tryd.f45, bodyOf Tryd.f45, Tryd.func45, by kernel_rfl, by kernel_rfl, t45, r45, by kernel_rfl⟩
-- 46 drover/nfa.Right []
def c46_0 : ACode := (.cond (.s 25) (.seq (.ops [
  ⟨(some 2), .p (.mov (.c (.v (.bool false)))), none, 0⟩]) .ret) .skip)
def c46_1 : ACode := (.cond (.s 40) (.seq (.ops [
  ⟨(some 2), .p (.mov (.c (.v (.bool false)))), none, 0⟩]) .ret) .skip)
def c46_2 : ACode := (.cond (.s 57) (.seq (.ops [
  ⟨(some 2), .p (.mov (.c (.v (.bool false)))), none, 0⟩]) .ret) .skip)
def c46_3 : ACode := (.ops [
  ⟨(some 58), .p (.mov (.s 7)), none, 0⟩,
  ⟨(some 5), .p (.mov (.s 58)), none, 0⟩])
def c46_4 : ACode := (.seq (.seq (.ops [
  ⟨(some 48), .p (.mov (.s 7)), none, 0⟩,
  ⟨(some 49), .p (.mov (.s 5)), none, 0⟩,
  ⟨(some 50), .p (.bin .leq (.s 48) (.s 49)), none, 0⟩,
  ⟨(some 51), .p (.mov (.s 50)), none, 0⟩,
  ⟨(some 52), .p (.mov (.s 7)), (some (51, false)), 0⟩,
  ⟨(some 53), .p (.fieldAddr 0 none (.s 1)), (some (51, false)), 0⟩,
  ⟨(some 54), .m (.load none (.s 53)), (some (51, false)), 0⟩,
  ⟨(some 55), .p (.len false (.s 54)), (some (51, false)), 69⟩,
  ⟨(some 56), .p (.bin .geq (.s 52) (.s 55)), (some (51, false)), 0⟩,
  ⟨(some 57), .p (.pick (.s 51) (.c (.v (.bool true))) (.s 56)), none, 0⟩]) c46_2) c46_3)
def c46_5 : ACode := (.ops [
  ⟨(some 59), .p (.bin .add (.s 44) (.c (.v (.int .i64 1)))), none, 0⟩,
  ⟨(some 44), .p (.mov (.s 59)), none, 0⟩])
def c46_6 : ACode := (.seq (.block 3 (.seq (.ops [
  ⟨(some 46), .p (.adrSl 1 (.s 42) (.s 44)), none, 0⟩,
  ⟨(some 47), .m (.load none (.s 46)), none, 0⟩,
  ⟨(some 7), .p (.mov (.s 47)), none, 0⟩]) c46_4)) c46_5)
def c46_7 : ACode := (.seq (.cond (.s 45) .skip (.exit 2)) c46_6)
def c46_8 : ACode := (.seq (.ops [
  ⟨(some 45), .p (.bin .lss (.s 44) (.s 43)), none, 0⟩]) c46_7)
def c46_9 : ACode := (.block 2 (.loop c46_8))
def c46_10 : ACode := (.seq (.ops [
  ⟨(some 41), .p (.fieldAddr 2 none (.s 4)), none, 0⟩,
  ⟨(some 42), .m (.load none (.s 41)), none, 0⟩,
  ⟨(some 43), .p (.len false (.s 42)), none, 3⟩,
  ⟨(some 44), .p (.mov (.c (.v (.int .i64 0)))), none, 0⟩]) c46_9)
def c46_11 : ACode := (.seq (.ops [
  ⟨(some 5), .p (.mov (.c (.v (.int .i64 0)))), none, 0⟩]) c46_10)
def c46_12 : ACode := (.seq (.seq (.ops [
  ⟨(some 33), .p (.fieldAddr 0 none (.s 4)), none, 0⟩,
  ⟨(some 34), .m (.load none (.s 33)), none, 0⟩,
  ⟨(some 35), .p (.bin .lss (.s 34) (.c (.v (.int .i64 0)))), none, 0⟩,
  ⟨(some 36), .p (.mov (.s 35)), none, 0⟩,
  ⟨(some 37), .p (.fieldAddr 0 none (.s 4)), (some (36, false)), 0⟩,
  ⟨(some 38), .m (.load none (.s 37)), (some (36, false)), 0⟩,
  ⟨(some 39), .p (.bin .gtr (.s 38) (.c (.v (.int .i64 65535)))), (some (36, false)), 0⟩,
  ⟨(some 40), .p (.pick (.s 36) (.c (.v (.bool true))) (.s 39)), none, 0⟩]) c46_1) c46_11)
def c46_13 : ACode := (.ops [
  ⟨(some 60), .p (.bin .add (.s 29) (.c (.v (.int .i64 1)))), none, 0⟩,
  ⟨(some 29), .p (.mov (.s 60)), none, 0⟩])
def c46_14 : ACode := (.seq (.block 1 (.seq (.ops [
  ⟨(some 31), .p (.adrSl 3 (.s 27) (.s 29)), none, 0⟩,
  ⟨(some 32), .m (.load (some 3) (.s 31)), none, 0⟩,
  ⟨(some 4), .m (.alloc [(.v (.int .i64 0)), (.v (.bool false)), (.v (.slice none 0 0))]), none, 3⟩,
  ⟨none, .m (.store (some 3) (.s 4) (.s 32)), none, 0⟩]) c46_12)) c46_13)
def c46_15 : ACode := (.seq (.cond (.s 30) .skip (.exit 0)) c46_14)
def c46_16 : ACode := (.seq (.ops [
  ⟨(some 30), .p (.bin .lss (.s 29) (.s 28)), none, 0⟩]) c46_15)
def c46_17 : ACode := (.block 0 (.loop c46_16))
def c46_18 : ACode := (.seq (.ops [
  ⟨(some 2), .p (.mov (.c (.v (.bool true)))), none, 0⟩]) .ret)
def c46_19 : ACode := (.seq (.seq (.ops [
  ⟨(some 26), .p (.fieldAddr 0 none (.s 1)), none, 0⟩,
  ⟨(some 27), .m (.load none (.s 26)), none, 0⟩,
  ⟨(some 28), .p (.len false (.s 27)), none, 69⟩,
  ⟨(some 29), .p (.mov (.c (.v (.int .i64 0)))), none, 0⟩]) c46_17) c46_18)
def c46_20 : ACode := (.seq (.seq (.ops [
  ⟨(some 8), .p (.fieldAddr 0 none (.s 1)), none, 0⟩,
  ⟨(some 9), .m (.load none (.s 8)), none, 0⟩,
  ⟨(some 10), .p (.len false (.s 9)), none, 69⟩,
  ⟨(some 11), .p (.bin .eql (.s 10) (.c (.v (.int .i64 0)))), none, 0⟩,
  ⟨(some 12), .p (.mov (.s 11)), none, 0⟩,
  ⟨(some 13), .p (.fieldAddr 0 none (.s 1)), (some (12, false)), 0⟩,
  ⟨(some 14), .m (.load none (.s 13)), (some (12, false)), 0⟩,
  ⟨(some 15), .p (.len false (.s 14)), (some (12, false)), 69⟩,
  ⟨(some 16), .p (.bin .gtr (.s 15) (.c (.v (.int .i64 64)))), (some (12, false)), 0⟩,
  ⟨(some 17), .p (.pick (.s 12) (.c (.v (.bool true))) (.s 16)), none, 0⟩,
  ⟨(some 18), .p (.mov (.s 17)), none, 0⟩,
  ⟨(some 19), .p (.fieldAddr 0 none (.s 1)), (some (18, false)), 0⟩,
  ⟨(some 20), .m (.load none (.s 19)), (some (18, false)), 0⟩,
  ⟨(some 21), .p (.adrSl 3 (.s 20) (.c (.v (.int .i64 0)))), (some (18, false)), 0⟩,
  ⟨(some 22), .p (.fieldAddr 0 none (.s 21)), (some (18, false)), 0⟩,
  ⟨(some 23), .m (.load none (.s 22)), (some (18, false)), 0⟩,
  ⟨(some 24), .p (.bin .neq (.s 23) (.c (.v (.int .i64 0)))), (some (18, false)), 0⟩,
  ⟨(some 25), .p (.pick (.s 18) (.c (.v (.bool true))) (.s 24)), none, 0⟩]) c46_0) c46_19)
def c46 : ACode := (.seq (.ops [
  ⟨(some 1), .m (.box (.s 0)), none, 0⟩,
  ⟨(some 2), .p (.mov (.c (.v (.bool false)))), none, 0⟩]) c46_20)
theorem t46 : trC Tryd.prog Tryd.f46.ntmps (bodyOf Tryd.f46) = some c46 := by kernel_rfl
theorem r46 : Tryd.f46.results.toList.mapM (trR Tryd.prog) = some [.tmp 2] := by kernel_rfl
def i46 : FI := ⟨61, c46, [.tmp 2]⟩
theorem k46 : Knows Tryd.prog 46 i46 := ⟨Tryd.f46, bodyOf Tryd.f46, Tryd.func46, by kernel_rfl, by kernel_rfl, t46, r46, by kernel_rfl⟩
-- 47 drover/dfa.inTurn[uint64] []
def c47_0 : ACode := (.cond (.s 26) .skip (.exit 0))
def c47_1 : List AOper := [
  ⟨(some 15), .p (.mov (.s 43)), none, 0⟩]
def c47_2 : ACode := (.cond (.s 54) (.seq (.ops [
  ⟨(some 6), .p (.mov (.c (.v (.slice none 0 0)))), none, 0⟩,
  ⟨(some 7), .p (.mov (.c (.v (.slice none 0 0)))), none, 0⟩,
  ⟨(some 8), .p (.mov (.c (.v (.bool false)))), none, 0⟩]) .ret) .skip)
def c47_3 : ACode := (.ops [
  ⟨(some 60), .p (.mov (.s 9)), none, 0⟩,
  ⟨(some 61), .p (.mov (.s 15)), none, 0⟩,
  ⟨(some 62), .m (.buildSlice 1 1 [(.v (.int .u64 0))] [(0, 1, (.s 61))]), none, 83⟩,
  ⟨(some 63), .m (.append 1 8 (.s 60) (.s 62)), none, 83⟩,
  ⟨(some 9), .p (.mov (.s 63)), none, 0⟩])
def c47_4 : ACode := (.seq (.ops [
  ⟨(some 57), .p (.mov (.s 10)), none, 0⟩,
  ⟨(some 58), .p (.mov (.s 15)), none, 0⟩,
  ⟨(some 59), .p (.mov (.s 16)), none, 0⟩,
  ⟨none, .m (.ext (.map (.upd [(.int .u64)] false (.s 57) (.s 58) (.s 59)))), none, 0⟩]) c47_3)
def c47_5 : ACode := (.seq (.ops [
  ⟨(some 55), .p (.mov (.s 9)), none, 0⟩,
  ⟨(some 56), .p (.len false (.s 55)), none, 83⟩,
  ⟨(some 16), .p (.mov (.s 56)), none, 0⟩]) c47_4)
def c47_6 : ACode := (.cond (.s 51) (.seq (.seq (.ops [
  ⟨(some 52), .p (.mov (.s 9)), none, 0⟩,
  ⟨(some 53), .p (.len false (.s 52)), none, 83⟩,
  ⟨(some 54), .p (.bin .eql (.s 53) (.c (.v (.int .i64 256)))), none, 0⟩]) c47_2) c47_5) .skip)
def c47_7 : ACode := (.ops [
  ⟨(some 64), .p (.mov (.s 13)), none, 0⟩,
  ⟨(some 65), .p (.mov (.s 14)), none, 0⟩,
  ⟨(some 66), .p (.mov (.s 16)), none, 0⟩,
  ⟨(some 67), .p (.adrSl 1 (.s 64) (.s 65)), none, 0⟩,
  ⟨none, .m (.store none (.s 67) (.s 66)), none, 0⟩])
def c47_8 : ACode := (.seq (.seq (.ops [
  ⟨(some 50), .p (.mov (.s 17)), none, 0⟩,
  ⟨(some 51), .p (.un .not (.s 50)), none, 0⟩]) c47_6) c47_7)
def c47_9 : ACode := (.seq (.ops [
  ⟨(some 45), .p (.mov (.s 10)), none, 0⟩,
  ⟨(some 46), .p (.mov (.s 15)), none, 0⟩,
  ⟨(some 47), .m (.ext (.map (.look [(.int .u64)] false true (.v (.int .i64 0)) (.s 45) (.s 46)))), none, 0⟩,
  ⟨(some 44), .p (.mov (.s 47)), none, 0⟩,
  ⟨(some 48), .p (.extract (.s 44) 0), none, 0⟩,
  ⟨(some 49), .p (.extract (.s 44) 1), none, 0⟩,
  ⟨(some 16), .p (.mov (.s 48)), none, 0⟩,
  ⟨(some 17), .p (.mov (.s 49)), none, 0⟩]) c47_8)
def c47_10 : ACode := (.seq (.ops (⟨(some 36), .p (.mov (.s 2)), none, 0⟩ ::
  ⟨(some 37), .p (.mov (.s 9)), none, 0⟩ ::
  ⟨(some 38), .p (.mov (.s 12)), none, 0⟩ ::
  ⟨(some 39), .p (.adrSl 1 (.s 37) (.s 38)), none, 0⟩ ::
  ⟨(some 40), .m (.load none (.s 39)), none, 0⟩ ::
  ⟨(some 41), .p (.mov (.s 14)), none, 0⟩ ::
  ⟨(some 42), .p (.bin .add (.s 41) (.c (.v (.int .i64 1)))), none, 0⟩ ::
  ⟨(some 43), .call (.s 36) [(.s 40), (.s 42)], none, 0⟩ :: c47_1)) c47_9)
def c47_11 : ACode := (.ops [
  ⟨(some 68), .p (.bin .add (.s 33) (.c (.v (.int .i64 1)))), none, 0⟩,
  ⟨(some 33), .p (.mov (.s 68)), none, 0⟩])
def c47_12 : ACode := (.seq (.block 3 (.seq (.ops [
  ⟨(some 35), .p (.mov (.s 33)), none, 0⟩,
  ⟨(some 14), .p (.mov (.s 35)), none, 0⟩]) c47_10)) c47_11)
def c47_13 : ACode := (.seq (.cond (.s 34) .skip (.exit 2)) c47_12)
def c47_14 : ACode := (.seq (.ops [
  ⟨(some 34), .p (.bin .lss (.s 33) (.s 32)), none, 0⟩]) c47_13)
def c47_15 : ACode := (.block 2 (.loop c47_14))
def c47_16 : ACode := (.ops [
  ⟨(some 69), .p (.mov (.s 11)), none, 0⟩,
  ⟨(some 70), .p (.mov (.s 13)), none, 0⟩,
  ⟨(some 71), .m (.buildSlice 1 1 [(.v (.slice none 0 0))] [(0, 1, (.s 70))]), none, 40⟩,
  ⟨(some 72), .m (.append 1 24 (.s 69) (.s 71)), none, 40⟩,
  ⟨(some 11), .p (.mov (.s 72)), none, 0⟩])
def c47_17 : ACode := (.seq (.seq (.ops [
  ⟨(some 31), .p (.mov (.s 13)), none, 0⟩,
  ⟨(some 32), .p (.len false (.s 31)), none, 3⟩,
  ⟨(some 33), .p (.mov (.c (.v (.int .i64 0)))), none, 0⟩]) c47_15) c47_16)
def c47_18 : ACode := (.ops [
  ⟨(some 27), .p (.mov (.s 12)), none, 0⟩,
  ⟨(some 28), .p (.bin .add (.s 27) (.c (.v (.int .i64 1)))), none, 0⟩,
  ⟨(some 12), .p (.mov (.s 28)), none, 0⟩])
def c47_19 : ACode := (.seq (.block 1 (.seq (.ops [
  ⟨(some 29), .p (.mov (.s 1)), none, 0⟩,
  ⟨(some 30), .m (.mkSlice 1 8 [(.v (.int .i64 0))] (.s 29) (.s 29)), none, 3⟩,
  ⟨(some 13), .p (.mov (.s 30)), none, 0⟩]) c47_17)) c47_18)
def c47_20 : ACode := (.seq (.seq (.ops [
  ⟨(some 23), .p (.mov (.s 12)), none, 0⟩,
  ⟨(some 24), .p (.mov (.s 9)), none, 0⟩,
  ⟨(some 25), .p (.len false (.s 24)), none, 83⟩,
  ⟨(some 26), .p (.bin .lss (.s 23) (.s 25)), none, 0⟩]) c47_0) c47_19)
def c47_21 : ACode := (.block 0 (.loop c47_20))
def c47_22 : ACode := (.seq (.ops [
  ⟨(some 73), .p (.mov (.s 9)), none, 0⟩,
  ⟨(some 74), .p (.mov (.s 11)), none, 0⟩,
  ⟨(some 6), .p (.mov (.s 73)), none, 0⟩,
  ⟨(some 7), .p (.mov (.s 74)), none, 0⟩,
  ⟨(some 8), .p (.mov (.c (.v (.bool true)))), none, 0⟩]) .ret)
def c47_23 : ACode := (.seq (.seq (.ops [
  ⟨(some 12), .p (.mov (.c (.v (.int .i64 0)))), none, 0⟩]) c47_21) c47_22)
def c47_24 : ACode := (.seq (.ops [
  ⟨(some 11), .p (.mov (.c (.v (.slice none 0 0)))), none, 0⟩]) c47_23)
def c47_25 : ACode := (.seq (.ops [
  ⟨(some 20), .m (.ext (.map (.mk))), none, 5439491⟩,
  ⟨(some 21), .p (.mov (.s 0)), none, 0⟩,
  ⟨none, .m (.ext (.map (.upd [(.int .u64)] false (.s 20) (.s 21) (.c (.v (.int .i64 0)))))), none, 0⟩,
  ⟨(some 22), .p (.mov (.s 20)), none, 0⟩,
  ⟨(some 10), .p (.mov (.s 22)), none, 0⟩]) c47_24)
def c47_26 : ACode := (.seq (.ops [
  ⟨(some 18), .p (.mov (.s 0)), none, 0⟩,
  ⟨(some 19), .m (.buildSlice 1 1 [(.v (.int .u64 0))] [(0, 1, (.s 18))]), none, 83⟩,
  ⟨(some 9), .p (.mov (.s 19)), none, 0⟩]) c47_25)
def c47 : ACode := (.seq (.ops [
  ⟨(some 6), .p (.mov (.c (.v (.slice none 0 0)))), none, 0⟩,
  ⟨(some 7), .p (.mov (.c (.v (.slice none 0 0)))), none, 0⟩,
  ⟨(some 8), .p (.mov (.c (.v (.bool false)))), none, 0⟩]) c47_26)
theorem t47 : trC Tryd.prog Tryd.f47.ntmps (bodyOf Tryd.f47) = some c47 := by kernel_rfl
theorem r47 : Tryd.f47.results.toList.mapM (trR Tryd.prog) = some [.tmp 6, .tmp 7, .tmp 8] := by kernel_rfl
def i47 : FI := ⟨75, c47, [.tmp 6, .tmp 7, .tmp 8]⟩
theorem k47 : Knows Tryd.prog 47 i47 := ⟨Tryd.f47, bodyOf Tryd.f47, Tryd.func47, by kernel_rfl, by kernel_rfl, t47, r47, by kernel_rfl⟩
-- 48 drover/dfa.From$1 []
def c48_0 : ACode := (.seq (.draw [
  ⟨(some 6), .m (.load (some 1) (.s 2)), none, 0⟩,
  ⟨(some 7), .p (.mov (.s 0)), none, 0⟩,
  ⟨(some 8), .qcall (.c (.fn 51 [])) [(.s 7)], none, 0⟩,
  ⟨(some 9), .p (.mov (.s 1)), none, 0⟩,
  ⟨(some 10), .call (.c (.fn 50 [])) [(.s 6), (.s 8), (.s 9)], none, 0⟩,
  ⟨(some 11), .call (.c (.fn 49 [])) [(.s 10)], none, 3⟩,
  ⟨(some 5), .p (.mov (.s 11)), none, 0⟩]) .ret)
def c48 : ACode := (.seq (.ops [
  ⟨(some 5), .p (.mov (.c (.v (.int .u64 0)))), none, 0⟩]) c48_0)
theorem t48 : trC Tryd.prog Tryd.f48.ntmps (bodyOf Tryd.f48) = some c48 := by kernel_rfl
theorem r48 : Tryd.f48.results.toList.mapM (trR Tryd.prog) = some [.tmp 5] := by kernel_rfl
def i48 : FI := ⟨12, c48, [.tmp 5]⟩
theorem k48 : Knows Tryd.prog 48 i48 := ⟨Tryd.f48, bodyOf Tryd.f48, Tryd.func48, by kernel_rfl, by kernel_rfl, t48, r48, by kernel_rfl⟩
-- 49 drover/dfa.bits []
def c49_0 : ACode := (.ops [
  ⟨(some 12), .p (.mov (.s 3)), none, 0⟩,
  ⟨(some 13), .p (.mov (.s 5)), none, 0⟩,
  ⟨(some 14), .p (.bin .shl (.c (.v (.int .u64 1))) (.s 13)), none, 0⟩,
  ⟨(some 15), .p (.bin .or (.s 12) (.s 14)), none, 0⟩,
  ⟨(some 3), .p (.mov (.s 15)), none, 0⟩])
def c49_1 : ACode := (.ops [
  ⟨(some 16), .p (.bin .add (.s 8) (.c (.v (.int .i64 1)))), none, 0⟩,
  ⟨(some 8), .p (.mov (.s 16)), none, 0⟩])
def c49_2 : ACode := (.seq (.block 1 (.seq (.ops [
  ⟨(some 10), .p (.adrSl 1 (.s 6) (.s 8)), none, 0⟩,
  ⟨(some 11), .m (.load none (.s 10)), none, 0⟩,
  ⟨(some 5), .p (.mov (.s 11)), none, 0⟩]) c49_0)) c49_1)
def c49_3 : ACode := (.seq (.cond (.s 9) .skip (.exit 0)) c49_2)
def c49_4 : ACode := (.seq (.ops [
  ⟨(some 9), .p (.bin .lss (.s 8) (.s 7)), none, 0⟩]) c49_3)
def c49_5 : ACode := (.block 0 (.loop c49_4))
def c49_6 : ACode := (.seq (.ops [
  ⟨(some 17), .p (.mov (.s 3)), none, 0⟩,
  ⟨(some 2), .p (.mov (.s 17)), none, 0⟩]) .ret)
def c49_7 : ACode := (.seq (.seq (.ops [
  ⟨(some 6), .p (.mov (.s 0)), none, 0⟩,
  ⟨(some 7), .p (.len false (.s 6)), none, 3⟩,
  ⟨(some 8), .p (.mov (.c (.v (.int .i64 0)))), none, 0⟩]) c49_5) c49_6)
def c49_8 : ACode := (.seq (.ops [
  ⟨(some 3), .p (.mov (.c (.v (.int .u64 0)))), none, 0⟩]) c49_7)
def c49 : ACode := (.seq (.ops [
  ⟨(some 2), .p (.mov (.c (.v (.int .u64 0)))), none, 0⟩]) c49_8)
theorem t49 : trC Tryd.prog Tryd.f49.ntmps (bodyOf Tryd.f49) = some c49 := by kernel_rfl
theorem r49 : Tryd.f49.results.toList.mapM (trR Tryd.prog) = some [.tmp 2] := by kernel_rfl
def i49 : FI := ⟨18, c49, [.tmp 2]⟩
theorem k49 : Knows Tryd.prog 49 i49 := ⟨Tryd.f49, bodyOf Tryd.f49, Tryd.func49, by kernel_rfl, by kernel_rfl, t49, r49, by kernel_rfl⟩
-- 50 drover/nfa.Step []
def c50_0 : List AOper := [
  ⟨(some 9), .p (.un .not (.s 8)), none, 0⟩]
def c50_1 : ACode := (.cond (.s 9) (.seq (.ops [
  ⟨(some 6), .p (.mov (.c (.v (.slice none 0 0)))), none, 0⟩]) .ret) .skip)
def c50_2 : List AOper := [
  ⟨(some 6), .p (.mov (.s 13)), none, 0⟩]
def c50_3 : ACode := (.seq (.ops (⟨(some 10), .m (.load (some 1) (.s 3)), none, 0⟩ ::
  ⟨(some 11), .p (.mov (.s 1)), none, 0⟩ ::
  ⟨(some 12), .p (.mov (.s 2)), none, 0⟩ ::
  ⟨(some 13), .call (.c (.fn 67 [])) [(.s 10), (.s 11), (.s 12)], none, 0⟩ :: c50_2)) .ret)
def c50_4 : ACode := (.seq (.seq (.ops (⟨(some 7), .m (.load (some 1) (.s 3)), none, 0⟩ ::
  ⟨(some 8), .call (.c (.fn 46 [])) [(.s 7)], none, 0⟩ :: c50_0)) c50_1) c50_3)
def c50 : ACode := (.seq (.ops [
  ⟨(some 3), .m (.box (.s 0)), none, 0⟩,
  ⟨(some 6), .p (.mov (.c (.v (.slice none 0 0)))), none, 0⟩]) c50_4)
theorem t50 : trC Tryd.prog Tryd.f50.ntmps (bodyOf Tryd.f50) = some c50 := by kernel_rfl
theorem r50 : Tryd.f50.results.toList.mapM (trR Tryd.prog) = some [.tmp 6] := by kernel_rfl
def i50 : FI := ⟨14, c50, [.tmp 6]⟩
theorem k50 : Knows Tryd.prog 50 i50 := ⟨Tryd.f50, bodyOf Tryd.f50, Tryd.func50, by kernel_rfl, by kernel_rfl, t50, r50, by kernel_rfl⟩
-- 51 drover/dfa.row []
def c51_0 : ACode := (.cond (.s 12) (.ops [
  ⟨(some 13), .p (.mov (.s 3)), none, 0⟩,
  ⟨(some 14), .p (.mov (.s 4)), none, 0⟩,
  ⟨(some 15), .m (.buildSlice 1 1 [(.v (.int .i64 0))] [(0, 1, (.s 14))]), none, 3⟩,
  ⟨(some 16), .m (.append 1 8 (.s 13) (.s 15)), none, 3⟩,
  ⟨(some 3), .p (.mov (.s 16)), none, 0⟩]) .skip)
def c51_1 : ACode := (.seq (.ops [
  ⟨(some 8), .p (.mov (.s 0)), none, 0⟩,
  ⟨(some 9), .p (.mov (.s 4)), none, 0⟩,
  ⟨(some 10), .p (.bin .shr (.s 8) (.s 9)), none, 0⟩,
  ⟨(some 11), .p (.bin .and (.s 10) (.c (.v (.int .u64 1)))), none, 0⟩,
  ⟨(some 12), .p (.bin .eql (.s 11) (.c (.v (.int .u64 1)))), none, 0⟩]) c51_0)
def c51_2 : ACode := (.ops [
  ⟨(some 17), .p (.bin .add (.s 5) (.c (.v (.int .i64 1)))), none, 0⟩,
  ⟨(some 5), .p (.mov (.s 17)), none, 0⟩])
def c51_3 : ACode := (.seq (.block 1 (.seq (.ops [
  ⟨(some 7), .p (.mov (.s 5)), none, 0⟩,
  ⟨(some 4), .p (.mov (.s 7)), none, 0⟩]) c51_1)) c51_2)
def c51_4 : ACode := (.seq (.cond (.s 6) .skip (.exit 0)) c51_3)
def c51_5 : ACode := (.seq (.ops [
  ⟨(some 6), .p (.bin .lss (.s 5) (.c (.v (.int .i64 64)))), none, 0⟩]) c51_4)
def c51_6 : ACode := (.block 0 (.loop c51_5))
def c51_7 : ACode := (.seq (.ops [
  ⟨(some 18), .p (.mov (.s 3)), none, 0⟩,
  ⟨(some 2), .p (.mov (.s 18)), none, 0⟩]) .ret)
def c51_8 : ACode := (.seq (.seq (.ops [
  ⟨(some 5), .p (.mov (.c (.v (.int .i64 0)))), none, 0⟩]) c51_6) c51_7)
def c51_9 : ACode := (.seq (.ops [
  ⟨(some 3), .p (.mov (.c (.v (.slice none 0 0)))), none, 0⟩]) c51_8)
def c51 : ACode := (.seq (.ops [
  ⟨(some 2), .p (.mov (.c (.v (.slice none 0 0)))), none, 0⟩]) c51_9)
theorem t51 : trC Tryd.prog Tryd.f51.ntmps (bodyOf Tryd.f51) = some c51 := by kernel_rfl
theorem r51 : Tryd.f51.results.toList.mapM (trR Tryd.prog) = some [.tmp 2] := by kernel_rfl
def i51 : FI := ⟨19, c51, [.tmp 2]⟩
theorem k51 : Knows Tryd.prog 51 i51 := ⟨Tryd.f51, bodyOf Tryd.f51, Tryd.func51, by kernel_rfl, by kernel_rfl, t51, r51, by kernel_rfl⟩
-- 52 drover/nfa.Ends []
def c52_0 : List AOper := [
  ⟨(some 11), .p (.pick (.s 7) (.s 10) (.c (.v (.bool false)))), none, 0⟩,
  ⟨(some 4), .p (.mov (.s 11)), none, 0⟩]
def c52_1 : List AOper := (⟨(some 7), .p (.mov (.s 6)), none, 0⟩ ::
  ⟨(some 8), .m (.load (some 1) (.s 2)), (some (7, true)), 0⟩ ::
  ⟨(some 9), .p (.mov (.s 1)), (some (7, true)), 0⟩ ::
  ⟨(some 10), .call (.c (.fn 68 [])) [(.s 8), (.s 9)], (some (7, true)), 0⟩ :: c52_0)
def c52_2 : ACode := (.seq (.ops (⟨(some 5), .m (.load (some 1) (.s 2)), none, 0⟩ ::
  ⟨(some 6), .call (.c (.fn 46 [])) [(.s 5)], none, 0⟩ :: c52_1)) .ret)
def c52 : ACode := (.seq (.ops [
  ⟨(some 2), .m (.box (.s 0)), none, 0⟩,
  ⟨(some 4), .p (.mov (.c (.v (.bool false)))), none, 0⟩]) c52_2)
theorem t52 : trC Tryd.prog Tryd.f52.ntmps (bodyOf Tryd.f52) = some c52 := by kernel_rfl
theorem r52 : Tryd.f52.results.toList.mapM (trR Tryd.prog) = some [.tmp 4] := by kernel_rfl
def i52 : FI := ⟨12, c52, [.tmp 4]⟩
theorem k52 : Knows Tryd.prog 52 i52 := ⟨Tryd.f52, bodyOf Tryd.f52, Tryd.func52, by kernel_rfl, by kernel_rfl, t52, r52, by kernel_rfl⟩
-- 67 drover/nfa.step []
def c67_0 : ACode := (.cond (.s 28) (.exit 1) .skip)
def c67_1 : ACode := (.cond (.s 52) (.ops [
  ⟨(some 53), .p (.mov (.s 7)), none, 0⟩,
  ⟨(some 54), .p (.mov (.s 11)), none, 0⟩,
  ⟨(some 55), .p (.bin .shl (.c (.v (.int .u64 1))) (.s 54)), none, 0⟩,
  ⟨(some 56), .p (.bin .or (.s 53) (.s 55)), none, 0⟩,
  ⟨(some 7), .p (.mov (.s 56)), none, 0⟩]) .skip)
def c67_2 : ACode := (.seq (.ops [
  ⟨(some 46), .p (.mov (.s 12)), none, 0⟩,
  ⟨(some 47), .p (.bin .eql (.s 46) (.c (.v (.int .i64 0)))), none, 0⟩,
  ⟨(some 48), .p (.mov (.s 47)), none, 0⟩,
  ⟨(some 49), .p (.mov (.s 12)), (some (48, false)), 0⟩,
  ⟨(some 50), .p (.mov (.s 2)), (some (48, false)), 0⟩,
  ⟨(some 51), .p (.bin .eql (.s 49) (.s 50)), (some (48, false)), 0⟩,
  ⟨(some 52), .p (.pick (.s 48) (.c (.v (.bool true))) (.s 51)), none, 0⟩]) c67_1)
def c67_3 : ACode := (.seq (.ops [
  ⟨(some 40), .p (.fieldAddr 0 none (.s 3)), none, 0⟩,
  ⟨(some 41), .m (.load none (.s 40)), none, 0⟩,
  ⟨(some 42), .p (.mov (.s 11)), none, 0⟩,
  ⟨(some 43), .p (.adrSl 3 (.s 41) (.s 42)), none, 0⟩,
  ⟨(some 44), .p (.fieldAddr 0 none (.s 43)), none, 0⟩,
  ⟨(some 45), .m (.load none (.s 44)), none, 0⟩,
  ⟨(some 12), .p (.mov (.s 45)), none, 0⟩]) c67_2)
def c67_4 : ACode := (.ops [
  ⟨(some 57), .p (.bin .add (.s 36) (.c (.v (.int .i64 1)))), none, 0⟩,
  ⟨(some 36), .p (.mov (.s 57)), none, 0⟩])
def c67_5 : ACode := (.seq (.block 3 (.seq (.ops [
  ⟨(some 38), .p (.adrSl 1 (.s 34) (.s 36)), none, 0⟩,
  ⟨(some 39), .m (.load none (.s 38)), none, 0⟩,
  ⟨(some 11), .p (.mov (.s 39)), none, 0⟩]) c67_3)) c67_4)
def c67_6 : ACode := (.seq (.cond (.s 37) .skip (.exit 2)) c67_5)
def c67_7 : ACode := (.seq (.ops [
  ⟨(some 37), .p (.bin .lss (.s 36) (.s 35)), none, 0⟩]) c67_6)
def c67_8 : ACode := (.block 2 (.loop c67_7))
def c67_9 : ACode := (.seq (.ops [
  ⟨(some 29), .p (.fieldAddr 0 none (.s 3)), none, 0⟩,
  ⟨(some 30), .m (.load none (.s 29)), none, 0⟩,
  ⟨(some 31), .p (.mov (.s 9)), none, 0⟩,
  ⟨(some 32), .p (.adrSl 3 (.s 30) (.s 31)), none, 0⟩,
  ⟨(some 33), .p (.fieldAddr 2 none (.s 32)), none, 0⟩,
  ⟨(some 34), .m (.load none (.s 33)), none, 0⟩,
  ⟨(some 35), .p (.len false (.s 34)), none, 3⟩,
  ⟨(some 36), .p (.mov (.c (.v (.int .i64 0)))), none, 0⟩]) c67_8)
def c67_10 : ACode := (.seq (.seq (.ops [
  ⟨(some 20), .p (.mov (.s 9)), none, 0⟩,
  ⟨(some 21), .p (.bin .lss (.s 20) (.c (.v (.int .i64 0)))), none, 0⟩,
  ⟨(some 22), .p (.mov (.s 21)), none, 0⟩,
  ⟨(some 23), .p (.mov (.s 9)), (some (22, false)), 0⟩,
  ⟨(some 24), .p (.fieldAddr 0 none (.s 3)), (some (22, false)), 0⟩,
  ⟨(some 25), .m (.load none (.s 24)), (some (22, false)), 0⟩,
  ⟨(some 26), .p (.len false (.s 25)), (some (22, false)), 69⟩,
  ⟨(some 27), .p (.bin .geq (.s 23) (.s 26)), (some (22, false)), 0⟩,
  ⟨(some 28), .p (.pick (.s 22) (.c (.v (.bool true))) (.s 27)), none, 0⟩]) c67_0) c67_9)
def c67_11 : ACode := (.ops [
  ⟨(some 58), .p (.bin .add (.s 16) (.c (.v (.int .i64 1)))), none, 0⟩,
  ⟨(some 16), .p (.mov (.s 58)), none, 0⟩])
def c67_12 : ACode := (.seq (.block 1 (.seq (.ops [
  ⟨(some 18), .p (.adrSl 1 (.s 14) (.s 16)), none, 0⟩,
  ⟨(some 19), .m (.load none (.s 18)), none, 0⟩,
  ⟨(some 9), .p (.mov (.s 19)), none, 0⟩]) c67_10)) c67_11)
def c67_13 : ACode := (.seq (.cond (.s 17) .skip (.exit 0)) c67_12)
def c67_14 : ACode := (.seq (.ops [
  ⟨(some 17), .p (.bin .lss (.s 16) (.s 15)), none, 0⟩]) c67_13)
def c67_15 : ACode := (.block 0 (.loop c67_14))
def c67_16 : ACode := (.seq (.ops [
  ⟨(some 62), .m (.load none (.s 13)), none, 0⟩,
  ⟨(some 6), .p (.mov (.s 62)), none, 0⟩]) .ret)
def c67_17 : ACode := (.seq (.ops [
  ⟨(some 59), .p (.mov (.s 7)), none, 0⟩,
  ⟨(some 60), .p (.mkFn 81 [(.s 13)]), none, 0⟩,
  ⟨(some 61), .call (.c (.fn 80 [])) [(.s 59), (.s 60)], none, 0⟩]) c67_16)
def c67_18 : ACode := (.seq (.ops [
  ⟨(some 13), .m (.alloc [(.v (.slice none 0 0))]), none, 0⟩]) c67_17)
def c67_19 : ACode := (.seq (.seq (.ops [
  ⟨(some 14), .p (.mov (.s 1)), none, 0⟩,
  ⟨(some 15), .p (.len false (.s 14)), none, 3⟩,
  ⟨(some 16), .p (.mov (.c (.v (.int .i64 0)))), none, 0⟩]) c67_15) c67_18)
def c67_20 : ACode := (.seq (.ops [
  ⟨(some 7), .p (.mov (.c (.v (.int .u64 0)))), none, 0⟩]) c67_19)
def c67 : ACode := (.seq (.ops [
  ⟨(some 3), .m (.box (.s 0)), none, 0⟩,
  ⟨(some 6), .p (.mov (.c (.v (.slice none 0 0)))), none, 0⟩]) c67_20)
theorem t67 : trC Tryd.prog Tryd.f67.ntmps (bodyOf Tryd.f67) = some c67 := by kernel_rfl
theorem r67 : Tryd.f67.results.toList.mapM (trR Tryd.prog) = some [.tmp 6] := by kernel_rfl
def i67 : FI := ⟨63, c67, [.tmp 6]⟩
theorem k67 : Knows Tryd.prog 67 i67 := ⟨Tryd.f67, bodyOf Tryd.f67, Tryd.func67, by kernel_rfl, by kernel_rfl, t67, r67, by kernel_rfl⟩
-- 68 drover/nfa.ends []
def c68_0 : ACode := (.cond (.s 30) (.seq (.ops [
  ⟨(some 5), .p (.mov (.c (.v (.bool true)))), none, 0⟩]) (.exit 0)) .skip)
def c68_1 : ACode := (.seq (.ops [
  ⟨(some 24), .p (.mov (.s 8)), none, 0⟩,
  ⟨(some 25), .p (.mov (.s 7)), none, 0⟩,
  ⟨(some 26), .p (.bin .eql (.s 24) (.s 25)), none, 0⟩,
  ⟨(some 27), .p (.mov (.s 26)), none, 0⟩,
  ⟨(some 28), .p (.fieldAddr 1 none (.s 9)), (some (27, true)), 0⟩,
  ⟨(some 29), .m (.load none (.s 28)), (some (27, true)), 0⟩,
  ⟨(some 30), .p (.pick (.s 27) (.s 29) (.c (.v (.bool false)))), none, 0⟩]) c68_0)
def c68_2 : ACode := (.ops [
  ⟨(some 31), .p (.bin .add (.s 19) (.c (.v (.int .i64 1)))), none, 0⟩,
  ⟨(some 19), .p (.mov (.s 31)), none, 0⟩])
def c68_3 : ACode := (.seq (.block 3 (.seq (.ops [
  ⟨(some 21), .p (.mov (.s 19)), none, 0⟩,
  ⟨(some 22), .p (.adrSl 3 (.s 17) (.s 19)), none, 0⟩,
  ⟨(some 23), .m (.load (some 3) (.s 22)), none, 0⟩,
  ⟨(some 9), .m (.alloc [(.v (.int .i64 0)), (.v (.bool false)), (.v (.slice none 0 0))]), none, 3⟩,
  ⟨(some 8), .p (.mov (.s 21)), none, 0⟩,
  ⟨none, .m (.store (some 3) (.s 9) (.s 23)), none, 0⟩]) c68_1)) c68_2)
def c68_4 : ACode := (.seq (.cond (.s 20) .skip (.exit 2)) c68_3)
def c68_5 : ACode := (.seq (.ops [
  ⟨(some 20), .p (.bin .lss (.s 19) (.s 18)), none, 0⟩]) c68_4)
def c68_6 : ACode := (.block 2 (.loop c68_5))
def c68_7 : ACode := (.seq (.ops [
  ⟨(some 16), .p (.fieldAddr 0 none (.s 2)), none, 0⟩,
  ⟨(some 17), .m (.load none (.s 16)), none, 0⟩,
  ⟨(some 18), .p (.len false (.s 17)), none, 69⟩,
  ⟨(some 19), .p (.mov (.c (.v (.int .i64 0)))), none, 0⟩]) c68_6)
def c68_8 : ACode := (.ops [
  ⟨(some 32), .p (.bin .add (.s 12) (.c (.v (.int .i64 1)))), none, 0⟩,
  ⟨(some 12), .p (.mov (.s 32)), none, 0⟩])
def c68_9 : ACode := (.seq (.block 1 (.seq (.ops [
  ⟨(some 14), .p (.adrSl 1 (.s 10) (.s 12)), none, 0⟩,
  ⟨(some 15), .m (.load none (.s 14)), none, 0⟩,
  ⟨(some 7), .p (.mov (.s 15)), none, 0⟩]) c68_7)) c68_8)
def c68_10 : ACode := (.seq (.cond (.s 13) .skip (.exit 0)) c68_9)
def c68_11 : ACode := (.seq (.ops [
  ⟨(some 13), .p (.bin .lss (.s 12) (.s 11)), none, 0⟩]) c68_10)
def c68_12 : ACode := (.block 0 (.loop c68_11))
def c68_13 : ACode := (.seq (.ops [
  ⟨(some 33), .p (.mov (.s 5)), none, 0⟩,
  ⟨(some 4), .p (.mov (.s 33)), none, 0⟩]) .ret)
def c68_14 : ACode := (.seq (.seq (.ops [
  ⟨(some 10), .p (.mov (.s 1)), none, 0⟩,
  ⟨(some 11), .p (.len false (.s 10)), none, 3⟩,
  ⟨(some 12), .p (.mov (.c (.v (.int .i64 0)))), none, 0⟩]) c68_12) c68_13)
def c68_15 : ACode := (.seq .skip c68_14)
def c68_16 : ACode := (.seq (.ops [
  ⟨(some 5), .p (.mov (.c (.v (.bool false)))), none, 0⟩]) c68_15)
def c68 : ACode := (.seq (.ops [
  ⟨(some 2), .m (.box (.s 0)), none, 0⟩,
  ⟨(some 4), .p (.mov (.c (.v (.bool false)))), none, 0⟩]) c68_16)
theorem t68 : trC Tryd.prog Tryd.f68.ntmps (bodyOf Tryd.f68) = some c68 := by kernel_rfl
theorem r68 : Tryd.f68.results.toList.mapM (trR Tryd.prog) = some [.tmp 4] := by kernel_rfl
def i68 : FI := ⟨34, c68, [.tmp 4]⟩
theorem k68 : Knows Tryd.prog 68 i68 := ⟨Tryd.f68, bodyOf Tryd.f68, Tryd.func68, by kernel_rfl, by kernel_rfl, t68, r68, by kernel_rfl⟩
-- 80 (drover/nfa.marks).each []
def c80_0 : ACode := (.cond (.s 12) (.ops [
  ⟨(some 13), .p (.mov (.s 1)), none, 0⟩,
  ⟨(some 14), .p (.mov (.s 4)), none, 0⟩,
  ⟨(some 15), .call (.s 13) [(.s 14)], none, 0⟩]) .skip)
def c80_1 : ACode := (.seq (.ops [
  ⟨(some 8), .p (.mov (.s 0)), none, 0⟩,
  ⟨(some 9), .p (.mov (.s 4)), none, 0⟩,
  ⟨(some 10), .p (.bin .shr (.s 8) (.s 9)), none, 0⟩,
  ⟨(some 11), .p (.bin .and (.s 10) (.c (.v (.int .u64 1)))), none, 0⟩,
  ⟨(some 12), .p (.bin .eql (.s 11) (.c (.v (.int .u64 1)))), none, 0⟩]) c80_0)
def c80_2 : ACode := (.ops [
  ⟨(some 16), .p (.bin .add (.s 5) (.c (.v (.int .i64 1)))), none, 0⟩,
  ⟨(some 5), .p (.mov (.s 16)), none, 0⟩])
def c80_3 : ACode := (.seq (.block 1 (.seq (.ops [
  ⟨(some 7), .p (.mov (.s 5)), none, 0⟩,
  ⟨(some 4), .p (.mov (.s 7)), none, 0⟩]) c80_1)) c80_2)
def c80_4 : ACode := (.seq (.cond (.s 6) .skip (.exit 0)) c80_3)
def c80_5 : ACode := (.seq (.ops [
  ⟨(some 6), .p (.bin .lss (.s 5) (.c (.v (.int .i64 64)))), none, 0⟩]) c80_4)
def c80_6 : ACode := (.block 0 (.loop c80_5))
def c80 : ACode := (.seq (.ops [
  ⟨(some 5), .p (.mov (.c (.v (.int .i64 0)))), none, 0⟩]) c80_6)
theorem t80 : trC Tryd.prog Tryd.f80.ntmps (bodyOf Tryd.f80) = some c80 := by kernel_rfl
theorem r80 : Tryd.f80.results.toList.mapM (trR Tryd.prog) = some [] := by kernel_rfl
def i80 : FI := ⟨17, c80, []⟩
theorem k80 : Knows Tryd.prog 80 i80 := ⟨Tryd.f80, bodyOf Tryd.f80, Tryd.func80, by kernel_rfl, by kernel_rfl, t80, r80, by kernel_rfl⟩
-- 81 drover/nfa.step$1 []
def c81 : ACode := (.ops [
  ⟨(some 3), .m (.load none (.s 1)), none, 0⟩,
  ⟨(some 4), .p (.mov (.s 0)), none, 0⟩,
  ⟨(some 5), .m (.buildSlice 1 1 [(.v (.int .i64 0))] [(0, 1, (.s 4))]), none, 3⟩,
  ⟨(some 6), .m (.append 1 8 (.s 3) (.s 5)), none, 3⟩,
  ⟨none, .m (.store none (.s 1) (.s 6)), none, 0⟩])
theorem t81 : trC Tryd.prog Tryd.f81.ntmps (bodyOf Tryd.f81) = some c81 := by kernel_rfl
theorem r81 : Tryd.f81.results.toList.mapM (trR Tryd.prog) = some [] := by kernel_rfl
def i81 : FI := ⟨7, c81, []⟩
theorem k81 : Knows Tryd.prog 81 i81 := ⟨Tryd.f81, bodyOf Tryd.f81, Tryd.func81, by kernel_rfl, by kernel_rfl, t81, r81, by kernel_rfl⟩
end Go.Proofs.Dfa
