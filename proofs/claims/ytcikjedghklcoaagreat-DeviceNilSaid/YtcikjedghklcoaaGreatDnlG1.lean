/- A part of a law's proof: DnlG1. -/
import Derived.KernelRfl
import Derived.Test.YtcikjedghklcoaaGreatDnlAw
import Derived.Test.YtcikjedghklcoaaGreatDnlTy
import Derived.Test.YtcikjedghklcoaaGreatDnlXTab
import Derived.Test.YtcikjedghklcoaaGreatSvLoop
set_option linter.constructorNameAsVariable false
namespace Go.Proofs.Dnl
open Go Go.Ab Go.Proofs
set_option linter.unusedVariables false
set_option linter.unusedSimpArgs false
set_option maxHeartbeats 4000000
set_option maxRecDepth 100000
-- 3 drover/droverlaw13.DeviceNil
noncomputable def u3 (a0 : List UInt8) (a1 : Int) : Cm (Bool) :=
  (.ite (decide ((0 : Int) = (0 : Int))) (.ite (decide ((0 : Int) = (0 : Int))) (.ite (decide ((0 : Int) = (0 : Int))) (.ite (@decide (@Eq (List UInt8) (@List.nil UInt8) (@List.nil UInt8)) (@instDecidableEqList UInt8 instDecidableEqUInt8 (@Array.toList UInt8 { data := @List.toArray UInt8 (@List.nil UInt8) : ByteArray }.data) (@Array.toList UInt8 { data := @List.toArray UInt8 (@List.nil UInt8) : ByteArray }.data))) (.ite (@decide (@Eq (List UInt8) (@List.nil UInt8) (@List.nil UInt8)) (@instDecidableEqList UInt8 instDecidableEqUInt8 (@Array.toList UInt8 { data := @List.toArray UInt8 (@List.nil UInt8) : ByteArray }.data) (@Array.toList UInt8 { data := @List.toArray UInt8 (@List.nil UInt8) : ByteArray }.data))) (.ret (Bool.true))
  (.ret (Bool.false)))
  (.ret (Bool.false)))
  (.ret (Bool.false)))
  (.ret (Bool.false)))
  (.ret (Bool.false)))
noncomputable def f3 (a0 : List UInt8) (a1 : Int) : Bool := (u3 (a0) (a1)).tot default
theorem E3 (y : ATup Th [.s, .i .i64]) : startC C tab kn0 i3 [] .b 5000 (encAs G [.s, .i .i64] y) = (u3 (y.1) (y.2.1)).map (fun r => .inr ((fun (r : Bool) => (((.b (r))) : SV Th)) r)) := by kernel_rfl
theorem Q3 (y : ATup Th [.s, .i .i64]) : PCall Tryz.prog C 3 (encAs G [.s, .i .i64] y) (· = (fun (r : Bool) => (((.b (r))) : SV Th)) (f3 (y.1) (y.2.1))) := one_sound gok.ok ko0 tabKnows k3 (by kernel_rfl) (by kernel_rfl) (E3 y) (Cm.den_tot default (by kernel_rfl) rfl)
end Go.Proofs.Dnl
