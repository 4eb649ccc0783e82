/- A part of a law's proof: TbnG1. -/
import Derived.KernelRfl
import Derived.Test.YtohoheanjmlgmaaSvLoop
import Derived.Test.YtohoheanjmlgmaaTbnAw
import Derived.Test.YtohoheanjmlgmaaTbnTy
import Derived.Test.YtohoheanjmlgmaaTbnXTab
set_option linter.constructorNameAsVariable false
namespace Go.Proofs.Tbn
open Go Go.Ab Go.Proofs
set_option linter.unusedVariables false
set_option linter.unusedSimpArgs false
set_option maxHeartbeats 4000000
set_option maxRecDepth 100000
-- 3 drover/droverlaw11.TableNil
noncomputable def u3 (a0 : Entry) (a1 : field_Seen) : Cm (Bool) :=
  (.ite (!decide ((2 : Int) = (0 : Int))) (.ite (decide ((2 : Int) = (2 : Int))) (.ite (!decide ((2 : Int) = (0 : Int))) (.ite (decide ((2 : Int) = (2 : Int))) (.ite (!decide ((2 : Int) = (0 : Int))) (.ite (decide ((2 : Int) = (2 : Int))) (.ite (decide ((0 : Int) = (0 : Int))) (.ret (Bool.true))
  (.ret (Bool.false)))
  (.ret (Bool.false)))
  .no)
  (.ret (Bool.false)))
  .no)
  (.ret (Bool.false)))
  .no)
noncomputable def f3 (a0 : Entry) (a1 : field_Seen) : Option (Bool) := (u3 (a0) (a1)).opt
theorem E3 (y : ATup Th [.t 26, .t 31]) : startC C tab kn0 i3 [] .b 5000 (encAs G [.t 26, .t 31] y) = (u3 (y.1) (y.2.1)).map (fun r => .inr ((fun (r : Bool) => (((.b (r))) : SV Th)) r)) := by kernel_rfl
theorem Q3 (y : ATup Th [.t 26, .t 31]) (r : Bool) (h : f3 (y.1) (y.2.1) = some r) : PCall Try.prog C 3 (encAs G [.t 26, .t 31] y) (· = (fun (r : Bool) => (((.b (r))) : SV Th)) r) := one_sound gok.ok ko0 tabKnows k3 (by kernel_rfl) (by kernel_rfl) (E3 y) (Cm.den_opt h rfl)
noncomputable def knTbnG1_3 : KnownF Th := (3, knG G [.t 26, .t 31] fun y => .get (f3 (y.1) (y.2.1)) fun r => .ret ((fun (r : Bool) => (((.b (r))) : SV Th)) r)) :: kn0
theorem koTbnG1_3 : KnownOk Try.prog C knTbnG1_3 := KnownOk.add gok ko0 (known_opt (enc := fun (r : Bool) => (((.b (r))) : SV Th)) Q3 (fun _ => rfl))
noncomputable def kn_TbnG1 : KnownF Th := knTbnG1_3
theorem ko_TbnG1 : KnownOk Try.prog C kn_TbnG1 := koTbnG1_3
end Go.Proofs.Tbn
