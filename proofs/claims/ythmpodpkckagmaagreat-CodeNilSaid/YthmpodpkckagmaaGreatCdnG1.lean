/- A part of the proof of CodeNil: CdnG1. -/
import Derived.Test.YthmpodpkckagmaaGreatCdnXTab
import Derived.Test.YthmpodpkckagmaaGreatCdnTy
import Derived.Test.YthmpodpkckagmaaGreatCdnAw
import Derived.Test.YthmpodpkckagmaaGreatSvLoop
import Derived.KernelRfl
set_option linter.constructorNameAsVariable false
namespace Go.Proofs.Cdn
open Go Go.Ab Go.Proofs
set_option linter.unusedVariables false
set_option linter.unusedSimpArgs false
set_option maxHeartbeats 4000000
set_option maxRecDepth 100000
-- 3 drover/droverlaw23.CodeNil
noncomputable def u3 (a0 : List code_Rule) : Cm (Bool) :=
  (.ite (decide ((0 : Int) = (0 : Int))) (.ite (decide ((2 : Int) = (2 : Int))) (.ret (Bool.true))
  (.ret (Bool.false)))
  (.ret (Bool.false)))
noncomputable def f3 (a0 : List code_Rule) : Bool := (u3 (a0)).tot default
theorem E3 (y : ATup Th [.l 38]) : startC C tab kn0 i3 [] .b 5000 (encAs G [.l 38] y) = (u3 (y.1)).map (fun r => .inr ((fun (r : Bool) => (((.b (r))) : SV Th)) r)) := by kernel_rfl
theorem Q3 (y : ATup Th [.l 38]) : PCall Tryz.prog C 3 (encAs G [.l 38] y) (· = (fun (r : Bool) => (((.b (r))) : SV Th)) (f3 (y.1))) := one_sound gok.ok ko0 tabKnows k3 (by kernel_rfl) (by kernel_rfl) (E3 y) (Cm.den_tot default (by kernel_rfl) rfl)
noncomputable def knCdnG1_3 : KnownF Th := (3, knG G [.l 38] fun y => .ret ((fun (r : Bool) => (((.b (r))) : SV Th)) (f3 (y.1)))) :: kn0
theorem koCdnG1_3 : KnownOk Tryz.prog C knCdnG1_3 := KnownOk.add gok ko0 (known_tot (enc := fun (r : Bool) => (((.b (r))) : SV Th)) Q3 (fun _ => rfl))
noncomputable def kn_CdnG1 : KnownF Th := knCdnG1_3
theorem ko_CdnG1 : KnownOk Tryz.prog C kn_CdnG1 := koCdnG1_3
end Go.Proofs.Cdn
