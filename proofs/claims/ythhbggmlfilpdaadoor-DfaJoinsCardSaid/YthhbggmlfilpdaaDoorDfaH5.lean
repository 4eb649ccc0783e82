/- A part of a law's proof: DfaH5. -/
import Derived.KernelRfl
import Derived.Test.YthhbggmlfilpdaaDoorDfaH2
import Derived.Test.YthhbggmlfilpdaaDoorDfaTy
import Derived.Test.YthhbggmlfilpdaaDoorDfaXTab
import Derived.Test.YthhbggmlfilpdaaDoorSvLoop
set_option linter.constructorNameAsVariable false
namespace Go.Proofs.Dfa
open Go Go.Ab Go.Proofs
set_option linter.unusedVariables false
set_option linter.unusedSimpArgs false
set_option maxHeartbeats 4000000
set_option maxRecDepth 100000
-- 8 drover/droverlaw19.DfaJoins
noncomputable def u8 (a0 : Dfa) (a1 : Dfa) : Cm (Bool) :=
  (.get (f33 a0 a1) fun (y0 : Dfa × Int) => (.get (f34 a0 a1 Bool.false) fun (y1 : Dfa × Int) => (.ite (!decide (y0.snd = y1.snd)) (.ret (Bool.false))
  (.get (f14 y0.fst y1.fst) fun (y2 : Bool) => (.ite (!y2) (.ret (Bool.false))
  (.get (f35 a0 a1) fun (y3 : Dfa × Int) => (.get (f34 a0 a1 Bool.true) fun (y4 : Dfa × Int) => (.ite (decide (y3.snd = y4.snd)) (.get (f14 y3.fst y4.fst) fun (y5 : Bool) => (.ite (y5) (.get (f31 a0 a1) fun (y6 : Bool) => (.get (f36 a0 a1) fun (y7 : Bool) => (.ite (y6 == y7) (.ret (Bool.true))
  (.ret (Bool.false)))))
  (.ret (Bool.false))))
  (.ret (Bool.false))))))))))
noncomputable def f8 (a0 : Dfa) (a1 : Dfa) : Option (Bool) := (u8 (a0) (a1)).opt
theorem E8 (y : ATup Th [.t 36, .t 36]) : startC C tab kn_DfaH2 i8 [] .b 5000 (encAs G [.t 36, .t 36] y) = (u8 (y.1) (y.2.1)).map (fun r => .inr ((fun (r : Bool) => (((.b (r))) : SV Th)) r)) := by kernel_rfl
theorem Q8 (y : ATup Th [.t 36, .t 36]) (r : Bool) (h : f8 (y.1) (y.2.1) = some r) : PCall Tryd.prog C 8 (encAs G [.t 36, .t 36] y) (· = (fun (r : Bool) => (((.b (r))) : SV Th)) r) := one_sound gok.ok ko_DfaH2 tabKnows k8 (by kernel_rfl) (by kernel_rfl) (E8 y) (Cm.den_opt h rfl)
noncomputable def knDfaH5_8 : KnownF Th := (8, knS G [.t 36, .t 36] fun y => .get (f8 (y.1) (y.2.1)) fun r => .ret ((fun (r : Bool) => (((.b (r))) : SV Th)) r)) :: kn_DfaH2
theorem koDfaH5_8 : KnownOk Tryd.prog C knDfaH5_8 := KnownOk.addS gok ko_DfaH2 (scal_opt (enc := fun (r : Bool) => (((.b (r))) : SV Th)) (fun _ => rfl)) (known_opt (enc := fun (r : Bool) => (((.b (r))) : SV Th)) Q8 (fun _ => rfl))
noncomputable def kn_DfaH5 : KnownF Th := knDfaH5_8
theorem ko_DfaH5 : KnownOk Tryd.prog C kn_DfaH5 := koDfaH5_8
end Go.Proofs.Dfa
