/- A part of a law's proof: DfaAw. -/
import Derived.Test.YthhbggmlfilpdaaDoorDfaAwP
import Derived.Test.YthhbggmlfilpdaaDoorDfaTy
import Derived.Test.YthhbggmlfilpdaaDoorDfaXTab
import Derived.Test.YthhbggmlfilpdaaDoorSvShelf
set_option linter.unusedSimpArgs false
set_option linter.constructorNameAsVariable false
/-
  The chapter's examples hold.
-/
namespace Go.Proofs.Dfa
open Go Go.Ab Go.RowKit Go.Proofs
set_option linter.unusedVariables false
set_option maxRecDepth 100000
theorem en15 : ∀ (y : ATup Th []) (Q : SV Th -> Prop), (Cm.ret (SV.b true) : Cm (SV Th)).den Q -> ∃ v, Q v ∧ v.shut = true ∧ PCall Tryd.prog C 15 (encAs G [] y) (· = v) :=
  fun y Q h => ⟨_, h, rfl, fun H => (awake_pure H).mono fun r H' ⟨h1, h2⟩ => ⟨h2, .b true, h1, rfl, rfl⟩⟩
noncomputable def kn0 : KnownF Th := (15, knG G [] fun _ => .ret (.b true)) :: []
theorem ko0 : KnownOk Tryd.prog C kn0 := KnownOk.add gok KnownOk.nil en15
end Go.Proofs.Dfa
