/- A part of a law's proof: NnlAw. -/
import Derived.Test.YtdeenejbgfmchaaGreatNnlAwP
import Derived.Test.YtdeenejbgfmchaaGreatNnlTy
import Derived.Test.YtdeenejbgfmchaaGreatNnlXTab
import Derived.Test.YtdeenejbgfmchaaGreatSvShelf
set_option linter.unusedSimpArgs false
set_option linter.constructorNameAsVariable false
/-
  The chapter's example holds.
-/
namespace Go.Proofs.Nnl
open Go Go.Ab Go.RowKit Go.Proofs
set_option linter.unusedVariables false
set_option maxRecDepth 100000
theorem en12 : ∀ (y : ATup Th []) (Q : SV Th -> Prop), (Cm.ret (SV.b true) : Cm (SV Th)).den Q -> ∃ v, Q v ∧ v.shut = true ∧ PCall Tryz.prog C 12 (encAs G [] y) (· = v) :=
  fun y Q h => ⟨_, h, rfl, fun H => (awake_pure H).mono fun r H' ⟨h1, h2⟩ => ⟨h2, .b true, h1, rfl, rfl⟩⟩
noncomputable def kn0 : KnownF Th := (12, knG G [] fun _ => .ret (.b true)) :: []
theorem ko0 : KnownOk Tryz.prog C kn0 := KnownOk.add gok KnownOk.nil en12
end Go.Proofs.Nnl
