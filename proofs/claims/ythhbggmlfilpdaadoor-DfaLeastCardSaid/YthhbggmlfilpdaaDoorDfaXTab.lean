/- A part of a law's proof: DfaXTab. -/
import Derived.Test.YthhbggmlfilpdaaDoorDfaX0
import Derived.Test.YthhbggmlfilpdaaDoorDfaX1
set_option linter.unusedVariables false
set_option linter.unusedSimpArgs false
set_option linter.constructorNameAsVariable false
namespace Go.Proofs.Dfa
open Go Go.Ab Go.Proofs
def tab : List (Nat × FI) := [(7, i7), (14, i14), (18, i18), (19, i19), (20, i20), (25, i25), (27, i27), (28, i28), (29, i29), (30, i30), (31, i31), (32, i32), (36, i36), (53, i53), (54, i54), (55, i55), (56, i56), (57, i57), (69, i69)]
theorem tabKnows : ∀ p ∈ tab, Knows Tryd.prog p.1 p.2 := by
  unfold tab
  simp only [List.forall_mem_cons, List.not_mem_nil, false_implies, implies_true, and_true]
  exact ⟨k7, k14, k18, k19, k20, k25, k27, k28, k29, k30, k31, k32, k36, k53, k54, k55, k56, k57, k69⟩
end Go.Proofs.Dfa
