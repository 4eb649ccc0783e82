/- A part of a law's proof: DfaXTab. -/
import Derived.Test.YthhbggmlfilpdaaDoorDfaX0
import Derived.Test.YthhbggmlfilpdaaDoorDfaX1
set_option linter.unusedVariables false
set_option linter.unusedSimpArgs false
set_option linter.constructorNameAsVariable false
namespace Go.Proofs.Dfa
open Go Go.Ab Go.Proofs
def tab : List (Nat × FI) := [(8, i8), (14, i14), (18, i18), (19, i19), (20, i20), (27, i27), (28, i28), (31, i31), (33, i33), (34, i34), (35, i35), (36, i36), (44, i44), (53, i53), (54, i54), (55, i55), (56, i56), (58, i58), (59, i59), (60, i60), (69, i69), (71, i71), (72, i72)]
theorem tabKnows : ∀ p ∈ tab, Knows Tryd.prog p.1 p.2 := by
  unfold tab
  simp only [List.forall_mem_cons, List.not_mem_nil, false_implies, implies_true, and_true]
  exact ⟨k8, k14, k18, k19, k20, k27, k28, k31, k33, k34, k35, k36, k44, k53, k54, k55, k56, k58, k59, k60, k69, k71, k72⟩
end Go.Proofs.Dfa
