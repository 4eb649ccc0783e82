/- A part of a law's proof: DfaXTab. -/
import Derived.Test.YthhbggmlfilpdaaDoorDfaX0
set_option linter.unusedVariables false
set_option linter.unusedSimpArgs false
set_option linter.constructorNameAsVariable false
namespace Go.Proofs.Dfa
open Go Go.Ab Go.Proofs
def tab : List (Nat × FI) := [(9, i9), (16, i16), (19, i19), (25, i25), (28, i28), (31, i31), (33, i33), (35, i35), (54, i54), (55, i55), (56, i56), (58, i58), (59, i59), (60, i60), (71, i71), (72, i72)]
theorem tabKnows : ∀ p ∈ tab, Knows Tryd.prog p.1 p.2 := by
  unfold tab
  simp only [List.forall_mem_cons, List.not_mem_nil, false_implies, implies_true, and_true]
  exact ⟨k9, k16, k19, k25, k28, k31, k33, k35, k54, k55, k56, k58, k59, k60, k71, k72⟩
end Go.Proofs.Dfa
