/- A part of a law's proof: DfaXTab. -/
import Derived.Test.YthhbggmlfilpdaaDoorDfaX0
import Derived.Test.YthhbggmlfilpdaaDoorDfaX1
set_option linter.unusedVariables false
set_option linter.unusedSimpArgs false
set_option linter.constructorNameAsVariable false
namespace Go.Proofs.Dfa
open Go Go.Ab Go.Proofs
def tab : List (Nat × FI) := [(5, i5), (9, i9), (14, i14), (16, i16), (17, i17), (18, i18), (19, i19), (20, i20), (21, i21), (22, i22), (23, i23), (24, i24), (25, i25), (26, i26), (27, i27), (28, i28), (31, i31), (33, i33), (35, i35), (36, i36), (53, i53), (54, i54), (55, i55), (56, i56), (58, i58), (59, i59), (60, i60), (69, i69), (71, i71), (72, i72)]
theorem tabKnows : ∀ p ∈ tab, Knows Tryd.prog p.1 p.2 := by
  unfold tab
  simp only [List.forall_mem_cons, List.not_mem_nil, false_implies, implies_true, and_true]
  exact ⟨k5, k9, k14, k16, k17, k18, k19, k20, k21, k22, k23, k24, k25, k26, k27, k28, k31, k33, k35, k36, k53, k54, k55, k56, k58, k59, k60, k69, k71, k72⟩
end Go.Proofs.Dfa
