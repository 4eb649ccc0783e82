/- A part of a law's proof: NnlXTab. -/
import Derived.Test.YtdeenejbgfmchaaGreatNnlX0
set_option linter.unusedVariables false
set_option linter.unusedSimpArgs false
set_option linter.constructorNameAsVariable false
namespace Go.Proofs.Nnl
open Go Go.Ab Go.Proofs
def tab : List (Nat × FI) := [(3, i3), (4, i4), (5, i5), (6, i6), (7, i7), (8, i8), (9, i9), (10, i10), (11, i11), (18, i18), (19, i19), (23, i23)]
theorem tabKnows : ∀ p ∈ tab, Knows Tryz.prog p.1 p.2 := by
  unfold tab
  simp only [List.forall_mem_cons, List.not_mem_nil, false_implies, implies_true, and_true]
  exact ⟨k3, k4, k5, k6, k7, k8, k9, k10, k11, k18, k19, k23⟩
end Go.Proofs.Nnl
