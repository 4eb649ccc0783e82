/- A part of a law's proof: DfaXTab. -/
import Derived.Test.YthhbggmlfilpdaaDoorDfaX0
set_option linter.unusedVariables false
set_option linter.unusedSimpArgs false
set_option linter.constructorNameAsVariable false
namespace Go.Proofs.Dfa
open Go Go.Ab Go.Proofs
def tab : List (Nat × FI) := [(4, i4), (12, i12), (13, i13), (14, i14), (18, i18), (41, i41), (42, i42), (43, i43), (44, i44), (45, i45), (46, i46), (47, i47), (48, i48), (49, i49), (50, i50), (51, i51), (52, i52), (67, i67), (68, i68), (80, i80), (81, i81)]
theorem tabKnows : ∀ p ∈ tab, Knows Tryd.prog p.1 p.2 := by
  unfold tab
  simp only [List.forall_mem_cons, List.not_mem_nil, false_implies, implies_true, and_true]
  exact ⟨k4, k12, k13, k14, k18, k41, k42, k43, k44, k45, k46, k47, k48, k49, k50, k51, k52, k67, k68, k80, k81⟩
end Go.Proofs.Dfa
