/- A part of a law's proof: NfaXTab. -/
import Derived.Test.YtknpnjnnebgjeaaNfaX0
set_option linter.unusedVariables false
set_option linter.unusedSimpArgs false
set_option linter.constructorNameAsVariable false
namespace Go.Proofs.Nfa
open Go Go.Ab Go.Proofs
def tab : List (Nat × FI) := [(3, i3), (4, i4), (5, i5), (6, i6), (7, i7), (8, i8), (9, i9), (10, i10), (11, i11), (12, i12), (13, i13), (14, i14), (15, i15), (16, i16), (17, i17), (18, i18), (21, i21), (22, i22), (23, i23)]
theorem tabKnows : ∀ p ∈ tab, Knows Try.prog p.1 p.2 := by
  unfold tab
  simp only [List.forall_mem_cons, List.not_mem_nil, false_implies, implies_true, and_true]
  exact ⟨k3, k4, k5, k6, k7, k8, k9, k10, k11, k12, k13, k14, k15, k16, k17, k18, k21, k22, k23⟩
end Go.Proofs.Nfa
