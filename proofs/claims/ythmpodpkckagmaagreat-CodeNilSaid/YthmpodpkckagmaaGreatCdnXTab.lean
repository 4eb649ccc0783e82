/- A part of the proof of CodeNil: CdnXTab. -/
import Derived.Test.YthmpodpkckagmaaGreatCdnX0
set_option linter.unusedVariables false
set_option linter.unusedSimpArgs false
set_option linter.constructorNameAsVariable false
namespace Go.Proofs.Cdn
open Go Go.Ab Go.Proofs
def tab : List (Nat × FI) := [(3, i3), (5, i5), (9, i9), (10, i10), (4, i4), (19, i19), (20, i20), (21, i21), (22, i22), (23, i23), (41, i41), (6, i6), (7, i7), (40, i40), (12, i12), (13, i13), (14, i14), (28, i28)]
theorem tabKnows : ∀ p ∈ tab, Knows Tryz.prog p.1 p.2 := by
  unfold tab
  simp only [List.forall_mem_cons, List.not_mem_nil, false_implies, implies_true, and_true]
  exact ⟨k3, k5, k9, k10, k4, k19, k20, k21, k22, k23, k41, k6, k7, k40, k12, k13, k14, k28⟩
end Go.Proofs.Cdn
