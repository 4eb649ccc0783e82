/- A part of a law's proof: CdmXTab. -/
import Derived.Test.YtnaljkdgcooidaaGreatCdmX0
import Derived.Test.YtnaljkdgcooidaaGreatCdmX1
set_option linter.unusedVariables false
set_option linter.unusedSimpArgs false
set_option linter.constructorNameAsVariable false
namespace Go.Proofs.Cdm
open Go Go.Ab Go.Proofs
def tab : List (Nat × FI) := [(3, i3), (4, i4), (5, i5), (6, i6), (7, i7), (8, i8), (9, i9), (10, i10), (11, i11), (12, i12), (13, i13), (14, i14), (15, i15), (16, i16), (17, i17), (18, i18), (19, i19), (20, i20), (22, i22), (23, i23), (27, i27), (28, i28), (29, i29), (35, i35), (36, i36), (37, i37)]
theorem tabKnows : ∀ p ∈ tab, Knows Tryz.prog p.1 p.2 := by
  unfold tab
  simp only [List.forall_mem_cons, List.not_mem_nil, false_implies, implies_true, and_true]
  exact ⟨k3, k4, k5, k6, k7, k8, k9, k10, k11, k12, k13, k14, k15, k16, k17, k18, k19, k20, k22, k23, k27, k28, k29, k35, k36, k37⟩
end Go.Proofs.Cdm
