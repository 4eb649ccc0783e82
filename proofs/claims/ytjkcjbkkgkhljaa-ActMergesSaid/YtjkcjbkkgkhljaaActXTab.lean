/- A part of a law's proof: ActXTab. -/
import Derived.Test.YtjkcjbkkgkhljaaActX0
import Derived.Test.YtjkcjbkkgkhljaaActX1
set_option linter.unusedVariables false
set_option linter.unusedSimpArgs false
set_option linter.constructorNameAsVariable false
namespace Go.Proofs.Act
open Go Go.Ab Go.Proofs
def tab : List (Nat × FI) := [(3, i3), (4, i4), (5, i5), (6, i6), (7, i7), (8, i8), (9, i9), (10, i10), (11, i11), (12, i12), (13, i13), (14, i14), (15, i15), (16, i16), (17, i17), (18, i18), (19, i19), (20, i20), (21, i21), (22, i22), (24, i24), (26, i26), (27, i27), (28, i28), (29, i29), (30, i30), (31, i31), (32, i32), (34, i34), (36, i36), (37, i37), (38, i38), (40, i40), (41, i41), (45, i45), (46, i46), (47, i47), (50, i50)]
theorem tabKnows : ∀ p ∈ tab, Knows Try.prog p.1 p.2 := by
  unfold tab
  simp only [List.forall_mem_cons, List.not_mem_nil, false_implies, implies_true, and_true]
  exact ⟨k3, k4, k5, k6, k7, k8, k9, k10, k11, k12, k13, k14, k15, k16, k17, k18, k19, k20, k21, k22, k24, k26, k27, k28, k29, k30, k31, k32, k34, k36, k37, k38, k40, k41, k45, k46, k47, k50⟩
end Go.Proofs.Act
