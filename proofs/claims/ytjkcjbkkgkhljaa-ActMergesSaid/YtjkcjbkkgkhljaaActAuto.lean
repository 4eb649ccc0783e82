/- A part of a law's proof: ActAuto. -/
import Derived.KernelRfl
import Derived.Test.YtjkcjbkkgkhljaaAbRun
import Derived.Test.YtjkcjbkkgkhljaaProg
set_option linter.unusedVariables false
set_option linter.unusedSimpArgs false
set_option linter.constructorNameAsVariable false
/-
  Functions whose abstract code is computed.
-/
namespace Go.Proofs.Act
open Go Go.Ab Go.RowKit Go.Proofs
set_option maxRecDepth 100000
noncomputable def autoL : List (Nat × Func) := [(3, Try.f3), (4, Try.f4), (5, Try.f5), (6, Try.f6), (7, Try.f7), (8, Try.f8), (9, Try.f9), (10, Try.f10), (11, Try.f11), (12, Try.f12), (13, Try.f13), (14, Try.f14), (15, Try.f15), (16, Try.f16), (17, Try.f17), (18, Try.f18), (19, Try.f19), (20, Try.f20), (21, Try.f21), (22, Try.f22), (23, Try.f23), (24, Try.f24), (25, Try.f25), (26, Try.f26), (27, Try.f27), (28, Try.f28), (29, Try.f29), (30, Try.f30), (31, Try.f31), (32, Try.f32), (33, Try.f33), (34, Try.f34), (35, Try.f35), (36, Try.f36), (37, Try.f37), (38, Try.f38), (40, Try.f40), (41, Try.f41), (42, Try.f42), (43, Try.f43), (44, Try.f44), (45, Try.f45), (46, Try.f46), (47, Try.f47), (48, Try.f48), (49, Try.f49), (50, Try.f50)]
theorem autoL_in : ∀ p ∈ autoL, Try.prog.funcs[p.1]? = some p.2 := by
  unfold autoL
  simp only [List.forall_mem_cons, List.not_mem_nil, false_implies, implies_true, and_true]
  exact ⟨Try.func3, Try.func4, Try.func5, Try.func6, Try.func7, Try.func8, Try.func9, Try.func10, Try.func11, Try.func12, Try.func13, Try.func14, Try.func15, Try.func16, Try.func17, Try.func18, Try.func19, Try.func20, Try.func21, Try.func22, Try.func23, Try.func24, Try.func25, Try.func26, Try.func27, Try.func28, Try.func29, Try.func30, Try.func31, Try.func32, Try.func33, Try.func34, Try.func35, Try.func36, Try.func37, Try.func38, Try.func40, Try.func41, Try.func42, Try.func43, Try.func44, Try.func45, Try.func46, Try.func47, Try.func48, Try.func49, Try.func50⟩
theorem autoK : ∀ p ∈ autoT Try.prog autoL, Knows Try.prog p.1 p.2 := autoT_knows autoL_in (by kernel_rfl)
end Go.Proofs.Act
