/- A part of a law's proof: DfaAuto. -/
import Derived.KernelRfl
import Derived.Test.YthhbggmlfilpdaaDoorAbRun
import Derived.Test.YthhbggmlfilpdaaDoorProg
set_option linter.unusedVariables false
set_option linter.unusedSimpArgs false
set_option linter.constructorNameAsVariable false
/-
  Functions whose abstract code is computed.
-/
namespace Go.Proofs.Dfa
open Go Go.Ab Go.RowKit Go.Proofs
set_option maxRecDepth 100000
noncomputable def autoL : List (Nat × Func) := [(3, Tryd.f3), (4, Tryd.f4), (5, Tryd.f5), (6, Tryd.f6), (7, Tryd.f7), (8, Tryd.f8), (9, Tryd.f9), (10, Tryd.f10), (11, Tryd.f11), (12, Tryd.f12), (13, Tryd.f13), (14, Tryd.f14), (15, Tryd.f15), (16, Tryd.f16), (17, Tryd.f17), (18, Tryd.f18), (19, Tryd.f19), (20, Tryd.f20), (21, Tryd.f21), (22, Tryd.f22), (23, Tryd.f23), (24, Tryd.f24), (25, Tryd.f25), (26, Tryd.f26), (27, Tryd.f27), (28, Tryd.f28), (29, Tryd.f29), (30, Tryd.f30), (31, Tryd.f31), (32, Tryd.f32), (33, Tryd.f33), (34, Tryd.f34), (35, Tryd.f35), (36, Tryd.f36), (37, Tryd.f37), (38, Tryd.f38), (39, Tryd.f39), (40, Tryd.f40), (41, Tryd.f41), (42, Tryd.f42), (43, Tryd.f43), (44, Tryd.f44), (45, Tryd.f45), (46, Tryd.f46), (47, Tryd.f47), (48, Tryd.f48), (49, Tryd.f49), (50, Tryd.f50), (51, Tryd.f51), (52, Tryd.f52), (53, Tryd.f53), (54, Tryd.f54), (55, Tryd.f55), (56, Tryd.f56), (57, Tryd.f57), (58, Tryd.f58), (59, Tryd.f59), (60, Tryd.f60), (61, Tryd.f61), (62, Tryd.f62), (63, Tryd.f63), (64, Tryd.f64), (65, Tryd.f65), (66, Tryd.f66), (67, Tryd.f67), (68, Tryd.f68), (69, Tryd.f69), (70, Tryd.f70), (71, Tryd.f71), (72, Tryd.f72), (73, Tryd.f73), (74, Tryd.f74), (75, Tryd.f75), (76, Tryd.f76), (77, Tryd.f77), (78, Tryd.f78), (79, Tryd.f79), (80, Tryd.f80), (81, Tryd.f81), (82, Tryd.f82), (83, Tryd.f83), (84, Tryd.f84), (85, Tryd.f85), (86, Tryd.f86), (87, Tryd.f87), (88, Tryd.f88), (89, Tryd.f89), (90, Tryd.f90), (91, Tryd.f91), (92, Tryd.f92), (93, Tryd.f93), (94, Tryd.f94), (95, Tryd.f95), (96, Tryd.f96), (97, Tryd.f97), (98, Tryd.f98), (99, Tryd.f99), (100, Tryd.f100)]
theorem autoL_in : ∀ p ∈ autoL, Tryd.prog.funcs[p.1]? = some p.2 := by
  unfold autoL
  simp only [List.forall_mem_cons, List.not_mem_nil, false_implies, implies_true, and_true]
  exact ⟨Tryd.func3, Tryd.func4, Tryd.func5, Tryd.func6, Tryd.func7, Tryd.func8, Tryd.func9, Tryd.func10, Tryd.func11, Tryd.func12, Tryd.func13, Tryd.func14, Tryd.func15, Tryd.func16, Tryd.func17, Tryd.func18, Tryd.func19, Tryd.func20, Tryd.func21, Tryd.func22, Tryd.func23, Tryd.func24, Tryd.func25, Tryd.func26, Tryd.func27, Tryd.func28, Tryd.func29, Tryd.func30, Tryd.func31, Tryd.func32, Tryd.func33, Tryd.func34, Tryd.func35, Tryd.func36, Tryd.func37, Tryd.func38, Tryd.func39, Tryd.func40, Tryd.func41, Tryd.func42, Tryd.func43, Tryd.func44, Tryd.func45, Tryd.func46, Tryd.func47, Tryd.func48, Tryd.func49, Tryd.func50, Tryd.func51, Tryd.func52, Tryd.func53, Tryd.func54, Tryd.func55, Tryd.func56, Tryd.func57, Tryd.func58, Tryd.func59, Tryd.func60, Tryd.func61, Tryd.func62, Tryd.func63, Tryd.func64, Tryd.func65, Tryd.func66, Tryd.func67, Tryd.func68, Tryd.func69, Tryd.func70, Tryd.func71, Tryd.func72, Tryd.func73, Tryd.func74, Tryd.func75, Tryd.func76, Tryd.func77, Tryd.func78, Tryd.func79, Tryd.func80, Tryd.func81, Tryd.func82, Tryd.func83, Tryd.func84, Tryd.func85, Tryd.func86, Tryd.func87, Tryd.func88, Tryd.func89, Tryd.func90, Tryd.func91, Tryd.func92, Tryd.func93, Tryd.func94, Tryd.func95, Tryd.func96, Tryd.func97, Tryd.func98, Tryd.func99, Tryd.func100⟩
theorem autoK : ∀ p ∈ autoT Tryd.prog autoL, Knows Tryd.prog p.1 p.2 := autoT_knows autoL_in (by kernel_rfl)
end Go.Proofs.Dfa
