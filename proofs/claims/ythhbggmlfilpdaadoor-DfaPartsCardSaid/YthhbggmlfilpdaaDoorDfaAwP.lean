/- A part of a law's proof: DfaAwP. -/
import Derived.KernelRfl
import Derived.Test.YthhbggmlfilpdaaDoorAbFrzP
import Derived.Test.YthhbggmlfilpdaaDoorDfaAuto
set_option linter.unusedSimpArgs false
set_option linter.constructorNameAsVariable false
/-
  The chapter's examples, call by call.
-/
namespace Go.Proofs.Dfa
open Go Go.Ab Go.RowKit Go.Proofs
set_option linter.unusedVariables false
set_option maxRecDepth 100000
def pa0 : List AV := [(.v (.string ⟨#[49, 32, 50]⟩))]
def pr0 : AV := (.tup [(.agg [(.lst 4 [(.agg [(.v (.int .i64 4)), (.v (.int .i64 1)), (.v (.int .i64 0)), (.v (.int .i64 0))]), (.agg [(.v (.int .i64 4)), (.v (.int .i64 2)), (.v (.int .i64 0)), (.v (.int .i64 0))]), (.agg [(.v (.int .i64 6)), (.v (.int .i64 0)), (.v (.int .i64 0)), (.v (.int .i64 1))])])]), (.v (.int .i64 0))])
theorem pp0 : PureCall Tryd.prog 10 pa0 pr0 := exPure (prim := pureP []) autoK (pureP_nil) (by rfl) (by rfl) (n := 300) (by kernel_rfl)
def pa1 : List AV := [(.agg [(.lst 4 [(.agg [(.v (.int .i64 4)), (.v (.int .i64 1)), (.v (.int .i64 0)), (.v (.int .i64 0))]), (.agg [(.v (.int .i64 4)), (.v (.int .i64 2)), (.v (.int .i64 0)), (.v (.int .i64 0))]), (.agg [(.v (.int .i64 6)), (.v (.int .i64 0)), (.v (.int .i64 0)), (.v (.int .i64 1))])])])]
def pr1 : AV := (.tup [(.agg [(.lst 3 [(.agg [(.v (.int .i64 0)), (.v (.bool false)), (.lst 1 [(.v (.int .i64 1))])]), (.agg [(.v (.int .i64 1)), (.v (.bool false)), (.lst 1 [(.v (.int .i64 2))])]), (.agg [(.v (.int .i64 2)), (.v (.bool true)), (.v (.slice none 0 0))])])]), (.v (.int .i64 0))])
theorem pp1 : PureCall Tryd.prog 11 pa1 pr1 := exPure (prim := pureP [(10, pa0, pr0)]) autoK (pureP_cons pp0 pureP_nil) (by rfl) (by rfl) (n := 300) (by kernel_rfl)
def pa2 : List AV := [(.agg [(.lst 3 [(.agg [(.v (.int .i64 0)), (.v (.bool false)), (.lst 1 [(.v (.int .i64 1))])]), (.agg [(.v (.int .i64 1)), (.v (.bool false)), (.lst 1 [(.v (.int .i64 2))])]), (.agg [(.v (.int .i64 2)), (.v (.bool true)), (.v (.slice none 0 0))])])]), (.v (.int .i64 2))]
def pr2 : AV := (.tup [(.agg [(.v (.int .i64 2)), (.lst 1 [(.lst 1 [(.v (.int .i64 1)), (.v (.int .i64 2))]), (.lst 1 [(.v (.int .i64 2)), (.v (.int .i64 3))]), (.lst 1 [(.v (.int .i64 2)), (.v (.int .i64 2))]), (.lst 1 [(.v (.int .i64 2)), (.v (.int .i64 2))])]), (.lst 1 [(.v (.bool false)), (.v (.bool false)), (.v (.bool false)), (.v (.bool true))])]), (.v (.int .i64 0))])
theorem pp2 : PureCall Tryd.prog 13 pa2 pr2 := exPure (prim := pureP [(11, pa1, pr1), (10, pa0, pr0)]) autoK (pureP_cons pp1 (pureP_cons pp0 pureP_nil)) (by rfl) (by rfl) (n := 300) (by kernel_rfl)
def pa3 : List AV := [(.agg [(.v (.int .i64 2)), (.lst 1 [(.lst 1 [(.v (.int .i64 1)), (.v (.int .i64 2))]), (.lst 1 [(.v (.int .i64 2)), (.v (.int .i64 3))]), (.lst 1 [(.v (.int .i64 2)), (.v (.int .i64 2))]), (.lst 1 [(.v (.int .i64 2)), (.v (.int .i64 2))])]), (.lst 1 [(.v (.bool false)), (.v (.bool false)), (.v (.bool false)), (.v (.bool true))])])]
def pr3 : AV := (.tup [(.lst 1 [(.v (.int .i64 1)), (.v (.int .i64 2))]), (.v (.bool true))])
theorem pp3 : PureCall Tryd.prog 16 pa3 pr3 := exPure (prim := pureP [(13, pa2, pr2), (11, pa1, pr1), (10, pa0, pr0)]) autoK (pureP_cons pp2 (pureP_cons pp1 (pureP_cons pp0 pureP_nil))) (by rfl) (by rfl) (n := 300) (by kernel_rfl)
def pa4 : List AV := [(.agg [(.v (.int .i64 2)), (.lst 1 [(.lst 1 [(.v (.int .i64 1)), (.v (.int .i64 2))]), (.lst 1 [(.v (.int .i64 2)), (.v (.int .i64 3))]), (.lst 1 [(.v (.int .i64 2)), (.v (.int .i64 2))]), (.lst 1 [(.v (.int .i64 2)), (.v (.int .i64 2))])]), (.lst 1 [(.v (.bool false)), (.v (.bool false)), (.v (.bool false)), (.v (.bool true))])])]
def pr4 : AV := (.agg [(.v (.int .i64 2)), (.lst 1 [(.lst 1 [(.v (.int .i64 1)), (.v (.int .i64 2))]), (.lst 1 [(.v (.int .i64 2)), (.v (.int .i64 3))]), (.lst 1 [(.v (.int .i64 2)), (.v (.int .i64 2))]), (.lst 1 [(.v (.int .i64 2)), (.v (.int .i64 2))])]), (.lst 1 [(.v (.bool false)), (.v (.bool false)), (.v (.bool false)), (.v (.bool true))])])
theorem pp4 : PureCall Tryd.prog 28 pa4 pr4 := exPure (prim := pureP [(16, pa3, pr3), (13, pa2, pr2), (11, pa1, pr1), (10, pa0, pr0)]) autoK (pureP_cons pp3 (pureP_cons pp2 (pureP_cons pp1 (pureP_cons pp0 pureP_nil)))) (by rfl) (by rfl) (n := 300) (by kernel_rfl)
def pa5 : List AV := [(.agg [(.v (.int .i64 2)), (.lst 1 [(.lst 1 [(.v (.int .i64 1)), (.v (.int .i64 2))]), (.lst 1 [(.v (.int .i64 2)), (.v (.int .i64 3))]), (.lst 1 [(.v (.int .i64 2)), (.v (.int .i64 2))]), (.lst 1 [(.v (.int .i64 2)), (.v (.int .i64 2))])]), (.lst 1 [(.v (.bool false)), (.v (.bool false)), (.v (.bool false)), (.v (.bool true))])]), (.agg [(.v (.int .i64 2)), (.lst 1 [(.lst 1 [(.v (.int .i64 1)), (.v (.int .i64 2))]), (.lst 1 [(.v (.int .i64 2)), (.v (.int .i64 3))]), (.lst 1 [(.v (.int .i64 2)), (.v (.int .i64 2))]), (.lst 1 [(.v (.int .i64 2)), (.v (.int .i64 2))])]), (.lst 1 [(.v (.bool false)), (.v (.bool false)), (.v (.bool false)), (.v (.bool true))])])]
def pr5 : AV := (.v (.bool true))
theorem pp5 : PureCall Tryd.prog 31 pa5 pr5 := exPure (prim := pureP [(28, pa4, pr4), (16, pa3, pr3), (13, pa2, pr2), (11, pa1, pr1), (10, pa0, pr0)]) autoK (pureP_cons pp4 (pureP_cons pp3 (pureP_cons pp2 (pureP_cons pp1 (pureP_cons pp0 pureP_nil))))) (by rfl) (by rfl) (n := 300) (by kernel_rfl)
theorem awake_pure : PureCall Tryd.prog 15 [] (.v (.bool true)) := exTrue_pure (prim := pureP [(31, pa5, pr5), (28, pa4, pr4), (16, pa3, pr3), (13, pa2, pr2), (11, pa1, pr1), (10, pa0, pr0)]) autoK (pureP_cons pp5 (pureP_cons pp4 (pureP_cons pp3 (pureP_cons pp2 (pureP_cons pp1 (pureP_cons pp0 pureP_nil)))))) (by rfl) (n := 300) (by kernel_rfl)
end Go.Proofs.Dfa
