/- A part of a law's proof: NnlDe. -/
import Derived.KernelRfl
import Derived.Test.YtdeenejbgfmchaaGreatNnlTy
import Derived.Test.YtdeenejbgfmchaaGreatProg
import Derived.Test.YtdeenejbgfmchaaGreatSvDe
set_option linter.unusedSimpArgs false
namespace Go.Proofs.Nnl
open Go Go.Ab
set_option linter.unusedVariables false
set_option linter.constructorNameAsVariable false
set_option maxRecDepth 1000000
def wf_9 (x : List UInt8) : Prop := x.length <= reachBytes
theorem de_9 {d : Nat} (l : List AV) (h : tyC Go.Proofs.Tryz.prog reachBytes (d + 1) 9 l) : ∃ x : List UInt8, l = avs_9 x ∧ wf_9 x := deStr (by kernel_rfl) h
def wf_3 (x : Int) : Prop := inK .i64 x
theorem de_3 {d : Nat} (l : List AV) (h : tyC Go.Proofs.Tryz.prog reachBytes (d + 1) 3 l) : ∃ x : Int, l = avs_3 x ∧ wf_3 x := deInt (by kernel_rfl) h
end Go.Proofs.Nnl
