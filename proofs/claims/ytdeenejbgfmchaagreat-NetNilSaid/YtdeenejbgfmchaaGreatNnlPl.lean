/- A part of a law's proof: NnlPl. -/
import Derived.Test.YtdeenejbgfmchaaGreatNnlDe
import Derived.Test.YtdeenejbgfmchaaGreatNnlG1
import Derived.Test.YtdeenejbgfmchaaGreatSvPlain
set_option linter.unusedVariables false
set_option linter.unusedSimpArgs false
set_option linter.constructorNameAsVariable false
/-
  A nil net does nothing.
-/
namespace Go.Proofs.Nnl
open Go Go.Ab
theorem law3 {p q : Prop} (d : List UInt8) (n : Int) (_ : p) (_ : q) : f3 d n = some true := by
  unfold f3
  refine runO_inl (s' := .h0 n) rfl (loopO_inl (s' := .h1 n) rfl (loopO_inr rfl))
end Go.Proofs.Nnl
