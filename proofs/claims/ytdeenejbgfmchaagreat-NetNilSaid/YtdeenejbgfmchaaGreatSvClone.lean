/- A part of a law's proof: SvClone. -/
import Derived.Test.YtdeenejbgfmchaaGreatAbClone
import Derived.Test.YtdeenejbgfmchaaGreatSvPlain
set_option linter.unusedSimpArgs false
set_option linter.constructorNameAsVariable false
/-
  slices.Clone as a function.
-/
namespace Go.Ab
open Go Go.RowKit
set_option linter.unusedVariables false
variable {Θ : Nat -> Type} {C : Cod Θ} {P : Program}
def codeL : Code -> Code
  | .seq a _ => a
  | _ => .skip
def codeR : Code -> Code
  | .seq _ b => b
  | _ => .skip
end Go.Ab
