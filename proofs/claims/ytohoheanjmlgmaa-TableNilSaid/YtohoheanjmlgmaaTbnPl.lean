/- A part of a law's proof: TbnPl. -/
import Derived.Test.YtohoheanjmlgmaaTbnG1
set_option linter.unusedVariables false
set_option linter.unusedSimpArgs false
set_option linter.constructorNameAsVariable false
/-
  Nil tables have nothing.
-/
namespace Go.Proofs.Tbn
open Go Go.Ab

theorem law3 {p q : Prop} (x : Entry) (s : field_Seen) (hx : p) (hs : q) : f3 x s = some true := by
  unfold f3 u3
  rfl

end Go.Proofs.Tbn
