/- A part of the proof of CodeNil: CdnPl. -/
import Derived.Test.YthmpodpkckagmaaGreatCdnG1
import Derived.Test.YthmpodpkckagmaaGreatCdnDe
import Derived.Test.YthmpodpkckagmaaGreatSvPlain
set_option linter.unusedVariables false
set_option linter.unusedSimpArgs false
set_option linter.constructorNameAsVariable false
/-
  CodeNil, as a plain law.
-/
namespace Go.Proofs.Cdn
open Go Go.Ab Go.RowKit Go.Proofs

theorem law3 {p : Prop} (l : List code_Rule) (w : p) : f3 l = true := rfl

end Go.Proofs.Cdn
