/- A part of a law's proof: SvShelf. -/
import Derived.Lib.Agree
import Derived.Lib.LaidTab
import Derived.Test.YtjkcjbkkgkhljaaSvLoop
set_option linter.constructorNameAsVariable false
/-
  Contracts of the library's, as known calls.
-/
namespace Go.Ab
open Go Go.RowKit
set_option linter.unusedVariables false
set_option linter.unusedSimpArgs false
end Go.Ab
