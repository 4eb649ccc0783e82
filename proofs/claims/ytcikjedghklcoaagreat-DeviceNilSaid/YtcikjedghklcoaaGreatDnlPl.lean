/- A part of a law's proof: DnlPl. -/
import Derived.Test.YtcikjedghklcoaaGreatDnlDe
import Derived.Test.YtcikjedghklcoaaGreatDnlG1
set_option linter.unusedVariables false
set_option linter.unusedSimpArgs false
set_option linter.constructorNameAsVariable false
/-
  A nil switch does nothing.
-/
namespace Go.Proofs.Dnl
open Go Go.Ab
theorem law3 {p q : Prop} (d : List UInt8) (n : Int) (hd : p) (hn : q) : f3 d n = true := by
  unfold f3 u3
  rfl
end Go.Proofs.Dnl
