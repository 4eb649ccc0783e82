/- A part of the proof of CodeNil: CdnAw. -/
import Derived.Test.YthmpodpkckagmaaGreatSvShelf
import Derived.Test.YthmpodpkckagmaaGreatCdnXTab
import Derived.Test.YthmpodpkckagmaaGreatCdnTy
set_option linter.unusedSimpArgs false
set_option linter.constructorNameAsVariable false
/-
  The chapter's examples hold.
-/
namespace Go.Proofs.Cdn
open Go Go.Ab Go.RowKit Go.Proofs
set_option linter.unusedVariables false
set_option maxRecDepth 100000

theorem awake_pure : PureCall Tryz.prog 5 [] (.v (.bool true)) := exTrue_pure tabKnows noPrim_says (by rfl) (n := 200) (by kernel_rfl)

theorem en5 : ∀ (y : ATup Th []) (Q : SV Th → Prop), (Cm.ret (SV.b true) : Cm (SV Th)).den Q → ∃ v, Q v ∧ v.shut = true ∧ PCall Tryz.prog C 5 (encAs G [] y) (· = v) :=
  fun y Q h => ⟨_, h, rfl, fun H => (awake_pure H).mono fun r H' ⟨h1, h2⟩ => ⟨h2, .b true, h1, rfl, rfl⟩⟩

noncomputable def kn0 : KnownF Th := (5, knG G [] fun _ => .ret (.b true)) :: []
theorem ko0 : KnownOk Tryz.prog C kn0 := KnownOk.add gok KnownOk.nil en5

end Go.Proofs.Cdn
