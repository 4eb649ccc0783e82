/- A part of a law's proof: DnlAw. -/
import Derived.Test.YtcikjedghklcoaaGreatDnlAuto
import Derived.Test.YtcikjedghklcoaaGreatDnlSrt
import Derived.Test.YtcikjedghklcoaaGreatDnlTy
import Derived.Test.YtcikjedghklcoaaGreatDnlXTab
import Derived.Test.YtcikjedghklcoaaGreatSvShelf
set_option linter.unusedSimpArgs false
set_option linter.constructorNameAsVariable false
/-
  The chapter's example holds.
-/
namespace Go.Proofs.Dnl
open Go Go.Ab Go.RowKit Go.Proofs
set_option linter.unusedVariables false
set_option maxRecDepth 100000
theorem awake_pure : PureCall Tryz.prog 9 [] (.v (.bool true)) := exTrue_pure autoK prim_says (by rfl) (n := 300) (by kernel_rfl)
theorem en9 : ∀ (y : ATup Th []) (Q : SV Th -> Prop), (Cm.ret (SV.b true) : Cm (SV Th)).den Q -> ∃ v, Q v ∧ v.shut = true ∧ PCall Tryz.prog C 9 (encAs G [] y) (· = v) :=
  fun y Q h => ⟨_, h, rfl, fun H => (awake_pure H).mono fun r H' ⟨h1, h2⟩ => ⟨h2, .b true, h1, rfl, rfl⟩⟩
noncomputable def kn0 : KnownF Th := (9, knG G [] fun _ => .ret (.b true)) :: []
theorem ko0 : KnownOk Tryz.prog C kn0 := KnownOk.add gok KnownOk.nil en9
end Go.Proofs.Dnl
