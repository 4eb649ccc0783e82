/- A part of the proof of ActChanges: ActAw. -/
import Derived.Test.YtngoeofpjpdpoaaActF4
set_option linter.unusedVariables false
set_option linter.unusedSimpArgs false
set_option linter.constructorNameAsVariable false
/-
  The chapter's examples hold.
-/
namespace Go.Proofs.Act
open Go Go.Ab Go.Proofs
set_option maxRecDepth 100000

theorem awake_pure : PureCall Try.prog 11 [] (.v (.bool true)) := exTrue_pure tabKnows noPrim_says (by rfl) (n := 200) (by kernel_rfl)

theorem en11 : ∀ (y : ATup Th []) (Q : SV Th → Prop), (Cm.ret (SV.b true) : Cm (SV Th)).den Q → ∃ v, Q v ∧ v.shut = true ∧ PCall Try.prog C 11 (encAs G [] y) (· = v) :=
  fun y Q h => ⟨_, h, rfl, fun H => (awake_pure H).mono fun r H' ⟨h1, h2⟩ => ⟨h2, .b true, h1, rfl, rfl⟩⟩

def knAw : KnownF Th := (11, knG G [] fun _ => .ret (.b true)) :: kn_ActF4
theorem koAw : KnownOk Try.prog C knAw := KnownOk.add gok ko_ActF4 en11

end Go.Proofs.Act
