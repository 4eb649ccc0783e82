/- A part of a law's proof: TbnAw. -/
import Derived.Test.YtohoheanjmlgmaaAbIns
import Derived.Test.YtohoheanjmlgmaaSvShelf
import Derived.Test.YtohoheanjmlgmaaTbnAuto
import Derived.Test.YtohoheanjmlgmaaTbnTy
import Derived.Test.YtohoheanjmlgmaaTbnXTab
set_option linter.unusedSimpArgs false
set_option linter.constructorNameAsVariable false
/-
  The chapter's example holds; an insertion within a row is known.
-/
namespace Go.Proofs.Tbn
open Go Go.Ab Go.RowKit Go.Proofs
set_option linter.unusedVariables false
set_option maxRecDepth 100000

def zE : List AV := [(.v (.int .i64 0)), (.v (.int .i64 0)), (.v (.slice none 0 0)), (.v (.slice none 0 0)), (.v (.slice none 0 0)), (.v (.bool false)), (.v (.int .u64 0)), (.v (.int .u64 0)), (.v (.int .i64 0)), (.v (.int .i64 0))]

theorem ki21 : Knows Try.prog 21 ⟨95, insCode 10 128 26 35 zE, [.tmp 6]⟩ := ⟨Try.f21, Try.f21.body.getD .skip, Try.func21, by kernel_rfl, by kernel_rfl, by kernel_rfl, by kernel_rfl, by kernel_rfl⟩

theorem prim_says : Says Try.prog (insPrim 21 10 128) := insPrim_says ki21 rfl rfl rfl rfl

theorem awake_pure : PureCall Try.prog 9 [] (.v (.bool true)) := exTrue_pure autoK prim_says (by rfl) (n := 200) (by kernel_rfl)

theorem en9 : ∀ (y : ATup Th []) (Q : SV Th → Prop), (Cm.ret (SV.b true) : Cm (SV Th)).den Q → ∃ v, Q v ∧ v.shut = true ∧ PCall Try.prog C 9 (encAs G [] y) (· = v) :=
  fun y Q h => ⟨_, h, rfl, fun H => (awake_pure H).mono fun r H' ⟨h1, h2⟩ => ⟨h2, .b true, h1, rfl, rfl⟩⟩

noncomputable def kn0 : KnownF Th := (9, knG G [] fun _ => .ret (.b true)) :: []
theorem ko0 : KnownOk Try.prog C kn0 := KnownOk.add gok KnownOk.nil en9

end Go.Proofs.Tbn
