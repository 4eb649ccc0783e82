/- A part of a law's proof: CdmAw. -/
import Derived.Test.YtnaljkdgcooidaaGreatCdmTy
import Derived.Test.YtnaljkdgcooidaaGreatCdmXTab
import Derived.Test.YtnaljkdgcooidaaGreatSvIns
import Derived.Test.YtnaljkdgcooidaaGreatSvShelf
set_option linter.unusedSimpArgs false
set_option linter.constructorNameAsVariable false
/-
  The chapter's examples hold; slices.Insert is known.
-/
namespace Go.Proofs.Cdm
open Go Go.Ab Go.RowKit Go.Proofs
set_option linter.unusedVariables false
set_option maxRecDepth 100000

theorem awake_pure : PureCall Tryz.prog 5 [] (.v (.bool true)) := exTrue_pure tabKnows noPrim_says (by rfl) (n := 200) (by kernel_rfl)

theorem en5 : ∀ (y : ATup Th []) (Q : SV Th → Prop), (Cm.ret (SV.b true) : Cm (SV Th)).den Q → ∃ v, Q v ∧ v.shut = true ∧ PCall Tryz.prog C 5 (encAs G [] y) (· = v) :=
  fun y Q h => ⟨_, h, rfl, fun H => (awake_pure H).mono fun r H' ⟨h1, h2⟩ => ⟨h2, .b true, h1, rfl, rfl⟩⟩

theorem ki16 : Knows Tryz.prog 16 ⟨95, insCode (C.sz 35) 24 35 25 [.v (.int .i64 0), .v (.int .u64 0), .v (.int .u64 0)], [.tmp 6]⟩ := k16

theorem eff16 : EffOk Tryz.prog C 16 (insK 35 24) := insK_ok gok.ok ki16 (by kernel_rfl) (by kernel_rfl) (by kernel_rfl) (by kernel_rfl)

theorem ki22 : Knows Tryz.prog 22 ⟨27, growCode (C.sz 35) 24 35 9 ⟨#[99, 97, 110, 110, 111, 116, 32, 98, 101, 32, 110, 101, 103, 97, 116, 105, 118, 101]⟩ [.v (.int .i64 0), .v (.int .u64 0), .v (.int .u64 0)], [.tmp 4]⟩ := k22

theorem eff22 : EffOk Tryz.prog C 22 (growK 35 24) := growK_ok gok.ok ki22 (by kernel_rfl)

noncomputable def kn0 : KnownF Th := (5, knG G [] fun _ => .ret (.b true)) :: (16, .eff [false, false, false] (insK 35 24)) :: (22, .eff [false, false] (growK 35 24)) :: []
theorem ko0 : KnownOk Tryz.prog C kn0 := KnownOk.add gok (KnownOk.addE (KnownOk.addE KnownOk.nil eff22) eff16) en5

end Go.Proofs.Cdm
