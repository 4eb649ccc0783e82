/- A part of a law's proof: ActBw. -/
import Derived.Test.YtjkcjbkkgkhljaaActAuto
import Derived.Test.YtjkcjbkkgkhljaaActTy
import Derived.Test.YtjkcjbkkgkhljaaActXTab
import Derived.Test.YtjkcjbkkgkhljaaSvIns
import Derived.Test.YtjkcjbkkgkhljaaSvShelf
set_option linter.unusedSimpArgs false
set_option linter.constructorNameAsVariable false
/-
  The chapter's examples hold (seat of ActMerges and ActSets).
-/
namespace Go.Proofs.Act
open Go Go.Ab Go.RowKit Go.Proofs
set_option linter.unusedVariables false
set_option maxRecDepth 100000
theorem awake_pure : PureCall Try.prog 5 [] (.v (.bool true)) := exTrue_pure autoK noPrim_says (by rfl) (n := 300) (by kernel_rfl)
theorem en5 : ∀ (y : ATup Th []) (Q : SV Th -> Prop), (Cm.ret (SV.b true) : Cm (SV Th)).den Q -> ∃ v, Q v ∧ v.shut = true ∧ PCall Try.prog C 5 (encAs G [] y) (· = v) :=
  fun y Q h => ⟨_, h, rfl, fun H => (awake_pure H).mono fun r H' ⟨h1, h2⟩ => ⟨h2, .b true, h1, rfl, rfl⟩⟩
theorem ki26 : Knows Try.prog 26 ⟨27, growCode (C.sz 29) 24 29 9 ⟨#[99, 97, 110, 110, 111, 116, 32, 98, 101, 32, 110, 101, 103, 97, 116, 105, 118, 101]⟩ [.v (.int .i64 0), .v (.int .i64 0), .v (.int .u64 0)], [.tmp 4]⟩ := k26
theorem eff26 : EffOk Try.prog C 26 (growK 29 24) := growK_ok gok.ok ki26 (by kernel_rfl)
noncomputable def kn0 : KnownF Th := (5, knG G [] fun _ => .ret (.b true)) :: (26, .eff [false, false] (growK 29 24)) :: []
theorem ko0 : KnownOk Try.prog C kn0 := KnownOk.add gok (KnownOk.addE KnownOk.nil eff26) en5
end Go.Proofs.Act
