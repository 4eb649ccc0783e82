/- Proved: whatever it is handed, ActEncodes returns true, and its arguments read as they did. No conditions. -/
import Derived.Test.YtngoeofpjpdpoaaRows
import Derived.Test.YtngoeofpjpdpoaaActPl3
import Derived.Test.YtngoeofpjpdpoaaActDe
import Derived.Test.YtngoeofpjpdpoaaAbLaw
set_option linter.unusedVariables false
set_option linter.unusedSimpArgs false
set_option linter.constructorNameAsVariable false
namespace Go.Proofs.Ytngoeofpjpdpoaa
open Go Go.Ab Go.ChangeShapes Go.WideShapes Go.ChangeAt Go.RowKit Go.Proofs.Act
set_option maxRecDepth 1000000

theorem law_actEncodes : LawTrue Try.prog 12 3 Try.f3 := by
  intro l h
  have hp : Try.f3.params.toList = [22] := by kernel_rfl
  rw [hp] at h
  obtain ⟨x0, r0, rfl, h0, rfl⟩ := h
  obtain ⟨v0, rfl, w0⟩ := deV1 (f := avs_22) (W := wf_22) (by kernel_rfl) (fun l h => de_22 (d := 9) l h) h0
  have q := Q3 (v0, ()) true (law3 v0 w0) []
  have e : (encAs G [.l 31] (v0, ())).map (SV.av Act.C) = [wrapA none (avs_22 v0)] := by kernel_rfl
  rw [e] at q
  exact q.mono fun r H ⟨_, v, k1, _, k2⟩ => by rw [k1, k2]; rfl

theorem actEncodes_lifted (os : Os) (started : os.Started) (H : Type) (enc : TypeId × Value → H) :
    ReturnsInHanded {} Try.checked os 3 .any (Rows.actEncodesSpec.pre6 enc Try.prog Try.f3 Rows.actEncodesRow.domain false) (Rows.actEncodesSpec.post enc Try.prog Try.f3 false true false false) :=
  lawLifted (C := Try.checked) (d := 12) (by kernel_rfl) started (by kernel_rfl) Try.func3
    (ChangeSpec.witness6 (enc := enc) (C := Try.checked) false ⟨#[], #[.slice none 0 0], []⟩ 12 (by kernel_rfl) (by kernel_rfl) (by kernel_rfl) (by kernel_rfl))
    (by kernel_rfl) (by kernel_rfl) rfl (tb := 4) (by kernel_rfl) (by kernel_rfl)
    (fun ds h => by
      have h : ds.length = 1 := h
      match ds, h with
      | [_], _ => rfl)
    law_actEncodes

theorem actEncodes_holds : Rows.ActEncodesSaid :=
  OpenClaim.holds_of_wide 3 Try.f3 rfl rfl rfl rfl rfl rfl rfl ⟨rfl, rfl, rfl, rfl, rfl⟩ rfl rfl rfl rfl rfl (by kernel_rfl) Try.func3 (by kernel_rfl)
    (of_decide_eq_true (by kernel_rfl)) (by unfold Func.isWrapper; rw [if_neg (by decide +kernel)]; exact ⟨rfl, rfl⟩)
    (fun os started H enc _ => actEncodes_lifted os started H enc)

end Go.Proofs.Ytngoeofpjpdpoaa
#print axioms Go.Proofs.Ytngoeofpjpdpoaa.actEncodes_holds
