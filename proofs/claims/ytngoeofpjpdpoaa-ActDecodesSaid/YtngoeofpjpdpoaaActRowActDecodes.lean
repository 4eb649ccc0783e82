/- Proved: whatever it is handed, ActDecodes returns true, and its arguments read as they did. No conditions. -/
import Derived.Test.YtngoeofpjpdpoaaAbLaw
import Derived.Test.YtngoeofpjpdpoaaActDe
import Derived.Test.YtngoeofpjpdpoaaActPl7
import Derived.Test.YtngoeofpjpdpoaaRows
set_option linter.unusedVariables false
set_option linter.unusedSimpArgs false
set_option linter.constructorNameAsVariable false
namespace Go.Proofs.Ytngoeofpjpdpoaa
open Go Go.Ab Go.ChangeShapes Go.WideShapes Go.ChangeAt Go.RowKit Go.Proofs.Act
set_option maxRecDepth 1000000

theorem law_actDecodes : LawTrue Try.prog 12 8 Try.f8 := by
  intro l h
  have hp : Try.f8.params.toList = [9] := by kernel_rfl
  rw [hp] at h
  obtain ⟨x0, r0, rfl, h0, rfl⟩ := h
  obtain ⟨v0, rfl, w0⟩ := deV1 (f := avs_9) (W := wf_9) (by kernel_rfl) (fun l h => de_9 (d := 11) l h) h0
  have q := Q8 (v0, ()) true (law8 v0 w0) []
  have e : (encAs G [.s] (v0, ())).map (SV.av Act.C) = [wrapA none (avs_9 v0)] := by kernel_rfl
  rw [e] at q
  exact q.mono fun r H ⟨_, v, k1, _, k2⟩ => by rw [k1, k2]; rfl

theorem actDecodes_lifted (os : Os) (started : os.Started) (H : Type) (enc : TypeId × Value → H) :
    ReturnsInHanded {} Try.checked os 8 .any (Rows.actDecodesSpec.pre6 enc Try.prog Try.f8 Rows.actDecodesRow.domain false) (Rows.actDecodesSpec.post enc Try.prog Try.f8 false true false false) :=
  lawLifted (C := Try.checked) (d := 12) (by kernel_rfl) started (by kernel_rfl) Try.func8
    (ChangeSpec.witness6 (enc := enc) (C := Try.checked) false ⟨#[], #[.string ⟨#[]⟩], []⟩ 12 (by kernel_rfl) (by kernel_rfl) (by kernel_rfl) (by kernel_rfl))
    (by kernel_rfl) (by kernel_rfl) rfl (tb := 4) (by kernel_rfl) (by kernel_rfl)
    (fun ds h => by
      have h : ds.length = 1 := h
      match ds, h with
      | [_], _ => rfl)
    law_actDecodes

theorem actDecodes_f1 : Try.pinned.checked.prog.funcNamed Rows.actDecodesRow.func = some 8 := by kernel_rfl
theorem actDecodes_f2 : joinedFacts Try.pinned.checked.prog 8 Try.f8 Rows.actDecodesSpec Rows.actDecodesRow = true := by kernel_rfl

theorem actDecodes_holds : Rows.ActDecodesSaid :=
  OpenClaim.holds_of_wide 8 Try.f8 rfl rfl rfl rfl rfl rfl rfl ⟨rfl, rfl, rfl, rfl, rfl⟩ rfl rfl rfl rfl rfl actDecodes_f1 Try.func8 actDecodes_f2
    (of_decide_eq_true (by kernel_rfl)) (by unfold Func.isWrapper; rw [if_neg (by decide +kernel)]; exact ⟨rfl, rfl⟩)
    (fun os started H enc _ => actDecodes_lifted os started H enc)

end Go.Proofs.Ytngoeofpjpdpoaa
#print axioms Go.Proofs.Ytngoeofpjpdpoaa.actDecodes_holds
