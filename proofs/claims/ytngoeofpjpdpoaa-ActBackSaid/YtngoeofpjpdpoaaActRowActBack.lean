/- Proved: whatever it is handed, ActBack returns true, and its arguments read as they did. No conditions. -/
import Derived.Test.YtngoeofpjpdpoaaAbLaw
import Derived.Test.YtngoeofpjpdpoaaActDe
import Derived.Test.YtngoeofpjpdpoaaActPl8
import Derived.Test.YtngoeofpjpdpoaaRows
set_option linter.unusedVariables false
set_option linter.unusedSimpArgs false
set_option linter.constructorNameAsVariable false
namespace Go.Proofs.Ytngoeofpjpdpoaa
open Go Go.Ab Go.ChangeShapes Go.WideShapes Go.ChangeAt Go.RowKit Go.Proofs.Act
set_option maxRecDepth 1000000

theorem law_actBack : LawTrue Try.prog 12 9 Try.f9 := by
  intro l h
  have hp : Try.f9.params.toList = [22, 9] := by kernel_rfl
  rw [hp] at h
  obtain ⟨x0, r0, rfl, h0, x1, r1, rfl, h1, rfl⟩ := h
  obtain ⟨v0, rfl, w0⟩ := deV1 (f := avs_22) (W := wf_22) (by kernel_rfl) (fun l h => de_22 (d := 9) l h) h0
  obtain ⟨v1, rfl, w1⟩ := deV1 (f := avs_9) (W := wf_9) (by kernel_rfl) (fun l h => de_9 (d := 11) l h) h1
  have q := Q9 (v0, v1, ()) true (law9 v0 v1 w0 w1) []
  have e : (encAs G [.l 31, .s] (v0, v1, ())).map (SV.av Act.C) = [wrapA none (avs_22 v0), wrapA none (avs_9 v1)] := by kernel_rfl
  rw [e] at q
  exact q.mono fun r H ⟨_, v, k1, _, k2⟩ => by rw [k1, k2]; rfl

theorem actBack_lifted (os : Os) (started : os.Started) (H : Type) (enc : TypeId × Value → H) :
    ReturnsInHanded {} Try.checked os 9 .any (Rows.actBackSpec.pre6 enc Try.prog Try.f9 Rows.actBackRow.domain false) (Rows.actBackSpec.post enc Try.prog Try.f9 false true false false) :=
  lawLifted (C := Try.checked) (d := 12) (by kernel_rfl) started (by kernel_rfl) Try.func9
    (ChangeSpec.witness6 (enc := enc) (C := Try.checked) false ⟨#[], #[.slice none 0 0, .string ⟨#[]⟩], []⟩ 12 (by kernel_rfl) (by kernel_rfl) (by kernel_rfl) (by kernel_rfl))
    (by kernel_rfl) (by kernel_rfl) rfl (tb := 4) (by kernel_rfl) (by kernel_rfl)
    (fun ds h => by
      have h : ds.length = 2 := h
      match ds, h with
      | [_, _], _ => rfl)
    law_actBack

theorem actBack_f1 : Try.pinned.checked.prog.funcNamed Rows.actBackRow.func = some 9 := by kernel_rfl
theorem actBack_f2 : joinedFacts Try.pinned.checked.prog 9 Try.f9 Rows.actBackSpec Rows.actBackRow = true := by kernel_rfl

theorem actBack_holds : Rows.ActBackSaid :=
  OpenClaim.holds_of_wide 9 Try.f9 rfl rfl rfl rfl rfl rfl rfl ⟨rfl, rfl, rfl, rfl, rfl⟩ rfl rfl rfl rfl rfl actBack_f1 Try.func9 actBack_f2
    (of_decide_eq_true (by kernel_rfl)) (by unfold Func.isWrapper; rw [if_neg (by decide +kernel)]; exact ⟨rfl, rfl⟩)
    (fun os started H enc _ => actBack_lifted os started H enc)

end Go.Proofs.Ytngoeofpjpdpoaa
#print axioms Go.Proofs.Ytngoeofpjpdpoaa.actBack_holds
