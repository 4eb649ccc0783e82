/- Proved: whatever it is handed, ActSets returns true, and its arguments read as they did. No conditions. -/
import Derived.Test.YtjkcjbkkgkhljaaAbLaw
import Derived.Test.YtjkcjbkkgkhljaaActDe
import Derived.Test.YtjkcjbkkgkhljaaActSo14
import Derived.Test.YtjkcjbkkgkhljaaRows
set_option linter.unusedVariables false
set_option linter.unusedSimpArgs false
set_option linter.constructorNameAsVariable false
namespace Go.Proofs.Ytjkcjbkkgkhljaa
open Go Go.Ab Go.ChangeShapes Go.WideShapes Go.ChangeAt Go.RowKit Go.Proofs.Act
set_option maxRecDepth 1000000
theorem law_actSets : LawTrue Try.prog 12 4 Try.f4 := by
  intro l h
  have hp : Try.f4.params.toList = [22, 22, 22] := by kernel_rfl
  rw [hp] at h
  obtain ⟨x0, r0, rfl, h0, x1, r1, rfl, h1, x2, r2, rfl, h2, rfl⟩ := h
  obtain ⟨v0, rfl, w0⟩ := deV1 (f := avs_22) (W := wf_22) (by kernel_rfl) (fun l h => de_22 (d := 9) l h) h0
  obtain ⟨v1, rfl, w1⟩ := deV1 (f := avs_22) (W := wf_22) (by kernel_rfl) (fun l h => de_22 (d := 9) l h) h1
  obtain ⟨v2, rfl, w2⟩ := deV1 (f := avs_22) (W := wf_22) (by kernel_rfl) (fun l h => de_22 (d := 9) l h) h2
  have q := Q4 (v0, v1, v2, ()) true (law4 v0 v1 v2 w0 w1 w2) []
  have e : (encAs G [.l 29, .l 29, .l 29] (v0, v1, v2, ())).map (SV.av Act.C) = [wrapA none (avs_22 v0), wrapA none (avs_22 v1), wrapA none (avs_22 v2)] := by kernel_rfl
  rw [e] at q
  exact q.mono fun r H ⟨_, v, k1, _, k2⟩ => by rw [k1, k2]; rfl
theorem actSets_lifted (os : Os) (started : os.Started) (H : Type) (enc : TypeId × Value -> H) :
    ReturnsInHanded {} Try.checked os 4 .any (Rows.actSetsSpec.pre6 enc Try.prog Try.f4 Rows.actSetsRow.domain false) (Rows.actSetsSpec.post enc Try.prog Try.f4 false true false false) :=
  lawLifted (C := Try.checked) (d := 12) (by kernel_rfl) started (by kernel_rfl) Try.func4
    (ChangeSpec.witness6 (enc := enc) (C := Try.checked) false ⟨#[], #[.slice none 0 0, .slice none 0 0, .slice none 0 0], []⟩ 12 (by kernel_rfl) (by kernel_rfl) (by kernel_rfl) (by kernel_rfl))
    (by kernel_rfl) (by kernel_rfl) rfl (tb := 4) (by kernel_rfl) (by kernel_rfl)
    (fun ds h => by
      have h : ds.length = 3 := h
      match ds, h with
      | [_, _, _], _ => rfl)
    law_actSets
theorem actSets_f1 : Try.pinned.checked.prog.funcNamed Rows.actSetsRow.func = some 4 := by kernel_rfl
theorem actSets_f2 : joinedFacts Try.pinned.checked.prog 4 Try.f4 Rows.actSetsSpec Rows.actSetsRow = true := by kernel_rfl
theorem actSets_holds : Rows.ActSetsSaid :=
  OpenClaim.holds_of_wide 4 Try.f4 rfl rfl rfl rfl rfl rfl rfl ⟨rfl, rfl, rfl, rfl, rfl⟩ rfl rfl rfl rfl rfl actSets_f1 Try.func4 actSets_f2
    (of_decide_eq_true (by kernel_rfl)) (by unfold Func.isWrapper; rw [if_neg (by decide +kernel)]; exact ⟨rfl, rfl⟩)
    (fun os started H enc _ => actSets_lifted os started H enc)
end Go.Proofs.Ytjkcjbkkgkhljaa
#print axioms Go.Proofs.Ytjkcjbkkgkhljaa.actSets_holds
