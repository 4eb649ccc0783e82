/- Proved: whatever it is handed, ActMerges returns true, and its arguments read as they did. No conditions. -/
import Derived.Test.YtjkcjbkkgkhljaaAbLaw
import Derived.Test.YtjkcjbkkgkhljaaActDe
import Derived.Test.YtjkcjbkkgkhljaaActSo16
import Derived.Test.YtjkcjbkkgkhljaaRows
set_option linter.unusedVariables false
set_option linter.unusedSimpArgs false
set_option linter.constructorNameAsVariable false
namespace Go.Proofs.Ytjkcjbkkgkhljaa
open Go Go.Ab Go.ChangeShapes Go.WideShapes Go.ChangeAt Go.RowKit Go.Proofs.Act
set_option maxRecDepth 1000000
theorem law_actMerges : LawTrue Try.prog 12 3 Try.f3 := by
  intro l h
  have hp : Try.f3.params.toList = [22, 22] := by kernel_rfl
  rw [hp] at h
  obtain ⟨x0, r0, rfl, h0, x1, r1, rfl, h1, rfl⟩ := h
  obtain ⟨v0, rfl, w0⟩ := deV1 (f := avs_22) (W := wf_22) (by kernel_rfl) (fun l h => de_22 (d := 9) l h) h0
  obtain ⟨v1, rfl, w1⟩ := deV1 (f := avs_22) (W := wf_22) (by kernel_rfl) (fun l h => de_22 (d := 9) l h) h1
  have q := Q3 (v0, v1, ()) true (law3 v0 v1 w0 w1) []
  have e : (encAs G [.l 29, .l 29] (v0, v1, ())).map (SV.av Act.C) = [wrapA none (avs_22 v0), wrapA none (avs_22 v1)] := by kernel_rfl
  rw [e] at q
  exact q.mono fun r H ⟨_, v, k1, _, k2⟩ => by rw [k1, k2]; rfl
theorem actMerges_lifted (os : Os) (started : os.Started) (H : Type) (enc : TypeId × Value -> H) :
    ReturnsInHanded {} Try.checked os 3 .any (Rows.actMergesSpec.pre6 enc Try.prog Try.f3 Rows.actMergesRow.domain false) (Rows.actMergesSpec.post enc Try.prog Try.f3 false true false false) :=
  lawLifted (C := Try.checked) (d := 12) (by kernel_rfl) started (by kernel_rfl) Try.func3
    (ChangeSpec.witness6 (enc := enc) (C := Try.checked) false ⟨#[], #[.slice none 0 0, .slice none 0 0], []⟩ 12 (by kernel_rfl) (by kernel_rfl) (by kernel_rfl) (by kernel_rfl))
    (by kernel_rfl) (by kernel_rfl) rfl (tb := 4) (by kernel_rfl) (by kernel_rfl)
    (fun ds h => by
      have h : ds.length = 2 := h
      match ds, h with
      | [_, _], _ => rfl)
    law_actMerges
theorem actMerges_f1 : Try.pinned.checked.prog.funcNamed Rows.actMergesRow.func = some 3 := by kernel_rfl
theorem actMerges_f2 : joinedFacts Try.pinned.checked.prog 3 Try.f3 Rows.actMergesSpec Rows.actMergesRow = true := by kernel_rfl
theorem actMerges_holds : Rows.ActMergesSaid :=
  OpenClaim.holds_of_wide 3 Try.f3 rfl rfl rfl rfl rfl rfl rfl ⟨rfl, rfl, rfl, rfl, rfl⟩ rfl rfl rfl rfl rfl actMerges_f1 Try.func3 actMerges_f2
    (of_decide_eq_true (by kernel_rfl)) (by unfold Func.isWrapper; rw [if_neg (by decide +kernel)]; exact ⟨rfl, rfl⟩)
    (fun os started H enc _ => actMerges_lifted os started H enc)
end Go.Proofs.Ytjkcjbkkgkhljaa
#print axioms Go.Proofs.Ytjkcjbkkgkhljaa.actMerges_holds
