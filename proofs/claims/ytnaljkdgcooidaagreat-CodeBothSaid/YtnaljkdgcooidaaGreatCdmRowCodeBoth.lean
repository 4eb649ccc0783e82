/- Proved: whatever it is handed, CodeBoth returns true, and its arguments read as they did. No conditions. -/
import Derived.Test.YtnaljkdgcooidaaGreatAbLaw
import Derived.Test.YtnaljkdgcooidaaGreatCdmDe
import Derived.Test.YtnaljkdgcooidaaGreatCdmPl3
import Derived.Test.YtnaljkdgcooidaaGreatRows
set_option linter.unusedVariables false
set_option linter.unusedSimpArgs false
set_option linter.constructorNameAsVariable false
namespace Go.Proofs.YtnaljkdgcooidaaGreat
open Go Go.Ab Go.ChangeShapes Go.WideShapes Go.ChangeAt Go.RowKit Go.Proofs.Cdm
set_option maxRecDepth 1000000

theorem law_codeBoth : LawTrue Tryz.prog 12 4 Tryz.f4 := by
  intro l h
  have hp : Tryz.f4.params.toList = [22, 22, 30] := by kernel_rfl
  rw [hp] at h
  obtain ⟨x0, r0, rfl, h0, x1, r1, rfl, h1, x2, r2, rfl, h2, rfl⟩ := h
  obtain ⟨v0, rfl, w0⟩ := deV1 (f := avs_22) (W := wf_22) (by kernel_rfl) (fun l h => de_22 (d := 9) l h) h0
  obtain ⟨v1, rfl, w1⟩ := deV1 (f := avs_22) (W := wf_22) (by kernel_rfl) (fun l h => de_22 (d := 9) l h) h1
  obtain ⟨v2, rfl, w2⟩ := deV1 (f := avs_30) (W := wf_30) (by kernel_rfl) (fun l h => de_30 (d := 10) l h) h2
  have q := Q4 (v0, v1, v2, ()) true (law4 v0 v1 v2 w0 w1 w2) []
  have e : (encAs G [.l 35, .l 35, .l 33] (v0, v1, v2, ())).map (SV.av Cdm.C) = [wrapA none (avs_22 v0), wrapA none (avs_22 v1), wrapA none (avs_30 v2)] := by kernel_rfl
  rw [e] at q
  exact q.mono fun r H ⟨_, v, k1, _, k2⟩ => by rw [k1, k2]; rfl

theorem codeBoth_lifted (os : Os) (started : os.Started) (H : Type) (enc : TypeId × Value → H) :
    ReturnsInHanded {} Tryz.checked os 4 .any (Rows.codeBothSpec.pre6 enc Tryz.prog Tryz.f4 Rows.codeBothRow.domain false) (Rows.codeBothSpec.post enc Tryz.prog Tryz.f4 false true false false) :=
  lawLifted (C := Tryz.checked) (d := 12) (by kernel_rfl) started (by kernel_rfl) Tryz.func4
    (ChangeSpec.witness6 (enc := enc) (C := Tryz.checked) false ⟨#[], #[.slice none 0 0, .slice none 0 0, .slice none 0 0], []⟩ 12 (by kernel_rfl) (by kernel_rfl) (by kernel_rfl) (by kernel_rfl))
    (by kernel_rfl) (by kernel_rfl) rfl (tb := 4) (by kernel_rfl) (by kernel_rfl)
    (fun ds h => by
      have h : ds.length = 3 := h
      match ds, h with
      | [_, _, _], _ => rfl)
    law_codeBoth

theorem codeBoth_f1 : Tryz.pinned.checked.prog.funcNamed Rows.codeBothRow.func = some 4 := by kernel_rfl
theorem codeBoth_f2 : joinedFacts Tryz.pinned.checked.prog 4 Tryz.f4 Rows.codeBothSpec Rows.codeBothRow = true := by kernel_rfl

theorem codeBoth_holds : Rows.CodeBothSaid :=
  OpenClaim.holds_of_wide 4 Tryz.f4 rfl rfl rfl rfl rfl rfl rfl ⟨rfl, rfl, rfl, rfl, rfl⟩ rfl rfl rfl rfl rfl codeBoth_f1 Tryz.func4 codeBoth_f2
    (of_decide_eq_true (by kernel_rfl)) (by unfold Func.isWrapper; rw [if_neg (by decide +kernel)]; exact ⟨rfl, rfl⟩)
    (fun os started H enc _ => codeBoth_lifted os started H enc)

end Go.Proofs.YtnaljkdgcooidaaGreat
#print axioms Go.Proofs.YtnaljkdgcooidaaGreat.codeBoth_holds
