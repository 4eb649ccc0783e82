/- Proved: whatever it is handed, CodeMeets returns true, and its arguments read as they did. No conditions. -/
import Derived.Test.YtnaljkdgcooidaaGreatAbLaw
import Derived.Test.YtnaljkdgcooidaaGreatCdmDe
import Derived.Test.YtnaljkdgcooidaaGreatCdmPl2
import Derived.Test.YtnaljkdgcooidaaGreatRows
set_option linter.unusedVariables false
set_option linter.unusedSimpArgs false
set_option linter.constructorNameAsVariable false
namespace Go.Proofs.YtnaljkdgcooidaaGreat
open Go Go.Ab Go.ChangeShapes Go.WideShapes Go.ChangeAt Go.RowKit Go.Proofs.Cdm
set_option maxRecDepth 1000000

theorem law_codeMeets : LawTrue Tryz.prog 12 3 Tryz.f3 := by
  intro l h
  have hp : Tryz.f3.params.toList = [22, 22] := by kernel_rfl
  rw [hp] at h
  obtain ⟨x0, r0, rfl, h0, x1, r1, rfl, h1, rfl⟩ := h
  obtain ⟨v0, rfl, w0⟩ := deV1 (f := avs_22) (W := wf_22) (by kernel_rfl) (fun l h => de_22 (d := 9) l h) h0
  obtain ⟨v1, rfl, w1⟩ := deV1 (f := avs_22) (W := wf_22) (by kernel_rfl) (fun l h => de_22 (d := 9) l h) h1
  have q := Q3 (v0, v1, ()) true (law3 v0 v1 w0 w1) []
  have e : (encAs G [.l 35, .l 35] (v0, v1, ())).map (SV.av Cdm.C) = [wrapA none (avs_22 v0), wrapA none (avs_22 v1)] := by kernel_rfl
  rw [e] at q
  exact q.mono fun r H ⟨_, v, k1, _, k2⟩ => by rw [k1, k2]; rfl

theorem codeMeets_lifted (os : Os) (started : os.Started) (H : Type) (enc : TypeId × Value → H) :
    ReturnsInHanded {} Tryz.checked os 3 .any (Rows.codeMeetsSpec.pre6 enc Tryz.prog Tryz.f3 Rows.codeMeetsRow.domain false) (Rows.codeMeetsSpec.post enc Tryz.prog Tryz.f3 false true false false) :=
  lawLifted (C := Tryz.checked) (d := 12) (by kernel_rfl) started (by kernel_rfl) Tryz.func3
    (ChangeSpec.witness6 (enc := enc) (C := Tryz.checked) false ⟨#[], #[.slice none 0 0, .slice none 0 0], []⟩ 12 (by kernel_rfl) (by kernel_rfl) (by kernel_rfl) (by kernel_rfl))
    (by kernel_rfl) (by kernel_rfl) rfl (tb := 4) (by kernel_rfl) (by kernel_rfl)
    (fun ds h => by
      have h : ds.length = 2 := h
      match ds, h with
      | [_, _], _ => rfl)
    law_codeMeets

theorem codeMeets_f1 : Tryz.pinned.checked.prog.funcNamed Rows.codeMeetsRow.func = some 3 := by kernel_rfl
theorem codeMeets_f2 : joinedFacts Tryz.pinned.checked.prog 3 Tryz.f3 Rows.codeMeetsSpec Rows.codeMeetsRow = true := by kernel_rfl

theorem codeMeets_holds : Rows.CodeMeetsSaid :=
  OpenClaim.holds_of_wide 3 Tryz.f3 rfl rfl rfl rfl rfl rfl rfl ⟨rfl, rfl, rfl, rfl, rfl⟩ rfl rfl rfl rfl rfl codeMeets_f1 Tryz.func3 codeMeets_f2
    (of_decide_eq_true (by kernel_rfl)) (by unfold Func.isWrapper; rw [if_neg (by decide +kernel)]; exact ⟨rfl, rfl⟩)
    (fun os started H enc _ => codeMeets_lifted os started H enc)

end Go.Proofs.YtnaljkdgcooidaaGreat
#print axioms Go.Proofs.YtnaljkdgcooidaaGreat.codeMeets_holds
