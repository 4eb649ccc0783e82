/- Proved: whatever it is handed, NfaSteps returns true, and its arguments read as they did. No conditions. -/
import Derived.Test.YtknpnjnnebgjeaaAbLaw
import Derived.Test.YtknpnjnnebgjeaaNfaDe
import Derived.Test.YtknpnjnnebgjeaaNfaPl3
import Derived.Test.YtknpnjnnebgjeaaRows
set_option linter.unusedVariables false
set_option linter.unusedSimpArgs false
set_option linter.constructorNameAsVariable false
namespace Go.Proofs.Ytknpnjnnebgjeaa
open Go Go.Ab Go.ChangeShapes Go.WideShapes Go.ChangeAt Go.RowKit Go.Proofs.Nfa
set_option maxRecDepth 1000000

theorem law_nfaSteps : LawTrue Try.prog 12 3 Try.f3 := by
  intro l h
  have hp : Try.f3.params.toList = [24, 25, 3] := by kernel_rfl
  rw [hp] at h
  obtain ⟨x0, r0, rfl, h0, x1, r1, rfl, h1, x2, r2, rfl, h2, rfl⟩ := h
  obtain ⟨v0, rfl, w0⟩ := deV (f := avs_24) (W := wf_24) (by kernel_rfl) (fun l h => de_24 (d := 7) l h) h0
  obtain ⟨v1, rfl, w1⟩ := deV1 (f := avs_25) (W := wf_25) (by kernel_rfl) (fun l h => de_25 (d := 10) l h) h1
  obtain ⟨v2, rfl, w2⟩ := deV1 (f := avs_3) (W := wf_3) (by kernel_rfl) (fun l h => de_3 (d := 11) l h) h2
  have q := Q3 (v0, v1, v2, ()) true (law3 v0 v1 v2 w0 w1 w2) []
  have e : (encAs G [.t 24, .l 3, .i .i64] (v0, v1, v2, ())).map (SV.av Nfa.C) = [.agg (avs_24 v0), wrapA none (avs_25 v1), wrapA none (avs_3 v2)] := by kernel_rfl
  rw [e] at q
  exact q.mono fun r H ⟨_, v, k1, _, k2⟩ => by rw [k1, k2]; rfl

theorem nfaSteps_lifted (os : Os) (started : os.Started) (H : Type) (enc : TypeId × Value → H) :
    ReturnsInHanded {} Try.checked os 3 .any (Rows.nfaStepsSpec.pre6 enc Try.prog Try.f3 Rows.nfaStepsRow.domain false) (Rows.nfaStepsSpec.post enc Try.prog Try.f3 false true false false) :=
  lawLifted (C := Try.checked) (d := 12) (by kernel_rfl) started (by kernel_rfl) Try.func3
    (ChangeSpec.witness6 (enc := enc) (C := Try.checked) false ⟨#[], #[.agg #[.slice none 0 0], .slice none 0 0, .int .i64 0], []⟩ 12 (by kernel_rfl) (by kernel_rfl) (by kernel_rfl) (by kernel_rfl))
    (by kernel_rfl) (by kernel_rfl) rfl (tb := 4) (by kernel_rfl) (by kernel_rfl)
    (fun ds h => by
      have h : ds.length = 3 := h
      match ds, h with
      | [_, _, _], _ => rfl)
    law_nfaSteps

theorem nfaSteps_f1 : Try.pinned.checked.prog.funcNamed Rows.nfaStepsRow.func = some 3 := by kernel_rfl
theorem nfaSteps_f2 : joinedFacts Try.pinned.checked.prog 3 Try.f3 Rows.nfaStepsSpec Rows.nfaStepsRow = true := by kernel_rfl

theorem nfaSteps_holds : Rows.NfaStepsSaid :=
  OpenClaim.holds_of_wide 3 Try.f3 rfl rfl rfl rfl rfl rfl rfl ⟨rfl, rfl, rfl, rfl, rfl⟩ rfl rfl rfl rfl rfl nfaSteps_f1 Try.func3 nfaSteps_f2
    (of_decide_eq_true (by kernel_rfl)) (by unfold Func.isWrapper; rw [if_neg (by decide +kernel)]; exact ⟨rfl, rfl⟩)
    (fun os started H enc _ => nfaSteps_lifted os started H enc)

end Go.Proofs.Ytknpnjnnebgjeaa
#print axioms Go.Proofs.Ytknpnjnnebgjeaa.nfaSteps_holds
