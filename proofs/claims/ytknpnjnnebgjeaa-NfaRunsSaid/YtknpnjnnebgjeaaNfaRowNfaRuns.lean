/- Proved: whatever it is handed, NfaRuns returns true, and its arguments read as they did. No conditions. -/
import Derived.Test.YtknpnjnnebgjeaaAbLaw
import Derived.Test.YtknpnjnnebgjeaaNfaDe
import Derived.Test.YtknpnjnnebgjeaaNfaPl3
import Derived.Test.YtknpnjnnebgjeaaRows
set_option linter.unusedVariables false
set_option linter.unusedSimpArgs false
set_option linter.constructorNameAsVariable false
namespace Go.Proofs.Ytknpnjnnebgjeaa
open Go Go.Ab Go.ChangeShapes Go.WideShapes Go.ChangeAt Go.RowKit Go.Proofs.Nfa
set_option maxRecDepth 1000000

theorem law_nfaRuns : LawTrue Try.prog 12 4 Try.f4 := by
  intro l h
  have hp : Try.f4.params.toList = [24, 25] := by kernel_rfl
  rw [hp] at h
  obtain ⟨x0, r0, rfl, h0, x1, r1, rfl, h1, rfl⟩ := h
  obtain ⟨v0, rfl, w0⟩ := deV (f := avs_24) (W := wf_24) (by kernel_rfl) (fun l h => de_24 (d := 7) l h) h0
  obtain ⟨v1, rfl, w1⟩ := deV1 (f := avs_25) (W := wf_25) (by kernel_rfl) (fun l h => de_25 (d := 10) l h) h1
  have q := Q4 (v0, v1, ()) true (law4 v0 v1 w0 w1) []
  have e : (encAs G [.t 24, .l 3] (v0, v1, ())).map (SV.av Nfa.C) = [.agg (avs_24 v0), wrapA none (avs_25 v1)] := by kernel_rfl
  rw [e] at q
  exact q.mono fun r H ⟨_, v, k1, _, k2⟩ => by rw [k1, k2]; rfl

theorem nfaRuns_lifted (os : Os) (started : os.Started) (H : Type) (enc : TypeId × Value → H) :
    ReturnsInHanded {} Try.checked os 4 .any (Rows.nfaRunsSpec.pre6 enc Try.prog Try.f4 Rows.nfaRunsRow.domain false) (Rows.nfaRunsSpec.post enc Try.prog Try.f4 false true false false) :=
  lawLifted (C := Try.checked) (d := 12) (by kernel_rfl) started (by kernel_rfl) Try.func4
    (ChangeSpec.witness6 (enc := enc) (C := Try.checked) false ⟨#[], #[.agg #[.slice none 0 0], .slice none 0 0], []⟩ 12 (by kernel_rfl) (by kernel_rfl) (by kernel_rfl) (by kernel_rfl))
    (by kernel_rfl) (by kernel_rfl) rfl (tb := 4) (by kernel_rfl) (by kernel_rfl)
    (fun ds h => by
      have h : ds.length = 2 := h
      match ds, h with
      | [_, _], _ => rfl)
    law_nfaRuns

theorem nfaRuns_f1 : Try.pinned.checked.prog.funcNamed Rows.nfaRunsRow.func = some 4 := by kernel_rfl
theorem nfaRuns_f2 : joinedFacts Try.pinned.checked.prog 4 Try.f4 Rows.nfaRunsSpec Rows.nfaRunsRow = true := by kernel_rfl

theorem nfaRuns_holds : Rows.NfaRunsSaid :=
  OpenClaim.holds_of_wide 4 Try.f4 rfl rfl rfl rfl rfl rfl rfl ⟨rfl, rfl, rfl, rfl, rfl⟩ rfl rfl rfl rfl rfl nfaRuns_f1 Try.func4 nfaRuns_f2
    (of_decide_eq_true (by kernel_rfl)) (by unfold Func.isWrapper; rw [if_neg (by decide +kernel)]; exact ⟨rfl, rfl⟩)
    (fun os started H enc _ => nfaRuns_lifted os started H enc)

end Go.Proofs.Ytknpnjnnebgjeaa
#print axioms Go.Proofs.Ytknpnjnnebgjeaa.nfaRuns_holds
