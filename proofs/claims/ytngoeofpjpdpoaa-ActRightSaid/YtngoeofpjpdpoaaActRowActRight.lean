/- Proved: whatever it is handed, ActRight returns true, and its arguments read as they did. No conditions. -/
import Derived.Test.YtngoeofpjpdpoaaAbLaw
import Derived.Test.YtngoeofpjpdpoaaActDe
import Derived.Test.YtngoeofpjpdpoaaActPl10
import Derived.Test.YtngoeofpjpdpoaaRows
set_option linter.unusedVariables false
set_option linter.unusedSimpArgs false
set_option linter.constructorNameAsVariable false
namespace Go.Proofs.Ytngoeofpjpdpoaa
open Go Go.Ab Go.ChangeShapes Go.WideShapes Go.ChangeAt Go.RowKit Go.Proofs.Act
set_option maxRecDepth 1000000

theorem law_actRight : LawTrue Try.prog 12 10 Try.f10 := by
  intro l h
  have hp : Try.f10.params.toList = [41, 31] := by kernel_rfl
  rw [hp] at h
  obtain ⟨x0, r0, rfl, h0, x1, r1, rfl, h1, rfl⟩ := h
  obtain ⟨v0, rfl, w0⟩ := deV (f := avs_41) (W := wf_41) (by kernel_rfl) (fun l h => de_41 (d := 9) l h) h0
  obtain ⟨v1, rfl, w1⟩ := deV (f := avs_31) (W := wf_31) (by kernel_rfl) (fun l h => de_31 (d := 10) l h) h1
  have q := Q10 (v0, v1, ()) true (law10 v0 v1 w0 w1) []
  have e : (encAs G [.t 41, .t 31] (v0, v1, ())).map (SV.av Act.C) = [.agg (avs_41 v0), .agg (avs_31 v1)] := by kernel_rfl
  rw [e] at q
  exact q.mono fun r H ⟨_, v, k1, _, k2⟩ => by rw [k1, k2]; rfl

theorem actRight_lifted (os : Os) (started : os.Started) (H : Type) (enc : TypeId × Value → H) :
    ReturnsInHanded {} Try.checked os 10 .any (Rows.actRightSpec.pre6 enc Try.prog Try.f10 Rows.actRightRow.domain false) (Rows.actRightSpec.post enc Try.prog Try.f10 false true false false) :=
  lawLifted (C := Try.checked) (d := 12) (by kernel_rfl) started (by kernel_rfl) Try.func10
    (ChangeSpec.witness6 (enc := enc) (C := Try.checked) false ⟨#[], #[.agg #[.int .i64 0, .int .u64 0, .int .u64 0, .int .u64 0, .int .i64 0, .int .i64 0, .int .u32 0, .int .u32 0, .int .i64 0, .int .i64 0, .int .i64 0, .int .i64 0, .string ⟨#[]⟩], .agg #[.int .i64 0, .int .i64 0, .int .u64 0]], []⟩ 12 (by kernel_rfl) (by kernel_rfl) (by kernel_rfl) (by kernel_rfl))
    (by kernel_rfl) (by kernel_rfl) rfl (tb := 4) (by kernel_rfl) (by kernel_rfl)
    (fun ds h => by
      have h : ds.length = 2 := h
      match ds, h with
      | [_, _], _ => rfl)
    law_actRight

theorem actRight_f1 : Try.pinned.checked.prog.funcNamed Rows.actRightRow.func = some 10 := by kernel_rfl
theorem actRight_f2 : joinedFacts Try.pinned.checked.prog 10 Try.f10 Rows.actRightSpec Rows.actRightRow = true := by kernel_rfl

theorem actRight_holds : Rows.ActRightSaid :=
  OpenClaim.holds_of_wide 10 Try.f10 rfl rfl rfl rfl rfl rfl rfl ⟨rfl, rfl, rfl, rfl, rfl⟩ rfl rfl rfl rfl rfl actRight_f1 Try.func10 actRight_f2
    (of_decide_eq_true (by kernel_rfl)) (by unfold Func.isWrapper; rw [if_neg (by decide +kernel)]; exact ⟨rfl, rfl⟩)
    (fun os started H enc _ => actRight_lifted os started H enc)

end Go.Proofs.Ytngoeofpjpdpoaa
#print axioms Go.Proofs.Ytngoeofpjpdpoaa.actRight_holds
