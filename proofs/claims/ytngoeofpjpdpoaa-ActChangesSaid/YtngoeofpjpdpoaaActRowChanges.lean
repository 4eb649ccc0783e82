/- Proved: whatever packet and action it is handed, droverlaw06.ActChanges returns true, and its arguments read as they did. No conditions. -/
import Derived.Test.YtngoeofpjpdpoaaRows
import Derived.Test.YtngoeofpjpdpoaaActLawChanges
import Derived.Test.YtngoeofpjpdpoaaAbLaw
set_option linter.unusedVariables false
set_option linter.unusedSimpArgs false
set_option linter.constructorNameAsVariable false
namespace Go.Proofs.Ytngoeofpjpdpoaa
open Go Go.Ab Go.ChangeShapes Go.WideShapes Go.ChangeAt Go.RowKit Go.Proofs.Act
set_option maxRecDepth 1000000

theorem law_changes : LawTrue Try.prog 9 6 Try.f6 := by
  intro l h
  have hp : Try.f6.params.toList = [41, 31] := by kernel_rfl
  rw [hp] at h
  obtain ⟨x, r, rfl, hx, y, r', rfl, hy, rfl⟩ := h
  obtain ⟨s, rfl, hs⟩ := deV (f := avs_41) (W := wf_41) (by kernel_rfl) (fun l h => de_41 (d := 6) l h) hx
  obtain ⟨a, rfl, ha⟩ := deV (f := avs_31) (W := wf_31) (by kernel_rfl) (fun l h => de_31 (d := 7) l h) hy
  obtain ⟨h1, h2⟩ := changes s a ha
  have q := Q6 (s, a, ()) h2 []
  have e : (encAs G [.t 41, .t 31] (s, a, ())).map (SV.av Act.C) = [.agg (avs_41 s), .agg (avs_31 a)] := by kernel_rfl
  rw [e] at q
  exact q.mono fun r H ⟨_, v, k1, _, k2⟩ => by rw [k1, k2, h1]; rfl

theorem changes_lifted (os : Os) (started : os.Started) (H : Type) (enc : TypeId × Value → H) :
    ReturnsInHanded {} Try.checked os 6 .any (Rows.actChangesSpec.pre6 enc Try.prog Try.f6 Rows.actChangesRow.domain false) (Rows.actChangesSpec.post enc Try.prog Try.f6 false true false false) :=
  lawLifted (C := Try.checked) (d := 9) (by kernel_rfl) started (by kernel_rfl) Try.func6
    (ChangeSpec.witness6 (enc := enc) (C := Try.checked) false ⟨#[], #[.agg #[.int .i64 0, .int .u64 0, .int .u64 0, .int .u64 0, .int .i64 0, .int .i64 0, .int .u32 0, .int .u32 0, .int .i64 0, .int .i64 0, .int .i64 0, .int .i64 0, .string ⟨#[]⟩], .agg #[.int .i64 0, .int .i64 0, .int .u64 0]], []⟩ 8 (by kernel_rfl) (by kernel_rfl) (by kernel_rfl) (by kernel_rfl))
    (by kernel_rfl) (by kernel_rfl) rfl (tb := 4) (by kernel_rfl) (by kernel_rfl)
    (fun ds h => by
      have h : ds.length = 2 := h
      match ds, h with
      | [_, _], _ => rfl)
    law_changes

theorem changes_holds : Rows.ActChangesSaid :=
  OpenClaim.holds_of_wide 6 Try.f6 rfl rfl rfl rfl rfl rfl rfl ⟨rfl, rfl, rfl, rfl, rfl⟩ rfl rfl rfl rfl rfl (by kernel_rfl) Try.func6 (by kernel_rfl)
    (of_decide_eq_true (by kernel_rfl)) (by unfold Func.isWrapper; rw [if_neg (by decide +kernel)]; exact ⟨rfl, rfl⟩)
    (fun os started H enc _ => changes_lifted os started H enc)

end Go.Proofs.Ytngoeofpjpdpoaa
#print axioms Go.Proofs.Ytngoeofpjpdpoaa.changes_holds
