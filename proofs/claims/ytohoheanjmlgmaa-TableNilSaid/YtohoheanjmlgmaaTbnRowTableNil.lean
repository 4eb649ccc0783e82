/- Proved: whatever it is handed, TableNil returns true, and its arguments read as they did. No conditions. -/
import Derived.Test.YtohoheanjmlgmaaAbLaw
import Derived.Test.YtohoheanjmlgmaaRows
import Derived.Test.YtohoheanjmlgmaaTbnDe
import Derived.Test.YtohoheanjmlgmaaTbnPl
set_option linter.unusedVariables false
set_option linter.unusedSimpArgs false
set_option linter.constructorNameAsVariable false
namespace Go.Proofs.Ytohoheanjmlgmaa
open Go Go.Ab Go.ChangeShapes Go.WideShapes Go.ChangeAt Go.RowKit Go.Proofs.Tbn
set_option maxRecDepth 1000000

theorem law_tableNil : LawTrue Try.prog 12 3 Try.f3 := by
  intro l h
  have hp : Try.f3.params.toList = [26, 31] := by kernel_rfl
  rw [hp] at h
  obtain ⟨x0, r0, rfl, h0, x1, r1, rfl, h1, rfl⟩ := h
  obtain ⟨v0, rfl, w0⟩ := deV (f := avs_26) (W := wf_26) (by kernel_rfl) (fun l h => de_26 (d := 8) l h) h0
  obtain ⟨v1, rfl, w1⟩ := deV (f := avs_31) (W := wf_31) (by kernel_rfl) (fun l h => de_31 (d := 9) l h) h1
  have q := Q3 (v0, v1, ()) true (law3 v0 v1 w0 w1) []
  have e : (encAs G [.t 26, .t 31] (v0, v1, ())).map (SV.av Tbn.C) = [.agg (avs_26 v0), .agg (avs_31 v1)] := by kernel_rfl
  rw [e] at q
  exact q.mono fun r H ⟨_, v, k1, _, k2⟩ => by rw [k1, k2]; rfl

theorem tableNil_lifted (os : Os) (started : os.Started) (H : Type) (enc : TypeId × Value → H) :
    ReturnsInHanded {} Try.checked os 3 .any (Rows.tableNilSpec.pre6 enc Try.prog Try.f3 Rows.tableNilRow.domain false) (Rows.tableNilSpec.post enc Try.prog Try.f3 false true false false) :=
  lawLifted (C := Try.checked) (d := 12) (by kernel_rfl) started (by kernel_rfl) Try.func3
    (ChangeSpec.witness6 (enc := enc) (C := Try.checked) false ⟨#[], #[.agg #[.int .i64 0, .int .i64 0, .slice none 0 0, .slice none 0 0, .slice none 0 0, .bool false, .int .u64 0, .int .u64 0, .int .i64 0, .int .i64 0], .agg #[.int .i64 0, .int .u64 0, .int .u64 0, .int .u64 0, .int .i64 0, .int .i64 0, .int .u32 0, .int .u32 0, .int .i64 0, .int .i64 0, .int .i64 0, .int .i64 0, .string ⟨#[]⟩]], []⟩ 12 (by kernel_rfl) (by kernel_rfl) (by kernel_rfl) (by kernel_rfl))
    (by kernel_rfl) (by kernel_rfl) rfl (tb := 4) (by kernel_rfl) (by kernel_rfl)
    (fun ds h => by
      have h : ds.length = 2 := h
      match ds, h with
      | [_, _], _ => rfl)
    law_tableNil

theorem tableNil_f1 : Try.pinned.checked.prog.funcNamed Rows.tableNilRow.func = some 3 := by kernel_rfl
theorem tableNil_f2 : joinedFacts Try.pinned.checked.prog 3 Try.f3 Rows.tableNilSpec Rows.tableNilRow = true := by kernel_rfl

theorem tableNil_holds : Rows.TableNilSaid :=
  OpenClaim.holds_of_wide 3 Try.f3 rfl rfl rfl rfl rfl rfl rfl ⟨rfl, rfl, rfl, rfl, rfl⟩ rfl rfl rfl rfl rfl tableNil_f1 Try.func3 tableNil_f2
    (of_decide_eq_true (by kernel_rfl)) (by unfold Func.isWrapper; rw [if_neg (by decide +kernel)]; exact ⟨rfl, rfl⟩)
    (fun os started H enc _ => tableNil_lifted os started H enc)

end Go.Proofs.Ytohoheanjmlgmaa
#print axioms Go.Proofs.Ytohoheanjmlgmaa.tableNil_holds
