/- Proved: whatever it is handed, CodeNil returns true, and its arguments read as they did. No conditions. -/
import Derived.Test.YthmpodpkckagmaaGreatRows
import Derived.Test.YthmpodpkckagmaaGreatCdnPl
import Derived.Test.YthmpodpkckagmaaGreatCdnDe
import Derived.Test.YthmpodpkckagmaaGreatAbLaw
set_option linter.unusedVariables false
set_option linter.unusedSimpArgs false
set_option linter.constructorNameAsVariable false
namespace Go.Proofs.YthmpodpkckagmaaGreat
open Go Go.Ab Go.ChangeShapes Go.WideShapes Go.ChangeAt Go.RowKit Go.Proofs.Cdn
set_option maxRecDepth 1000000

theorem law_codeNil : LawTrue Tryz.prog 12 3 Tryz.f3 := by
  intro l h
  have hp : Tryz.f3.params.toList = [22] := by kernel_rfl
  rw [hp] at h
  obtain ⟨x0, r0, rfl, h0, rfl⟩ := h
  obtain ⟨v0, rfl, w0⟩ := deV1 (f := avs_22) (W := wf_22) (by kernel_rfl) (fun l h => de_22 (d := 6) l h) h0
  have q := Q3 (v0, ()) []
  have e : (encAs G [.l 38] (v0, ())).map (SV.av Cdn.C) = [wrapA none (avs_22 v0)] := by kernel_rfl
  rw [e] at q
  exact q.mono fun r H ⟨_, v, k1, _, k2⟩ => by rw [k1, k2, law3 v0 w0]; rfl

theorem codeNil_lifted (os : Os) (started : os.Started) (H : Type) (enc : TypeId × Value → H) :
    ReturnsInHanded {} Tryz.checked os 3 .any (Rows.codeNilSpec.pre6 enc Tryz.prog Tryz.f3 Rows.codeNilRow.domain false) (Rows.codeNilSpec.post enc Tryz.prog Tryz.f3 false true false false) :=
  lawLifted (C := Tryz.checked) (d := 12) (by kernel_rfl) started (by kernel_rfl) Tryz.func3
    (ChangeSpec.witness6 (enc := enc) (C := Tryz.checked) false ⟨#[], #[.slice none 0 0], []⟩ 12 (by kernel_rfl) (by kernel_rfl) (by kernel_rfl) (by kernel_rfl))
    (by kernel_rfl) (by kernel_rfl) rfl (tb := 4) (by kernel_rfl) (by kernel_rfl)
    (fun ds h => by
      have h : ds.length = 1 := h
      match ds, h with
      | [_], _ => rfl)
    law_codeNil

theorem codeNil_f1 : Tryz.pinned.checked.prog.funcNamed Rows.codeNilRow.func = some 3 := by kernel_rfl
theorem codeNil_f2 : joinedFacts Tryz.pinned.checked.prog 3 Tryz.f3 Rows.codeNilSpec Rows.codeNilRow = true := by kernel_rfl

theorem codeNil_holds : Rows.CodeNilSaid :=
  OpenClaim.holds_of_wide 3 Tryz.f3 rfl rfl rfl rfl rfl rfl rfl ⟨rfl, rfl, rfl, rfl, rfl⟩ rfl rfl rfl rfl rfl codeNil_f1 Tryz.func3 codeNil_f2
    (of_decide_eq_true (by kernel_rfl)) (by unfold Func.isWrapper; rw [if_neg (by decide +kernel)]; exact ⟨rfl, rfl⟩)
    (fun os started H enc _ => codeNil_lifted os started H enc)

end Go.Proofs.YthmpodpkckagmaaGreat
#print axioms Go.Proofs.YthmpodpkckagmaaGreat.codeNil_holds
