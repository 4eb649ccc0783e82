/- Proved: whatever it is handed, NetNil returns true, and its arguments read as they did. No conditions. -/
import Derived.Test.YtdeenejbgfmchaaGreatAbLaw
import Derived.Test.YtdeenejbgfmchaaGreatNnlDe
import Derived.Test.YtdeenejbgfmchaaGreatNnlPl
import Derived.Test.YtdeenejbgfmchaaGreatRows
set_option linter.unusedVariables false
set_option linter.unusedSimpArgs false
set_option linter.constructorNameAsVariable false
namespace Go.Proofs.YtdeenejbgfmchaaGreat
open Go Go.Ab Go.ChangeShapes Go.WideShapes Go.ChangeAt Go.RowKit Go.Proofs.Nnl
set_option maxRecDepth 1000000
theorem law_netNil : LawTrue Tryz.prog 12 3 Tryz.f3 := by
  intro l h
  have hp : Tryz.f3.params.toList = [9, 3] := by kernel_rfl
  rw [hp] at h
  obtain ⟨x0, r0, rfl, h0, x1, r1, rfl, h1, rfl⟩ := h
  obtain ⟨v0, rfl, w0⟩ := deV1 (f := avs_9) (W := wf_9) (by kernel_rfl) (fun l h => de_9 (d := 11) l h) h0
  obtain ⟨v1, rfl, w1⟩ := deV1 (f := avs_3) (W := wf_3) (by kernel_rfl) (fun l h => de_3 (d := 11) l h) h1
  have q := Q3 (v0, v1, ()) true (law3 v0 v1 w0 w1) []
  have e : (encAs G [.s, .i .i64] (v0, v1, ())).map (SV.av Nnl.C) = [wrapA none (avs_9 v0), wrapA none (avs_3 v1)] := by kernel_rfl
  rw [e] at q
  exact q.mono fun r H ⟨_, v, k1, _, k2⟩ => by rw [k1, k2]; rfl
theorem netNil_lifted (os : Os) (started : os.Started) (H : Type) (enc : TypeId × Value -> H) :
    ReturnsInHanded {} Tryz.checked os 3 .any (Rows.netNilSpec.pre6 enc Tryz.prog Tryz.f3 Rows.netNilRow.domain false) (Rows.netNilSpec.post enc Tryz.prog Tryz.f3 false true false false) :=
  lawLifted (C := Tryz.checked) (d := 12) (by kernel_rfl) started (by kernel_rfl) Tryz.func3
    (ChangeSpec.witness6 (enc := enc) (C := Tryz.checked) false ⟨#[], #[.string ⟨#[]⟩, .int .i64 0], []⟩ 12 (by kernel_rfl) (by kernel_rfl) (by kernel_rfl) (by kernel_rfl))
    (by kernel_rfl) (by kernel_rfl) rfl (tb := 4) (by kernel_rfl) (by kernel_rfl)
    (fun ds h => by
      have h : ds.length = 2 := h
      match ds, h with
      | [_, _], _ => rfl)
    law_netNil
theorem netNil_f1 : Tryz.pinned.checked.prog.funcNamed Rows.netNilRow.func = some 3 := by kernel_rfl
theorem netNil_f2 : joinedFacts Tryz.pinned.checked.prog 3 Tryz.f3 Rows.netNilSpec Rows.netNilRow = true := by kernel_rfl
theorem netNil_holds : Rows.NetNilSaid :=
  OpenClaim.holds_of_wide 3 Tryz.f3 rfl rfl rfl rfl rfl rfl rfl ⟨rfl, rfl, rfl, rfl, rfl⟩ rfl rfl rfl rfl rfl netNil_f1 Tryz.func3 netNil_f2
    (of_decide_eq_true (by kernel_rfl)) (by unfold Func.isWrapper; rw [if_neg (by decide +kernel)]; exact ⟨rfl, rfl⟩)
    (fun os started H enc _ => netNil_lifted os started H enc)
end Go.Proofs.YtdeenejbgfmchaaGreat
#print axioms Go.Proofs.YtdeenejbgfmchaaGreat.netNil_holds
