/- Proved: whatever it is handed, NfaGoes returns true, and its arguments read as they did. Condition: what its arguments read as is of bulk 1048576 at most. -/
import Derived.Test.YtknpnjnnebgjeaaAbLaw
import Derived.Test.YtknpnjnnebgjeaaNfaDeU
import Derived.Test.YtknpnjnnebgjeaaNfaPl5
import Derived.Test.YtknpnjnnebgjeaaRows
set_option linter.unusedVariables false
set_option linter.unusedSimpArgs false
set_option linter.constructorNameAsVariable false
namespace Go.Proofs.Ytknpnjnnebgjeaa
open Go Go.Ab Go.ChangeShapes Go.WideShapes Go.ChangeAt Go.RowKit Go.Proofs.Nfa
set_option maxRecDepth 1000000

theorem law_nfaGoes : LawTrueB Try.prog upB 12 5 Try.f5 := by
  intro l h
  have hp : Try.f5.params.toList = [24, 25, 25, 25] := by kernel_rfl
  rw [hp] at h
  obtain ⟨x0, r0, rfl, h0, x1, r1, rfl, h1, x2, r2, rfl, h2, x3, r3, rfl, h3, rfl⟩ := h
  obtain ⟨v0, rfl, w0⟩ := deV (f := avs_24) (W := wfu_24) (by kernel_rfl) (fun l h => deu_24 (d := 7) l h) h0
  obtain ⟨v1, rfl, w1⟩ := deV1 (f := avs_25) (W := wfu_25) (by kernel_rfl) (fun l h => deu_25 (d := 10) l h) h1
  obtain ⟨v2, rfl, w2⟩ := deV1 (f := avs_25) (W := wfu_25) (by kernel_rfl) (fun l h => deu_25 (d := 10) l h) h2
  obtain ⟨v3, rfl, w3⟩ := deV1 (f := avs_25) (W := wfu_25) (by kernel_rfl) (fun l h => deu_25 (d := 10) l h) h3
  have q := Q5 (v0, v1, v2, v3, ()) true (law5 v0 v1 v2 v3 w0 w1 w2 w3) []
  have e : (encAs G [.t 24, .l 3, .l 3, .l 3] (v0, v1, v2, v3, ())).map (SV.av Nfa.C) = [.agg (avs_24 v0), wrapA none (avs_25 v1), wrapA none (avs_25 v2), wrapA none (avs_25 v3)] := by kernel_rfl
  rw [e] at q
  exact q.mono fun r H ⟨_, v, k1, _, k2⟩ => by rw [k1, k2]; rfl

mutual
theorem uptoD_eq {H : Type} : ∀ d : DataW H, Rows.uptoBulk d = bulkD d
  | .lit (.string _) => rfl
  | .lit .nil => rfl
  | .lit (.bool _) => rfl
  | .lit (.int _ _) => rfl
  | .lit (.float _ _) => rfl
  | .nil => rfl
  | .ptr d => by simp only [Rows.uptoBulk, bulkD, uptoD_eq d]
  | .slice a b => by simp only [Rows.uptoBulk, bulkD, uptoL_eq a, uptoL_eq b]
  | .agg a => by simp only [Rows.uptoBulk, bulkD, uptoL_eq a]
  | .iface _ d => by simp only [Rows.uptoBulk, bulkD, uptoD_eq d]
  | .map e => by simp only [Rows.uptoBulk, bulkD, uptoE_eq e]
  | .held _ => rfl
theorem uptoL_eq {H : Type} : ∀ l : List (DataW H), Rows.uptoBulkAll l = bulkL l
  | [] => rfl
  | d :: l => by simp only [Rows.uptoBulkAll, bulkL, uptoD_eq d, uptoL_eq l]
theorem uptoE_eq {H : Type} : ∀ l : List (Lit × DataW H), Rows.uptoBulkEntries l = bulkE l
  | [] => rfl
  | d :: l => by simp only [Rows.uptoBulkEntries, bulkE, uptoX_eq d, uptoE_eq l]
theorem uptoX_eq {H : Type} : ∀ x : Lit × DataW H, Rows.uptoBulkEntry x = bulkX x
  | (.string _, d) => by simp only [Rows.uptoBulkEntry, bulkX, uptoD_eq d]
  | (.nil, d) => by simp only [Rows.uptoBulkEntry, bulkX, uptoD_eq d]
  | (.bool _, d) => by simp only [Rows.uptoBulkEntry, bulkX, uptoD_eq d]
  | (.int _ _, d) => by simp only [Rows.uptoBulkEntry, bulkX, uptoD_eq d]
  | (.float _ _, d) => by simp only [Rows.uptoBulkEntry, bulkX, uptoD_eq d]
end

theorem bytes_ok : ∀ t, t < Try.prog.types.size → Try.prog.bytesOf t * 2 ≤ 16384 ∧ inTab Try.prog Try.prog.types.size t = true := bytesOf_le (by kernel_rfl)
theorem bulk_ok {H : Type} (ts : List TypeId) (ht : ∀ t ∈ ts, t < Try.prog.types.size) (ds : List (DataW H)) (h : Rows.uptoSmall H ds = true) : ∀ n ∈ DataW.weightsEach Try.prog ts ds, n ≤ upB := by
  intro n hn
  have h1 := weightsEach_le (by decide) bytes_ok ts ds ht n hn
  have h2 : Rows.uptoBulkAll ds ≤ 1048576 := of_decide_eq_true h
  rw [uptoL_eq] at h2
  have : bulkL ds * 16384 ≤ 1048576 * 16384 := Nat.mul_le_mul_right _ h2
  unfold upB
  omega

theorem nfaGoes_lifted (os : Os) (started : os.Started) (H : Type) (enc : TypeId × Value → H) (F : Stop.Interp) :
    ReturnsInHanded {} Try.checked os 5 .any ((Rows.OpenSpec.upto Rows.nfaGoesSpec).pre6 enc Try.prog Try.f5 Rows.nfaGoesUptoRow.domain false) (((Rows.OpenSpec.upto Rows.nfaGoesSpec).at F).post enc Try.prog Try.f5 false true false false) :=
  lawLiftedU (C := Try.checked) (d := 12) (B := upB) (k := Rows.uptoSmall) rfl (by kernel_rfl) started (by kernel_rfl) Try.func5
    (witnessU (enc := enc) (C := Try.checked) (k := Rows.uptoSmall) rfl false ⟨#[], #[.agg #[.slice none 0 0], .slice none 0 0, .slice none 0 0, .slice none 0 0], []⟩ 12 (by kernel_rfl) (by kernel_rfl) (by kernel_rfl) (by kernel_rfl) (by kernel_rfl))
    (by kernel_rfl) (by kernel_rfl) rfl (tb := 4) (by kernel_rfl) (by kernel_rfl)
    (fun ds h => by
      have h : ds.length = 4 := h
      match ds, h with
      | [_, _, _, _], _ => rfl)
    (fun ds h => bulk_ok _ (fun t ht => of_decide_eq_true (List.all_eq_true.1 (show (Try.f5.params.toList.all fun t => decide (t < Try.prog.types.size)) = true by kernel_rfl) t ht)) ds h)
    law_nfaGoes

theorem nfaGoes_f1 : Try.pinned.checked.prog.funcNamed Rows.nfaGoesUptoRow.func = some 5 := by kernel_rfl
theorem nfaGoes_f2 : joinedFacts Try.pinned.checked.prog 5 Try.f5 (Rows.OpenSpec.upto Rows.nfaGoesSpec).bare Rows.nfaGoesUptoRow = true := by kernel_rfl

theorem nfaGoesUpto_holds : Rows.NfaGoesUptoSaid :=
  OpenClaim.holds_of_cond 5 Try.f5 rfl rfl rfl rfl rfl rfl rfl ⟨rfl, rfl, rfl, rfl, rfl⟩ rfl rfl rfl rfl rfl nfaGoes_f1 Try.func5 nfaGoes_f2
    (of_decide_eq_true (by kernel_rfl)) (by unfold Func.isWrapper; rw [if_neg (by decide +kernel)]; exact ⟨rfl, rfl⟩)
    (fun os started H enc _ F => nfaGoes_lifted os started H enc F)

end Go.Proofs.Ytknpnjnnebgjeaa
#print axioms Go.Proofs.Ytknpnjnnebgjeaa.nfaGoesUpto_holds
