/- Proved: whatever it is handed, DfaRaw returns true, and its arguments read as they did. No conditions. -/
import Derived.LaidMore
import Derived.SevenTiedAt
import Derived.Stop.Joined
import Derived.Test.YthhbggmlfilpdaaDoorAbLaw
import Derived.Test.YthhbggmlfilpdaaDoorCards
import Derived.Test.YthhbggmlfilpdaaDoorDfaDe
import Derived.Test.YthhbggmlfilpdaaDoorDfaPl7
import Derived.Test.YthhbggmlfilpdaaDoorRows
import Derived.Test.YthhbggmlfilpdaaDoorTie
set_option linter.unusedVariables false
set_option linter.unusedSimpArgs false
set_option linter.constructorNameAsVariable false
namespace Go.Proofs.YthhbggmlfilpdaaDoor
open Go Go.Ab Go.ChangeShapes Go.WideShapes Go.ChangeAt Go.RowKit Go.Proofs.Dfa
set_option maxRecDepth 1000000

theorem law_dfaRaw : LawTrue Tryd.prog 12 4 Tryd.f4 := by
  intro l h
  have hp : Tryd.f4.params.toList = [30, 3] := by kernel_rfl
  rw [hp] at h
  obtain ⟨x0, r0, rfl, h0, x1, r1, rfl, h1, rfl⟩ := h
  obtain ⟨v0, rfl, w0⟩ := deV (f := avs_30) (W := wf_30) (by kernel_rfl) (fun l h => de_30 (d := 7) l h) h0
  obtain ⟨v1, rfl, w1⟩ := deV1 (f := avs_3) (W := wf_3) (by kernel_rfl) (fun l h => de_3 (d := 11) l h) h1
  have q := Q4 (v0, v1, ()) true (law4 v0 v1 w0 w1) []
  have e : (encAs G [.t 30, .i .i64] (v0, v1, ())).map (SV.av Dfa.C) = [.agg (avs_30 v0), wrapA none (avs_3 v1)] := by kernel_rfl
  rw [e] at q
  exact q.mono fun r H ⟨_, v, k1, _, k2⟩ => by rw [k1, k2]; rfl

theorem wi_of_laid {w : World} (h : laidMetH Tryd.prog Rows.dfaRawRow.laid w) : WI w.heap.size w := WI.none rfl
theorem door_met (os : Os) (args : Array Value) : laidMetH Tryd.prog Rows.dfaRawRow.laid ((World.doorLaid Tryd.prog 400 os).forCall (fun _ _ => 0) ⟨#[], args, []⟩).memory :=
  laidMetH_of_parts3 (fuel := 8) (laidMet_of_run' 8 (by kernel_rfl) (by kernel_rfl)) (by kernel_rfl) (by kernel_rfl)

theorem dfaRaw_lifted (os : Os) (started : os.Started) (H : Type) (enc : TypeId × Value → H) :
    ReturnsInHanded {} Tryd.checked os 4 .any (fun w args => (Rows.dfaRawSpec.pre enc Tryd.prog Tryd.f4 Rows.dfaRawRow.domain false w args ∧ laidMetH Tryd.prog Rows.dfaRawRow.laid w) ∧ sizedMet enc Tryd.prog Tryd.f4 (OpenSpec.ofChange Rows.dfaRawSpec) false w args) (Rows.dfaRawSpec.post enc Tryd.prog Tryd.f4 false true false false) :=
  lawLiftedX (C := Tryd.checked) (d := 12) (X := fun w _ => laidMetH Tryd.prog Rows.dfaRawRow.laid w) (fun _ _ _ hh h => h.of_heap hh) (fun _ _ h => wi_of_laid h) (by kernel_rfl) started (by kernel_rfl) Tryd.func4
    (ChangeSpec.witness_shaped (enc := enc) (C := Tryd.checked) (os := os) (X := fun w _ => laidMetH Tryd.prog Rows.dfaRawRow.laid w) false (World.doorLaid Tryd.prog 400 os) #[.agg #[.slice none 0 0], .int .i64 0] 12 rfl (World.shaped_of_RefB (by kernel_rfl) (by kernel_rfl)) (by kernel_rfl) (by kernel_rfl) (by kernel_rfl) (door_met os _))
    (by kernel_rfl) (by kernel_rfl) rfl (tb := 4) (by kernel_rfl) (by kernel_rfl)
    (fun ds h => by
      have h : ds.length = 2 := h
      match ds, h with
      | [_, _], _ => rfl)
    law_dfaRaw

theorem dfaRaw_f1 : Tryd.pinned.checked.prog.funcNamed Rows.dfaRawRow.func = some 4 := by kernel_rfl
theorem dfaRaw_f2 : joinedFacts Tryd.pinned.checked.prog 4 Tryd.f4 Rows.dfaRawSpec Rows.dfaRawRow = true := by kernel_rfl

theorem dfaRaw_holds : Rows.DfaRawSaid :=
  OpenClaim.holds_of_wide 4 Tryd.f4 rfl rfl rfl rfl rfl rfl rfl ⟨rfl, rfl, rfl, rfl, rfl⟩ rfl rfl rfl rfl rfl dfaRaw_f1 Tryd.func4 dfaRaw_f2
    (of_decide_eq_true (by kernel_rfl)) (by unfold Func.isWrapper; rw [if_neg (by decide +kernel)]; exact ⟨rfl, rfl⟩)
    (fun os started H enc _ => dfaRaw_lifted os started H enc)

theorem dfaRawCard_holds : Rows.DfaRawCardSaid :=
  Claim7.holds_tied_plain_at .later [] [.data, .data, .data] true (true, "92dae3aa380a7fdf1f0f943eee8c44382cf1df2d1740e59760fd17ae4ee3d4e9") false
    dfaRaw_holds (fun _ h => by cases h) (by kernel_rfl) (fun _ h => by cases h) dfaRaw_row_tie rfl ⟨rfl, rfl⟩ (by kernel_rfl) rfl
    (fun f fn hf hfn => by
      obtain rfl : f = 4 := Option.some.inj ((show Tryd.prog.funcNamed "drover/droverlaw19.DfaRaw" = some 4 by kernel_rfl).symm.trans hf) |>.symm
      obtain rfl : fn = Tryd.f4 := (Option.some.inj (Tryd.func4.symm.trans hfn)).symm
      exact ⟨by kernel_rfl, fun j t ht => by
        have hm : t ∈ Tryd.f4.params.toList := by simpa using Array.mem_of_getElem? ht
        have hall : (Tryd.f4.params.toList.all fun u => !Tryd.prog.wantsStandIn u) = true := by kernel_rfl
        exact (show Tryd.prog.wantsStandIn t = false by simpa using List.all_eq_true.1 hall t hm)⟩)
    (by kernel_rfl)

end Go.Proofs.YthhbggmlfilpdaaDoor
#print axioms Go.Proofs.YthhbggmlfilpdaaDoor.dfaRawCard_holds
