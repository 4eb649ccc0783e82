/- Proved: whatever it is handed, DfaParts returns true, and its arguments read as they did. No conditions. -/
import Derived.LaidMore
import Derived.LaidSub
import Derived.Lib.LaidTab
import Derived.SevenTiedAt
import Derived.Stop.Joined
import Derived.Test.YthhbggmlfilpdaaDoorAbLaw
import Derived.Test.YthhbggmlfilpdaaDoorCards
import Derived.Test.YthhbggmlfilpdaaDoorDfaDe
import Derived.Test.YthhbggmlfilpdaaDoorDfaU24
import Derived.Test.YthhbggmlfilpdaaDoorRows
import Derived.Test.YthhbggmlfilpdaaDoorTie
set_option linter.unusedVariables false
set_option linter.unusedSimpArgs false
set_option linter.constructorNameAsVariable false
namespace Go.Proofs.YthhbggmlfilpdaaDoor
open Go Go.Ab Go.ChangeShapes Go.WideShapes Go.ChangeAt Go.RowKit Go.Proofs.Dfa
set_option maxRecDepth 1000000
theorem law_dfaParts : LawTrue Tryd.prog 12 9 Tryd.f9 := by
  intro l h
  have hp : Tryd.f9.params.toList = [36, 36, 40] := by kernel_rfl
  rw [hp] at h
  obtain ⟨x0, r0, rfl, h0, x1, r1, rfl, h1, x2, r2, rfl, h2, rfl⟩ := h
  obtain ⟨v0, rfl, w0⟩ := deV (f := avs_36) (W := wf_36) (by kernel_rfl) (fun l h => de_36 (d := 8) l h) h0
  obtain ⟨v1, rfl, w1⟩ := deV (f := avs_36) (W := wf_36) (by kernel_rfl) (fun l h => de_36 (d := 8) l h) h1
  obtain ⟨v2, rfl, w2⟩ := deV1 (f := avs_40) (W := wf_40) (by kernel_rfl) (fun l h => de_40 (d := 10) l h) h2
  have q := Q9 (v0, v1, v2, ()) true (law9 v0 v1 v2 w0 w1 w2) []
  have e : (encAs G [.t 36, .t 36, .l 3] (v0, v1, v2, ())).map (SV.av Dfa.C) = [.agg (avs_36 v0), .agg (avs_36 v1), wrapA none (avs_40 v2)] := by kernel_rfl
  rw [e] at q
  exact q.mono fun r H ⟨_, v, k1, _, k2⟩ => by rw [k1, k2]; rfl
theorem wi_of_laid {w : World} (h : laidMetH Tryd.prog Rows.dfaPartsRow.laid w) : WI w.heap.size w := by
  have h0 : laidMet Tryd.prog Rows.dfaPartsRow.laid w := by
    have e : (Rows.dfaPartsRow.laid.filter fun x => x.2.handleName?.isSome) = [] := by kernel_rfl
    unfold laidMetH at h
    rw [e] at h
    exact h
  have h1 := h0.filter fun x => x.1 == "internal/strconv.uint64pow10"
  have e1 : (Rows.dfaPartsRow.laid.filter fun x => x.1 == "internal/strconv.uint64pow10") = [("internal/strconv.uint64pow10", Lib.tabData .u64 Lib.pow10Tab)] := by kernel_rfl
  rw [e1] at h1
  have hg : Tryd.prog.globalNamed "internal/strconv.uint64pow10" = some 0 := by kernel_rfl
  exact wi_of_tab hg (by unfold wiTabs Lib.pow10Tab; rfl) (Lib.tabIs_of_head (n := 20) hg (t := 134) (e := 83) (by kernel_rfl) (by kernel_rfl) (by kernel_rfl) (by kernel_rfl) (by kernel_rfl) h1)
theorem door_met (os : Os) (args : Array Value) : laidMetH Tryd.prog Rows.dfaPartsRow.laid ((World.doorLaid Tryd.prog 400 os).forCall (fun _ _ => 0) ⟨#[], args, []⟩).memory :=
  laidMetH_of_parts3 (fuel := 8) (laidMet_of_run' 8 (by kernel_rfl) (by kernel_rfl)) (by kernel_rfl) (by kernel_rfl)
theorem dfaParts_lifted (os : Os) (started : os.Started) (H : Type) (enc : TypeId × Value -> H) :
    ReturnsInHanded {} Tryd.checked os 9 .any (fun w args => (Rows.dfaPartsSpec.pre enc Tryd.prog Tryd.f9 Rows.dfaPartsRow.domain false w args ∧ laidMetH Tryd.prog Rows.dfaPartsRow.laid w) ∧ sizedMet enc Tryd.prog Tryd.f9 (OpenSpec.ofChange Rows.dfaPartsSpec) false w args) (Rows.dfaPartsSpec.post enc Tryd.prog Tryd.f9 false true false false) :=
  lawLiftedX (C := Tryd.checked) (d := 12) (X := fun w _ => laidMetH Tryd.prog Rows.dfaPartsRow.laid w) (fun _ _ _ hh h => h.of_heap hh) (fun _ _ h => wi_of_laid h) (by kernel_rfl) started (by kernel_rfl) Tryd.func9
    (ChangeSpec.witness_shaped (enc := enc) (C := Tryd.checked) (os := os) (X := fun w _ => laidMetH Tryd.prog Rows.dfaPartsRow.laid w) false (World.doorLaid Tryd.prog 400 os) #[.agg #[.int .i64 0, .slice none 0 0, .slice none 0 0], .agg #[.int .i64 0, .slice none 0 0, .slice none 0 0], .slice none 0 0] 12 rfl (World.shaped_of_RefB (by kernel_rfl) (by kernel_rfl)) (by kernel_rfl) (by kernel_rfl) (by kernel_rfl) (door_met os _))
    (by kernel_rfl) (by kernel_rfl) rfl (tb := 4) (by kernel_rfl) (by kernel_rfl)
    (fun ds h => by
      have h : ds.length = 3 := h
      match ds, h with
      | [_, _, _], _ => rfl)
    law_dfaParts
theorem dfaParts_f1 : Tryd.pinned.checked.prog.funcNamed Rows.dfaPartsRow.func = some 9 := by kernel_rfl
theorem dfaParts_f2 : joinedFacts Tryd.pinned.checked.prog 9 Tryd.f9 Rows.dfaPartsSpec Rows.dfaPartsRow = true := by kernel_rfl
theorem dfaParts_holds : Rows.DfaPartsSaid :=
  OpenClaim.holds_of_wide 9 Tryd.f9 rfl rfl rfl rfl rfl rfl rfl ⟨rfl, rfl, rfl, rfl, rfl⟩ rfl rfl rfl rfl rfl dfaParts_f1 Tryd.func9 dfaParts_f2
    (of_decide_eq_true (by kernel_rfl)) (by unfold Func.isWrapper; rw [if_neg (by decide +kernel)]; exact ⟨rfl, rfl⟩)
    (fun os started H enc _ => dfaParts_lifted os started H enc)
theorem dfaPartsCard_holds : Rows.DfaPartsCardSaid :=
  Claim7.holds_tied_plain_at .later [] [.data, .data, .data] true (true, "92dae3aa380a7fdf1f0f943eee8c44382cf1df2d1740e59760fd17ae4ee3d4e9") false
    dfaParts_holds (fun _ h => by cases h) (by kernel_rfl) (fun _ h => by cases h) dfaParts_row_tie rfl ⟨rfl, rfl⟩ (by kernel_rfl) rfl
    (fun f fn hf hfn => by
      obtain rfl : f = 9 := Option.some.inj ((show Tryd.prog.funcNamed "drover/droverlaw19.DfaParts" = some 9 by kernel_rfl).symm.trans hf) |>.symm
      obtain rfl : fn = Tryd.f9 := (Option.some.inj (Tryd.func9.symm.trans hfn)).symm
      exact ⟨by kernel_rfl, fun j t ht => by
        have hm : t ∈ Tryd.f9.params.toList := by simpa using Array.mem_of_getElem? ht
        have hall : (Tryd.f9.params.toList.all fun u => !Tryd.prog.wantsStandIn u) = true := by kernel_rfl
        exact (show Tryd.prog.wantsStandIn t = false by simpa using List.all_eq_true.1 hall t hm)⟩)
    (by kernel_rfl)
end Go.Proofs.YthhbggmlfilpdaaDoor
#print axioms Go.Proofs.YthhbggmlfilpdaaDoor.dfaPartsCard_holds
