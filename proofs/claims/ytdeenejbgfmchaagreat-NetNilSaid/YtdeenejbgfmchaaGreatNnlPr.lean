/- A part of a law's proof: NnlPr. -/
import Derived.Test.YtdeenejbgfmchaaGreatNnlShelf
import Derived.Test.YtdeenejbgfmchaaGreatNnlXTab
import Derived.Test.YtdeenejbgfmchaaGreatSvClone
import Derived.Test.YtdeenejbgfmchaaGreatSvPrim
set_option linter.unusedSimpArgs false
set_option linter.constructorNameAsVariable false
/-
  Calls of the library's, by its contracts.
-/
namespace Go.Proofs.Nnl
open Go Go.Ab Go.RowKit Go.Proofs Go.Shelf
set_option linter.unusedVariables false
set_option maxRecDepth 100000
theorem xRep : Builder.Extra Tryz.prog Tryz.laysRepeat_ren where
  sizeBuilder := by kernel_rfl
  liesBuilder := by kernel_rfl
  t5 := Tryz.laysRepeat.t5
  a5 := Tryz.laysRepeat.a5
  z5 := Tryz.laysRepeat.z5
  v5 := Tryz.laysRepeat.v5
  infoByte := by kernel_rfl
  cellsByte := by kernel_rfl
  sizeByte := by kernel_rfl
  neB5 := by decide
theorem fRep : Tryz.laysRepeat_ren.f 105 = 70 := by kernel_rfl
theorem repCalls (s : ByteArray) (c : Nat) (w : World) (hc : c <= 9223372036854775807) (hlen : s.size * c <= 140737488355328) :
    Calls Tryz.prog 70 #[.string s, .int .i64 c] w fun e w' => e = .returned (.string ⟨(Lib.repeatL s.data.toList c).toArray⟩) ∧ Below w.heap.size w w' := by
  have := Any.strings_Repeat Tryz.laysRepeat xRep s c w hc hlen
  rwa [fRep] at this
def repF (vs : List Value) : Option Value :=
  match vs with
  | [.string s, .int .i64 (.ofNat c)] => match Nat.ble c 9223372036854775807 && Nat.ble (s.size * c) 140737488355328 with
    | true => some (.string ⟨(Lib.repeatL s.data.toList c).toArray⟩)
    | false => none
  | _ => none
theorem repP (vs : List Value) (v : Value) (h : repF vs = some v) : PureCall Tryz.prog 70 (vs.map .v) (.v v) := by
  unfold repF at h
  split at h
  · rename_i s c
    split at h
    · rename_i hb
      rw [Bool.and_eq_true] at hb
      cases h
      exact pure_of_calls (vs := [.string s, .int .i64 (c : Int)]) ⟨Tryz.f70, Tryz.func70, by kernel_rfl, by kernel_rfl⟩ rfl fun w => repCalls s c w (Nat.le_of_ble_eq_true hb.1) (Nat.le_of_ble_eq_true hb.2)
    · cases h
  · cases h
theorem cl113 : CloneAt Tryz.prog 113 8 89 3 24 89 Tryz.f113 (codeL (bodyOf Tryz.f113)) (codeL (codeL (codeR (bodyOf Tryz.f113)))) (codeR (codeL (codeR (bodyOf Tryz.f113)))) (codeR (codeR (bodyOf Tryz.f113))) :=
  ⟨Tryz.func113, by kernel_rfl, by kernel_rfl, by kernel_rfl, by kernel_rfl, by kernel_rfl, by kernel_rfl, by kernel_rfl, by kernel_rfl⟩
def base : Called := orPrim (clonePrim 113 3 24) (valPrim 70 repF)
theorem base_says : Says Tryz.prog base := orPrim_says (clonePrim_says cl113 rfl) (valPrim_says repP)
end Go.Proofs.Nnl
