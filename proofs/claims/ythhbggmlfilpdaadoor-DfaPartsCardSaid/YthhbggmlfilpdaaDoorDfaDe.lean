/- A part of a law's proof: DfaDe. -/
import Derived.KernelRfl
import Derived.Test.YthhbggmlfilpdaaDoorDfaTy
import Derived.Test.YthhbggmlfilpdaaDoorProg
import Derived.Test.YthhbggmlfilpdaaDoorSvDe
set_option linter.unusedSimpArgs false
namespace Go.Proofs.Dfa
open Go Go.Ab
set_option linter.unusedVariables false
set_option linter.constructorNameAsVariable false
set_option maxRecDepth 1000000
def wf_3 (x : Int) : Prop := inK .i64 x
theorem de_3 {d : Nat} (l : List AV) (h : tyC Go.Proofs.Tryd.prog reachBytes (d + 1) 3 l) : ∃ x : Int, l = avs_3 x ∧ wf_3 x := deInt (by kernel_rfl) h
def wf_4 (x : Bool) : Prop := True
theorem de_4 {d : Nat} (l : List AV) (h : tyC Go.Proofs.Tryd.prog reachBytes (d + 1) 4 l) : ∃ x : Bool, l = avs_4 x ∧ wf_4 x := by obtain ⟨b, hb⟩ := deBool (by kernel_rfl) h; exact ⟨b, hb, trivial⟩
def wf_40 (x : (List Int)) : Prop := x.length <= reachBytes ∧ ∀ y ∈ x, wf_3 y
theorem de_40 {d : Nat} (l : List AV) (h : tyC Go.Proofs.Tryd.prog reachBytes (d + 2) 40 l) : ∃ x : (List Int), l = avs_40 x ∧ wf_40 x := by
  obtain ⟨ys, h1, h2, h3⟩ := deSlice (d := d + 1) (by kernel_rfl) (by kernel_rfl) (by kernel_rfl) (deOne (f := avs_3) (W := wf_3) (by kernel_rfl) (fun l h => de_3 (d := d) l h)) h
  exact ⟨ys, h1, h2, h3⟩
def wf_33 (x : (List (List Int))) : Prop := x.length <= reachBytes ∧ ∀ y ∈ x, wf_40 y
theorem de_33 {d : Nat} (l : List AV) (h : tyC Go.Proofs.Tryd.prog reachBytes (d + 3) 33 l) : ∃ x : (List (List Int)), l = avs_33 x ∧ wf_33 x := by
  obtain ⟨ys, h1, h2, h3⟩ := deSlice (d := d + 2) (by kernel_rfl) (by kernel_rfl) (by kernel_rfl) (deOne (f := avs_40) (W := wf_40) (by kernel_rfl) (fun l h => de_40 (d := d) l h)) h
  exact ⟨ys, h1, h2, h3⟩
def wf_34 (x : (List Bool)) : Prop := x.length <= reachBytes ∧ ∀ y ∈ x, wf_4 y
theorem de_34 {d : Nat} (l : List AV) (h : tyC Go.Proofs.Tryd.prog reachBytes (d + 2) 34 l) : ∃ x : (List Bool), l = avs_34 x ∧ wf_34 x := by
  obtain ⟨ys, h1, h2, h3⟩ := deSlice (d := d + 1) (by kernel_rfl) (by kernel_rfl) (by kernel_rfl) (deOne (f := avs_4) (W := wf_4) (by kernel_rfl) (fun l h => de_4 (d := d) l h)) h
  exact ⟨ys, h1, h2, h3⟩
def wf_36 (x : Dfa) : Prop := wf_3 x.Switches ∧ wf_33 x.Next ∧ wf_34 x.Ends
theorem de_36 {d : Nat} (l : List AV) (h : tyC Go.Proofs.Tryd.prog reachBytes (d + 4) 36 l) : ∃ x : Dfa, l = avs_36 x ∧ wf_36 x := by
  have h := deStruct (d := d + 3) (ts := [3, 33, 34]) (by kernel_rfl) h
  obtain ⟨p0, q0, e0, h0, p1, q1, e1, h1, p2, q2, e2, h2, en⟩ := h
  obtain ⟨x0, f0, w0⟩ := de_3 (d := d + 2) _ h0
  obtain ⟨x1, f1, w1⟩ := de_33 (d := d + 0) _ h1
  obtain ⟨x2, f2, w2⟩ := de_34 (d := d + 1) _ h2
  refine ⟨⟨x0, x1, x2⟩, ?_, w0, w1, w2⟩
  rw [e0, f0, e1, f1, e2, f2, en]
  rfl
end Go.Proofs.Dfa
