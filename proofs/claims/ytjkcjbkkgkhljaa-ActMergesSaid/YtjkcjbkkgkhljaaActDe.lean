/- A part of a law's proof: ActDe. -/
import Derived.KernelRfl
import Derived.Test.YtjkcjbkkgkhljaaActTy
import Derived.Test.YtjkcjbkkgkhljaaProg
import Derived.Test.YtjkcjbkkgkhljaaSvDe
set_option linter.unusedSimpArgs false
namespace Go.Proofs.Act
open Go Go.Ab
set_option linter.unusedVariables false
set_option linter.constructorNameAsVariable false
set_option maxRecDepth 1000000
def wf_3 (x : Int) : Prop := inK .i64 x
theorem de_3 {d : Nat} (l : List AV) (h : tyC Go.Proofs.Try.prog reachBytes (d + 1) 3 l) : ∃ x : Int, l = avs_3 x ∧ wf_3 x := deInt (by kernel_rfl) h
def wf_27 (x : Int) : Prop := inK .u64 x
theorem de_27 {d : Nat} (l : List AV) (h : tyC Go.Proofs.Try.prog reachBytes (d + 1) 27 l) : ∃ x : Int, l = avs_27 x ∧ wf_27 x := deInt (by kernel_rfl) h
def wf_29 (x : Action) : Prop := wf_3 x.Kind ∧ wf_3 x.Field ∧ wf_27 x.Value
theorem de_29 {d : Nat} (l : List AV) (h : tyC Go.Proofs.Try.prog reachBytes (d + 2) 29 l) : ∃ x : Action, l = avs_29 x ∧ wf_29 x := by
  have h := deStruct (d := d + 1) (ts := [3, 3, 27]) (by kernel_rfl) h
  obtain ⟨p0, q0, e0, h0, p1, q1, e1, h1, p2, q2, e2, h2, en⟩ := h
  obtain ⟨x0, f0, w0⟩ := de_3 (d := d + 0) _ h0
  obtain ⟨x1, f1, w1⟩ := de_3 (d := d + 0) _ h1
  obtain ⟨x2, f2, w2⟩ := de_27 (d := d + 0) _ h2
  refine ⟨⟨x0, x1, x2⟩, ?_, w0, w1, w2⟩
  rw [e0, f0, e1, f1, e2, f2, en]
  rfl
def wf_22 (x : (List Action)) : Prop := x.length <= reachBytes ∧ ∀ y ∈ x, wf_29 y
theorem de_22 {d : Nat} (l : List AV) (h : tyC Go.Proofs.Try.prog reachBytes (d + 3) 22 l) : ∃ x : (List Action), l = avs_22 x ∧ wf_22 x := by
  obtain ⟨ys, h1, h2, h3⟩ := deSlice (d := d + 2) (by kernel_rfl) (by kernel_rfl) (by kernel_rfl) (deAgg (f := avs_29) (W := wf_29) (by kernel_rfl) (fun l h => de_29 (d := d) l h)) h
  exact ⟨ys, h1, h2, h3⟩
end Go.Proofs.Act
