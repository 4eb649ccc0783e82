/- A part of a law's proof: NfaDe. -/
import Derived.KernelRfl
import Derived.Test.YtknpnjnnebgjeaaNfaTy
import Derived.Test.YtknpnjnnebgjeaaProg
import Derived.Test.YtknpnjnnebgjeaaSvDe
set_option linter.unusedSimpArgs false
namespace Go.Proofs.Nfa
open Go Go.Ab
set_option linter.unusedVariables false
set_option linter.constructorNameAsVariable false
set_option maxRecDepth 1000000
def wf_3 (x : Int) : Prop := inK .i64 x
theorem de_3 {d : Nat} (l : List AV) (h : tyC Go.Proofs.Try.prog reachBytes (d + 1) 3 l) : ∃ x : Int, l = avs_3 x ∧ wf_3 x := deInt (by kernel_rfl) h
def wf_4 (x : Bool) : Prop := True
theorem de_4 {d : Nat} (l : List AV) (h : tyC Go.Proofs.Try.prog reachBytes (d + 1) 4 l) : ∃ x : Bool, l = avs_4 x ∧ wf_4 x := by obtain ⟨b, hb⟩ := deBool (by kernel_rfl) h; exact ⟨b, hb, trivial⟩
def wf_25 (x : (List Int)) : Prop := x.length ≤ reachBytes ∧ ∀ y ∈ x, wf_3 y
theorem de_25 {d : Nat} (l : List AV) (h : tyC Go.Proofs.Try.prog reachBytes (d + 2) 25 l) : ∃ x : (List Int), l = avs_25 x ∧ wf_25 x := by
  obtain ⟨ys, h1, h2, h3⟩ := deSlice (d := d + 1) (by kernel_rfl) (by kernel_rfl) (by kernel_rfl) (deOne (f := avs_3) (W := wf_3) (by kernel_rfl) (fun l h => de_3 (d := d) l h)) h
  exact ⟨ys, h1, h2, h3⟩
def wf_34 (x : NfaState) : Prop := wf_3 x.Switch ∧ wf_4 x.Ends ∧ wf_25 x.Next
theorem de_34 {d : Nat} (l : List AV) (h : tyC Go.Proofs.Try.prog reachBytes (d + 3) 34 l) : ∃ x : NfaState, l = avs_34 x ∧ wf_34 x := by
  have h := deStruct (d := d + 2) (ts := [3, 4, 25]) (by kernel_rfl) h
  obtain ⟨p0, q0, e0, h0, p1, q1, e1, h1, p2, q2, e2, h2, en⟩ := h
  obtain ⟨x0, f0, w0⟩ := de_3 (d := d + 1) _ h0
  obtain ⟨x1, f1, w1⟩ := de_4 (d := d + 1) _ h1
  obtain ⟨x2, f2, w2⟩ := de_25 (d := d + 0) _ h2
  refine ⟨⟨x0, x1, x2⟩, ?_, w0, w1, w2⟩
  rw [e0, f0, e1, f1, e2, f2, en]
  rfl
def wf_22 (x : (List NfaState)) : Prop := x.length ≤ reachBytes ∧ ∀ y ∈ x, wf_34 y
theorem de_22 {d : Nat} (l : List AV) (h : tyC Go.Proofs.Try.prog reachBytes (d + 4) 22 l) : ∃ x : (List NfaState), l = avs_22 x ∧ wf_22 x := by
  obtain ⟨ys, h1, h2, h3⟩ := deSlice (d := d + 3) (by kernel_rfl) (by kernel_rfl) (by kernel_rfl) (deAgg (f := avs_34) (W := wf_34) (by kernel_rfl) (fun l h => de_34 (d := d) l h)) h
  exact ⟨ys, h1, h2, h3⟩
def wf_24 (x : Nfa) : Prop := wf_22 x.States
theorem de_24 {d : Nat} (l : List AV) (h : tyC Go.Proofs.Try.prog reachBytes (d + 5) 24 l) : ∃ x : Nfa, l = avs_24 x ∧ wf_24 x := by
  have h := deStruct (d := d + 4) (ts := [22]) (by kernel_rfl) h
  obtain ⟨p0, q0, e0, h0, en⟩ := h
  obtain ⟨x0, f0, w0⟩ := de_22 (d := d + 0) _ h0
  refine ⟨⟨x0⟩, ?_, w0⟩
  rw [e0, f0, en]
  rfl
def wf_73 (x : ExprNode) : Prop := wf_3 x.Kind ∧ wf_3 x.Switch ∧ wf_3 x.A ∧ wf_3 x.B
theorem de_73 {d : Nat} (l : List AV) (h : tyC Go.Proofs.Try.prog reachBytes (d + 2) 73 l) : ∃ x : ExprNode, l = avs_73 x ∧ wf_73 x := by
  have h := deStruct (d := d + 1) (ts := [3, 3, 3, 3]) (by kernel_rfl) h
  obtain ⟨p0, q0, e0, h0, p1, q1, e1, h1, p2, q2, e2, h2, p3, q3, e3, h3, en⟩ := h
  obtain ⟨x0, f0, w0⟩ := de_3 (d := d + 0) _ h0
  obtain ⟨x1, f1, w1⟩ := de_3 (d := d + 0) _ h1
  obtain ⟨x2, f2, w2⟩ := de_3 (d := d + 0) _ h2
  obtain ⟨x3, f3, w3⟩ := de_3 (d := d + 0) _ h3
  refine ⟨⟨x0, x1, x2, x3⟩, ?_, w0, w1, w2, w3⟩
  rw [e0, f0, e1, f1, e2, f2, e3, f3, en]
  rfl
def wf_36 (x : (List ExprNode)) : Prop := x.length ≤ reachBytes ∧ ∀ y ∈ x, wf_73 y
theorem de_36 {d : Nat} (l : List AV) (h : tyC Go.Proofs.Try.prog reachBytes (d + 3) 36 l) : ∃ x : (List ExprNode), l = avs_36 x ∧ wf_36 x := by
  obtain ⟨ys, h1, h2, h3⟩ := deSlice (d := d + 2) (by kernel_rfl) (by kernel_rfl) (by kernel_rfl) (deAgg (f := avs_73) (W := wf_73) (by kernel_rfl) (fun l h => de_73 (d := d) l h)) h
  exact ⟨ys, h1, h2, h3⟩
def wf_38 (x : Expr) : Prop := wf_36 x.Nodes
theorem de_38 {d : Nat} (l : List AV) (h : tyC Go.Proofs.Try.prog reachBytes (d + 4) 38 l) : ∃ x : Expr, l = avs_38 x ∧ wf_38 x := by
  have h := deStruct (d := d + 3) (ts := [36]) (by kernel_rfl) h
  obtain ⟨p0, q0, e0, h0, en⟩ := h
  obtain ⟨x0, f0, w0⟩ := de_36 (d := d + 0) _ h0
  refine ⟨⟨x0⟩, ?_, w0⟩
  rw [e0, f0, en]
  rfl
def wf_5 (x : Int) : Prop := inK .u8 x
theorem de_5 {d : Nat} (l : List AV) (h : tyC Go.Proofs.Try.prog reachBytes (d + 1) 5 l) : ∃ x : Int, l = avs_5 x ∧ wf_5 x := deInt (by kernel_rfl) h
def wf_66 (x : droverref17_Token) : Prop := wf_5 x.Sign ∧ wf_3 x.N
theorem de_66 {d : Nat} (l : List AV) (h : tyC Go.Proofs.Try.prog reachBytes (d + 2) 66 l) : ∃ x : droverref17_Token, l = avs_66 x ∧ wf_66 x := by
  have h := deStruct (d := d + 1) (ts := [5, 3]) (by kernel_rfl) h
  obtain ⟨p0, q0, e0, h0, p1, q1, e1, h1, en⟩ := h
  obtain ⟨x0, f0, w0⟩ := de_5 (d := d + 0) _ h0
  obtain ⟨x1, f1, w1⟩ := de_3 (d := d + 0) _ h1
  refine ⟨⟨x0, x1⟩, ?_, w0, w1⟩
  rw [e0, f0, e1, f1, en]
  rfl
def wf_49 (x : (List droverref17_Token)) : Prop := x.length ≤ reachBytes ∧ ∀ y ∈ x, wf_66 y
theorem de_49 {d : Nat} (l : List AV) (h : tyC Go.Proofs.Try.prog reachBytes (d + 3) 49 l) : ∃ x : (List droverref17_Token), l = avs_49 x ∧ wf_49 x := by
  obtain ⟨ys, h1, h2, h3⟩ := deSlice (d := d + 2) (by kernel_rfl) (by kernel_rfl) (by kernel_rfl) (deAgg (f := avs_66) (W := wf_66) (by kernel_rfl) (fun l h => de_66 (d := d) l h)) h
  exact ⟨ys, h1, h2, h3⟩
def wf_54 (x : droverref17_Reading) : Prop := wf_49 x.L ∧ wf_3 x.At ∧ wf_3 x.Deep ∧ wf_3 x.Most ∧ wf_4 x.Bad
theorem de_54 {d : Nat} (l : List AV) (h : tyC Go.Proofs.Try.prog reachBytes (d + 4) 54 l) : ∃ x : droverref17_Reading, l = avs_54 x ∧ wf_54 x := by
  have h := deStruct (d := d + 3) (ts := [49, 3, 3, 3, 4]) (by kernel_rfl) h
  obtain ⟨p0, q0, e0, h0, p1, q1, e1, h1, p2, q2, e2, h2, p3, q3, e3, h3, p4, q4, e4, h4, en⟩ := h
  obtain ⟨x0, f0, w0⟩ := de_49 (d := d + 0) _ h0
  obtain ⟨x1, f1, w1⟩ := de_3 (d := d + 2) _ h1
  obtain ⟨x2, f2, w2⟩ := de_3 (d := d + 2) _ h2
  obtain ⟨x3, f3, w3⟩ := de_3 (d := d + 2) _ h3
  obtain ⟨x4, f4, w4⟩ := de_4 (d := d + 2) _ h4
  refine ⟨⟨x0, x1, x2, x3, x4⟩, ?_, w0, w1, w2, w3, w4⟩
  rw [e0, f0, e1, f1, e2, f2, e3, f3, e4, f4, en]
  rfl
def wf_46 (x : Int) : Prop := inK .u64 x
theorem de_46 {d : Nat} (l : List AV) (h : tyC Go.Proofs.Try.prog reachBytes (d + 1) 46 l) : ∃ x : Int, l = avs_46 x ∧ wf_46 x := deInt (by kernel_rfl) h
def wf_58 (x : (List Int)) : Prop := x.length ≤ reachBytes ∧ ∀ y ∈ x, wf_46 y
theorem de_58 {d : Nat} (l : List AV) (h : tyC Go.Proofs.Try.prog reachBytes (d + 2) 58 l) : ∃ x : (List Int), l = avs_58 x ∧ wf_58 x := by
  obtain ⟨ys, h1, h2, h3⟩ := deSlice (d := d + 1) (by kernel_rfl) (by kernel_rfl) (by kernel_rfl) (deOne (f := avs_46) (W := wf_46) (by kernel_rfl) (fun l h => de_46 (d := d) l h)) h
  exact ⟨ys, h1, h2, h3⟩
def wf_60 (x : nfa_builder) : Prop := wf_36 x.nodes ∧ wf_22 x.states ∧ wf_58 x.behind
theorem de_60 {d : Nat} (l : List AV) (h : tyC Go.Proofs.Try.prog reachBytes (d + 5) 60 l) : ∃ x : nfa_builder, l = avs_60 x ∧ wf_60 x := by
  have h := deStruct (d := d + 4) (ts := [36, 22, 58]) (by kernel_rfl) h
  obtain ⟨p0, q0, e0, h0, p1, q1, e1, h1, p2, q2, e2, h2, en⟩ := h
  obtain ⟨x0, f0, w0⟩ := de_36 (d := d + 1) _ h0
  obtain ⟨x1, f1, w1⟩ := de_22 (d := d + 0) _ h1
  obtain ⟨x2, f2, w2⟩ := de_58 (d := d + 2) _ h2
  refine ⟨⟨x0, x1, x2⟩, ?_, w0, w1, w2⟩
  rw [e0, f0, e1, f1, e2, f2, en]
  rfl
def wf_62 (x : nfa_part) : Prop := wf_46 x.first ∧ wf_46 x.last ∧ wf_4 x.null
theorem de_62 {d : Nat} (l : List AV) (h : tyC Go.Proofs.Try.prog reachBytes (d + 2) 62 l) : ∃ x : nfa_part, l = avs_62 x ∧ wf_62 x := by
  have h := deStruct (d := d + 1) (ts := [46, 46, 4]) (by kernel_rfl) h
  obtain ⟨p0, q0, e0, h0, p1, q1, e1, h1, p2, q2, e2, h2, en⟩ := h
  obtain ⟨x0, f0, w0⟩ := de_46 (d := d + 0) _ h0
  obtain ⟨x1, f1, w1⟩ := de_46 (d := d + 0) _ h1
  obtain ⟨x2, f2, w2⟩ := de_4 (d := d + 0) _ h2
  refine ⟨⟨x0, x1, x2⟩, ?_, w0, w1, w2⟩
  rw [e0, f0, e1, f1, e2, f2, en]
  rfl
def wf_77 (x : droverref17_Pool) : Prop := wf_36 x.L ∧ wf_25 x.Sizes
theorem de_77 {d : Nat} (l : List AV) (h : tyC Go.Proofs.Try.prog reachBytes (d + 4) 77 l) : ∃ x : droverref17_Pool, l = avs_77 x ∧ wf_77 x := by
  have h := deStruct (d := d + 3) (ts := [36, 25]) (by kernel_rfl) h
  obtain ⟨p0, q0, e0, h0, p1, q1, e1, h1, en⟩ := h
  obtain ⟨x0, f0, w0⟩ := de_36 (d := d + 0) _ h0
  obtain ⟨x1, f1, w1⟩ := de_25 (d := d + 1) _ h1
  refine ⟨⟨x0, x1⟩, ?_, w0, w1⟩
  rw [e0, f0, e1, f1, en]
  rfl
end Go.Proofs.Nfa
