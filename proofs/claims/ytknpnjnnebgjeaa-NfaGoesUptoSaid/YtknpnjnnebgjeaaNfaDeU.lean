/- A part of a law's proof: NfaDeU. -/
import Derived.KernelRfl
import Derived.Test.YtknpnjnnebgjeaaAbLaw
import Derived.Test.YtknpnjnnebgjeaaNfaTy
import Derived.Test.YtknpnjnnebgjeaaProg
import Derived.Test.YtknpnjnnebgjeaaSvDe
set_option linter.unusedSimpArgs false
namespace Go.Proofs.Nfa
open Go Go.Ab
set_option linter.unusedVariables false
set_option linter.constructorNameAsVariable false
set_option maxRecDepth 1000000
def wfu_3 (x : Int) : Prop := inK .i64 x
theorem deu_3 {d : Nat} (l : List AV) (h : tyC Go.Proofs.Try.prog upB (d + 1) 3 l) : ∃ x : Int, l = avs_3 x ∧ wfu_3 x := deInt (by kernel_rfl) h
def wfu_4 (x : Bool) : Prop := True
theorem deu_4 {d : Nat} (l : List AV) (h : tyC Go.Proofs.Try.prog upB (d + 1) 4 l) : ∃ x : Bool, l = avs_4 x ∧ wfu_4 x := by obtain ⟨b, hb⟩ := deBool (by kernel_rfl) h; exact ⟨b, hb, trivial⟩
def wfu_25 (x : (List Int)) : Prop := x.length ≤ upB ∧ ∀ y ∈ x, wfu_3 y
theorem deu_25 {d : Nat} (l : List AV) (h : tyC Go.Proofs.Try.prog upB (d + 2) 25 l) : ∃ x : (List Int), l = avs_25 x ∧ wfu_25 x := by
  obtain ⟨ys, h1, h2, h3⟩ := deSlice (d := d + 1) (by kernel_rfl) (by kernel_rfl) (by kernel_rfl) (deOne (f := avs_3) (W := wfu_3) (by kernel_rfl) (fun l h => deu_3 (d := d) l h)) h
  exact ⟨ys, h1, h2, h3⟩
def wfu_34 (x : NfaState) : Prop := wfu_3 x.Switch ∧ wfu_4 x.Ends ∧ wfu_25 x.Next
theorem deu_34 {d : Nat} (l : List AV) (h : tyC Go.Proofs.Try.prog upB (d + 3) 34 l) : ∃ x : NfaState, l = avs_34 x ∧ wfu_34 x := by
  have h := deStruct (d := d + 2) (ts := [3, 4, 25]) (by kernel_rfl) h
  obtain ⟨p0, q0, e0, h0, p1, q1, e1, h1, p2, q2, e2, h2, en⟩ := h
  obtain ⟨x0, f0, w0⟩ := deu_3 (d := d + 1) _ h0
  obtain ⟨x1, f1, w1⟩ := deu_4 (d := d + 1) _ h1
  obtain ⟨x2, f2, w2⟩ := deu_25 (d := d + 0) _ h2
  refine ⟨⟨x0, x1, x2⟩, ?_, w0, w1, w2⟩
  rw [e0, f0, e1, f1, e2, f2, en]
  rfl
def wfu_22 (x : (List NfaState)) : Prop := x.length ≤ upB ∧ ∀ y ∈ x, wfu_34 y
theorem deu_22 {d : Nat} (l : List AV) (h : tyC Go.Proofs.Try.prog upB (d + 4) 22 l) : ∃ x : (List NfaState), l = avs_22 x ∧ wfu_22 x := by
  obtain ⟨ys, h1, h2, h3⟩ := deSlice (d := d + 3) (by kernel_rfl) (by kernel_rfl) (by kernel_rfl) (deAgg (f := avs_34) (W := wfu_34) (by kernel_rfl) (fun l h => deu_34 (d := d) l h)) h
  exact ⟨ys, h1, h2, h3⟩
def wfu_24 (x : Nfa) : Prop := wfu_22 x.States
theorem deu_24 {d : Nat} (l : List AV) (h : tyC Go.Proofs.Try.prog upB (d + 5) 24 l) : ∃ x : Nfa, l = avs_24 x ∧ wfu_24 x := by
  have h := deStruct (d := d + 4) (ts := [22]) (by kernel_rfl) h
  obtain ⟨p0, q0, e0, h0, en⟩ := h
  obtain ⟨x0, f0, w0⟩ := deu_22 (d := d + 0) _ h0
  refine ⟨⟨x0⟩, ?_, w0⟩
  rw [e0, f0, en]
  rfl
def wfu_73 (x : ExprNode) : Prop := wfu_3 x.Kind ∧ wfu_3 x.Switch ∧ wfu_3 x.A ∧ wfu_3 x.B
theorem deu_73 {d : Nat} (l : List AV) (h : tyC Go.Proofs.Try.prog upB (d + 2) 73 l) : ∃ x : ExprNode, l = avs_73 x ∧ wfu_73 x := by
  have h := deStruct (d := d + 1) (ts := [3, 3, 3, 3]) (by kernel_rfl) h
  obtain ⟨p0, q0, e0, h0, p1, q1, e1, h1, p2, q2, e2, h2, p3, q3, e3, h3, en⟩ := h
  obtain ⟨x0, f0, w0⟩ := deu_3 (d := d + 0) _ h0
  obtain ⟨x1, f1, w1⟩ := deu_3 (d := d + 0) _ h1
  obtain ⟨x2, f2, w2⟩ := deu_3 (d := d + 0) _ h2
  obtain ⟨x3, f3, w3⟩ := deu_3 (d := d + 0) _ h3
  refine ⟨⟨x0, x1, x2, x3⟩, ?_, w0, w1, w2, w3⟩
  rw [e0, f0, e1, f1, e2, f2, e3, f3, en]
  rfl
def wfu_36 (x : (List ExprNode)) : Prop := x.length ≤ upB ∧ ∀ y ∈ x, wfu_73 y
theorem deu_36 {d : Nat} (l : List AV) (h : tyC Go.Proofs.Try.prog upB (d + 3) 36 l) : ∃ x : (List ExprNode), l = avs_36 x ∧ wfu_36 x := by
  obtain ⟨ys, h1, h2, h3⟩ := deSlice (d := d + 2) (by kernel_rfl) (by kernel_rfl) (by kernel_rfl) (deAgg (f := avs_73) (W := wfu_73) (by kernel_rfl) (fun l h => deu_73 (d := d) l h)) h
  exact ⟨ys, h1, h2, h3⟩
def wfu_38 (x : Expr) : Prop := wfu_36 x.Nodes
theorem deu_38 {d : Nat} (l : List AV) (h : tyC Go.Proofs.Try.prog upB (d + 4) 38 l) : ∃ x : Expr, l = avs_38 x ∧ wfu_38 x := by
  have h := deStruct (d := d + 3) (ts := [36]) (by kernel_rfl) h
  obtain ⟨p0, q0, e0, h0, en⟩ := h
  obtain ⟨x0, f0, w0⟩ := deu_36 (d := d + 0) _ h0
  refine ⟨⟨x0⟩, ?_, w0⟩
  rw [e0, f0, en]
  rfl
def wfu_5 (x : Int) : Prop := inK .u8 x
theorem deu_5 {d : Nat} (l : List AV) (h : tyC Go.Proofs.Try.prog upB (d + 1) 5 l) : ∃ x : Int, l = avs_5 x ∧ wfu_5 x := deInt (by kernel_rfl) h
def wfu_66 (x : droverref17_Token) : Prop := wfu_5 x.Sign ∧ wfu_3 x.N
theorem deu_66 {d : Nat} (l : List AV) (h : tyC Go.Proofs.Try.prog upB (d + 2) 66 l) : ∃ x : droverref17_Token, l = avs_66 x ∧ wfu_66 x := by
  have h := deStruct (d := d + 1) (ts := [5, 3]) (by kernel_rfl) h
  obtain ⟨p0, q0, e0, h0, p1, q1, e1, h1, en⟩ := h
  obtain ⟨x0, f0, w0⟩ := deu_5 (d := d + 0) _ h0
  obtain ⟨x1, f1, w1⟩ := deu_3 (d := d + 0) _ h1
  refine ⟨⟨x0, x1⟩, ?_, w0, w1⟩
  rw [e0, f0, e1, f1, en]
  rfl
def wfu_49 (x : (List droverref17_Token)) : Prop := x.length ≤ upB ∧ ∀ y ∈ x, wfu_66 y
theorem deu_49 {d : Nat} (l : List AV) (h : tyC Go.Proofs.Try.prog upB (d + 3) 49 l) : ∃ x : (List droverref17_Token), l = avs_49 x ∧ wfu_49 x := by
  obtain ⟨ys, h1, h2, h3⟩ := deSlice (d := d + 2) (by kernel_rfl) (by kernel_rfl) (by kernel_rfl) (deAgg (f := avs_66) (W := wfu_66) (by kernel_rfl) (fun l h => deu_66 (d := d) l h)) h
  exact ⟨ys, h1, h2, h3⟩
def wfu_54 (x : droverref17_Reading) : Prop := wfu_49 x.L ∧ wfu_3 x.At ∧ wfu_3 x.Deep ∧ wfu_3 x.Most ∧ wfu_4 x.Bad
theorem deu_54 {d : Nat} (l : List AV) (h : tyC Go.Proofs.Try.prog upB (d + 4) 54 l) : ∃ x : droverref17_Reading, l = avs_54 x ∧ wfu_54 x := by
  have h := deStruct (d := d + 3) (ts := [49, 3, 3, 3, 4]) (by kernel_rfl) h
  obtain ⟨p0, q0, e0, h0, p1, q1, e1, h1, p2, q2, e2, h2, p3, q3, e3, h3, p4, q4, e4, h4, en⟩ := h
  obtain ⟨x0, f0, w0⟩ := deu_49 (d := d + 0) _ h0
  obtain ⟨x1, f1, w1⟩ := deu_3 (d := d + 2) _ h1
  obtain ⟨x2, f2, w2⟩ := deu_3 (d := d + 2) _ h2
  obtain ⟨x3, f3, w3⟩ := deu_3 (d := d + 2) _ h3
  obtain ⟨x4, f4, w4⟩ := deu_4 (d := d + 2) _ h4
  refine ⟨⟨x0, x1, x2, x3, x4⟩, ?_, w0, w1, w2, w3, w4⟩
  rw [e0, f0, e1, f1, e2, f2, e3, f3, e4, f4, en]
  rfl
def wfu_46 (x : Int) : Prop := inK .u64 x
theorem deu_46 {d : Nat} (l : List AV) (h : tyC Go.Proofs.Try.prog upB (d + 1) 46 l) : ∃ x : Int, l = avs_46 x ∧ wfu_46 x := deInt (by kernel_rfl) h
def wfu_58 (x : (List Int)) : Prop := x.length ≤ upB ∧ ∀ y ∈ x, wfu_46 y
theorem deu_58 {d : Nat} (l : List AV) (h : tyC Go.Proofs.Try.prog upB (d + 2) 58 l) : ∃ x : (List Int), l = avs_58 x ∧ wfu_58 x := by
  obtain ⟨ys, h1, h2, h3⟩ := deSlice (d := d + 1) (by kernel_rfl) (by kernel_rfl) (by kernel_rfl) (deOne (f := avs_46) (W := wfu_46) (by kernel_rfl) (fun l h => deu_46 (d := d) l h)) h
  exact ⟨ys, h1, h2, h3⟩
def wfu_60 (x : nfa_builder) : Prop := wfu_36 x.nodes ∧ wfu_22 x.states ∧ wfu_58 x.behind
theorem deu_60 {d : Nat} (l : List AV) (h : tyC Go.Proofs.Try.prog upB (d + 5) 60 l) : ∃ x : nfa_builder, l = avs_60 x ∧ wfu_60 x := by
  have h := deStruct (d := d + 4) (ts := [36, 22, 58]) (by kernel_rfl) h
  obtain ⟨p0, q0, e0, h0, p1, q1, e1, h1, p2, q2, e2, h2, en⟩ := h
  obtain ⟨x0, f0, w0⟩ := deu_36 (d := d + 1) _ h0
  obtain ⟨x1, f1, w1⟩ := deu_22 (d := d + 0) _ h1
  obtain ⟨x2, f2, w2⟩ := deu_58 (d := d + 2) _ h2
  refine ⟨⟨x0, x1, x2⟩, ?_, w0, w1, w2⟩
  rw [e0, f0, e1, f1, e2, f2, en]
  rfl
def wfu_62 (x : nfa_part) : Prop := wfu_46 x.first ∧ wfu_46 x.last ∧ wfu_4 x.null
theorem deu_62 {d : Nat} (l : List AV) (h : tyC Go.Proofs.Try.prog upB (d + 2) 62 l) : ∃ x : nfa_part, l = avs_62 x ∧ wfu_62 x := by
  have h := deStruct (d := d + 1) (ts := [46, 46, 4]) (by kernel_rfl) h
  obtain ⟨p0, q0, e0, h0, p1, q1, e1, h1, p2, q2, e2, h2, en⟩ := h
  obtain ⟨x0, f0, w0⟩ := deu_46 (d := d + 0) _ h0
  obtain ⟨x1, f1, w1⟩ := deu_46 (d := d + 0) _ h1
  obtain ⟨x2, f2, w2⟩ := deu_4 (d := d + 0) _ h2
  refine ⟨⟨x0, x1, x2⟩, ?_, w0, w1, w2⟩
  rw [e0, f0, e1, f1, e2, f2, en]
  rfl
def wfu_77 (x : droverref17_Pool) : Prop := wfu_36 x.L ∧ wfu_25 x.Sizes
theorem deu_77 {d : Nat} (l : List AV) (h : tyC Go.Proofs.Try.prog upB (d + 4) 77 l) : ∃ x : droverref17_Pool, l = avs_77 x ∧ wfu_77 x := by
  have h := deStruct (d := d + 3) (ts := [36, 25]) (by kernel_rfl) h
  obtain ⟨p0, q0, e0, h0, p1, q1, e1, h1, en⟩ := h
  obtain ⟨x0, f0, w0⟩ := deu_36 (d := d + 0) _ h0
  obtain ⟨x1, f1, w1⟩ := deu_25 (d := d + 1) _ h1
  refine ⟨⟨x0, x1⟩, ?_, w0, w1⟩
  rw [e0, f0, e1, f1, en]
  rfl
end Go.Proofs.Nfa
