/- A part of a law's proof: DfaDe. -/
import Derived.KernelRfl
import Derived.Test.YthhbggmlfilpdaaDoorDfaTy
import Derived.Test.YthhbggmlfilpdaaDoorProg
import Derived.Test.YthhbggmlfilpdaaDoorSvDe
set_option linter.unusedSimpArgs false
namespace Go.Proofs.Dfa
open Go Go.Ab
set_option linter.unusedVariables false
set_option linter.constructorNameAsVariable false
set_option maxRecDepth 1000000
def wf_3 (x : Int) : Prop := inK .i64 x
theorem de_3 {d : Nat} (l : List AV) (h : tyC Go.Proofs.Tryd.prog reachBytes (d + 1) 3 l) : ∃ x : Int, l = avs_3 x ∧ wf_3 x := deInt (by kernel_rfl) h
def wf_104 (x : ExprNode) : Prop := wf_3 x.Kind ∧ wf_3 x.Switch ∧ wf_3 x.A ∧ wf_3 x.B
theorem de_104 {d : Nat} (l : List AV) (h : tyC Go.Proofs.Tryd.prog reachBytes (d + 2) 104 l) : ∃ x : ExprNode, l = avs_104 x ∧ wf_104 x := by
  have h := deStruct (d := d + 1) (ts := [3, 3, 3, 3]) (by kernel_rfl) h
  obtain ⟨p0, q0, e0, h0, p1, q1, e1, h1, p2, q2, e2, h2, p3, q3, e3, h3, en⟩ := h
  obtain ⟨x0, f0, w0⟩ := de_3 (d := d + 0) _ h0
  obtain ⟨x1, f1, w1⟩ := de_3 (d := d + 0) _ h1
  obtain ⟨x2, f2, w2⟩ := de_3 (d := d + 0) _ h2
  obtain ⟨x3, f3, w3⟩ := de_3 (d := d + 0) _ h3
  refine ⟨⟨x0, x1, x2, x3⟩, ?_, w0, w1, w2, w3⟩
  rw [e0, f0, e1, f1, e2, f2, e3, f3, en]
  rfl
def wf_22 (x : (List ExprNode)) : Prop := x.length <= reachBytes ∧ ∀ y ∈ x, wf_104 y
theorem de_22 {d : Nat} (l : List AV) (h : tyC Go.Proofs.Tryd.prog reachBytes (d + 3) 22 l) : ∃ x : (List ExprNode), l = avs_22 x ∧ wf_22 x := by
  obtain ⟨ys, h1, h2, h3⟩ := deSlice (d := d + 2) (by kernel_rfl) (by kernel_rfl) (by kernel_rfl) (deAgg (f := avs_104) (W := wf_104) (by kernel_rfl) (fun l h => de_104 (d := d) l h)) h
  exact ⟨ys, h1, h2, h3⟩
def wf_24 (x : Expr) : Prop := wf_22 x.Nodes
theorem de_24 {d : Nat} (l : List AV) (h : tyC Go.Proofs.Tryd.prog reachBytes (d + 4) 24 l) : ∃ x : Expr, l = avs_24 x ∧ wf_24 x := by
  have h := deStruct (d := d + 3) (ts := [22]) (by kernel_rfl) h
  obtain ⟨p0, q0, e0, h0, en⟩ := h
  obtain ⟨x0, f0, w0⟩ := de_22 (d := d + 0) _ h0
  refine ⟨⟨x0⟩, ?_, w0⟩
  rw [e0, f0, en]
  rfl
def wf_4 (x : Bool) : Prop := True
theorem de_4 {d : Nat} (l : List AV) (h : tyC Go.Proofs.Tryd.prog reachBytes (d + 1) 4 l) : ∃ x : Bool, l = avs_4 x ∧ wf_4 x := by obtain ⟨b, hb⟩ := deBool (by kernel_rfl) h; exact ⟨b, hb, trivial⟩
def wf_40 (x : (List Int)) : Prop := x.length <= reachBytes ∧ ∀ y ∈ x, wf_3 y
theorem de_40 {d : Nat} (l : List AV) (h : tyC Go.Proofs.Tryd.prog reachBytes (d + 2) 40 l) : ∃ x : (List Int), l = avs_40 x ∧ wf_40 x := by
  obtain ⟨ys, h1, h2, h3⟩ := deSlice (d := d + 1) (by kernel_rfl) (by kernel_rfl) (by kernel_rfl) (deOne (f := avs_3) (W := wf_3) (by kernel_rfl) (fun l h => de_3 (d := d) l h)) h
  exact ⟨ys, h1, h2, h3⟩
def wf_69 (x : NfaState) : Prop := wf_3 x.Switch ∧ wf_4 x.Ends ∧ wf_40 x.Next
theorem de_69 {d : Nat} (l : List AV) (h : tyC Go.Proofs.Tryd.prog reachBytes (d + 3) 69 l) : ∃ x : NfaState, l = avs_69 x ∧ wf_69 x := by
  have h := deStruct (d := d + 2) (ts := [3, 4, 40]) (by kernel_rfl) h
  obtain ⟨p0, q0, e0, h0, p1, q1, e1, h1, p2, q2, e2, h2, en⟩ := h
  obtain ⟨x0, f0, w0⟩ := de_3 (d := d + 1) _ h0
  obtain ⟨x1, f1, w1⟩ := de_4 (d := d + 1) _ h1
  obtain ⟨x2, f2, w2⟩ := de_40 (d := d + 0) _ h2
  refine ⟨⟨x0, x1, x2⟩, ?_, w0, w1, w2⟩
  rw [e0, f0, e1, f1, e2, f2, en]
  rfl
def wf_28 (x : (List NfaState)) : Prop := x.length <= reachBytes ∧ ∀ y ∈ x, wf_69 y
theorem de_28 {d : Nat} (l : List AV) (h : tyC Go.Proofs.Tryd.prog reachBytes (d + 4) 28 l) : ∃ x : (List NfaState), l = avs_28 x ∧ wf_28 x := by
  obtain ⟨ys, h1, h2, h3⟩ := deSlice (d := d + 3) (by kernel_rfl) (by kernel_rfl) (by kernel_rfl) (deAgg (f := avs_69) (W := wf_69) (by kernel_rfl) (fun l h => de_69 (d := d) l h)) h
  exact ⟨ys, h1, h2, h3⟩
def wf_30 (x : Nfa) : Prop := wf_28 x.States
theorem de_30 {d : Nat} (l : List AV) (h : tyC Go.Proofs.Tryd.prog reachBytes (d + 5) 30 l) : ∃ x : Nfa, l = avs_30 x ∧ wf_30 x := by
  have h := deStruct (d := d + 4) (ts := [28]) (by kernel_rfl) h
  obtain ⟨p0, q0, e0, h0, en⟩ := h
  obtain ⟨x0, f0, w0⟩ := de_28 (d := d + 0) _ h0
  refine ⟨⟨x0⟩, ?_, w0⟩
  rw [e0, f0, en]
  rfl
def wf_33 (x : (List (List Int))) : Prop := x.length <= reachBytes ∧ ∀ y ∈ x, wf_40 y
theorem de_33 {d : Nat} (l : List AV) (h : tyC Go.Proofs.Tryd.prog reachBytes (d + 3) 33 l) : ∃ x : (List (List Int)), l = avs_33 x ∧ wf_33 x := by
  obtain ⟨ys, h1, h2, h3⟩ := deSlice (d := d + 2) (by kernel_rfl) (by kernel_rfl) (by kernel_rfl) (deOne (f := avs_40) (W := wf_40) (by kernel_rfl) (fun l h => de_40 (d := d) l h)) h
  exact ⟨ys, h1, h2, h3⟩
def wf_34 (x : (List Bool)) : Prop := x.length <= reachBytes ∧ ∀ y ∈ x, wf_4 y
theorem de_34 {d : Nat} (l : List AV) (h : tyC Go.Proofs.Tryd.prog reachBytes (d + 2) 34 l) : ∃ x : (List Bool), l = avs_34 x ∧ wf_34 x := by
  obtain ⟨ys, h1, h2, h3⟩ := deSlice (d := d + 1) (by kernel_rfl) (by kernel_rfl) (by kernel_rfl) (deOne (f := avs_4) (W := wf_4) (by kernel_rfl) (fun l h => de_4 (d := d) l h)) h
  exact ⟨ys, h1, h2, h3⟩
def wf_36 (x : Dfa) : Prop := wf_3 x.Switches ∧ wf_33 x.Next ∧ wf_34 x.Ends
theorem de_36 {d : Nat} (l : List AV) (h : tyC Go.Proofs.Tryd.prog reachBytes (d + 4) 36 l) : ∃ x : Dfa, l = avs_36 x ∧ wf_36 x := by
  have h := deStruct (d := d + 3) (ts := [3, 33, 34]) (by kernel_rfl) h
  obtain ⟨p0, q0, e0, h0, p1, q1, e1, h1, p2, q2, e2, h2, en⟩ := h
  obtain ⟨x0, f0, w0⟩ := de_3 (d := d + 2) _ h0
  obtain ⟨x1, f1, w1⟩ := de_33 (d := d + 0) _ h1
  obtain ⟨x2, f2, w2⟩ := de_34 (d := d + 1) _ h2
  refine ⟨⟨x0, x1, x2⟩, ?_, w0, w1, w2⟩
  rw [e0, f0, e1, f1, e2, f2, en]
  rfl
def wf_5 (x : Int) : Prop := inK .u8 x
theorem de_5 {d : Nat} (l : List AV) (h : tyC Go.Proofs.Tryd.prog reachBytes (d + 1) 5 l) : ∃ x : Int, l = avs_5 x ∧ wf_5 x := deInt (by kernel_rfl) h
def wf_96 (x : droverref17_Token) : Prop := wf_5 x.Sign ∧ wf_3 x.N
theorem de_96 {d : Nat} (l : List AV) (h : tyC Go.Proofs.Tryd.prog reachBytes (d + 2) 96 l) : ∃ x : droverref17_Token, l = avs_96 x ∧ wf_96 x := by
  have h := deStruct (d := d + 1) (ts := [5, 3]) (by kernel_rfl) h
  obtain ⟨p0, q0, e0, h0, p1, q1, e1, h1, en⟩ := h
  obtain ⟨x0, f0, w0⟩ := de_5 (d := d + 0) _ h0
  obtain ⟨x1, f1, w1⟩ := de_3 (d := d + 0) _ h1
  refine ⟨⟨x0, x1⟩, ?_, w0, w1⟩
  rw [e0, f0, e1, f1, en]
  rfl
def wf_59 (x : (List droverref17_Token)) : Prop := x.length <= reachBytes ∧ ∀ y ∈ x, wf_96 y
theorem de_59 {d : Nat} (l : List AV) (h : tyC Go.Proofs.Tryd.prog reachBytes (d + 3) 59 l) : ∃ x : (List droverref17_Token), l = avs_59 x ∧ wf_59 x := by
  obtain ⟨ys, h1, h2, h3⟩ := deSlice (d := d + 2) (by kernel_rfl) (by kernel_rfl) (by kernel_rfl) (deAgg (f := avs_96) (W := wf_96) (by kernel_rfl) (fun l h => de_96 (d := d) l h)) h
  exact ⟨ys, h1, h2, h3⟩
def wf_64 (x : droverref17_Reading) : Prop := wf_59 x.L ∧ wf_3 x.At ∧ wf_3 x.Deep ∧ wf_3 x.Most ∧ wf_4 x.Bad
theorem de_64 {d : Nat} (l : List AV) (h : tyC Go.Proofs.Tryd.prog reachBytes (d + 4) 64 l) : ∃ x : droverref17_Reading, l = avs_64 x ∧ wf_64 x := by
  have h := deStruct (d := d + 3) (ts := [59, 3, 3, 3, 4]) (by kernel_rfl) h
  obtain ⟨p0, q0, e0, h0, p1, q1, e1, h1, p2, q2, e2, h2, p3, q3, e3, h3, p4, q4, e4, h4, en⟩ := h
  obtain ⟨x0, f0, w0⟩ := de_59 (d := d + 0) _ h0
  obtain ⟨x1, f1, w1⟩ := de_3 (d := d + 2) _ h1
  obtain ⟨x2, f2, w2⟩ := de_3 (d := d + 2) _ h2
  obtain ⟨x3, f3, w3⟩ := de_3 (d := d + 2) _ h3
  obtain ⟨x4, f4, w4⟩ := de_4 (d := d + 2) _ h4
  refine ⟨⟨x0, x1, x2, x3, x4⟩, ?_, w0, w1, w2, w3, w4⟩
  rw [e0, f0, e1, f1, e2, f2, e3, f3, e4, f4, en]
  rfl
def wf_71 (x : droverref18_Making) : Prop := wf_28 x.L ∧ wf_33 x.Behind
theorem de_71 {d : Nat} (l : List AV) (h : tyC Go.Proofs.Tryd.prog reachBytes (d + 5) 71 l) : ∃ x : droverref18_Making, l = avs_71 x ∧ wf_71 x := by
  have h := deStruct (d := d + 4) (ts := [28, 33]) (by kernel_rfl) h
  obtain ⟨p0, q0, e0, h0, p1, q1, e1, h1, en⟩ := h
  obtain ⟨x0, f0, w0⟩ := de_28 (d := d + 0) _ h0
  obtain ⟨x1, f1, w1⟩ := de_33 (d := d + 1) _ h1
  refine ⟨⟨x0, x1⟩, ?_, w0, w1⟩
  rw [e0, f0, e1, f1, en]
  rfl
def wf_73 (x : droverref18_Glue) : Prop := wf_40 x.First ∧ wf_40 x.Last ∧ wf_4 x.Null
theorem de_73 {d : Nat} (l : List AV) (h : tyC Go.Proofs.Tryd.prog reachBytes (d + 3) 73 l) : ∃ x : droverref18_Glue, l = avs_73 x ∧ wf_73 x := by
  have h := deStruct (d := d + 2) (ts := [40, 40, 4]) (by kernel_rfl) h
  obtain ⟨p0, q0, e0, h0, p1, q1, e1, h1, p2, q2, e2, h2, en⟩ := h
  obtain ⟨x0, f0, w0⟩ := de_40 (d := d + 0) _ h0
  obtain ⟨x1, f1, w1⟩ := de_40 (d := d + 0) _ h1
  obtain ⟨x2, f2, w2⟩ := de_4 (d := d + 1) _ h2
  refine ⟨⟨x0, x1, x2⟩, ?_, w0, w1, w2⟩
  rw [e0, f0, e1, f1, e2, f2, en]
  rfl
def wf_83 (x : Int) : Prop := inK .u64 x
theorem de_83 {d : Nat} (l : List AV) (h : tyC Go.Proofs.Tryd.prog reachBytes (d + 1) 83 l) : ∃ x : Int, l = avs_83 x ∧ wf_83 x := deInt (by kernel_rfl) h
def wf_93 (x : dfa_pair) : Prop := wf_3 x.a ∧ wf_3 x.b
theorem de_93 {d : Nat} (l : List AV) (h : tyC Go.Proofs.Tryd.prog reachBytes (d + 2) 93 l) : ∃ x : dfa_pair, l = avs_93 x ∧ wf_93 x := by
  have h := deStruct (d := d + 1) (ts := [3, 3]) (by kernel_rfl) h
  obtain ⟨p0, q0, e0, h0, p1, q1, e1, h1, en⟩ := h
  obtain ⟨x0, f0, w0⟩ := de_3 (d := d + 0) _ h0
  obtain ⟨x1, f1, w1⟩ := de_3 (d := d + 0) _ h1
  refine ⟨⟨x0, x1⟩, ?_, w0, w1⟩
  rw [e0, f0, e1, f1, en]
  rfl
def wf_101 (x : droverref17_Pool) : Prop := wf_22 x.L ∧ wf_40 x.Sizes
theorem de_101 {d : Nat} (l : List AV) (h : tyC Go.Proofs.Tryd.prog reachBytes (d + 4) 101 l) : ∃ x : droverref17_Pool, l = avs_101 x ∧ wf_101 x := by
  have h := deStruct (d := d + 3) (ts := [22, 40]) (by kernel_rfl) h
  obtain ⟨p0, q0, e0, h0, p1, q1, e1, h1, en⟩ := h
  obtain ⟨x0, f0, w0⟩ := de_22 (d := d + 0) _ h0
  obtain ⟨x1, f1, w1⟩ := de_40 (d := d + 1) _ h1
  refine ⟨⟨x0, x1⟩, ?_, w0, w1⟩
  rw [e0, f0, e1, f1, en]
  rfl
def wf_9 (x : List UInt8) : Prop := x.length <= reachBytes
theorem de_9 {d : Nat} (l : List AV) (h : tyC Go.Proofs.Tryd.prog reachBytes (d + 1) 9 l) : ∃ x : List UInt8, l = avs_9 x ∧ wf_9 x := deStr (by kernel_rfl) h
end Go.Proofs.Dfa
