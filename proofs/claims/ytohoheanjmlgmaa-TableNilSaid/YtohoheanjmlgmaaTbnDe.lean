/- A part of a law's proof: TbnDe. -/
import Derived.KernelRfl
import Derived.Test.YtohoheanjmlgmaaProg
import Derived.Test.YtohoheanjmlgmaaSvDe
import Derived.Test.YtohoheanjmlgmaaTbnTy
set_option linter.unusedSimpArgs false
namespace Go.Proofs.Tbn
open Go Go.Ab
set_option linter.unusedVariables false
set_option linter.constructorNameAsVariable false
set_option maxRecDepth 1000000
def wf_3 (x : Int) : Prop := inK .i64 x
theorem de_3 {d : Nat} (l : List AV) (h : tyC Go.Proofs.Try.prog reachBytes (d + 1) 3 l) : ∃ x : Int, l = avs_3 x ∧ wf_3 x := deInt (by kernel_rfl) h
def wf_24 (x : Int) : Prop := inK .u64 x
theorem de_24 {d : Nat} (l : List AV) (h : tyC Go.Proofs.Try.prog reachBytes (d + 1) 24 l) : ∃ x : Int, l = avs_24 x ∧ wf_24 x := deInt (by kernel_rfl) h
def wf_59 (x : Test) : Prop := wf_3 x.Field ∧ wf_24 x.Value ∧ wf_24 x.Mask
theorem de_59 {d : Nat} (l : List AV) (h : tyC Go.Proofs.Try.prog reachBytes (d + 2) 59 l) : ∃ x : Test, l = avs_59 x ∧ wf_59 x := by
  have h := deStruct (d := d + 1) (ts := [3, 24, 24]) (by kernel_rfl) h
  obtain ⟨p0, q0, e0, h0, p1, q1, e1, h1, p2, q2, e2, h2, en⟩ := h
  obtain ⟨x0, f0, w0⟩ := de_3 (d := d + 0) _ h0
  obtain ⟨x1, f1, w1⟩ := de_24 (d := d + 0) _ h1
  obtain ⟨x2, f2, w2⟩ := de_24 (d := d + 0) _ h2
  refine ⟨⟨x0, x1, x2⟩, ?_, w0, w1, w2⟩
  rw [e0, f0, e1, f1, e2, f2, en]
  rfl
def wf_66 (x : Action) : Prop := wf_3 x.Kind ∧ wf_3 x.Field ∧ wf_24 x.Value
theorem de_66 {d : Nat} (l : List AV) (h : tyC Go.Proofs.Try.prog reachBytes (d + 2) 66 l) : ∃ x : Action, l = avs_66 x ∧ wf_66 x := by
  have h := deStruct (d := d + 1) (ts := [3, 3, 24]) (by kernel_rfl) h
  obtain ⟨p0, q0, e0, h0, p1, q1, e1, h1, p2, q2, e2, h2, en⟩ := h
  obtain ⟨x0, f0, w0⟩ := de_3 (d := d + 0) _ h0
  obtain ⟨x1, f1, w1⟩ := de_3 (d := d + 0) _ h1
  obtain ⟨x2, f2, w2⟩ := de_24 (d := d + 0) _ h2
  refine ⟨⟨x0, x1, x2⟩, ?_, w0, w1, w2⟩
  rw [e0, f0, e1, f1, e2, f2, en]
  rfl
def wf_22 (x : (List Test)) : Prop := x.length ≤ reachBytes ∧ ∀ y ∈ x, wf_59 y
theorem de_22 {d : Nat} (l : List AV) (h : tyC Go.Proofs.Try.prog reachBytes (d + 3) 22 l) : ∃ x : (List Test), l = avs_22 x ∧ wf_22 x := by
  obtain ⟨ys, h1, h2, h3⟩ := deSlice (d := d + 2) (by kernel_rfl) (by kernel_rfl) (by kernel_rfl) (deAgg (f := avs_59) (W := wf_59) (by kernel_rfl) (fun l h => de_59 (d := d) l h)) h
  exact ⟨ys, h1, h2, h3⟩
def wf_23 (x : (List Action)) : Prop := x.length ≤ reachBytes ∧ ∀ y ∈ x, wf_66 y
theorem de_23 {d : Nat} (l : List AV) (h : tyC Go.Proofs.Try.prog reachBytes (d + 3) 23 l) : ∃ x : (List Action), l = avs_23 x ∧ wf_23 x := by
  obtain ⟨ys, h1, h2, h3⟩ := deSlice (d := d + 2) (by kernel_rfl) (by kernel_rfl) (by kernel_rfl) (deAgg (f := avs_66) (W := wf_66) (by kernel_rfl) (fun l h => de_66 (d := d) l h)) h
  exact ⟨ys, h1, h2, h3⟩
def wf_4 (x : Bool) : Prop := True
theorem de_4 {d : Nat} (l : List AV) (h : tyC Go.Proofs.Try.prog reachBytes (d + 1) 4 l) : ∃ x : Bool, l = avs_4 x ∧ wf_4 x := by obtain ⟨b, hb⟩ := deBool (by kernel_rfl) h; exact ⟨b, hb, trivial⟩
def wf_26 (x : Entry) : Prop := wf_3 x.Table ∧ wf_3 x.Priority ∧ wf_22 x.Tests ∧ wf_23 x.Apply ∧ wf_23 x.Write ∧ wf_4 x.Clear ∧ wf_24 x.Meta ∧ wf_24 x.MetaMask ∧ wf_3 x.Meter ∧ wf_3 x.Goto
theorem de_26 {d : Nat} (l : List AV) (h : tyC Go.Proofs.Try.prog reachBytes (d + 4) 26 l) : ∃ x : Entry, l = avs_26 x ∧ wf_26 x := by
  have h := deStruct (d := d + 3) (ts := [3, 3, 22, 23, 23, 4, 24, 24, 3, 3]) (by kernel_rfl) h
  obtain ⟨p0, q0, e0, h0, p1, q1, e1, h1, p2, q2, e2, h2, p3, q3, e3, h3, p4, q4, e4, h4, p5, q5, e5, h5, p6, q6, e6, h6, p7, q7, e7, h7, p8, q8, e8, h8, p9, q9, e9, h9, en⟩ := h
  obtain ⟨x0, f0, w0⟩ := de_3 (d := d + 2) _ h0
  obtain ⟨x1, f1, w1⟩ := de_3 (d := d + 2) _ h1
  obtain ⟨x2, f2, w2⟩ := de_22 (d := d + 0) _ h2
  obtain ⟨x3, f3, w3⟩ := de_23 (d := d + 0) _ h3
  obtain ⟨x4, f4, w4⟩ := de_23 (d := d + 0) _ h4
  obtain ⟨x5, f5, w5⟩ := de_4 (d := d + 2) _ h5
  obtain ⟨x6, f6, w6⟩ := de_24 (d := d + 2) _ h6
  obtain ⟨x7, f7, w7⟩ := de_24 (d := d + 2) _ h7
  obtain ⟨x8, f8, w8⟩ := de_3 (d := d + 2) _ h8
  obtain ⟨x9, f9, w9⟩ := de_3 (d := d + 2) _ h9
  refine ⟨⟨x0, x1, x2, x3, x4, x5, x6, x7, x8, x9⟩, ?_, w0, w1, w2, w3, w4, w5, w6, w7, w8, w9⟩
  rw [e0, f0, e1, f1, e2, f2, e3, f3, e4, f4, e5, f5, e6, f6, e7, f7, e8, f8, e9, f9, en]
  rfl
def wf_27 (x : Int) : Prop := inK .u32 x
theorem de_27 {d : Nat} (l : List AV) (h : tyC Go.Proofs.Try.prog reachBytes (d + 1) 27 l) : ∃ x : Int, l = avs_27 x ∧ wf_27 x := deInt (by kernel_rfl) h
def wf_9 (x : List UInt8) : Prop := x.length ≤ reachBytes
theorem de_9 {d : Nat} (l : List AV) (h : tyC Go.Proofs.Try.prog reachBytes (d + 1) 9 l) : ∃ x : List UInt8, l = avs_9 x ∧ wf_9 x := deStr (by kernel_rfl) h
def wf_29 (x : Packet) : Prop := wf_24 x.To ∧ wf_24 x.From ∧ wf_3 x.Vlan ∧ wf_3 x.Type_ ∧ wf_27 x.Src ∧ wf_27 x.Dst ∧ wf_3 x.Life ∧ wf_3 x.Proto ∧ wf_3 x.Sport ∧ wf_3 x.Dport ∧ wf_9 x.Data
theorem de_29 {d : Nat} (l : List AV) (h : tyC Go.Proofs.Try.prog reachBytes (d + 2) 29 l) : ∃ x : Packet, l = avs_29 x ∧ wf_29 x := by
  have h := deStruct (d := d + 1) (ts := [24, 24, 3, 3, 27, 27, 3, 3, 3, 3, 9]) (by kernel_rfl) h
  obtain ⟨p0, q0, e0, h0, p1, q1, e1, h1, p2, q2, e2, h2, p3, q3, e3, h3, p4, q4, e4, h4, p5, q5, e5, h5, p6, q6, e6, h6, p7, q7, e7, h7, p8, q8, e8, h8, p9, q9, e9, h9, p10, q10, e10, h10, en⟩ := h
  obtain ⟨x0, f0, w0⟩ := de_24 (d := d + 0) _ h0
  obtain ⟨x1, f1, w1⟩ := de_24 (d := d + 0) _ h1
  obtain ⟨x2, f2, w2⟩ := de_3 (d := d + 0) _ h2
  obtain ⟨x3, f3, w3⟩ := de_3 (d := d + 0) _ h3
  obtain ⟨x4, f4, w4⟩ := de_27 (d := d + 0) _ h4
  obtain ⟨x5, f5, w5⟩ := de_27 (d := d + 0) _ h5
  obtain ⟨x6, f6, w6⟩ := de_3 (d := d + 0) _ h6
  obtain ⟨x7, f7, w7⟩ := de_3 (d := d + 0) _ h7
  obtain ⟨x8, f8, w8⟩ := de_3 (d := d + 0) _ h8
  obtain ⟨x9, f9, w9⟩ := de_3 (d := d + 0) _ h9
  obtain ⟨x10, f10, w10⟩ := de_9 (d := d + 0) _ h10
  refine ⟨⟨x0, x1, x2, x3, x4, x5, x6, x7, x8, x9, x10⟩, ?_, w0, w1, w2, w3, w4, w5, w6, w7, w8, w9, w10⟩
  rw [e0, f0, e1, f1, e2, f2, e3, f3, e4, f4, e5, f5, e6, f6, e7, f7, e8, f8, e9, f9, e10, f10, en]
  rfl
def wf_31 (x : field_Seen) : Prop := wf_3 x.In ∧ wf_24 x.Meta ∧ wf_29 x.P
theorem de_31 {d : Nat} (l : List AV) (h : tyC Go.Proofs.Try.prog reachBytes (d + 3) 31 l) : ∃ x : field_Seen, l = avs_31 x ∧ wf_31 x := by
  have h := deStruct (d := d + 2) (ts := [3, 24, 29]) (by kernel_rfl) h
  obtain ⟨p0, q0, e0, h0, p1, q1, e1, h1, p2, q2, e2, h2, en⟩ := h
  obtain ⟨x0, f0, w0⟩ := de_3 (d := d + 1) _ h0
  obtain ⟨x1, f1, w1⟩ := de_24 (d := d + 1) _ h1
  obtain ⟨x2, f2, w2⟩ := de_29 (d := d + 0) _ h2
  refine ⟨⟨x0, x1, x2⟩, ?_, w0, w1, w2⟩
  rw [e0, f0, e1, f1, e2, f2, en]
  rfl
def wf_5 (x : Int) : Prop := inK .u8 x
theorem de_5 {d : Nat} (l : List AV) (h : tyC Go.Proofs.Try.prog reachBytes (d + 1) 5 l) : ∃ x : Int, l = avs_5 x ∧ wf_5 x := deInt (by kernel_rfl) h
end Go.Proofs.Tbn
