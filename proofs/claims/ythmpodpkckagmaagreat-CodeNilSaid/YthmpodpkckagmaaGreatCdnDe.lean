/- A part of the proof of CodeNil: CdnDe. -/
import Derived.Test.YthmpodpkckagmaaGreatProg
import Derived.Test.YthmpodpkckagmaaGreatCdnTy
import Derived.Test.YthmpodpkckagmaaGreatSvDe
import Derived.KernelRfl
set_option linter.unusedSimpArgs false
namespace Go.Proofs.Cdn
open Go Go.Ab
set_option linter.unusedVariables false
set_option linter.constructorNameAsVariable false
set_option maxRecDepth 1000000
def wf_3 (x : Int) : Prop := inK .i64 x
theorem de_3 {d : Nat} (l : List AV) (h : tyC Go.Proofs.Tryz.prog (d + 1) 3 l) : ∃ x : Int, l = avs_3 x ∧ wf_3 x := deInt (by kernel_rfl) h
def wf_51 (x : Int) : Prop := inK .u64 x
theorem de_51 {d : Nat} (l : List AV) (h : tyC Go.Proofs.Tryz.prog (d + 1) 51 l) : ∃ x : Int, l = avs_51 x ∧ wf_51 x := deInt (by kernel_rfl) h
def wf_53 (x : Test) : Prop := wf_3 x.Field ∧ wf_51 x.Value ∧ wf_51 x.Mask
theorem de_53 {d : Nat} (l : List AV) (h : tyC Go.Proofs.Tryz.prog (d + 2) 53 l) : ∃ x : Test, l = avs_53 x ∧ wf_53 x := by
  have h := deStruct (d := d + 1) (ts := [3, 51, 51]) (by kernel_rfl) h
  obtain ⟨p0, q0, e0, h0, p1, q1, e1, h1, p2, q2, e2, h2, en⟩ := h
  obtain ⟨x0, f0, w0⟩ := de_3 (d := d + 0) _ h0
  obtain ⟨x1, f1, w1⟩ := de_51 (d := d + 0) _ h1
  obtain ⟨x2, f2, w2⟩ := de_51 (d := d + 0) _ h2
  refine ⟨⟨x0, x1, x2⟩, ?_, w0, w1, w2⟩
  rw [e0, f0, e1, f1, e2, f2, en]
  rfl
def wf_48 (x : (List Test)) : Prop := x.length ≤ reachBytes ∧ ∀ y ∈ x, wf_53 y
theorem de_48 {d : Nat} (l : List AV) (h : tyC Go.Proofs.Tryz.prog (d + 3) 48 l) : ∃ x : (List Test), l = avs_48 x ∧ wf_48 x := by
  obtain ⟨ys, h1, h2, h3⟩ := deSlice (d := d + 2) (by kernel_rfl) (by kernel_rfl) (by kernel_rfl) (deAgg (f := avs_53) (W := wf_53) (by kernel_rfl) (fun l h => de_53 (d := d) l h)) h
  exact ⟨ys, h1, h2, h3⟩
def wf_36 (x : (List (List Test))) : Prop := x.length ≤ reachBytes ∧ ∀ y ∈ x, wf_48 y
theorem de_36 {d : Nat} (l : List AV) (h : tyC Go.Proofs.Tryz.prog (d + 4) 36 l) : ∃ x : (List (List Test)), l = avs_36 x ∧ wf_36 x := by
  obtain ⟨ys, h1, h2, h3⟩ := deSlice (d := d + 3) (by kernel_rfl) (by kernel_rfl) (by kernel_rfl) (deOne (f := avs_48) (W := wf_48) (by kernel_rfl) (fun l h => de_48 (d := d) l h)) h
  exact ⟨ys, h1, h2, h3⟩
def wf_38 (x : code_Rule) : Prop := wf_36 x.Cubes ∧ wf_3 x.Rate ∧ wf_3 x.Room
theorem de_38 {d : Nat} (l : List AV) (h : tyC Go.Proofs.Tryz.prog (d + 5) 38 l) : ∃ x : code_Rule, l = avs_38 x ∧ wf_38 x := by
  have h := deStruct (d := d + 4) (ts := [36, 3, 3]) (by kernel_rfl) h
  obtain ⟨p0, q0, e0, h0, p1, q1, e1, h1, p2, q2, e2, h2, en⟩ := h
  obtain ⟨x0, f0, w0⟩ := de_36 (d := d + 0) _ h0
  obtain ⟨x1, f1, w1⟩ := de_3 (d := d + 3) _ h1
  obtain ⟨x2, f2, w2⟩ := de_3 (d := d + 3) _ h2
  refine ⟨⟨x0, x1, x2⟩, ?_, w0, w1, w2⟩
  rw [e0, f0, e1, f1, e2, f2, en]
  rfl
def wf_9 (x : List UInt8) : Prop := x.length ≤ reachBytes
theorem de_9 {d : Nat} (l : List AV) (h : tyC Go.Proofs.Tryz.prog (d + 1) 9 l) : ∃ x : List UInt8, l = avs_9 x ∧ wf_9 x := deStr (by kernel_rfl) h
def wf_40 (x : (List (List UInt8))) : Prop := x.length ≤ reachBytes ∧ ∀ y ∈ x, wf_9 y
theorem de_40 {d : Nat} (l : List AV) (h : tyC Go.Proofs.Tryz.prog (d + 2) 40 l) : ∃ x : (List (List UInt8)), l = avs_40 x ∧ wf_40 x := by
  obtain ⟨ys, h1, h2, h3⟩ := deSlice (d := d + 1) (by kernel_rfl) (by kernel_rfl) (by kernel_rfl) (deOne (f := avs_9) (W := wf_9) (by kernel_rfl) (fun l h => de_9 (d := d) l h)) h
  exact ⟨ys, h1, h2, h3⟩
def wf_81 (x : (List Int)) : Prop := x.length ≤ reachBytes ∧ ∀ y ∈ x, wf_3 y
theorem de_81 {d : Nat} (l : List AV) (h : tyC Go.Proofs.Tryz.prog (d + 2) 81 l) : ∃ x : (List Int), l = avs_81 x ∧ wf_81 x := by
  obtain ⟨ys, h1, h2, h3⟩ := deSlice (d := d + 1) (by kernel_rfl) (by kernel_rfl) (by kernel_rfl) (deOne (f := avs_3) (W := wf_3) (by kernel_rfl) (fun l h => de_3 (d := d) l h)) h
  exact ⟨ys, h1, h2, h3⟩
def wf_83 (x : plan_Node) : Prop := wf_3 x.Switch ∧ wf_3 x.Job ∧ wf_3 x.Host ∧ wf_3 x.State ∧ wf_81 x.Down
theorem de_83 {d : Nat} (l : List AV) (h : tyC Go.Proofs.Tryz.prog (d + 3) 83 l) : ∃ x : plan_Node, l = avs_83 x ∧ wf_83 x := by
  have h := deStruct (d := d + 2) (ts := [3, 3, 3, 3, 81]) (by kernel_rfl) h
  obtain ⟨p0, q0, e0, h0, p1, q1, e1, h1, p2, q2, e2, h2, p3, q3, e3, h3, p4, q4, e4, h4, en⟩ := h
  obtain ⟨x0, f0, w0⟩ := de_3 (d := d + 1) _ h0
  obtain ⟨x1, f1, w1⟩ := de_3 (d := d + 1) _ h1
  obtain ⟨x2, f2, w2⟩ := de_3 (d := d + 1) _ h2
  obtain ⟨x3, f3, w3⟩ := de_3 (d := d + 1) _ h3
  obtain ⟨x4, f4, w4⟩ := de_81 (d := d + 0) _ h4
  refine ⟨⟨x0, x1, x2, x3, x4⟩, ?_, w0, w1, w2, w3, w4⟩
  rw [e0, f0, e1, f1, e2, f2, e3, f3, e4, f4, en]
  rfl
def wf_87 (x : plan_Hop) : Prop := wf_3 x.Port ∧ wf_3 x.Node
theorem de_87 {d : Nat} (l : List AV) (h : tyC Go.Proofs.Tryz.prog (d + 2) 87 l) : ∃ x : plan_Hop, l = avs_87 x ∧ wf_87 x := by
  have h := deStruct (d := d + 1) (ts := [3, 3]) (by kernel_rfl) h
  obtain ⟨p0, q0, e0, h0, p1, q1, e1, h1, en⟩ := h
  obtain ⟨x0, f0, w0⟩ := de_3 (d := d + 0) _ h0
  obtain ⟨x1, f1, w1⟩ := de_3 (d := d + 0) _ h1
  refine ⟨⟨x0, x1⟩, ?_, w0, w1⟩
  rw [e0, f0, e1, f1, en]
  rfl
def wf_84 (x : (List plan_Hop)) : Prop := x.length ≤ reachBytes ∧ ∀ y ∈ x, wf_87 y
theorem de_84 {d : Nat} (l : List AV) (h : tyC Go.Proofs.Tryz.prog (d + 3) 84 l) : ∃ x : (List plan_Hop), l = avs_84 x ∧ wf_84 x := by
  obtain ⟨ys, h1, h2, h3⟩ := deSlice (d := d + 2) (by kernel_rfl) (by kernel_rfl) (by kernel_rfl) (deAgg (f := avs_87) (W := wf_87) (by kernel_rfl) (fun l h => de_87 (d := d) l h)) h
  exact ⟨ys, h1, h2, h3⟩
def wf_57 (x : plan_Start) : Prop := wf_3 x.Job ∧ wf_3 x.From ∧ wf_3 x.Host ∧ wf_3 x.Node
theorem de_57 {d : Nat} (l : List AV) (h : tyC Go.Proofs.Tryz.prog (d + 2) 57 l) : ∃ x : plan_Start, l = avs_57 x ∧ wf_57 x := by
  have h := deStruct (d := d + 1) (ts := [3, 3, 3, 3]) (by kernel_rfl) h
  obtain ⟨p0, q0, e0, h0, p1, q1, e1, h1, p2, q2, e2, h2, p3, q3, e3, h3, en⟩ := h
  obtain ⟨x0, f0, w0⟩ := de_3 (d := d + 0) _ h0
  obtain ⟨x1, f1, w1⟩ := de_3 (d := d + 0) _ h1
  obtain ⟨x2, f2, w2⟩ := de_3 (d := d + 0) _ h2
  obtain ⟨x3, f3, w3⟩ := de_3 (d := d + 0) _ h3
  refine ⟨⟨x0, x1, x2, x3⟩, ?_, w0, w1, w2, w3⟩
  rw [e0, f0, e1, f1, e2, f2, e3, f3, en]
  rfl
def wf_27 (x : (List plan_Node)) : Prop := x.length ≤ reachBytes ∧ ∀ y ∈ x, wf_83 y
theorem de_27 {d : Nat} (l : List AV) (h : tyC Go.Proofs.Tryz.prog (d + 4) 27 l) : ∃ x : (List plan_Node), l = avs_27 x ∧ wf_27 x := by
  obtain ⟨ys, h1, h2, h3⟩ := deSlice (d := d + 3) (by kernel_rfl) (by kernel_rfl) (by kernel_rfl) (deAgg (f := avs_83) (W := wf_83) (by kernel_rfl) (fun l h => de_83 (d := d) l h)) h
  exact ⟨ys, h1, h2, h3⟩
def wf_28 (x : (List (List plan_Hop))) : Prop := x.length ≤ reachBytes ∧ ∀ y ∈ x, wf_84 y
theorem de_28 {d : Nat} (l : List AV) (h : tyC Go.Proofs.Tryz.prog (d + 4) 28 l) : ∃ x : (List (List plan_Hop)), l = avs_28 x ∧ wf_28 x := by
  obtain ⟨ys, h1, h2, h3⟩ := deSlice (d := d + 3) (by kernel_rfl) (by kernel_rfl) (by kernel_rfl) (deOne (f := avs_84) (W := wf_84) (by kernel_rfl) (fun l h => de_84 (d := d) l h)) h
  exact ⟨ys, h1, h2, h3⟩
def wf_29 (x : (List plan_Start)) : Prop := x.length ≤ reachBytes ∧ ∀ y ∈ x, wf_57 y
theorem de_29 {d : Nat} (l : List AV) (h : tyC Go.Proofs.Tryz.prog (d + 3) 29 l) : ∃ x : (List plan_Start), l = avs_29 x ∧ wf_29 x := by
  obtain ⟨ys, h1, h2, h3⟩ := deSlice (d := d + 2) (by kernel_rfl) (by kernel_rfl) (by kernel_rfl) (deAgg (f := avs_57) (W := wf_57) (by kernel_rfl) (fun l h => de_57 (d := d) l h)) h
  exact ⟨ys, h1, h2, h3⟩
def wf_31 (x : plan_Plan) : Prop := wf_27 x.Nodes ∧ wf_28 x.Hops ∧ wf_29 x.Starts
theorem de_31 {d : Nat} (l : List AV) (h : tyC Go.Proofs.Tryz.prog (d + 5) 31 l) : ∃ x : plan_Plan, l = avs_31 x ∧ wf_31 x := by
  have h := deStruct (d := d + 4) (ts := [27, 28, 29]) (by kernel_rfl) h
  obtain ⟨p0, q0, e0, h0, p1, q1, e1, h1, p2, q2, e2, h2, en⟩ := h
  obtain ⟨x0, f0, w0⟩ := de_27 (d := d + 0) _ h0
  obtain ⟨x1, f1, w1⟩ := de_28 (d := d + 0) _ h1
  obtain ⟨x2, f2, w2⟩ := de_29 (d := d + 1) _ h2
  refine ⟨⟨x0, x1, x2⟩, ?_, w0, w1, w2⟩
  rw [e0, f0, e1, f1, e2, f2, en]
  rfl
def wf_91 (x : topo_place) : Prop := wf_3 x.sw ∧ wf_3 x.port
theorem de_91 {d : Nat} (l : List AV) (h : tyC Go.Proofs.Tryz.prog (d + 2) 91 l) : ∃ x : topo_place, l = avs_91 x ∧ wf_91 x := by
  have h := deStruct (d := d + 1) (ts := [3, 3]) (by kernel_rfl) h
  obtain ⟨p0, q0, e0, h0, p1, q1, e1, h1, en⟩ := h
  obtain ⟨x0, f0, w0⟩ := de_3 (d := d + 0) _ h0
  obtain ⟨x1, f1, w1⟩ := de_3 (d := d + 0) _ h1
  refine ⟨⟨x0, x1⟩, ?_, w0, w1⟩
  rw [e0, f0, e1, f1, en]
  rfl
def wf_95 (x : wire_Meter) : Prop := wf_3 x.ID ∧ wf_3 x.Rate ∧ wf_3 x.Burst
theorem de_95 {d : Nat} (l : List AV) (h : tyC Go.Proofs.Tryz.prog (d + 2) 95 l) : ∃ x : wire_Meter, l = avs_95 x ∧ wf_95 x := by
  have h := deStruct (d := d + 1) (ts := [3, 3, 3]) (by kernel_rfl) h
  obtain ⟨p0, q0, e0, h0, p1, q1, e1, h1, p2, q2, e2, h2, en⟩ := h
  obtain ⟨x0, f0, w0⟩ := de_3 (d := d + 0) _ h0
  obtain ⟨x1, f1, w1⟩ := de_3 (d := d + 0) _ h1
  obtain ⟨x2, f2, w2⟩ := de_3 (d := d + 0) _ h2
  refine ⟨⟨x0, x1, x2⟩, ?_, w0, w1, w2⟩
  rw [e0, f0, e1, f1, e2, f2, en]
  rfl
def wf_114 (x : Action) : Prop := wf_3 x.Kind ∧ wf_3 x.Field ∧ wf_51 x.Value
theorem de_114 {d : Nat} (l : List AV) (h : tyC Go.Proofs.Tryz.prog (d + 2) 114 l) : ∃ x : Action, l = avs_114 x ∧ wf_114 x := by
  have h := deStruct (d := d + 1) (ts := [3, 3, 51]) (by kernel_rfl) h
  obtain ⟨p0, q0, e0, h0, p1, q1, e1, h1, p2, q2, e2, h2, en⟩ := h
  obtain ⟨x0, f0, w0⟩ := de_3 (d := d + 0) _ h0
  obtain ⟨x1, f1, w1⟩ := de_3 (d := d + 0) _ h1
  obtain ⟨x2, f2, w2⟩ := de_51 (d := d + 0) _ h2
  refine ⟨⟨x0, x1, x2⟩, ?_, w0, w1, w2⟩
  rw [e0, f0, e1, f1, e2, f2, en]
  rfl
def wf_47 (x : (List Test)) : Prop := x.length ≤ reachBytes ∧ ∀ y ∈ x, wf_53 y
theorem de_47 {d : Nat} (l : List AV) (h : tyC Go.Proofs.Tryz.prog (d + 3) 47 l) : ∃ x : (List Test), l = avs_47 x ∧ wf_47 x := by
  obtain ⟨ys, h1, h2, h3⟩ := deSlice (d := d + 2) (by kernel_rfl) (by kernel_rfl) (by kernel_rfl) (deAgg (f := avs_53) (W := wf_53) (by kernel_rfl) (fun l h => de_53 (d := d) l h)) h
  exact ⟨ys, h1, h2, h3⟩
def wf_96 (x : (List Action)) : Prop := x.length ≤ reachBytes ∧ ∀ y ∈ x, wf_114 y
theorem de_96 {d : Nat} (l : List AV) (h : tyC Go.Proofs.Tryz.prog (d + 3) 96 l) : ∃ x : (List Action), l = avs_96 x ∧ wf_96 x := by
  obtain ⟨ys, h1, h2, h3⟩ := deSlice (d := d + 2) (by kernel_rfl) (by kernel_rfl) (by kernel_rfl) (deAgg (f := avs_114) (W := wf_114) (by kernel_rfl) (fun l h => de_114 (d := d) l h)) h
  exact ⟨ys, h1, h2, h3⟩
def wf_4 (x : Bool) : Prop := True
theorem de_4 {d : Nat} (l : List AV) (h : tyC Go.Proofs.Tryz.prog (d + 1) 4 l) : ∃ x : Bool, l = avs_4 x ∧ wf_4 x := by obtain ⟨b, hb⟩ := deBool (by kernel_rfl) h; exact ⟨b, hb, trivial⟩
def wf_98 (x : Entry) : Prop := wf_3 x.Table ∧ wf_3 x.Priority ∧ wf_47 x.Tests ∧ wf_96 x.Apply ∧ wf_96 x.Write ∧ wf_4 x.Clear ∧ wf_51 x.Meta ∧ wf_51 x.MetaMask ∧ wf_3 x.Meter ∧ wf_3 x.Goto
theorem de_98 {d : Nat} (l : List AV) (h : tyC Go.Proofs.Tryz.prog (d + 4) 98 l) : ∃ x : Entry, l = avs_98 x ∧ wf_98 x := by
  have h := deStruct (d := d + 3) (ts := [3, 3, 47, 96, 96, 4, 51, 51, 3, 3]) (by kernel_rfl) h
  obtain ⟨p0, q0, e0, h0, p1, q1, e1, h1, p2, q2, e2, h2, p3, q3, e3, h3, p4, q4, e4, h4, p5, q5, e5, h5, p6, q6, e6, h6, p7, q7, e7, h7, p8, q8, e8, h8, p9, q9, e9, h9, en⟩ := h
  obtain ⟨x0, f0, w0⟩ := de_3 (d := d + 2) _ h0
  obtain ⟨x1, f1, w1⟩ := de_3 (d := d + 2) _ h1
  obtain ⟨x2, f2, w2⟩ := de_47 (d := d + 0) _ h2
  obtain ⟨x3, f3, w3⟩ := de_96 (d := d + 0) _ h3
  obtain ⟨x4, f4, w4⟩ := de_96 (d := d + 0) _ h4
  obtain ⟨x5, f5, w5⟩ := de_4 (d := d + 2) _ h5
  obtain ⟨x6, f6, w6⟩ := de_51 (d := d + 2) _ h6
  obtain ⟨x7, f7, w7⟩ := de_51 (d := d + 2) _ h7
  obtain ⟨x8, f8, w8⟩ := de_3 (d := d + 2) _ h8
  obtain ⟨x9, f9, w9⟩ := de_3 (d := d + 2) _ h9
  refine ⟨⟨x0, x1, x2, x3, x4, x5, x6, x7, x8, x9⟩, ?_, w0, w1, w2, w3, w4, w5, w6, w7, w8, w9⟩
  rw [e0, f0, e1, f1, e2, f2, e3, f3, e4, f4, e5, f5, e6, f6, e7, f7, e8, f8, e9, f9, en]
  rfl
def wf_131 (x : Bucket) : Prop := wf_3 x.Watch ∧ wf_3 x.Weight ∧ wf_96 x.Actions
theorem de_131 {d : Nat} (l : List AV) (h : tyC Go.Proofs.Tryz.prog (d + 4) 131 l) : ∃ x : Bucket, l = avs_131 x ∧ wf_131 x := by
  have h := deStruct (d := d + 3) (ts := [3, 3, 96]) (by kernel_rfl) h
  obtain ⟨p0, q0, e0, h0, p1, q1, e1, h1, p2, q2, e2, h2, en⟩ := h
  obtain ⟨x0, f0, w0⟩ := de_3 (d := d + 2) _ h0
  obtain ⟨x1, f1, w1⟩ := de_3 (d := d + 2) _ h1
  obtain ⟨x2, f2, w2⟩ := de_96 (d := d + 0) _ h2
  refine ⟨⟨x0, x1, x2⟩, ?_, w0, w1, w2⟩
  rw [e0, f0, e1, f1, e2, f2, en]
  rfl
def wf_99 (x : (List Bucket)) : Prop := x.length ≤ reachBytes ∧ ∀ y ∈ x, wf_131 y
theorem de_99 {d : Nat} (l : List AV) (h : tyC Go.Proofs.Tryz.prog (d + 5) 99 l) : ∃ x : (List Bucket), l = avs_99 x ∧ wf_99 x := by
  obtain ⟨ys, h1, h2, h3⟩ := deSlice (d := d + 4) (by kernel_rfl) (by kernel_rfl) (by kernel_rfl) (deAgg (f := avs_131) (W := wf_131) (by kernel_rfl) (fun l h => de_131 (d := d) l h)) h
  exact ⟨ys, h1, h2, h3⟩
def wf_101 (x : Group) : Prop := wf_3 x.ID ∧ wf_3 x.Kind ∧ wf_99 x.Buckets
theorem de_101 {d : Nat} (l : List AV) (h : tyC Go.Proofs.Tryz.prog (d + 6) 101 l) : ∃ x : Group, l = avs_101 x ∧ wf_101 x := by
  have h := deStruct (d := d + 5) (ts := [3, 3, 99]) (by kernel_rfl) h
  obtain ⟨p0, q0, e0, h0, p1, q1, e1, h1, p2, q2, e2, h2, en⟩ := h
  obtain ⟨x0, f0, w0⟩ := de_3 (d := d + 4) _ h0
  obtain ⟨x1, f1, w1⟩ := de_3 (d := d + 4) _ h1
  obtain ⟨x2, f2, w2⟩ := de_99 (d := d + 0) _ h2
  refine ⟨⟨x0, x1, x2⟩, ?_, w0, w1, w2⟩
  rw [e0, f0, e1, f1, e2, f2, en]
  rfl
def wf_103 (x : wire_Message) : Prop := wf_3 x.Kind ∧ wf_3 x.Xid ∧ wf_3 x.Command ∧ wf_4 x.Check ∧ wf_98 x.Entry ∧ wf_101 x.Group ∧ wf_95 x.Meter ∧ wf_3 x.Type_ ∧ wf_3 x.Code ∧ wf_3 x.Port ∧ wf_4 x.Live ∧ wf_96 x.Actions ∧ wf_9 x.Data
theorem de_103 {d : Nat} (l : List AV) (h : tyC Go.Proofs.Tryz.prog (d + 7) 103 l) : ∃ x : wire_Message, l = avs_103 x ∧ wf_103 x := by
  have h := deStruct (d := d + 6) (ts := [3, 3, 3, 4, 98, 101, 95, 3, 3, 3, 4, 96, 9]) (by kernel_rfl) h
  obtain ⟨p0, q0, e0, h0, p1, q1, e1, h1, p2, q2, e2, h2, p3, q3, e3, h3, p4, q4, e4, h4, p5, q5, e5, h5, p6, q6, e6, h6, p7, q7, e7, h7, p8, q8, e8, h8, p9, q9, e9, h9, p10, q10, e10, h10, p11, q11, e11, h11, p12, q12, e12, h12, en⟩ := h
  obtain ⟨x0, f0, w0⟩ := de_3 (d := d + 5) _ h0
  obtain ⟨x1, f1, w1⟩ := de_3 (d := d + 5) _ h1
  obtain ⟨x2, f2, w2⟩ := de_3 (d := d + 5) _ h2
  obtain ⟨x3, f3, w3⟩ := de_4 (d := d + 5) _ h3
  obtain ⟨x4, f4, w4⟩ := de_98 (d := d + 2) _ h4
  obtain ⟨x5, f5, w5⟩ := de_101 (d := d + 0) _ h5
  obtain ⟨x6, f6, w6⟩ := de_95 (d := d + 4) _ h6
  obtain ⟨x7, f7, w7⟩ := de_3 (d := d + 5) _ h7
  obtain ⟨x8, f8, w8⟩ := de_3 (d := d + 5) _ h8
  obtain ⟨x9, f9, w9⟩ := de_3 (d := d + 5) _ h9
  obtain ⟨x10, f10, w10⟩ := de_4 (d := d + 5) _ h10
  obtain ⟨x11, f11, w11⟩ := de_96 (d := d + 3) _ h11
  obtain ⟨x12, f12, w12⟩ := de_9 (d := d + 5) _ h12
  refine ⟨⟨x0, x1, x2, x3, x4, x5, x6, x7, x8, x9, x10, x11, x12⟩, ?_, w0, w1, w2, w3, w4, w5, w6, w7, w8, w9, w10, w11, w12⟩
  rw [e0, f0, e1, f1, e2, f2, e3, f3, e4, f4, e5, f5, e6, f6, e7, f7, e8, f8, e9, f9, e10, f10, e11, f11, e12, f12, en]
  rfl
def wf_121 (x : topo_end) : Prop := wf_91 x.place ∧ wf_3 x.link
theorem de_121 {d : Nat} (l : List AV) (h : tyC Go.Proofs.Tryz.prog (d + 3) 121 l) : ∃ x : topo_end, l = avs_121 x ∧ wf_121 x := by
  have h := deStruct (d := d + 2) (ts := [91, 3]) (by kernel_rfl) h
  obtain ⟨p0, q0, e0, h0, p1, q1, e1, h1, en⟩ := h
  obtain ⟨x0, f0, w0⟩ := de_91 (d := d + 0) _ h0
  obtain ⟨x1, f1, w1⟩ := de_3 (d := d + 1) _ h1
  refine ⟨⟨x0, x1⟩, ?_, w0, w1⟩
  rw [e0, f0, e1, f1, en]
  rfl
def wf_5 (x : Int) : Prop := inK .u8 x
theorem de_5 {d : Nat} (l : List AV) (h : tyC Go.Proofs.Tryz.prog (d + 1) 5 l) : ∃ x : Int, l = avs_5 x ∧ wf_5 x := deInt (by kernel_rfl) h
def wf_22 (x : (List code_Rule)) : Prop := x.length ≤ reachBytes ∧ ∀ y ∈ x, wf_38 y
theorem de_22 {d : Nat} (l : List AV) (h : tyC Go.Proofs.Tryz.prog (d + 6) 22 l) : ∃ x : (List code_Rule), l = avs_22 x ∧ wf_22 x := by
  obtain ⟨ys, h1, h2, h3⟩ := deSlice (d := d + 5) (by kernel_rfl) (by kernel_rfl) (by kernel_rfl) (deAgg (f := avs_38) (W := wf_38) (by kernel_rfl) (fun l h => de_38 (d := d) l h)) h
  exact ⟨ys, h1, h2, h3⟩
end Go.Proofs.Cdn
