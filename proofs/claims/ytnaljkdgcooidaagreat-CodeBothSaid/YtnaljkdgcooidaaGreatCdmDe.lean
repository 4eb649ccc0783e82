/- A part of a law's proof: CdmDe. -/
import Derived.KernelRfl
import Derived.Test.YtnaljkdgcooidaaGreatCdmTy
import Derived.Test.YtnaljkdgcooidaaGreatProg
import Derived.Test.YtnaljkdgcooidaaGreatSvDe
set_option linter.unusedSimpArgs false
namespace Go.Proofs.Cdm
open Go Go.Ab
set_option linter.unusedVariables false
set_option linter.constructorNameAsVariable false
set_option maxRecDepth 1000000
def wf_3 (x : Int) : Prop := inK .i64 x
theorem de_3 {d : Nat} (l : List AV) (h : tyC Go.Proofs.Tryz.prog (d + 1) 3 l) : ∃ x : Int, l = avs_3 x ∧ wf_3 x := deInt (by kernel_rfl) h
def wf_33 (x : Int) : Prop := inK .u64 x
theorem de_33 {d : Nat} (l : List AV) (h : tyC Go.Proofs.Tryz.prog (d + 1) 33 l) : ∃ x : Int, l = avs_33 x ∧ wf_33 x := deInt (by kernel_rfl) h
def wf_35 (x : Test) : Prop := wf_3 x.Field ∧ wf_33 x.Value ∧ wf_33 x.Mask
theorem de_35 {d : Nat} (l : List AV) (h : tyC Go.Proofs.Tryz.prog (d + 2) 35 l) : ∃ x : Test, l = avs_35 x ∧ wf_35 x := by
  have h := deStruct (d := d + 1) (ts := [3, 33, 33]) (by kernel_rfl) h
  obtain ⟨p0, q0, e0, h0, p1, q1, e1, h1, p2, q2, e2, h2, en⟩ := h
  obtain ⟨x0, f0, w0⟩ := de_3 (d := d + 0) _ h0
  obtain ⟨x1, f1, w1⟩ := de_33 (d := d + 0) _ h1
  obtain ⟨x2, f2, w2⟩ := de_33 (d := d + 0) _ h2
  refine ⟨⟨x0, x1, x2⟩, ?_, w0, w1, w2⟩
  rw [e0, f0, e1, f1, e2, f2, en]
  rfl
def wf_9 (x : List UInt8) : Prop := x.length ≤ reachBytes
theorem de_9 {d : Nat} (l : List AV) (h : tyC Go.Proofs.Tryz.prog (d + 1) 9 l) : ∃ x : List UInt8, l = avs_9 x ∧ wf_9 x := deStr (by kernel_rfl) h
def wf_73 (x : (List (List UInt8))) : Prop := x.length ≤ reachBytes ∧ ∀ y ∈ x, wf_9 y
theorem de_73 {d : Nat} (l : List AV) (h : tyC Go.Proofs.Tryz.prog (d + 2) 73 l) : ∃ x : (List (List UInt8)), l = avs_73 x ∧ wf_73 x := by
  obtain ⟨ys, h1, h2, h3⟩ := deSlice (d := d + 1) (by kernel_rfl) (by kernel_rfl) (by kernel_rfl) (deOne (f := avs_9) (W := wf_9) (by kernel_rfl) (fun l h => de_9 (d := d) l h)) h
  exact ⟨ys, h1, h2, h3⟩
def wf_44 (x : plan_Start) : Prop := wf_3 x.Job ∧ wf_3 x.From ∧ wf_3 x.Host ∧ wf_3 x.Node
theorem de_44 {d : Nat} (l : List AV) (h : tyC Go.Proofs.Tryz.prog (d + 2) 44 l) : ∃ x : plan_Start, l = avs_44 x ∧ wf_44 x := by
  have h := deStruct (d := d + 1) (ts := [3, 3, 3, 3]) (by kernel_rfl) h
  obtain ⟨p0, q0, e0, h0, p1, q1, e1, h1, p2, q2, e2, h2, p3, q3, e3, h3, en⟩ := h
  obtain ⟨x0, f0, w0⟩ := de_3 (d := d + 0) _ h0
  obtain ⟨x1, f1, w1⟩ := de_3 (d := d + 0) _ h1
  obtain ⟨x2, f2, w2⟩ := de_3 (d := d + 0) _ h2
  obtain ⟨x3, f3, w3⟩ := de_3 (d := d + 0) _ h3
  refine ⟨⟨x0, x1, x2, x3⟩, ?_, w0, w1, w2, w3⟩
  rw [e0, f0, e1, f1, e2, f2, e3, f3, en]
  rfl
def wf_96 (x : (List Int)) : Prop := x.length ≤ reachBytes ∧ ∀ y ∈ x, wf_3 y
theorem de_96 {d : Nat} (l : List AV) (h : tyC Go.Proofs.Tryz.prog (d + 2) 96 l) : ∃ x : (List Int), l = avs_96 x ∧ wf_96 x := by
  obtain ⟨ys, h1, h2, h3⟩ := deSlice (d := d + 1) (by kernel_rfl) (by kernel_rfl) (by kernel_rfl) (deOne (f := avs_3) (W := wf_3) (by kernel_rfl) (fun l h => de_3 (d := d) l h)) h
  exact ⟨ys, h1, h2, h3⟩
def wf_98 (x : plan_Node) : Prop := wf_3 x.Switch ∧ wf_3 x.Job ∧ wf_3 x.Host ∧ wf_3 x.State ∧ wf_96 x.Down
theorem de_98 {d : Nat} (l : List AV) (h : tyC Go.Proofs.Tryz.prog (d + 3) 98 l) : ∃ x : plan_Node, l = avs_98 x ∧ wf_98 x := by
  have h := deStruct (d := d + 2) (ts := [3, 3, 3, 3, 96]) (by kernel_rfl) h
  obtain ⟨p0, q0, e0, h0, p1, q1, e1, h1, p2, q2, e2, h2, p3, q3, e3, h3, p4, q4, e4, h4, en⟩ := h
  obtain ⟨x0, f0, w0⟩ := de_3 (d := d + 1) _ h0
  obtain ⟨x1, f1, w1⟩ := de_3 (d := d + 1) _ h1
  obtain ⟨x2, f2, w2⟩ := de_3 (d := d + 1) _ h2
  obtain ⟨x3, f3, w3⟩ := de_3 (d := d + 1) _ h3
  obtain ⟨x4, f4, w4⟩ := de_96 (d := d + 0) _ h4
  refine ⟨⟨x0, x1, x2, x3, x4⟩, ?_, w0, w1, w2, w3, w4⟩
  rw [e0, f0, e1, f1, e2, f2, e3, f3, e4, f4, en]
  rfl
def wf_102 (x : plan_Hop) : Prop := wf_3 x.Port ∧ wf_3 x.Node
theorem de_102 {d : Nat} (l : List AV) (h : tyC Go.Proofs.Tryz.prog (d + 2) 102 l) : ∃ x : plan_Hop, l = avs_102 x ∧ wf_102 x := by
  have h := deStruct (d := d + 1) (ts := [3, 3]) (by kernel_rfl) h
  obtain ⟨p0, q0, e0, h0, p1, q1, e1, h1, en⟩ := h
  obtain ⟨x0, f0, w0⟩ := de_3 (d := d + 0) _ h0
  obtain ⟨x1, f1, w1⟩ := de_3 (d := d + 0) _ h1
  refine ⟨⟨x0, x1⟩, ?_, w0, w1⟩
  rw [e0, f0, e1, f1, en]
  rfl
def wf_99 (x : (List plan_Hop)) : Prop := x.length ≤ reachBytes ∧ ∀ y ∈ x, wf_102 y
theorem de_99 {d : Nat} (l : List AV) (h : tyC Go.Proofs.Tryz.prog (d + 3) 99 l) : ∃ x : (List plan_Hop), l = avs_99 x ∧ wf_99 x := by
  obtain ⟨ys, h1, h2, h3⟩ := deSlice (d := d + 2) (by kernel_rfl) (by kernel_rfl) (by kernel_rfl) (deAgg (f := avs_102) (W := wf_102) (by kernel_rfl) (fun l h => de_102 (d := d) l h)) h
  exact ⟨ys, h1, h2, h3⟩
def wf_46 (x : (List plan_Node)) : Prop := x.length ≤ reachBytes ∧ ∀ y ∈ x, wf_98 y
theorem de_46 {d : Nat} (l : List AV) (h : tyC Go.Proofs.Tryz.prog (d + 4) 46 l) : ∃ x : (List plan_Node), l = avs_46 x ∧ wf_46 x := by
  obtain ⟨ys, h1, h2, h3⟩ := deSlice (d := d + 3) (by kernel_rfl) (by kernel_rfl) (by kernel_rfl) (deAgg (f := avs_98) (W := wf_98) (by kernel_rfl) (fun l h => de_98 (d := d) l h)) h
  exact ⟨ys, h1, h2, h3⟩
def wf_47 (x : (List (List plan_Hop))) : Prop := x.length ≤ reachBytes ∧ ∀ y ∈ x, wf_99 y
theorem de_47 {d : Nat} (l : List AV) (h : tyC Go.Proofs.Tryz.prog (d + 4) 47 l) : ∃ x : (List (List plan_Hop)), l = avs_47 x ∧ wf_47 x := by
  obtain ⟨ys, h1, h2, h3⟩ := deSlice (d := d + 3) (by kernel_rfl) (by kernel_rfl) (by kernel_rfl) (deOne (f := avs_99) (W := wf_99) (by kernel_rfl) (fun l h => de_99 (d := d) l h)) h
  exact ⟨ys, h1, h2, h3⟩
def wf_45 (x : (List plan_Start)) : Prop := x.length ≤ reachBytes ∧ ∀ y ∈ x, wf_44 y
theorem de_45 {d : Nat} (l : List AV) (h : tyC Go.Proofs.Tryz.prog (d + 3) 45 l) : ∃ x : (List plan_Start), l = avs_45 x ∧ wf_45 x := by
  obtain ⟨ys, h1, h2, h3⟩ := deSlice (d := d + 2) (by kernel_rfl) (by kernel_rfl) (by kernel_rfl) (deAgg (f := avs_44) (W := wf_44) (by kernel_rfl) (fun l h => de_44 (d := d) l h)) h
  exact ⟨ys, h1, h2, h3⟩
def wf_49 (x : plan_Plan) : Prop := wf_46 x.Nodes ∧ wf_47 x.Hops ∧ wf_45 x.Starts
theorem de_49 {d : Nat} (l : List AV) (h : tyC Go.Proofs.Tryz.prog (d + 5) 49 l) : ∃ x : plan_Plan, l = avs_49 x ∧ wf_49 x := by
  have h := deStruct (d := d + 4) (ts := [46, 47, 45]) (by kernel_rfl) h
  obtain ⟨p0, q0, e0, h0, p1, q1, e1, h1, p2, q2, e2, h2, en⟩ := h
  obtain ⟨x0, f0, w0⟩ := de_46 (d := d + 0) _ h0
  obtain ⟨x1, f1, w1⟩ := de_47 (d := d + 0) _ h1
  obtain ⟨x2, f2, w2⟩ := de_45 (d := d + 1) _ h2
  refine ⟨⟨x0, x1, x2⟩, ?_, w0, w1, w2⟩
  rw [e0, f0, e1, f1, e2, f2, en]
  rfl
def wf_24 (x : (List Test)) : Prop := x.length ≤ reachBytes ∧ ∀ y ∈ x, wf_35 y
theorem de_24 {d : Nat} (l : List AV) (h : tyC Go.Proofs.Tryz.prog (d + 3) 24 l) : ∃ x : (List Test), l = avs_24 x ∧ wf_24 x := by
  obtain ⟨ys, h1, h2, h3⟩ := deSlice (d := d + 2) (by kernel_rfl) (by kernel_rfl) (by kernel_rfl) (deAgg (f := avs_35) (W := wf_35) (by kernel_rfl) (fun l h => de_35 (d := d) l h)) h
  exact ⟨ys, h1, h2, h3⟩
def wf_69 (x : (List (List Test))) : Prop := x.length ≤ reachBytes ∧ ∀ y ∈ x, wf_24 y
theorem de_69 {d : Nat} (l : List AV) (h : tyC Go.Proofs.Tryz.prog (d + 4) 69 l) : ∃ x : (List (List Test)), l = avs_69 x ∧ wf_69 x := by
  obtain ⟨ys, h1, h2, h3⟩ := deSlice (d := d + 3) (by kernel_rfl) (by kernel_rfl) (by kernel_rfl) (deOne (f := avs_24) (W := wf_24) (by kernel_rfl) (fun l h => de_24 (d := d) l h)) h
  exact ⟨ys, h1, h2, h3⟩
def wf_71 (x : code_Rule) : Prop := wf_69 x.Cubes ∧ wf_3 x.Rate ∧ wf_3 x.Room
theorem de_71 {d : Nat} (l : List AV) (h : tyC Go.Proofs.Tryz.prog (d + 5) 71 l) : ∃ x : code_Rule, l = avs_71 x ∧ wf_71 x := by
  have h := deStruct (d := d + 4) (ts := [69, 3, 3]) (by kernel_rfl) h
  obtain ⟨p0, q0, e0, h0, p1, q1, e1, h1, p2, q2, e2, h2, en⟩ := h
  obtain ⟨x0, f0, w0⟩ := de_69 (d := d + 0) _ h0
  obtain ⟨x1, f1, w1⟩ := de_3 (d := d + 3) _ h1
  obtain ⟨x2, f2, w2⟩ := de_3 (d := d + 3) _ h2
  refine ⟨⟨x0, x1, x2⟩, ?_, w0, w1, w2⟩
  rw [e0, f0, e1, f1, e2, f2, en]
  rfl
def wf_85 (x : topo_place) : Prop := wf_3 x.sw ∧ wf_3 x.port
theorem de_85 {d : Nat} (l : List AV) (h : tyC Go.Proofs.Tryz.prog (d + 2) 85 l) : ∃ x : topo_place, l = avs_85 x ∧ wf_85 x := by
  have h := deStruct (d := d + 1) (ts := [3, 3]) (by kernel_rfl) h
  obtain ⟨p0, q0, e0, h0, p1, q1, e1, h1, en⟩ := h
  obtain ⟨x0, f0, w0⟩ := de_3 (d := d + 0) _ h0
  obtain ⟨x1, f1, w1⟩ := de_3 (d := d + 0) _ h1
  refine ⟨⟨x0, x1⟩, ?_, w0, w1⟩
  rw [e0, f0, e1, f1, en]
  rfl
def wf_87 (x : topo_end) : Prop := wf_85 x.place ∧ wf_3 x.link
theorem de_87 {d : Nat} (l : List AV) (h : tyC Go.Proofs.Tryz.prog (d + 3) 87 l) : ∃ x : topo_end, l = avs_87 x ∧ wf_87 x := by
  have h := deStruct (d := d + 2) (ts := [85, 3]) (by kernel_rfl) h
  obtain ⟨p0, q0, e0, h0, p1, q1, e1, h1, en⟩ := h
  obtain ⟨x0, f0, w0⟩ := de_85 (d := d + 0) _ h0
  obtain ⟨x1, f1, w1⟩ := de_3 (d := d + 1) _ h1
  refine ⟨⟨x0, x1⟩, ?_, w0, w1⟩
  rw [e0, f0, e1, f1, en]
  rfl
def wf_108 (x : wire_Meter) : Prop := wf_3 x.ID ∧ wf_3 x.Rate ∧ wf_3 x.Burst
theorem de_108 {d : Nat} (l : List AV) (h : tyC Go.Proofs.Tryz.prog (d + 2) 108 l) : ∃ x : wire_Meter, l = avs_108 x ∧ wf_108 x := by
  have h := deStruct (d := d + 1) (ts := [3, 3, 3]) (by kernel_rfl) h
  obtain ⟨p0, q0, e0, h0, p1, q1, e1, h1, p2, q2, e2, h2, en⟩ := h
  obtain ⟨x0, f0, w0⟩ := de_3 (d := d + 0) _ h0
  obtain ⟨x1, f1, w1⟩ := de_3 (d := d + 0) _ h1
  obtain ⟨x2, f2, w2⟩ := de_3 (d := d + 0) _ h2
  refine ⟨⟨x0, x1, x2⟩, ?_, w0, w1, w2⟩
  rw [e0, f0, e1, f1, e2, f2, en]
  rfl
def wf_127 (x : Action) : Prop := wf_3 x.Kind ∧ wf_3 x.Field ∧ wf_33 x.Value
theorem de_127 {d : Nat} (l : List AV) (h : tyC Go.Proofs.Tryz.prog (d + 2) 127 l) : ∃ x : Action, l = avs_127 x ∧ wf_127 x := by
  have h := deStruct (d := d + 1) (ts := [3, 3, 33]) (by kernel_rfl) h
  obtain ⟨p0, q0, e0, h0, p1, q1, e1, h1, p2, q2, e2, h2, en⟩ := h
  obtain ⟨x0, f0, w0⟩ := de_3 (d := d + 0) _ h0
  obtain ⟨x1, f1, w1⟩ := de_3 (d := d + 0) _ h1
  obtain ⟨x2, f2, w2⟩ := de_33 (d := d + 0) _ h2
  refine ⟨⟨x0, x1, x2⟩, ?_, w0, w1, w2⟩
  rw [e0, f0, e1, f1, e2, f2, en]
  rfl
def wf_22 (x : (List Test)) : Prop := x.length ≤ reachBytes ∧ ∀ y ∈ x, wf_35 y
theorem de_22 {d : Nat} (l : List AV) (h : tyC Go.Proofs.Tryz.prog (d + 3) 22 l) : ∃ x : (List Test), l = avs_22 x ∧ wf_22 x := by
  obtain ⟨ys, h1, h2, h3⟩ := deSlice (d := d + 2) (by kernel_rfl) (by kernel_rfl) (by kernel_rfl) (deAgg (f := avs_35) (W := wf_35) (by kernel_rfl) (fun l h => de_35 (d := d) l h)) h
  exact ⟨ys, h1, h2, h3⟩
def wf_109 (x : (List Action)) : Prop := x.length ≤ reachBytes ∧ ∀ y ∈ x, wf_127 y
theorem de_109 {d : Nat} (l : List AV) (h : tyC Go.Proofs.Tryz.prog (d + 3) 109 l) : ∃ x : (List Action), l = avs_109 x ∧ wf_109 x := by
  obtain ⟨ys, h1, h2, h3⟩ := deSlice (d := d + 2) (by kernel_rfl) (by kernel_rfl) (by kernel_rfl) (deAgg (f := avs_127) (W := wf_127) (by kernel_rfl) (fun l h => de_127 (d := d) l h)) h
  exact ⟨ys, h1, h2, h3⟩
def wf_4 (x : Bool) : Prop := True
theorem de_4 {d : Nat} (l : List AV) (h : tyC Go.Proofs.Tryz.prog (d + 1) 4 l) : ∃ x : Bool, l = avs_4 x ∧ wf_4 x := by obtain ⟨b, hb⟩ := deBool (by kernel_rfl) h; exact ⟨b, hb, trivial⟩
def wf_111 (x : Entry) : Prop := wf_3 x.Table ∧ wf_3 x.Priority ∧ wf_22 x.Tests ∧ wf_109 x.Apply ∧ wf_109 x.Write ∧ wf_4 x.Clear ∧ wf_33 x.Meta ∧ wf_33 x.MetaMask ∧ wf_3 x.Meter ∧ wf_3 x.Goto
theorem de_111 {d : Nat} (l : List AV) (h : tyC Go.Proofs.Tryz.prog (d + 4) 111 l) : ∃ x : Entry, l = avs_111 x ∧ wf_111 x := by
  have h := deStruct (d := d + 3) (ts := [3, 3, 22, 109, 109, 4, 33, 33, 3, 3]) (by kernel_rfl) h
  obtain ⟨p0, q0, e0, h0, p1, q1, e1, h1, p2, q2, e2, h2, p3, q3, e3, h3, p4, q4, e4, h4, p5, q5, e5, h5, p6, q6, e6, h6, p7, q7, e7, h7, p8, q8, e8, h8, p9, q9, e9, h9, en⟩ := h
  obtain ⟨x0, f0, w0⟩ := de_3 (d := d + 2) _ h0
  obtain ⟨x1, f1, w1⟩ := de_3 (d := d + 2) _ h1
  obtain ⟨x2, f2, w2⟩ := de_22 (d := d + 0) _ h2
  obtain ⟨x3, f3, w3⟩ := de_109 (d := d + 0) _ h3
  obtain ⟨x4, f4, w4⟩ := de_109 (d := d + 0) _ h4
  obtain ⟨x5, f5, w5⟩ := de_4 (d := d + 2) _ h5
  obtain ⟨x6, f6, w6⟩ := de_33 (d := d + 2) _ h6
  obtain ⟨x7, f7, w7⟩ := de_33 (d := d + 2) _ h7
  obtain ⟨x8, f8, w8⟩ := de_3 (d := d + 2) _ h8
  obtain ⟨x9, f9, w9⟩ := de_3 (d := d + 2) _ h9
  refine ⟨⟨x0, x1, x2, x3, x4, x5, x6, x7, x8, x9⟩, ?_, w0, w1, w2, w3, w4, w5, w6, w7, w8, w9⟩
  rw [e0, f0, e1, f1, e2, f2, e3, f3, e4, f4, e5, f5, e6, f6, e7, f7, e8, f8, e9, f9, en]
  rfl
def wf_136 (x : Bucket) : Prop := wf_3 x.Watch ∧ wf_3 x.Weight ∧ wf_109 x.Actions
theorem de_136 {d : Nat} (l : List AV) (h : tyC Go.Proofs.Tryz.prog (d + 4) 136 l) : ∃ x : Bucket, l = avs_136 x ∧ wf_136 x := by
  have h := deStruct (d := d + 3) (ts := [3, 3, 109]) (by kernel_rfl) h
  obtain ⟨p0, q0, e0, h0, p1, q1, e1, h1, p2, q2, e2, h2, en⟩ := h
  obtain ⟨x0, f0, w0⟩ := de_3 (d := d + 2) _ h0
  obtain ⟨x1, f1, w1⟩ := de_3 (d := d + 2) _ h1
  obtain ⟨x2, f2, w2⟩ := de_109 (d := d + 0) _ h2
  refine ⟨⟨x0, x1, x2⟩, ?_, w0, w1, w2⟩
  rw [e0, f0, e1, f1, e2, f2, en]
  rfl
def wf_112 (x : (List Bucket)) : Prop := x.length ≤ reachBytes ∧ ∀ y ∈ x, wf_136 y
theorem de_112 {d : Nat} (l : List AV) (h : tyC Go.Proofs.Tryz.prog (d + 5) 112 l) : ∃ x : (List Bucket), l = avs_112 x ∧ wf_112 x := by
  obtain ⟨ys, h1, h2, h3⟩ := deSlice (d := d + 4) (by kernel_rfl) (by kernel_rfl) (by kernel_rfl) (deAgg (f := avs_136) (W := wf_136) (by kernel_rfl) (fun l h => de_136 (d := d) l h)) h
  exact ⟨ys, h1, h2, h3⟩
def wf_114 (x : Group) : Prop := wf_3 x.ID ∧ wf_3 x.Kind ∧ wf_112 x.Buckets
theorem de_114 {d : Nat} (l : List AV) (h : tyC Go.Proofs.Tryz.prog (d + 6) 114 l) : ∃ x : Group, l = avs_114 x ∧ wf_114 x := by
  have h := deStruct (d := d + 5) (ts := [3, 3, 112]) (by kernel_rfl) h
  obtain ⟨p0, q0, e0, h0, p1, q1, e1, h1, p2, q2, e2, h2, en⟩ := h
  obtain ⟨x0, f0, w0⟩ := de_3 (d := d + 4) _ h0
  obtain ⟨x1, f1, w1⟩ := de_3 (d := d + 4) _ h1
  obtain ⟨x2, f2, w2⟩ := de_112 (d := d + 0) _ h2
  refine ⟨⟨x0, x1, x2⟩, ?_, w0, w1, w2⟩
  rw [e0, f0, e1, f1, e2, f2, en]
  rfl
def wf_116 (x : wire_Message) : Prop := wf_3 x.Kind ∧ wf_3 x.Xid ∧ wf_3 x.Command ∧ wf_4 x.Check ∧ wf_111 x.Entry ∧ wf_114 x.Group ∧ wf_108 x.Meter ∧ wf_3 x.Type_ ∧ wf_3 x.Code ∧ wf_3 x.Port ∧ wf_4 x.Live ∧ wf_109 x.Actions ∧ wf_9 x.Data
theorem de_116 {d : Nat} (l : List AV) (h : tyC Go.Proofs.Tryz.prog (d + 7) 116 l) : ∃ x : wire_Message, l = avs_116 x ∧ wf_116 x := by
  have h := deStruct (d := d + 6) (ts := [3, 3, 3, 4, 111, 114, 108, 3, 3, 3, 4, 109, 9]) (by kernel_rfl) h
  obtain ⟨p0, q0, e0, h0, p1, q1, e1, h1, p2, q2, e2, h2, p3, q3, e3, h3, p4, q4, e4, h4, p5, q5, e5, h5, p6, q6, e6, h6, p7, q7, e7, h7, p8, q8, e8, h8, p9, q9, e9, h9, p10, q10, e10, h10, p11, q11, e11, h11, p12, q12, e12, h12, en⟩ := h
  obtain ⟨x0, f0, w0⟩ := de_3 (d := d + 5) _ h0
  obtain ⟨x1, f1, w1⟩ := de_3 (d := d + 5) _ h1
  obtain ⟨x2, f2, w2⟩ := de_3 (d := d + 5) _ h2
  obtain ⟨x3, f3, w3⟩ := de_4 (d := d + 5) _ h3
  obtain ⟨x4, f4, w4⟩ := de_111 (d := d + 2) _ h4
  obtain ⟨x5, f5, w5⟩ := de_114 (d := d + 0) _ h5
  obtain ⟨x6, f6, w6⟩ := de_108 (d := d + 4) _ h6
  obtain ⟨x7, f7, w7⟩ := de_3 (d := d + 5) _ h7
  obtain ⟨x8, f8, w8⟩ := de_3 (d := d + 5) _ h8
  obtain ⟨x9, f9, w9⟩ := de_3 (d := d + 5) _ h9
  obtain ⟨x10, f10, w10⟩ := de_4 (d := d + 5) _ h10
  obtain ⟨x11, f11, w11⟩ := de_109 (d := d + 3) _ h11
  obtain ⟨x12, f12, w12⟩ := de_9 (d := d + 5) _ h12
  refine ⟨⟨x0, x1, x2, x3, x4, x5, x6, x7, x8, x9, x10, x11, x12⟩, ?_, w0, w1, w2, w3, w4, w5, w6, w7, w8, w9, w10, w11, w12⟩
  rw [e0, f0, e1, f1, e2, f2, e3, f3, e4, f4, e5, f5, e6, f6, e7, f7, e8, f8, e9, f9, e10, f10, e11, f11, e12, f12, en]
  rfl
def wf_5 (x : Int) : Prop := inK .u8 x
theorem de_5 {d : Nat} (l : List AV) (h : tyC Go.Proofs.Tryz.prog (d + 1) 5 l) : ∃ x : Int, l = avs_5 x ∧ wf_5 x := deInt (by kernel_rfl) h
def wf_30 (x : (List Int)) : Prop := x.length ≤ reachBytes ∧ ∀ y ∈ x, wf_33 y
theorem de_30 {d : Nat} (l : List AV) (h : tyC Go.Proofs.Tryz.prog (d + 2) 30 l) : ∃ x : (List Int), l = avs_30 x ∧ wf_30 x := by
  obtain ⟨ys, h1, h2, h3⟩ := deSlice (d := d + 1) (by kernel_rfl) (by kernel_rfl) (by kernel_rfl) (deOne (f := avs_33) (W := wf_33) (by kernel_rfl) (fun l h => de_33 (d := d) l h)) h
  exact ⟨ys, h1, h2, h3⟩
end Go.Proofs.Cdm
