/- A part of a law's proof: NfaG1. -/
import Derived.KernelRfl
import Derived.Test.YtknpnjnnebgjeaaNfaAw
import Derived.Test.YtknpnjnnebgjeaaNfaTy
import Derived.Test.YtknpnjnnebgjeaaNfaXTab
import Derived.Test.YtknpnjnnebgjeaaSvLoop
set_option linter.constructorNameAsVariable false
namespace Go.Proofs.Nfa
open Go Go.Ab Go.Proofs
set_option linter.unusedVariables false
set_option linter.unusedSimpArgs false
set_option maxHeartbeats 4000000
set_option maxRecDepth 100000
-- 7 drover/nfa.Right
def H7 : List (List Nat × Hint) := [([61031], ⟨[56, 52, 55, 54, 53, 1, 29, 27, 28], [], [], [], [], [], [], 0, []⟩),
  ([61046, 61031], ⟨[44, 1, 5, 42, 39, 38, 37, 27, 28, 29, 43], [], [], [], [], [], [], 0, []⟩)]
inductive L7 where
  | h0 (a0 : Nfa) (i19 : Int)
  | h1 (a0 : Nfa) (x15 : NfaState) (i17 : Int) (i18 : Int) (i22 : Int)
noncomputable def m7 : L7 → Trip Th
  | .h0 (a0) (i19) => ([(.lp 61 c7_16), (.blk 0), (.seq 61 c7_18)], [(56, .any), (52, .any), (55, .any), (54, .any), (53, .any), (1, (.ptr 0 0)), (29, (.i .i64 (i19))), (27, (.lst 34 (a0.States))), (28, (.i .i64 ((↑a0.States.length : Int))))], [(.box [(.lst 34 (a0.States))])])
  | .h1 (a0) (x15) (i17) (i18) (i22) => ([(.lp 61 c7_8), (.blk 2), (.blk 1), (.seq 61 c7_13), (.lp 61 c7_16), (.blk 0), (.seq 61 c7_18)], [(44, (.i .i64 (i17))), (1, (.ptr 0 0)), (5, (.i .i64 (i18))), (42, (.lst 3 (x15.Next))), (39, (.b (decide ((65535 : Int) < x15.Switch)))), (38, (.i .i64 (x15.Switch))), (37, (.ptr 1 0)), (27, (.lst 34 (a0.States))), (28, (.i .i64 ((↑a0.States.length : Int)))), (29, (.i .i64 (i22))), (43, (.i .i64 ((↑x15.Next.length : Int))))], [(.box [(.lst 34 (a0.States))]), (.box [(.i .i64 (x15.Switch)), (.b (x15.Ends)), (.lst 3 (x15.Next))])])
noncomputable def g7 : L7 → Cm (L7 ⊕ Bool)
  | .h0 (a0) (i19) => (.ite (decide (i19 < (↑a0.States.length : Int))) (.chk ((0 : Int) ≤ i19) (.get (a0.States[i19.toNat]?) fun (y21 : NfaState) => (.ite (decide (y21.Switch < (0 : Int))) (.ret (.inr (Bool.false)))
  (.ite (decide ((65535 : Int) < y21.Switch)) (.ret (.inr (Bool.false)))
  (.ret (.inl (.h1 (a0) (y21) (0) (0) (i19))))))))
  (.ret (.inr (Bool.true))))
  | .h1 (a0) (x15) (i17) (i18) (i22) => (.ite (decide (i17 < (↑x15.Next.length : Int))) (.chk ((0 : Int) ≤ i17) (.get (x15.Next[i17.toNat]?) fun (y23 : Int) => (.ite (decide (y23 ≤ i18)) (.ret (.inr (Bool.false)))
  (.ite (decide ((↑a0.States.length : Int) ≤ y23)) (.ret (.inr (Bool.false)))
  (.ret (.inl (.h1 (a0) (x15) (IntKind.i64.wrap (i17 + 1)) (y23) (i22))))))))
  (.ret (.inl (.h0 (a0) (IntKind.i64.wrap (i22 + 1))))))
theorem E7 : ∀ s, headC C tab kn0 i7.rs H7 .b 5000 (m7 s) = (g7 s).map (Sum.map m7 (fun (r : Bool) => (((.b (r))) : SV Th)))
  | .h0 (a0) (i19) => by kernel_rfl
  | .h1 (a0) (x15) (i17) (i18) (i22) => by kernel_rfl
noncomputable def s7 (a0 : Nfa) : Cm (L7 ⊕ Bool) :=
  (.ite (decide ((↑a0.States.length : Int) = (0 : Int))) (.ret (.inr (Bool.false)))
  (.ite (decide ((64 : Int) < (↑a0.States.length : Int))) (.ret (.inr (Bool.false)))
  (.chk ((0 : Int) ≤ (0 : Int)) (.get (a0.States[(0 : Nat)]?) fun (y13 : NfaState) => (.ite (!decide (y13.Switch = (0 : Int))) (.ret (.inr (Bool.false)))
  (.ret (.inl (.h0 (a0) (0)))))))))
theorem ES7 (y : ATup Th [.t 24]) : startC C tab kn0 i7 H7 .b 5000 (encAs G [.t 24] y) = (s7 (y.1)).map (Sum.map m7 (fun (r : Bool) => (((.b (r))) : SV Th))) := by kernel_rfl
noncomputable def f7 (a0 : Nfa) : Option (Bool) := runO g7 (s7 (a0))
theorem Q7 (y : ATup Th [.t 24]) (r : Bool) (h : f7 (y.1) = some r) : PCall Try.prog C 7 (encAs G [.t 24] y) (· = (fun (r : Bool) => (((.b (r))) : SV Th)) r) := runO_sound gok.ok ko0 tabKnows E7 k7 rfl (by kernel_rfl) (by kernel_rfl) (ES7 y) h
noncomputable def knNfaG1_7 : KnownF Th := (7, knG G [.t 24] fun y => .get (f7 (y.1)) fun r => .ret ((fun (r : Bool) => (((.b (r))) : SV Th)) r)) :: kn0
theorem koNfaG1_7 : KnownOk Try.prog C knNfaG1_7 := KnownOk.add gok ko0 (known_opt (enc := fun (r : Bool) => (((.b (r))) : SV Th)) Q7 (fun _ => rfl))
-- 8 drover/droverref18.Right
def H8 : List (List Nat × Hint) := [([87017], ⟨[85, 72, 84, 77, 83, 82, 79, 81, 80, 78, 76, 74, 75, 73, 71, 70, 67, 63, 66, 65, 64, 1, 62, 60, 61, 59, 3, 42, 41, 40], [], [], [], [], [], [], 0, []⟩),
  ([87046, 87017], ⟨[5, 4, 1, 43, 39, 38, 37, 34, 33, 32, 3], [], [], [], [43, 39], [], [], 0, []⟩)]
inductive L8 where
  | h0 (a0 : Nfa) (i30 : Int)
  | h1 (a0 : Nfa) (x22 : NfaState) (b23 : Bool) (b24 : Bool) (i29 : Int) (b36 : Bool) (i37 : Int) (i38 : Int)
noncomputable def m8 : L8 → Trip Th
  | .h0 (a0) (i30) => ([(.lp 87 c8_13), (.blk 0), (.seq 87 c8_15)], [(85, .any), (72, .any), (84, .any), (77, .any), (83, .any), (82, .any), (79, .any), (81, .any), (80, .any), (78, .any), (76, .any), (74, .any), (75, .any), (73, .any), (71, .any), (70, .any), (67, .any), (63, .any), (66, .any), (65, .any), (64, .any), (1, (.ptr 0 0)), (62, .any), (60, .any), (61, .any), (59, .any), (3, (.i .i64 (i30))), (42, .any), (41, .any), (40, .any)], [(.box [(.lst 34 (a0.States))])])
  | .h1 (a0) (x22) (b23) (b24) (i29) (b36) (i37) (i38) => ([(.lp 87 c8_7), (.blk 2), (.blk 1), (.seq 87 c8_11), (.lp 87 c8_13), (.blk 0), (.seq 87 c8_15)], [(5, (.i .i64 (i29))), (4, (.ptr 0 0)), (1, (.ptr 1 0)), (43, (.b (b23))), (39, (.b (b24))), (38, (.b (b36))), (37, (.i .i64 (i37))), (34, (.b (decide ((65535 : Int) < x22.Switch)))), (33, (.i .i64 (x22.Switch))), (32, (.ptr 0 0)), (3, (.i .i64 (i38)))], [(.box [(.i .i64 (x22.Switch)), (.b (x22.Ends)), (.lst 3 (x22.Next))]), (.box [(.lst 34 (a0.States))])])
noncomputable def g8 : L8 → Cm (L8 ⊕ Bool)
  | .h0 (a0) (i30) => (.ite (decide (i30 < (↑a0.States.length : Int))) (.chk ((0 : Int) ≤ i30) (.get (a0.States[i30.toNat]?) fun (y35 : NfaState) => (.ite (decide (y35.Switch < (0 : Int))) (.ret (.inr (Bool.false)))
  (.ite (decide ((65535 : Int) < y35.Switch)) (.ret (.inr (Bool.false)))
  (.ite (decide (i30 = 0)) (.ite (!decide (y35.Switch = (0 : Int))) (.ret (.inr (Bool.false)))
  (.ret (.inl (.h1 (a0) (y35) (!decide (y35.Switch = (0 : Int))) (Bool.true) (0) (decide (i30 = 0)) (i30) (i30)))))
  (.ret (.inl (.h1 (a0) (y35) (Bool.false) (Bool.false) (0) (decide (i30 = 0)) (i30) (i30)))))))))
  (.ret (.inr (Bool.true))))
  | .h1 (a0) (x22) (b23) (b24) (i29) (b36) (i37) (i38) => (.ite (decide (i29 < (↑x22.Next.length : Int))) (.chk ((0 : Int) ≤ i29) (.get (x22.Next[i29.toNat]?) fun (y39 : Int) => (.ite (decide (y39 < (1 : Int))) (.ret (.inr (Bool.false)))
  (.chk ((0 : Int) ≤ i29) (.get (x22.Next[i29.toNat]?) fun (y40 : Int) => (.ite (decide ((↑a0.States.length : Int) ≤ y40)) (.ret (.inr (Bool.false)))
  (.ite (decide (0 < i29)) (.chk ((0 : Int) ≤ i29) (.get (x22.Next[i29.toNat]?) fun (y41 : Int) => (.chk ((0 : Int) ≤ IntKind.i64.wrap (i29 - (1 : Int))) (.get (x22.Next[(IntKind.i64.wrap (i29 - (1 : Int))).toNat]?) fun (y42 : Int) => (.ite (decide (y41 ≤ y42)) (.ret (.inr (Bool.false)))
  (.ret (.inl (.h1 (a0) (x22) (b23) (b24) (IntKind.i64.wrap (i29 + 1)) (b36) (i37) (i38)))))))))
  (.ret (.inl (.h1 (a0) (x22) (b23) (b24) (IntKind.i64.wrap (i29 + 1)) (b36) (i37) (i38)))))))))))
  (.ret (.inl (.h0 (a0) (IntKind.i64.wrap (i38 + 1))))))
theorem E8 : ∀ s, headC C tab knNfaG1_7 i8.rs H8 .b 5000 (m8 s) = (g8 s).map (Sum.map m8 (fun (r : Bool) => (((.b (r))) : SV Th)))
  | .h0 (a0) (i30) => by kernel_rfl
  | .h1 (a0) (x22) (b23) (b24) (i29) (b36) (i37) (i38) => by kernel_rfl
noncomputable def s8 (a0 : Nfa) : Cm (L8 ⊕ Bool) :=
  (.ite (decide ((↑a0.States.length : Int) < (1 : Int))) (.ret (.inr (Bool.false)))
  (.ite (decide ((64 : Int) < (↑a0.States.length : Int))) (.ret (.inr (Bool.false)))
  (.ret (.inl (.h0 (a0) (0))))))
theorem ES8 (y : ATup Th [.t 24]) : startC C tab knNfaG1_7 i8 H8 .b 5000 (encAs G [.t 24] y) = (s8 (y.1)).map (Sum.map m8 (fun (r : Bool) => (((.b (r))) : SV Th))) := by kernel_rfl
noncomputable def f8 (a0 : Nfa) : Option (Bool) := runO g8 (s8 (a0))
theorem Q8 (y : ATup Th [.t 24]) (r : Bool) (h : f8 (y.1) = some r) : PCall Try.prog C 8 (encAs G [.t 24] y) (· = (fun (r : Bool) => (((.b (r))) : SV Th)) r) := runO_sound gok.ok koNfaG1_7 tabKnows E8 k8 rfl (by kernel_rfl) (by kernel_rfl) (ES8 y) h
noncomputable def knNfaG1_8 : KnownF Th := (8, knG G [.t 24] fun y => .get (f8 (y.1)) fun r => .ret ((fun (r : Bool) => (((.b (r))) : SV Th)) r)) :: knNfaG1_7
theorem koNfaG1_8 : KnownOk Try.prog C knNfaG1_8 := KnownOk.add gok koNfaG1_7 (known_opt (enc := fun (r : Bool) => (((.b (r))) : SV Th)) Q8 (fun _ => rfl))
-- 9 drover/droverref18.Ints
def H9 : List (List Nat × Hint) := [([26012], ⟨[5, 1, 0], [], [], [], [], [], [], 0, []⟩)]
inductive L9 where
  | h0 (a0 : List Int) (a1 : List Int) (i2 : Int)
noncomputable def m9 : L9 → Trip Th
  | .h0 (a0) (a1) (i2) => ([(.lp 26 c9_5), (.blk 0), (.seq 26 c9_7)], [(5, (.i .i64 (i2))), (1, (.lst 3 (a1))), (0, (.lst 3 (a0)))], [])
noncomputable def g9 : L9 → Cm (L9 ⊕ Bool)
  | .h0 (a0) (a1) (i2) => (.ite (decide (i2 < (↑a0.length : Int))) (.chk ((0 : Int) ≤ i2) (.get (a0[i2.toNat]?) fun (y3 : Int) => (.chk ((0 : Int) ≤ i2) (.get (a1[i2.toNat]?) fun (y4 : Int) => (.ite (!decide (y3 = y4)) (.ret (.inr (Bool.false)))
  (.ret (.inl (.h0 (a0) (a1) (IntKind.i64.wrap (i2 + 1))))))))))
  (.ret (.inr (Bool.true))))
theorem E9 : ∀ s, headC C tab knNfaG1_8 i9.rs H9 .b 5000 (m9 s) = (g9 s).map (Sum.map m9 (fun (r : Bool) => (((.b (r))) : SV Th)))
  | .h0 (a0) (a1) (i2) => by kernel_rfl
noncomputable def s9 (a0 : List Int) (a1 : List Int) : Cm (L9 ⊕ Bool) :=
  (.ite (!decide ((↑a0.length : Int) = (↑a1.length : Int))) (.ret (.inr (Bool.false)))
  (.ret (.inl (.h0 (a0) (a1) (0)))))
theorem ES9 (y : ATup Th [.l 3, .l 3]) : startC C tab knNfaG1_8 i9 H9 .b 5000 (encAs G [.l 3, .l 3] y) = (s9 (y.1) (y.2.1)).map (Sum.map m9 (fun (r : Bool) => (((.b (r))) : SV Th))) := by kernel_rfl
noncomputable def f9 (a0 : List Int) (a1 : List Int) : Option (Bool) := runO g9 (s9 (a0) (a1))
theorem Q9 (y : ATup Th [.l 3, .l 3]) (r : Bool) (h : f9 (y.1) (y.2.1) = some r) : PCall Try.prog C 9 (encAs G [.l 3, .l 3] y) (· = (fun (r : Bool) => (((.b (r))) : SV Th)) r) := runO_sound gok.ok koNfaG1_8 tabKnows E9 k9 rfl (by kernel_rfl) (by kernel_rfl) (ES9 y) h
noncomputable def knNfaG1_9 : KnownF Th := (9, knG G [.l 3, .l 3] fun y => .get (f9 (y.1) (y.2.1)) fun r => .ret ((fun (r : Bool) => (((.b (r))) : SV Th)) r)) :: knNfaG1_8
theorem koNfaG1_9 : KnownOk Try.prog C knNfaG1_9 := KnownOk.add gok koNfaG1_8 (known_opt (enc := fun (r : Bool) => (((.b (r))) : SV Th)) Q9 (fun _ => rfl))
-- 12 drover/droverref18.Ends
def H12 : List (List Nat × Hint) := [([41010], ⟨[5, 1, 2], [], [], [], [], [], [], 0, []⟩)]
inductive L12 where
  | h0 (a0 : Nfa) (a1 : List Int) (i11 : Int)
noncomputable def m12 : L12 → Trip Th
  | .h0 (a0) (a1) (i11) => ([(.lp 41 c12_6), (.blk 0), (.seq 41 c12_8)], [(5, (.i .i64 (i11))), (1, (.lst 3 (a1))), (2, (.ptr 0 0))], [(.box [(.lst 34 (a0.States))])])
noncomputable def g12 : L12 → Cm (L12 ⊕ Bool)
  | .h0 (a0) (a1) (i11) => (.ite (decide (i11 < (↑a1.length : Int))) (.chk ((0 : Int) ≤ i11) (.get (a1[i11.toNat]?) fun (y12 : Int) => (.ite (decide ((0 : Int) ≤ y12)) (.chk ((0 : Int) ≤ i11) (.get (a1[i11.toNat]?) fun (y13 : Int) => (.ite (decide (y13 < (↑a0.States.length : Int))) (.chk ((0 : Int) ≤ i11) (.get (a1[i11.toNat]?) fun (y14 : Int) => (.chk ((0 : Int) ≤ y14) (.get (a0.States[y14.toNat]?) fun (y15 : NfaState) => (.ite (y15.Ends) (.ret (.inr (Bool.true)))
  (.ret (.inl (.h0 (a0) (a1) (IntKind.i64.wrap (i11 + 1))))))))))
  (.ret (.inl (.h0 (a0) (a1) (IntKind.i64.wrap (i11 + 1))))))))
  (.ret (.inl (.h0 (a0) (a1) (IntKind.i64.wrap (i11 + 1))))))))
  (.ret (.inr (Bool.false))))
theorem E12 : ∀ s, headC C tab knNfaG1_9 i12.rs H12 .b 5000 (m12 s) = (g12 s).map (Sum.map m12 (fun (r : Bool) => (((.b (r))) : SV Th)))
  | .h0 (a0) (a1) (i11) => by kernel_rfl
noncomputable def s12 (a0 : Nfa) (a1 : List Int) : Cm (L12 ⊕ Bool) :=
  (.get (f8 a0) fun (y6 : Bool) => (.ite (!y6) (.ret (.inr (Bool.false)))
  (.ret (.inl (.h0 (a0) (a1) (0))))))
theorem ES12 (y : ATup Th [.t 24, .l 3]) : startC C tab knNfaG1_9 i12 H12 .b 5000 (encAs G [.t 24, .l 3] y) = (s12 (y.1) (y.2.1)).map (Sum.map m12 (fun (r : Bool) => (((.b (r))) : SV Th))) := by kernel_rfl
noncomputable def f12 (a0 : Nfa) (a1 : List Int) : Option (Bool) := runO g12 (s12 (a0) (a1))
theorem Q12 (y : ATup Th [.t 24, .l 3]) (r : Bool) (h : f12 (y.1) (y.2.1) = some r) : PCall Try.prog C 12 (encAs G [.t 24, .l 3] y) (· = (fun (r : Bool) => (((.b (r))) : SV Th)) r) := runO_sound gok.ok koNfaG1_9 tabKnows E12 k12 rfl (by kernel_rfl) (by kernel_rfl) (ES12 y) h
noncomputable def knNfaG1_12 : KnownF Th := (12, knG G [.t 24, .l 3] fun y => .get (f12 (y.1) (y.2.1)) fun r => .ret ((fun (r : Bool) => (((.b (r))) : SV Th)) r)) :: knNfaG1_9
theorem koNfaG1_12 : KnownOk Try.prog C knNfaG1_12 := KnownOk.add gok koNfaG1_9 (known_opt (enc := fun (r : Bool) => (((.b (r))) : SV Th)) Q12 (fun _ => rfl))
-- 16 drover/nfa.step
def H16 : List (List Nat × Hint) := [([63018], ⟨[16, 7, 51, 49, 50, 2, 3, 14, 15], [], [], [], [], [], [], 0, []⟩),
  ([63038, 63018], ⟨[36, 7, 2, 3, 34, 27, 23, 26, 25, 24, 14, 15, 16, 35], [], [], [], [], [], [], 0, []⟩),
  ([17007, 1000061], ⟨[5, 1, 0], [[13]], [], [(1, 0, 3)], [], [], [(1, 0)], 0, []⟩)]
inductive L16 where
  | h0 (a0 : Nfa) (a1 : List Int) (a2 : Int) (i30 : Int) (i45 : Int)
  | h1 (a0 : Nfa) (a1 : List Int) (a2 : Int) (x31 : NfaState) (i32 : Int) (i35 : Int) (i38 : Int) (i39 : Int)
  | h2 (i40 : Int) (l42 : List Int) (i48 : Int)
noncomputable def m16 : L16 → Trip Th
  | .h0 (a0) (a1) (a2) (i30) (i45) => ([(.lp 63 c16_14), (.blk 0), (.seq 63 c16_18)], [(16, (.i .i64 (i30))), (7, (.i .u64 (i45))), (51, .any), (49, .any), (50, .any), (2, (.i .i64 (a2))), (3, (.ptr 0 0)), (14, (.lst 3 (a1))), (15, (.i .i64 ((↑a1.length : Int))))], [(.box [(.lst 34 (a0.States))])])
  | .h1 (a0) (a1) (a2) (x31) (i32) (i35) (i38) (i39) => ([(.lp 63 c16_7), (.blk 2), (.blk 1), (.seq 63 c16_11), (.lp 63 c16_14), (.blk 0), (.seq 63 c16_18)], [(36, (.i .i64 (i38))), (7, (.i .u64 (i39))), (2, (.i .i64 (a2))), (3, (.ptr 0 0)), (34, (.lst 3 (x31.Next))), (27, (.b (decide ((↑a0.States.length : Int) ≤ i32)))), (23, (.i .i64 (i32))), (26, (.i .i64 ((↑a0.States.length : Int)))), (25, (.lst 34 (a0.States))), (24, (.ptr 0 0)), (14, (.lst 3 (a1))), (15, (.i .i64 ((↑a1.length : Int)))), (16, (.i .i64 (i35))), (35, (.i .i64 ((↑x31.Next.length : Int))))], [(.box [(.lst 34 (a0.States))])])
  | .h2 (i40) (l42) (i48) => ([(.lp 17 c22_5), (.blk 0), (.cal [(13, (.ptr 0 0))] (.some 61) []), (.ops 63 []), (.seq 63 c16_16)], [(5, (.i .i64 (i40))), (1, (.fn 23 [(.ptr 0 0)])), (0, (.i .u64 (i48)))], [(.box [(.sl 3 1 0 (l42.length) .none)]), (.arr 3 (l42))])
noncomputable def g16 : L16 → Cm (L16 ⊕ (List Int))
  | .h0 (a0) (a1) (a2) (i30) (i45) => (.ite (decide (i30 < (↑a1.length : Int))) (.chk ((0 : Int) ≤ i30) (.get (a1[i30.toNat]?) fun (y46 : Int) => (.ite (decide (y46 < (0 : Int))) (.ret (.inl (.h0 (a0) (a1) (a2) (IntKind.i64.wrap (i30 + 1)) (i45))))
  (.ite (decide ((↑a0.States.length : Int) ≤ y46)) (.ret (.inl (.h0 (a0) (a1) (a2) (IntKind.i64.wrap (i30 + 1)) (i45))))
  (.chk ((0 : Int) ≤ y46) (.get (a0.States[y46.toNat]?) fun (y47 : NfaState) => (.ret (.inl (.h1 (a0) (a1) (a2) (y47) (y46) (i30) (0) (i45))))))))))
  (.chk (@Eq Nat (@OfNat.ofNat Nat (nat_lit 0) (instOfNatNat (nat_lit 0))) (@List.length (Th (@OfNat.ofNat Nat (nat_lit 3) (instOfNatNat (nat_lit 3)))) (@List.nil (Th (@OfNat.ofNat Nat (nat_lit 3) (instOfNatNat (nat_lit 3))))))) (.ret (.inl (.h2 (0) ([]) (i45))))))
  | .h1 (a0) (a1) (a2) (x31) (i32) (i35) (i38) (i39) => (.ite (decide (i38 < (↑x31.Next.length : Int))) (.chk ((0 : Int) ≤ i38) (.get (x31.Next[i38.toNat]?) fun (y43 : Int) => (.chk ((0 : Int) ≤ y43) (.get (a0.States[y43.toNat]?) fun (y44 : NfaState) => (.ite (decide (y44.Switch = (0 : Int))) (.chk ((0 : Int) ≤ y43) (.ret (.inl (.h1 (a0) (a1) (a2) (x31) (i32) (i35) (IntKind.i64.wrap (i38 + 1)) (IntKind.u64.wrap (↑(BitVec.ofInt 64 i39 ||| BitVec.ofInt 64 (IntKind.u64.wrap (1 * 2 ^ Min.min y43.toNat 64))).toNat : Int))))))
  (.ite (decide (y44.Switch = a2)) (.chk ((0 : Int) ≤ y43) (.ret (.inl (.h1 (a0) (a1) (a2) (x31) (i32) (i35) (IntKind.i64.wrap (i38 + 1)) (IntKind.u64.wrap (↑(BitVec.ofInt 64 i39 ||| BitVec.ofInt 64 (IntKind.u64.wrap (1 * 2 ^ Min.min y43.toNat 64))).toNat : Int))))))
  (.ret (.inl (.h1 (a0) (a1) (a2) (x31) (i32) (i35) (IntKind.i64.wrap (i38 + 1)) (i39))))))))))
  (.ret (.inl (.h0 (a0) (a1) (a2) (IntKind.i64.wrap (i35 + 1)) (i39)))))
  | .h2 (i40) (l42) (i48) => (.ite (decide (i40 < 64)) (.chk ((0 : Int) ≤ i40) (.ite (decide (IntKind.u64.wrap (↑(BitVec.ofInt 64 (i48.fdiv (2 ^ Min.min i40.toNat 64)) &&& BitVec.ofInt 64 1).toNat : Int) = 1)) (.chk ((1 : Nat) ≤ [i40].length) (.chk (l42.length = l42.length ∧ (l42.length + (List.take (1 : Nat) (List.drop (0 : Nat) [i40])).length) * (8 : Nat) ≤ nat_lit 140737488355328 ∧ l42.length + (List.take (1 : Nat) (List.drop (0 : Nat) [i40])).length ≤ nat_lit 140737488355328) (.chk ((l42 ++ List.take (1 : Nat) (List.drop (0 : Nat) [i40])).length = (l42 ++ List.take (1 : Nat) (List.drop (0 : Nat) [i40])).length) (.ret (.inl (.h2 (IntKind.i64.wrap (i40 + 1)) (l42 ++ List.take (1 : Nat) (List.drop (0 : Nat) [i40])) (i48)))))))
  (.chk (l42.length = l42.length) (.ret (.inl (.h2 (IntKind.i64.wrap (i40 + 1)) (l42) (i48)))))))
  (.chk ((0 : Nat) + l42.length ≤ l42.length) (.ret (.inr (List.take l42.length (List.drop (0 : Nat) l42))))))
theorem E16 : ∀ s, headC C tab knNfaG1_12 i16.rs H16 (.lst 3) 5000 (m16 s) = (g16 s).map (Sum.map m16 (fun (r : (List Int)) => (((.lst 3 (r))) : SV Th)))
  | .h0 (a0) (a1) (a2) (i30) (i45) => by kernel_rfl
  | .h1 (a0) (a1) (a2) (x31) (i32) (i35) (i38) (i39) => by kernel_rfl
  | .h2 (i40) (l42) (i48) => by kernel_rfl
noncomputable def s16 (a0 : Nfa) (a1 : List Int) (a2 : Int) : Cm (L16 ⊕ (List Int)) :=
  (.ret (.inl (.h0 (a0) (a1) (a2) (0) (0))))
theorem ES16 (y : ATup Th [.t 24, .l 3, .i .i64]) : startC C tab knNfaG1_12 i16 H16 (.lst 3) 5000 (encAs G [.t 24, .l 3, .i .i64] y) = (s16 (y.1) (y.2.1) (y.2.2.1)).map (Sum.map m16 (fun (r : (List Int)) => (((.lst 3 (r))) : SV Th))) := by kernel_rfl
noncomputable def f16 (a0 : Nfa) (a1 : List Int) (a2 : Int) : Option ((List Int)) := runO g16 (s16 (a0) (a1) (a2))
theorem Q16 (y : ATup Th [.t 24, .l 3, .i .i64]) (r : (List Int)) (h : f16 (y.1) (y.2.1) (y.2.2.1) = some r) : PCall Try.prog C 16 (encAs G [.t 24, .l 3, .i .i64] y) (· = (fun (r : (List Int)) => (((.lst 3 (r))) : SV Th)) r) := runO_sound gok.ok koNfaG1_12 tabKnows E16 k16 rfl (by kernel_rfl) (by kernel_rfl) (ES16 y) h
noncomputable def knNfaG1_16 : KnownF Th := (16, knG G [.t 24, .l 3, .i .i64] fun y => .get (f16 (y.1) (y.2.1) (y.2.2.1)) fun r => .ret ((fun (r : (List Int)) => (((.lst 3 (r))) : SV Th)) r)) :: knNfaG1_12
theorem koNfaG1_16 : KnownOk Try.prog C knNfaG1_16 := KnownOk.add gok koNfaG1_12 (known_opt (enc := fun (r : (List Int)) => (((.lst 3 (r))) : SV Th)) Q16 (fun _ => rfl))
-- 6 drover/nfa.Step
noncomputable def u6 (a0 : Nfa) (a1 : List Int) (a2 : Int) : Cm ((List Int)) :=
  (.get (f7 a0) fun (y0 : Bool) => (.ite (!y0) (.ret ([]))
  (.get (f16 a0 a1 a2) fun (y1 : List Int) => (.ret (y1)))))
noncomputable def f6 (a0 : Nfa) (a1 : List Int) (a2 : Int) : Option ((List Int)) := (u6 (a0) (a1) (a2)).opt
theorem E6 (y : ATup Th [.t 24, .l 3, .i .i64]) : startC C tab knNfaG1_16 i6 [] (.lst 3) 5000 (encAs G [.t 24, .l 3, .i .i64] y) = (u6 (y.1) (y.2.1) (y.2.2.1)).map (fun r => .inr ((fun (r : (List Int)) => (((.lst 3 (r))) : SV Th)) r)) := by kernel_rfl
theorem Q6 (y : ATup Th [.t 24, .l 3, .i .i64]) (r : (List Int)) (h : f6 (y.1) (y.2.1) (y.2.2.1) = some r) : PCall Try.prog C 6 (encAs G [.t 24, .l 3, .i .i64] y) (· = (fun (r : (List Int)) => (((.lst 3 (r))) : SV Th)) r) := one_sound gok.ok koNfaG1_16 tabKnows k6 (by kernel_rfl) (by kernel_rfl) (E6 y) (Cm.den_opt h rfl)
noncomputable def knNfaG1_6 : KnownF Th := (6, knG G [.t 24, .l 3, .i .i64] fun y => .get (f6 (y.1) (y.2.1) (y.2.2.1)) fun r => .ret ((fun (r : (List Int)) => (((.lst 3 (r))) : SV Th)) r)) :: knNfaG1_16
theorem koNfaG1_6 : KnownOk Try.prog C knNfaG1_6 := KnownOk.add gok koNfaG1_16 (known_opt (enc := fun (r : (List Int)) => (((.lst 3 (r))) : SV Th)) Q6 (fun _ => rfl))
-- 17 drover/droverref18.with
def H17 : List (List Nat × Hint) := [([49009], ⟨[0, 7, 1, 5, 6], [], [(5, 3)], [], [6], [5], [], 0, []⟩)]
inductive L17 where
  | h0 (a0 : List Int) (a1 : Int) (i10 : Int) (b12 : Bool) (l13 : List Int)
noncomputable def m17 : L17 → Trip Th
  | .h0 (a0) (a1) (i10) (b12) (l13) => ([(.lp 49 c17_8), (.blk 0), (.seq 49 c17_12)], [(0, (.lst 3 (a0))), (7, (.i .i64 (i10))), (1, (.i .i64 (a1))), (5, (.sl 3 0 0 (l13.length) .none)), (6, (.b (b12)))], [(.arr 3 (l13))])
noncomputable def g17 : L17 → Cm (L17 ⊕ (List Int))
  | .h0 (a0) (a1) (i10) (b12) (l13) => (.ite (decide (i10 < (↑a0.length : Int))) (.chk ((0 : Int) ≤ i10) (.get (a0[i10.toNat]?) fun (y14 : Int) => (.ite (decide (y14 = a1)) (.ret (.inr (a0)))
  (.ite (!b12) (.chk ((0 : Int) ≤ i10) (.get (a0[i10.toNat]?) fun (y15 : Int) => (.ite (decide (a1 < y15)) (.chk ((1 : Nat) ≤ [a1].length) (.chk (l13.length = l13.length ∧ (l13.length + (List.take (1 : Nat) (List.drop (0 : Nat) [a1])).length) * (8 : Nat) ≤ nat_lit 140737488355328 ∧ l13.length + (List.take (1 : Nat) (List.drop (0 : Nat) [a1])).length ≤ nat_lit 140737488355328) (.chk ((0 : Int) ≤ i10) (.get (a0[i10.toNat]?) fun (y16 : Int) => (.chk ((1 : Nat) ≤ [y16].length) (.chk ((l13 ++ List.take (1 : Nat) (List.drop (0 : Nat) [a1])).length = (l13 ++ List.take (1 : Nat) (List.drop (0 : Nat) [a1])).length ∧ ((l13 ++ List.take (1 : Nat) (List.drop (0 : Nat) [a1])).length + (List.take (1 : Nat) (List.drop (0 : Nat) [y16])).length) * (8 : Nat) ≤ nat_lit 140737488355328 ∧ (l13 ++ List.take (1 : Nat) (List.drop (0 : Nat) [a1])).length + (List.take (1 : Nat) (List.drop (0 : Nat) [y16])).length ≤ nat_lit 140737488355328) (.chk ((l13 ++ List.take (1 : Nat) (List.drop (0 : Nat) [a1]) ++ List.take (1 : Nat) (List.drop (0 : Nat) [y16])).length = (l13 ++ List.take (1 : Nat) (List.drop (0 : Nat) [a1]) ++ List.take (1 : Nat) (List.drop (0 : Nat) [y16])).length) (.ret (.inl (.h0 (a0) (a1) (IntKind.i64.wrap (i10 + 1)) (Bool.true) (l13 ++ List.take (1 : Nat) (List.drop (0 : Nat) [a1]) ++ List.take (1 : Nat) (List.drop (0 : Nat) [y16]))))))))))))
  (.chk ((0 : Int) ≤ i10) (.get (a0[i10.toNat]?) fun (y17 : Int) => (.chk ((1 : Nat) ≤ [y17].length) (.chk (l13.length = l13.length ∧ (l13.length + (List.take (1 : Nat) (List.drop (0 : Nat) [y17])).length) * (8 : Nat) ≤ nat_lit 140737488355328 ∧ l13.length + (List.take (1 : Nat) (List.drop (0 : Nat) [y17])).length ≤ nat_lit 140737488355328) (.chk ((l13 ++ List.take (1 : Nat) (List.drop (0 : Nat) [y17])).length = (l13 ++ List.take (1 : Nat) (List.drop (0 : Nat) [y17])).length) (.ret (.inl (.h0 (a0) (a1) (IntKind.i64.wrap (i10 + 1)) (b12) (l13 ++ List.take (1 : Nat) (List.drop (0 : Nat) [y17])))))))))))))
  (.chk ((0 : Int) ≤ i10) (.get (a0[i10.toNat]?) fun (y18 : Int) => (.chk ((1 : Nat) ≤ [y18].length) (.chk (l13.length = l13.length ∧ (l13.length + (List.take (1 : Nat) (List.drop (0 : Nat) [y18])).length) * (8 : Nat) ≤ nat_lit 140737488355328 ∧ l13.length + (List.take (1 : Nat) (List.drop (0 : Nat) [y18])).length ≤ nat_lit 140737488355328) (.chk ((l13 ++ List.take (1 : Nat) (List.drop (0 : Nat) [y18])).length = (l13 ++ List.take (1 : Nat) (List.drop (0 : Nat) [y18])).length) (.ret (.inl (.h0 (a0) (a1) (IntKind.i64.wrap (i10 + 1)) (b12) (l13 ++ List.take (1 : Nat) (List.drop (0 : Nat) [y18]))))))))))))))
  (.ite (!b12) (.chk ((1 : Nat) ≤ [a1].length) (.chk (l13.length = l13.length ∧ (l13.length + (List.take (1 : Nat) (List.drop (0 : Nat) [a1])).length) * (8 : Nat) ≤ nat_lit 140737488355328 ∧ l13.length + (List.take (1 : Nat) (List.drop (0 : Nat) [a1])).length ≤ nat_lit 140737488355328) (.chk ((0 : Nat) + (l13 ++ List.take (1 : Nat) (List.drop (0 : Nat) [a1])).length ≤ (l13 ++ List.take (1 : Nat) (List.drop (0 : Nat) [a1])).length) (.ret (.inr (List.take (l13 ++ List.take (1 : Nat) (List.drop (0 : Nat) [a1])).length (List.drop (0 : Nat) (l13 ++ List.take (1 : Nat) (List.drop (0 : Nat) [a1])))))))))
  (.chk ((0 : Nat) + l13.length ≤ l13.length) (.ret (.inr (List.take l13.length (List.drop (0 : Nat) l13)))))))
theorem E17 : ∀ s, headC C tab knNfaG1_6 i17.rs H17 (.lst 3) 5000 (m17 s) = (g17 s).map (Sum.map m17 (fun (r : (List Int)) => (((.lst 3 (r))) : SV Th)))
  | .h0 (a0) (a1) (i10) (b12) (l13) => by kernel_rfl
noncomputable def s17 (a0 : List Int) (a1 : Int) : Cm (L17 ⊕ (List Int)) :=
  (.chk (@Eq Nat (@OfNat.ofNat Nat (nat_lit 0) (instOfNatNat (nat_lit 0))) (@List.length (Th (@OfNat.ofNat Nat (nat_lit 3) (instOfNatNat (nat_lit 3)))) (@List.nil (Th (@OfNat.ofNat Nat (nat_lit 3) (instOfNatNat (nat_lit 3))))))) (.ret (.inl (.h0 (a0) (a1) (0) (Bool.false) ([])))))
theorem ES17 (y : ATup Th [.l 3, .i .i64]) : startC C tab knNfaG1_6 i17 H17 (.lst 3) 5000 (encAs G [.l 3, .i .i64] y) = (s17 (y.1) (y.2.1)).map (Sum.map m17 (fun (r : (List Int)) => (((.lst 3 (r))) : SV Th))) := by kernel_rfl
noncomputable def f17 (a0 : List Int) (a1 : Int) : Option ((List Int)) := runO g17 (s17 (a0) (a1))
theorem Q17 (y : ATup Th [.l 3, .i .i64]) (r : (List Int)) (h : f17 (y.1) (y.2.1) = some r) : PCall Try.prog C 17 (encAs G [.l 3, .i .i64] y) (· = (fun (r : (List Int)) => (((.lst 3 (r))) : SV Th)) r) := runO_sound gok.ok koNfaG1_6 tabKnows E17 k17 rfl (by kernel_rfl) (by kernel_rfl) (ES17 y) h
noncomputable def knNfaG1_17 : KnownF Th := (17, knG G [.l 3, .i .i64] fun y => .get (f17 (y.1) (y.2.1)) fun r => .ret ((fun (r : (List Int)) => (((.lst 3 (r))) : SV Th)) r)) :: knNfaG1_6
theorem koNfaG1_17 : KnownOk Try.prog C knNfaG1_17 := KnownOk.add gok koNfaG1_6 (known_opt (enc := fun (r : (List Int)) => (((.lst 3 (r))) : SV Th)) Q17 (fun _ => rfl))
-- 10 drover/droverref18.Step
def H10 : List (List Nat × Hint) := [([74016], ⟨[8, 7, 65, 63, 64, 2, 3, 1], [], [], [], [], [], [], 0, [(7, 3)]⟩),
  ([74046, 74016], ⟨[10, 9, 7, 2, 3, 1, 34, 30, 33, 32, 31, 29, 27, 28, 8], [], [], [], [], [], [], 0, [(7, 3)]⟩)]
inductive L10 where
  | h0 (a0 : Nfa) (a1 : List Int) (a2 : Int) (i54 : Int) (l77 : List Int)
  | h1 (a0 : Nfa) (a1 : List Int) (a2 : Int) (x55 : NfaState) (i56 : Int) (i61 : Int) (i62 : Int) (i69 : Int) (l70 : List Int)
noncomputable def m10 : L10 → Trip Th
  | .h0 (a0) (a1) (a2) (i54) (l77) => ([(.lp 74 c10_16), (.blk 0), (.seq 74 c10_18)], [(8, (.i .i64 (i54))), (7, (.lst 3 (l77))), (65, .any), (63, .any), (64, .any), (2, (.i .i64 (a2))), (3, (.ptr 0 0)), (1, (.lst 3 (a1)))], [(.box [(.lst 34 (a0.States))])])
  | .h1 (a0) (a1) (a2) (x55) (i56) (i61) (i62) (i69) (l70) => ([(.lp 74 c10_10), (.blk 2), (.blk 1), (.seq 74 c10_14), (.lp 74 c10_16), (.blk 0), (.seq 74 c10_18)], [(10, (.i .i64 (i69))), (9, (.lst 3 (x55.Next))), (7, (.lst 3 (l70))), (2, (.i .i64 (a2))), (3, (.ptr 0 0)), (1, (.lst 3 (a1))), (34, (.b (decide ((↑a0.States.length : Int) ≤ i56)))), (30, (.i .i64 (i56))), (33, (.i .i64 ((↑a0.States.length : Int)))), (32, (.lst 34 (a0.States))), (31, (.ptr 0 0)), (29, (.rp (.i .i64 (i56)))), (27, (.lst 3 (a1))), (28, (.i .i64 (i61))), (8, (.i .i64 (i62)))], [(.box [(.lst 34 (a0.States))])])
noncomputable def g10 : L10 → Cm (L10 ⊕ (List Int))
  | .h0 (a0) (a1) (a2) (i54) (l77) => (.ite (decide (i54 < (↑a1.length : Int))) (.chk ((0 : Int) ≤ i54) (.get (a1[i54.toNat]?) fun (y78 : Int) => (.ite (decide (y78 < (0 : Int))) (.ret (.inl (.h0 (a0) (a1) (a2) (IntKind.i64.wrap (i54 + 1)) (l77))))
  (.chk ((0 : Int) ≤ i54) (.get (a1[i54.toNat]?) fun (y79 : Int) => (.ite (decide ((↑a0.States.length : Int) ≤ y79)) (.ret (.inl (.h0 (a0) (a1) (a2) (IntKind.i64.wrap (i54 + 1)) (l77))))
  (.chk ((0 : Int) ≤ i54) (.get (a1[i54.toNat]?) fun (y80 : Int) => (.chk ((0 : Int) ≤ y80) (.get (a0.States[y80.toNat]?) fun (y81 : NfaState) => (.ret (.inl (.h1 (a0) (a1) (a2) (y81) (y79) (i54) (i54) (0) (l77))))))))))))))
  (.ret (.inr (l77))))
  | .h1 (a0) (a1) (a2) (x55) (i56) (i61) (i62) (i69) (l70) => (.ite (decide (i69 < (↑x55.Next.length : Int))) (.chk ((0 : Int) ≤ i69) (.get (x55.Next[i69.toNat]?) fun (y71 : Int) => (.chk ((0 : Int) ≤ y71) (.get (a0.States[y71.toNat]?) fun (y72 : NfaState) => (.ite (decide (y72.Switch = (0 : Int))) (.chk ((0 : Int) ≤ i69) (.get (x55.Next[i69.toNat]?) fun (y73 : Int) => (.get (f17 l70 y73) fun (y74 : List Int) => (.ret (.inl (.h1 (a0) (a1) (a2) (x55) (i56) (i61) (i62) (IntKind.i64.wrap (i69 + 1)) (y74)))))))
  (.ite (decide (y72.Switch = a2)) (.chk ((0 : Int) ≤ i69) (.get (x55.Next[i69.toNat]?) fun (y75 : Int) => (.get (f17 l70 y75) fun (y76 : List Int) => (.ret (.inl (.h1 (a0) (a1) (a2) (x55) (i56) (i61) (i62) (IntKind.i64.wrap (i69 + 1)) (y76)))))))
  (.ret (.inl (.h1 (a0) (a1) (a2) (x55) (i56) (i61) (i62) (IntKind.i64.wrap (i69 + 1)) (l70))))))))))
  (.ret (.inl (.h0 (a0) (a1) (a2) (IntKind.i64.wrap (i62 + 1)) (l70)))))
theorem E10 : ∀ s, headC C tab knNfaG1_17 i10.rs H10 (.lst 3) 5000 (m10 s) = (g10 s).map (Sum.map m10 (fun (r : (List Int)) => (((.lst 3 (r))) : SV Th)))
  | .h0 (a0) (a1) (a2) (i54) (l77) => by kernel_rfl
  | .h1 (a0) (a1) (a2) (x55) (i56) (i61) (i62) (i69) (l70) => by kernel_rfl
noncomputable def s10 (a0 : Nfa) (a1 : List Int) (a2 : Int) : Cm (L10 ⊕ (List Int)) :=
  (.get (f8 a0) fun (y49 : Bool) => (.ite (!y49) (.ret (.inr ([])))
  (.ret (.inl (.h0 (a0) (a1) (a2) (0) ([]))))))
theorem ES10 (y : ATup Th [.t 24, .l 3, .i .i64]) : startC C tab knNfaG1_17 i10 H10 (.lst 3) 5000 (encAs G [.t 24, .l 3, .i .i64] y) = (s10 (y.1) (y.2.1) (y.2.2.1)).map (Sum.map m10 (fun (r : (List Int)) => (((.lst 3 (r))) : SV Th))) := by kernel_rfl
noncomputable def f10 (a0 : Nfa) (a1 : List Int) (a2 : Int) : Option ((List Int)) := runO g10 (s10 (a0) (a1) (a2))
theorem Q10 (y : ATup Th [.t 24, .l 3, .i .i64]) (r : (List Int)) (h : f10 (y.1) (y.2.1) (y.2.2.1) = some r) : PCall Try.prog C 10 (encAs G [.t 24, .l 3, .i .i64] y) (· = (fun (r : (List Int)) => (((.lst 3 (r))) : SV Th)) r) := runO_sound gok.ok koNfaG1_17 tabKnows E10 k10 rfl (by kernel_rfl) (by kernel_rfl) (ES10 y) h
noncomputable def knNfaG1_10 : KnownF Th := (10, knG G [.t 24, .l 3, .i .i64] fun y => .get (f10 (y.1) (y.2.1) (y.2.2.1)) fun r => .ret ((fun (r : (List Int)) => (((.lst 3 (r))) : SV Th)) r)) :: knNfaG1_17
theorem koNfaG1_10 : KnownOk Try.prog C knNfaG1_10 := KnownOk.add gok koNfaG1_17 (known_opt (enc := fun (r : (List Int)) => (((.lst 3 (r))) : SV Th)) Q10 (fun _ => rfl))
-- 15 drover/droverref18.Run
def H15 : List (List Nat × Hint) := [([24009], ⟨[6, 1, 5, 2], [], [], [], [], [], [], 0, [(5, 3)]⟩)]
inductive L15 where
  | h0 (a0 : Nfa) (a1 : List Int) (i7 : Int) (l8 : List Int)
noncomputable def m15 : L15 → Trip Th
  | .h0 (a0) (a1) (i7) (l8) => ([(.lp 24 c15_3), (.blk 0), (.seq 24 c15_6)], [(6, (.i .i64 (i7))), (1, (.lst 3 (a1))), (5, (.lst 3 (l8))), (2, (.ptr 0 0))], [(.box [(.lst 34 (a0.States))])])
noncomputable def g15 : L15 → Cm (L15 ⊕ Bool)
  | .h0 (a0) (a1) (i7) (l8) => (.ite (decide (i7 < (↑a1.length : Int))) (.chk ((0 : Int) ≤ i7) (.get (a1[i7.toNat]?) fun (y9 : Int) => (.get (f10 a0 l8 y9) fun (y10 : List Int) => (.ret (.inl (.h0 (a0) (a1) (IntKind.i64.wrap (i7 + 1)) (y10)))))))
  (.get (f12 a0 l8) fun (y11 : Bool) => (.ret (.inr (y11)))))
theorem E15 : ∀ s, headC C tab knNfaG1_10 i15.rs H15 .b 5000 (m15 s) = (g15 s).map (Sum.map m15 (fun (r : Bool) => (((.b (r))) : SV Th)))
  | .h0 (a0) (a1) (i7) (l8) => by kernel_rfl
noncomputable def s15 (a0 : Nfa) (a1 : List Int) : Cm (L15 ⊕ Bool) :=
  (.chk (And (@LE.le Nat instLENat (@OfNat.ofNat Nat (nat_lit 1) (instOfNatNat (nat_lit 1))) (@List.length Int (@List.cons Int (@OfNat.ofNat Int (nat_lit 0) (@instOfNat (nat_lit 0))) (@List.nil Int)))) (Nat.le (@OfNat.ofNat Nat (nat_lit 1) (instOfNatNat (nat_lit 1))) (@List.length Int (@List.cons Int (@OfNat.ofNat Int (nat_lit 0) (@instOfNat (nat_lit 0))) (@List.nil Int))))) (.ret (.inl (.h0 (a0) (a1) (0) (List.take (1 : Nat) (List.drop (0 : Nat) [(0 : Int)]))))))
theorem ES15 (y : ATup Th [.t 24, .l 3]) : startC C tab knNfaG1_10 i15 H15 .b 5000 (encAs G [.t 24, .l 3] y) = (s15 (y.1) (y.2.1)).map (Sum.map m15 (fun (r : Bool) => (((.b (r))) : SV Th))) := by kernel_rfl
noncomputable def f15 (a0 : Nfa) (a1 : List Int) : Option (Bool) := runO g15 (s15 (a0) (a1))
theorem Q15 (y : ATup Th [.t 24, .l 3]) (r : Bool) (h : f15 (y.1) (y.2.1) = some r) : PCall Try.prog C 15 (encAs G [.t 24, .l 3] y) (· = (fun (r : Bool) => (((.b (r))) : SV Th)) r) := runO_sound gok.ok koNfaG1_10 tabKnows E15 k15 rfl (by kernel_rfl) (by kernel_rfl) (ES15 y) h
noncomputable def knNfaG1_15 : KnownF Th := (15, knG G [.t 24, .l 3] fun y => .get (f15 (y.1) (y.2.1)) fun r => .ret ((fun (r : Bool) => (((.b (r))) : SV Th)) r)) :: knNfaG1_10
theorem koNfaG1_15 : KnownOk Try.prog C knNfaG1_15 := KnownOk.add gok koNfaG1_10 (known_opt (enc := fun (r : Bool) => (((.b (r))) : SV Th)) Q15 (fun _ => rfl))
-- 18 drover/nfa.ends
def H18 : List (List Nat × Hint) := [([34014], ⟨[29, 28, 12, 2, 10, 5, 11], [], [], [], [], [], [], 0, []⟩),
  ([34021, 34014], ⟨[19, 7, 17, 2, 10, 5, 11, 12, 18], [], [], [], [], [], [], 0, []⟩)]
inductive L18 where
  | h0 (a0 : Nfa) (a1 : List Int) (i8 : Int)
  | h1 (a0 : Nfa) (a1 : List Int) (i5 : Int) (i7 : Int) (i11 : Int)
noncomputable def m18 : L18 → Trip Th
  | .h0 (a0) (a1) (i8) => ([(.lp 34 c18_11), (.blk 0), (.seq 34 c18_13)], [(29, .any), (28, .any), (12, (.i .i64 (i8))), (2, (.ptr 0 0)), (10, (.lst 3 (a1))), (5, (.kb (Bool.false))), (11, (.i .i64 ((↑a1.length : Int))))], [(.box [(.lst 34 (a0.States))])])
  | .h1 (a0) (a1) (i5) (i7) (i11) => ([(.lp 34 c18_5), (.blk 2), (.blk 1), (.seq 34 c18_8), (.lp 34 c18_11), (.blk 0), (.seq 34 c18_13)], [(19, (.i .i64 (i7))), (7, (.i .i64 (i5))), (17, (.lst 34 (a0.States))), (2, (.ptr 0 0)), (10, (.lst 3 (a1))), (5, (.kb (Bool.false))), (11, (.i .i64 ((↑a1.length : Int)))), (12, (.i .i64 (i11))), (18, (.i .i64 ((↑a0.States.length : Int))))], [(.box [(.lst 34 (a0.States))])])
noncomputable def g18 : L18 → Cm (L18 ⊕ Bool)
  | .h0 (a0) (a1) (i8) => (.ite (decide (i8 < (↑a1.length : Int))) (.chk ((0 : Int) ≤ i8) (.get (a1[i8.toNat]?) fun (y10 : Int) => (.ret (.inl (.h1 (a0) (a1) (y10) (0) (i8))))))
  (.ret (.inr (Bool.false))))
  | .h1 (a0) (a1) (i5) (i7) (i11) => (.ite (decide (i7 < (↑a0.States.length : Int))) (.chk ((0 : Int) ≤ i7) (.get (a0.States[i7.toNat]?) fun (y12 : NfaState) => (.ite (decide (i7 = i5)) (.ite (y12.Ends) (.ret (.inr (Bool.true)))
  (.ret (.inl (.h1 (a0) (a1) (i5) (IntKind.i64.wrap (i7 + 1)) (i11)))))
  (.ret (.inl (.h1 (a0) (a1) (i5) (IntKind.i64.wrap (i7 + 1)) (i11)))))))
  (.ret (.inl (.h0 (a0) (a1) (IntKind.i64.wrap (i11 + 1))))))
theorem E18 : ∀ s, headC C tab knNfaG1_15 i18.rs H18 .b 5000 (m18 s) = (g18 s).map (Sum.map m18 (fun (r : Bool) => (((.b (r))) : SV Th)))
  | .h0 (a0) (a1) (i8) => by kernel_rfl
  | .h1 (a0) (a1) (i5) (i7) (i11) => by kernel_rfl
noncomputable def s18 (a0 : Nfa) (a1 : List Int) : Cm (L18 ⊕ Bool) :=
  (.ret (.inl (.h0 (a0) (a1) (0))))
theorem ES18 (y : ATup Th [.t 24, .l 3]) : startC C tab knNfaG1_15 i18 H18 .b 5000 (encAs G [.t 24, .l 3] y) = (s18 (y.1) (y.2.1)).map (Sum.map m18 (fun (r : Bool) => (((.b (r))) : SV Th))) := by kernel_rfl
noncomputable def f18 (a0 : Nfa) (a1 : List Int) : Option (Bool) := runO g18 (s18 (a0) (a1))
theorem Q18 (y : ATup Th [.t 24, .l 3]) (r : Bool) (h : f18 (y.1) (y.2.1) = some r) : PCall Try.prog C 18 (encAs G [.t 24, .l 3] y) (· = (fun (r : Bool) => (((.b (r))) : SV Th)) r) := runO_sound gok.ok koNfaG1_15 tabKnows E18 k18 rfl (by kernel_rfl) (by kernel_rfl) (ES18 y) h
noncomputable def knNfaG1_18 : KnownF Th := (18, knG G [.t 24, .l 3] fun y => .get (f18 (y.1) (y.2.1)) fun r => .ret ((fun (r : Bool) => (((.b (r))) : SV Th)) r)) :: knNfaG1_15
theorem koNfaG1_18 : KnownOk Try.prog C knNfaG1_18 := KnownOk.add gok koNfaG1_15 (known_opt (enc := fun (r : Bool) => (((.b (r))) : SV Th)) Q18 (fun _ => rfl))
-- 11 drover/nfa.Ends
noncomputable def u11 (a0 : Nfa) (a1 : List Int) : Cm (Bool) :=
  (.get (f7 a0) fun (y0 : Bool) => (.ite (y0) (.get (f18 a0 a1) fun (y1 : Bool) => (.ret (y1)))
  (.ret (Bool.false))))
noncomputable def f11 (a0 : Nfa) (a1 : List Int) : Option (Bool) := (u11 (a0) (a1)).opt
theorem E11 (y : ATup Th [.t 24, .l 3]) : startC C tab knNfaG1_18 i11 [] .b 5000 (encAs G [.t 24, .l 3] y) = (u11 (y.1) (y.2.1)).map (fun r => .inr ((fun (r : Bool) => (((.b (r))) : SV Th)) r)) := by kernel_rfl
theorem Q11 (y : ATup Th [.t 24, .l 3]) (r : Bool) (h : f11 (y.1) (y.2.1) = some r) : PCall Try.prog C 11 (encAs G [.t 24, .l 3] y) (· = (fun (r : Bool) => (((.b (r))) : SV Th)) r) := one_sound gok.ok koNfaG1_18 tabKnows k11 (by kernel_rfl) (by kernel_rfl) (E11 y) (Cm.den_opt h rfl)
noncomputable def knNfaG1_11 : KnownF Th := (11, knG G [.t 24, .l 3] fun y => .get (f11 (y.1) (y.2.1)) fun r => .ret ((fun (r : Bool) => (((.b (r))) : SV Th)) r)) :: knNfaG1_18
theorem koNfaG1_11 : KnownOk Try.prog C knNfaG1_11 := KnownOk.add gok koNfaG1_18 (known_opt (enc := fun (r : Bool) => (((.b (r))) : SV Th)) Q11 (fun _ => rfl))
-- 3 drover/droverlaw18.NfaSteps
noncomputable def u3 (a0 : Nfa) (a1 : List Int) (a2 : Int) : Cm (Bool) :=
  (.get (f6 a0 a1 a2) fun (y0 : List Int) => (.get (f7 a0) fun (y1 : Bool) => (.get (f8 a0) fun (y2 : Bool) => (.ite (y1 == y2) (.get (f10 a0 a1 a2) fun (y3 : List Int) => (.get (f9 y0 y3) fun (y4 : Bool) => (.ite (y4) (.get (f11 a0 a1) fun (y5 : Bool) => (.get (f12 a0 a1) fun (y6 : Bool) => (.ite (y5 == y6) (.ret (Bool.true))
  (.ret (Bool.false)))))
  (.ret (Bool.false)))))
  (.ret (Bool.false))))))
noncomputable def f3 (a0 : Nfa) (a1 : List Int) (a2 : Int) : Option (Bool) := (u3 (a0) (a1) (a2)).opt
theorem E3 (y : ATup Th [.t 24, .l 3, .i .i64]) : startC C tab knNfaG1_11 i3 [] .b 5000 (encAs G [.t 24, .l 3, .i .i64] y) = (u3 (y.1) (y.2.1) (y.2.2.1)).map (fun r => .inr ((fun (r : Bool) => (((.b (r))) : SV Th)) r)) := by kernel_rfl
theorem Q3 (y : ATup Th [.t 24, .l 3, .i .i64]) (r : Bool) (h : f3 (y.1) (y.2.1) (y.2.2.1) = some r) : PCall Try.prog C 3 (encAs G [.t 24, .l 3, .i .i64] y) (· = (fun (r : Bool) => (((.b (r))) : SV Th)) r) := one_sound gok.ok koNfaG1_11 tabKnows k3 (by kernel_rfl) (by kernel_rfl) (E3 y) (Cm.den_opt h rfl)
noncomputable def knNfaG1_3 : KnownF Th := (3, knG G [.t 24, .l 3, .i .i64] fun y => .get (f3 (y.1) (y.2.1) (y.2.2.1)) fun r => .ret ((fun (r : Bool) => (((.b (r))) : SV Th)) r)) :: knNfaG1_11
theorem koNfaG1_3 : KnownOk Try.prog C knNfaG1_3 := KnownOk.add gok koNfaG1_11 (known_opt (enc := fun (r : Bool) => (((.b (r))) : SV Th)) Q3 (fun _ => rfl))
-- 14 drover/nfa.Run
def H14 : List (List Nat × Hint) := [([27016], ⟨[14, 5, 2, 12, 13], [], [], [], [], [], [], 0, [(5, 3)]⟩)]
inductive L14 where
  | h0 (a0 : Nfa) (a1 : List Int) (i11 : Int) (l12 : List Int)
noncomputable def m14 : L14 → Trip Th
  | .h0 (a0) (a1) (i11) (l12) => ([(.lp 27 c14_6), (.blk 0), (.seq 27 c14_9)], [(14, (.i .i64 (i11))), (5, (.lst 3 (l12))), (2, (.ptr 0 0)), (12, (.lst 3 (a1))), (13, (.i .i64 ((↑a1.length : Int))))], [(.box [(.lst 34 (a0.States))])])
noncomputable def g14 : L14 → Cm (L14 ⊕ Bool)
  | .h0 (a0) (a1) (i11) (l12) => (.ite (decide (i11 < (↑a1.length : Int))) (.chk ((0 : Int) ≤ i11) (.get (a1[i11.toNat]?) fun (y13 : Int) => (.get (f21 l12) fun (y14 : List Int) => (.get (f16 a0 y14 y13) fun (y15 : List Int) => (.ret (.inl (.h0 (a0) (a1) (IntKind.i64.wrap (i11 + 1)) (y15))))))))
  (.get (f18 a0 l12) fun (y16 : Bool) => (.ret (.inr (y16)))))
theorem E14 : ∀ s, headC C tab knNfaG1_3 i14.rs H14 .b 5000 (m14 s) = (g14 s).map (Sum.map m14 (fun (r : Bool) => (((.b (r))) : SV Th)))
  | .h0 (a0) (a1) (i11) (l12) => by kernel_rfl
noncomputable def s14 (a0 : Nfa) (a1 : List Int) : Cm (L14 ⊕ Bool) :=
  (.get (f7 a0) fun (y6 : Bool) => (.ite (!y6) (.ret (.inr (Bool.false)))
  (.chk (And (@LE.le Nat instLENat (@OfNat.ofNat Nat (nat_lit 1) (instOfNatNat (nat_lit 1))) (@List.length Int (@List.cons Int (@OfNat.ofNat Int (nat_lit 0) (@instOfNat (nat_lit 0))) (@List.nil Int)))) (Nat.le (@OfNat.ofNat Nat (nat_lit 1) (instOfNatNat (nat_lit 1))) (@List.length Int (@List.cons Int (@OfNat.ofNat Int (nat_lit 0) (@instOfNat (nat_lit 0))) (@List.nil Int))))) (.ret (.inl (.h0 (a0) (a1) (0) (List.take (1 : Nat) (List.drop (0 : Nat) [(0 : Int)]))))))))
theorem ES14 (y : ATup Th [.t 24, .l 3]) : startC C tab knNfaG1_3 i14 H14 .b 5000 (encAs G [.t 24, .l 3] y) = (s14 (y.1) (y.2.1)).map (Sum.map m14 (fun (r : Bool) => (((.b (r))) : SV Th))) := by kernel_rfl
noncomputable def f14 (a0 : Nfa) (a1 : List Int) : Option (Bool) := runO g14 (s14 (a0) (a1))
theorem Q14 (y : ATup Th [.t 24, .l 3]) (r : Bool) (h : f14 (y.1) (y.2.1) = some r) : PCall Try.prog C 14 (encAs G [.t 24, .l 3] y) (· = (fun (r : Bool) => (((.b (r))) : SV Th)) r) := runO_sound gok.ok koNfaG1_3 tabKnows E14 k14 rfl (by kernel_rfl) (by kernel_rfl) (ES14 y) h
noncomputable def knNfaG1_14 : KnownF Th := (14, knG G [.t 24, .l 3] fun y => .get (f14 (y.1) (y.2.1)) fun r => .ret ((fun (r : Bool) => (((.b (r))) : SV Th)) r)) :: knNfaG1_3
theorem koNfaG1_14 : KnownOk Try.prog C knNfaG1_14 := KnownOk.add gok koNfaG1_3 (known_opt (enc := fun (r : Bool) => (((.b (r))) : SV Th)) Q14 (fun _ => rfl))
-- 4 drover/droverlaw18.NfaRuns
noncomputable def u4 (a0 : Nfa) (a1 : List Int) : Cm (Bool) :=
  (.get (f14 a0 a1) fun (y0 : Bool) => (.get (f15 a0 a1) fun (y1 : Bool) => (.ite (y0 == y1) (.ret (Bool.true))
  (.ret (Bool.false)))))
noncomputable def f4 (a0 : Nfa) (a1 : List Int) : Option (Bool) := (u4 (a0) (a1)).opt
theorem E4 (y : ATup Th [.t 24, .l 3]) : startC C tab knNfaG1_14 i4 [] .b 5000 (encAs G [.t 24, .l 3] y) = (u4 (y.1) (y.2.1)).map (fun r => .inr ((fun (r : Bool) => (((.b (r))) : SV Th)) r)) := by kernel_rfl
theorem Q4 (y : ATup Th [.t 24, .l 3]) (r : Bool) (h : f4 (y.1) (y.2.1) = some r) : PCall Try.prog C 4 (encAs G [.t 24, .l 3] y) (· = (fun (r : Bool) => (((.b (r))) : SV Th)) r) := one_sound gok.ok koNfaG1_14 tabKnows k4 (by kernel_rfl) (by kernel_rfl) (E4 y) (Cm.den_opt h rfl)
noncomputable def knNfaG1_4 : KnownF Th := (4, knG G [.t 24, .l 3] fun y => .get (f4 (y.1) (y.2.1)) fun r => .ret ((fun (r : Bool) => (((.b (r))) : SV Th)) r)) :: knNfaG1_14
theorem koNfaG1_4 : KnownOk Try.prog C knNfaG1_4 := KnownOk.add gok koNfaG1_14 (known_opt (enc := fun (r : Bool) => (((.b (r))) : SV Th)) Q4 (fun _ => rfl))
-- 5 drover/droverlaw18.NfaGoes
def H5 : List (List Nat × Hint) := [([188022], ⟨[10, 3, 9, 4, 111, 106, 110, 109, 107, 108, 105, 103, 104, 129, 124, 128, 127, 125, 126, 123, 121, 122, 147, 136, 146, 140, 145, 144, 141, 143, 142, 139, 137, 138, 135, 134, 186, 183, 174, 182, 178, 181, 179, 180, 2, 177, 175, 176, 1, 172, 173, 169, 163, 168, 165, 167, 166, 164, 162, 159, 156, 158, 157, 155, 63, 49, 62, 53, 61, 57, 60, 59, 58, 56, 55, 54, 52, 50, 51, 48, 47, 46, 43, 39, 42, 40, 41, 37, 38], [], [], [], [], [], [], 0, [(9, 3)]⟩),
  ([188090], ⟨[111, 106, 110, 109, 107, 108, 16, 15, 105, 103, 104, 13, 129, 124, 128, 127, 125, 126, 123, 121, 122, 14, 186, 183, 174, 182, 178, 181, 179, 180, 2, 4, 177, 175, 176, 1, 172, 173, 12, 169, 163, 168, 165, 167, 166, 164, 162, 159, 156, 158, 157, 155], [], [], [], [], [], [], 0, []⟩),
  ([188096, 188090], ⟨[18, 16, 15, 13, 17, 129, 124, 128, 127, 125, 126, 123, 121, 122, 14, 147, 136, 146, 140, 145, 144, 141, 143, 142, 139, 137, 138, 135, 134, 186, 183, 174, 182, 178, 181, 179, 180, 2, 4, 177, 175, 176, 1, 172, 173, 12, 169, 163, 168, 165, 167, 166, 164, 162, 159, 156, 158, 157, 155], [], [], [], [17], [], [], 0, []⟩),
  ([188114, 188090], ⟨[19, 16, 15, 14, 17, 111, 106, 110, 109, 107, 108, 105, 103, 104, 13, 147, 136, 146, 140, 145, 144, 141, 143, 142, 139, 137, 138, 135, 134, 186, 183, 174, 182, 178, 181, 179, 180, 2, 4, 177, 175, 176, 1, 172, 173, 12, 169, 163, 168, 165, 167, 166, 164, 162, 159, 156, 158, 157, 155], [], [], [], [17], [], [], 0, []⟩)]
inductive L5 where
  | h0 (a0 : Nfa) (a1 : List Int) (a2 : List Int) (a3 : List Int) (i476 : Int) (l477 : List Int)
  | h1 (a0 : Nfa) (a1 : List Int) (a2 : List Int) (l478 : List Int) (l479 : List Int) (l480 : List Int) (i553 : Int)
  | h2 (a0 : Nfa) (a1 : List Int) (a2 : List Int) (l535 : List Int) (l536 : List Int) (l537 : List Int) (i540 : Int) (b541 : Bool) (i561 : Int)
  | h3 (a0 : Nfa) (a1 : List Int) (a2 : List Int) (l542 : List Int) (l543 : List Int) (l544 : List Int) (b547 : Bool) (i552 : Int) (i564 : Int)
noncomputable def m5 : L5 → Trip Th
  | .h0 (a0) (a1) (a2) (a3) (i476) (l477) => ([(.lp 188 c5_3), (.blk 0), (.seq 188 c5_39)], [(10, (.i .i64 (i476))), (3, (.lst 3 (a3))), (9, (.lst 3 (l477))), (4, (.ptr 0 0)), (111, .any), (106, .any), (110, .any), (109, .any), (107, .any), (108, .any), (105, .any), (103, .any), (104, .any), (129, .any), (124, .any), (128, .any), (127, .any), (125, .any), (126, .any), (123, .any), (121, .any), (122, .any), (147, .any), (136, .any), (146, .any), (140, .any), (145, .any), (144, .any), (141, .any), (143, .any), (142, .any), (139, .any), (137, .any), (138, .any), (135, .any), (134, .any), (186, .any), (183, .any), (174, .any), (182, .any), (178, .any), (181, .any), (179, .any), (180, .any), (2, (.lst 3 (a2))), (177, .any), (175, .any), (176, .any), (1, (.lst 3 (a1))), (172, .any), (173, .any), (169, .any), (163, .any), (168, .any), (165, .any), (167, .any), (166, .any), (164, .any), (162, .any), (159, .any), (156, .any), (158, .any), (157, .any), (155, .any), (63, .any), (49, .any), (62, .any), (53, .any), (61, .any), (57, .any), (60, .any), (59, .any), (58, .any), (56, .any), (55, .any), (54, .any), (52, .any), (50, .any), (51, .any), (48, .any), (47, .any), (46, .any), (43, .any), (39, .any), (42, .any), (40, .any), (41, .any), (37, .any), (38, .any)], [(.box [(.lst 34 (a0.States))])])
  | .h1 (a0) (a1) (a2) (l478) (l479) (l480) (i553) => ([(.lp 188 c5_27), (.blk 2), (.seq 188 c5_29)], [(111, .any), (106, .any), (110, .any), (109, .any), (107, .any), (108, .any), (16, (.i .i64 (i553))), (15, (.lst 3 (l478))), (105, .any), (103, .any), (104, .any), (13, (.lst 3 (l479))), (129, .any), (124, .any), (128, .any), (127, .any), (125, .any), (126, .any), (123, .any), (121, .any), (122, .any), (14, (.lst 3 (l480))), (186, .any), (183, .any), (174, .any), (182, .any), (178, .any), (181, .any), (179, .any), (180, .any), (2, (.lst 3 (a2))), (4, (.ptr 0 0)), (177, .any), (175, .any), (176, .any), (1, (.lst 3 (a1))), (172, .any), (173, .any), (12, (.lst 3 (List.take (a1 ++ a2).length (List.drop (0 : Nat) (a1 ++ a2))))), (169, .any), (163, .any), (168, .any), (165, .any), (167, .any), (166, .any), (164, .any), (162, .any), (159, .any), (156, .any), (158, .any), (157, .any), (155, .any)], [(.box [(.lst 34 (a0.States))])])
  | .h2 (a0) (a1) (a2) (l535) (l536) (l537) (i540) (b541) (i561) => ([(.lp 188 c5_14), (.blk 4), (.seq 188 c5_23), (.blk 3), (.seq 188 c5_25), (.lp 188 c5_27), (.blk 2), (.seq 188 c5_29)], [(18, (.i .i64 (i540))), (16, (.i .i64 (i561))), (15, (.lst 3 (l535))), (13, (.lst 3 (l536))), (17, (.b (b541))), (129, .any), (124, .any), (128, .any), (127, .any), (125, .any), (126, .any), (123, .any), (121, .any), (122, .any), (14, (.lst 3 (l537))), (147, .any), (136, .any), (146, .any), (140, .any), (145, .any), (144, .any), (141, .any), (143, .any), (142, .any), (139, .any), (137, .any), (138, .any), (135, .any), (134, .any), (186, .any), (183, .any), (174, .any), (182, .any), (178, .any), (181, .any), (179, .any), (180, .any), (2, (.lst 3 (a2))), (4, (.ptr 0 0)), (177, .any), (175, .any), (176, .any), (1, (.lst 3 (a1))), (172, .any), (173, .any), (12, (.lst 3 (List.take (a1 ++ a2).length (List.drop (0 : Nat) (a1 ++ a2))))), (169, .any), (163, .any), (168, .any), (165, .any), (167, .any), (166, .any), (164, .any), (162, .any), (159, .any), (156, .any), (158, .any), (157, .any), (155, .any)], [(.box [(.lst 34 (a0.States))])])
  | .h3 (a0) (a1) (a2) (l542) (l543) (l544) (b547) (i552) (i564) => ([(.lp 188 c5_19), (.blk 6), (.seq 188 c5_22), (.blk 3), (.seq 188 c5_25), (.lp 188 c5_27), (.blk 2), (.seq 188 c5_29)], [(19, (.i .i64 (i552))), (16, (.i .i64 (i564))), (15, (.lst 3 (l542))), (14, (.lst 3 (l543))), (17, (.b (b547))), (111, .any), (106, .any), (110, .any), (109, .any), (107, .any), (108, .any), (105, .any), (103, .any), (104, .any), (13, (.lst 3 (l544))), (147, .any), (136, .any), (146, .any), (140, .any), (145, .any), (144, .any), (141, .any), (143, .any), (142, .any), (139, .any), (137, .any), (138, .any), (135, .any), (134, .any), (186, .any), (183, .any), (174, .any), (182, .any), (178, .any), (181, .any), (179, .any), (180, .any), (2, (.lst 3 (a2))), (4, (.ptr 0 0)), (177, .any), (175, .any), (176, .any), (1, (.lst 3 (a1))), (172, .any), (173, .any), (12, (.lst 3 (List.take (a1 ++ a2).length (List.drop (0 : Nat) (a1 ++ a2))))), (169, .any), (163, .any), (168, .any), (165, .any), (167, .any), (166, .any), (164, .any), (162, .any), (159, .any), (156, .any), (158, .any), (157, .any), (155, .any)], [(.box [(.lst 34 (a0.States))])])
noncomputable def g5 : L5 → Cm (L5 ⊕ Bool)
  | .h0 (a0) (a1) (a2) (a3) (i476) (l477) => (.ite (decide (i476 < (↑a3.length : Int))) (.chk ((0 : Int) ≤ i476) (.get (a3[i476.toNat]?) fun (y481 : Int) => (.get (f6 a0 l477 y481) fun (y482 : List Int) => (.ret (.inl (.h0 (a0) (a1) (a2) (a3) (IntKind.i64.wrap (i476 + 1)) (y482)))))))
  (.get (f7 a0) fun (y483 : Bool) => (.ite (y483) (.get (f11 a0 l477) fun (y484 : Bool) => (.get (f14 a0 a3) fun (y485 : Bool) => (.ite (!y484 == y485) (.ret (.inr (Bool.false)))
  (.get (f7 a0) fun (y486 : Bool) => (.ite (!y486) (.get (f14 a0 a3) fun (y487 : Bool) => (.ite (y487) (.ret (.inr (Bool.false)))
  (.ite (decide ((0 : Int) < (↑l477.length : Int))) (.ite (decide ((0 : Int) < (↑a3.length : Int))) (.ret (.inr (Bool.false)))
  (.ite (decide ((0 : Int) < (↑a3.length : Int))) (.chk ((0 : Int) ≤ (0 : Int)) (.get (a3[(0 : Nat)]?) fun (y488 : Int) => (.chk (a1.length * (8 : Nat) ≤ nat_lit 140737488355328 ∧ a1.length ≤ nat_lit 140737488355328) (.chk (a1.length = a1.length ∧ (a1.length + a2.length) * (8 : Nat) ≤ nat_lit 140737488355328 ∧ a1.length + a2.length ≤ nat_lit 140737488355328) (.get (f6 a0 a1 y488) fun (y489 : List Int) => (.get (f6 a0 a2 y488) fun (y490 : List Int) => (.chk ((0 : Nat) + (a1 ++ a2).length ≤ (a1 ++ a2).length ∧ (0 : Nat) + (a1 ++ a2).length ≤ (a1 ++ a2).length ∧ ((0 : Nat) + (a1 ++ a2).length).le (a1 ++ a2).length) (.get (f6 a0 (List.take (a1 ++ a2).length (List.drop (0 : Nat) (a1 ++ a2))) y488) fun (y491 : List Int) => (.ret (.inl (.h1 (a0) (a1) (a2) (y491) (y489) (y490) (0))))))))))))
  (.chk (a1.length * (8 : Nat) ≤ nat_lit 140737488355328 ∧ a1.length ≤ nat_lit 140737488355328) (.chk (a1.length = a1.length ∧ (a1.length + a2.length) * (8 : Nat) ≤ nat_lit 140737488355328 ∧ a1.length + a2.length ≤ nat_lit 140737488355328) (.get (f6 a0 a1 1) fun (y492 : List Int) => (.get (f6 a0 a2 1) fun (y493 : List Int) => (.chk ((0 : Nat) + (a1 ++ a2).length ≤ (a1 ++ a2).length ∧ (0 : Nat) + (a1 ++ a2).length ≤ (a1 ++ a2).length ∧ ((0 : Nat) + (a1 ++ a2).length).le (a1 ++ a2).length) (.get (f6 a0 (List.take (a1 ++ a2).length (List.drop (0 : Nat) (a1 ++ a2))) (1 : Int)) fun (y494 : List Int) => (.ret (.inl (.h1 (a0) (a1) (a2) (y494) (y492) (y493) (0))))))))))))
  (.ite (decide ((0 : Int) < (↑a3.length : Int))) (.chk ((0 : Int) ≤ (0 : Int)) (.get (a3[(0 : Nat)]?) fun (y495 : Int) => (.chk (a1.length * (8 : Nat) ≤ nat_lit 140737488355328 ∧ a1.length ≤ nat_lit 140737488355328) (.chk (a1.length = a1.length ∧ (a1.length + a2.length) * (8 : Nat) ≤ nat_lit 140737488355328 ∧ a1.length + a2.length ≤ nat_lit 140737488355328) (.get (f6 a0 a1 y495) fun (y496 : List Int) => (.get (f6 a0 a2 y495) fun (y497 : List Int) => (.chk ((0 : Nat) + (a1 ++ a2).length ≤ (a1 ++ a2).length ∧ (0 : Nat) + (a1 ++ a2).length ≤ (a1 ++ a2).length ∧ ((0 : Nat) + (a1 ++ a2).length).le (a1 ++ a2).length) (.get (f6 a0 (List.take (a1 ++ a2).length (List.drop (0 : Nat) (a1 ++ a2))) y495) fun (y498 : List Int) => (.ret (.inl (.h1 (a0) (a1) (a2) (y498) (y496) (y497) (0))))))))))))
  (.chk (a1.length * (8 : Nat) ≤ nat_lit 140737488355328 ∧ a1.length ≤ nat_lit 140737488355328) (.chk (a1.length = a1.length ∧ (a1.length + a2.length) * (8 : Nat) ≤ nat_lit 140737488355328 ∧ a1.length + a2.length ≤ nat_lit 140737488355328) (.get (f6 a0 a1 1) fun (y499 : List Int) => (.get (f6 a0 a2 1) fun (y500 : List Int) => (.chk ((0 : Nat) + (a1 ++ a2).length ≤ (a1 ++ a2).length ∧ (0 : Nat) + (a1 ++ a2).length ≤ (a1 ++ a2).length ∧ ((0 : Nat) + (a1 ++ a2).length).le (a1 ++ a2).length) (.get (f6 a0 (List.take (a1 ++ a2).length (List.drop (0 : Nat) (a1 ++ a2))) (1 : Int)) fun (y501 : List Int) => (.ret (.inl (.h1 (a0) (a1) (a2) (y501) (y499) (y500) (0))))))))))))))
  (.ite (decide ((0 : Int) < (↑a3.length : Int))) (.chk ((0 : Int) ≤ (0 : Int)) (.get (a3[(0 : Nat)]?) fun (y502 : Int) => (.chk (a1.length * (8 : Nat) ≤ nat_lit 140737488355328 ∧ a1.length ≤ nat_lit 140737488355328) (.chk (a1.length = a1.length ∧ (a1.length + a2.length) * (8 : Nat) ≤ nat_lit 140737488355328 ∧ a1.length + a2.length ≤ nat_lit 140737488355328) (.get (f6 a0 a1 y502) fun (y503 : List Int) => (.get (f6 a0 a2 y502) fun (y504 : List Int) => (.chk ((0 : Nat) + (a1 ++ a2).length ≤ (a1 ++ a2).length ∧ (0 : Nat) + (a1 ++ a2).length ≤ (a1 ++ a2).length ∧ ((0 : Nat) + (a1 ++ a2).length).le (a1 ++ a2).length) (.get (f6 a0 (List.take (a1 ++ a2).length (List.drop (0 : Nat) (a1 ++ a2))) y502) fun (y505 : List Int) => (.ret (.inl (.h1 (a0) (a1) (a2) (y505) (y503) (y504) (0))))))))))))
  (.chk (a1.length * (8 : Nat) ≤ nat_lit 140737488355328 ∧ a1.length ≤ nat_lit 140737488355328) (.chk (a1.length = a1.length ∧ (a1.length + a2.length) * (8 : Nat) ≤ nat_lit 140737488355328 ∧ a1.length + a2.length ≤ nat_lit 140737488355328) (.get (f6 a0 a1 1) fun (y506 : List Int) => (.get (f6 a0 a2 1) fun (y507 : List Int) => (.chk ((0 : Nat) + (a1 ++ a2).length ≤ (a1 ++ a2).length ∧ (0 : Nat) + (a1 ++ a2).length ≤ (a1 ++ a2).length ∧ ((0 : Nat) + (a1 ++ a2).length).le (a1 ++ a2).length) (.get (f6 a0 (List.take (a1 ++ a2).length (List.drop (0 : Nat) (a1 ++ a2))) (1 : Int)) fun (y508 : List Int) => (.ret (.inl (.h1 (a0) (a1) (a2) (y508) (y506) (y507) (0))))))))))))))))
  (.get (f7 a0) fun (y509 : Bool) => (.ite (!y509) (.get (f14 a0 a3) fun (y510 : Bool) => (.ite (y510) (.ret (.inr (Bool.false)))
  (.ite (decide ((0 : Int) < (↑l477.length : Int))) (.ite (decide ((0 : Int) < (↑a3.length : Int))) (.ret (.inr (Bool.false)))
  (.ite (decide ((0 : Int) < (↑a3.length : Int))) (.chk ((0 : Int) ≤ (0 : Int)) (.get (a3[(0 : Nat)]?) fun (y511 : Int) => (.chk (a1.length * (8 : Nat) ≤ nat_lit 140737488355328 ∧ a1.length ≤ nat_lit 140737488355328) (.chk (a1.length = a1.length ∧ (a1.length + a2.length) * (8 : Nat) ≤ nat_lit 140737488355328 ∧ a1.length + a2.length ≤ nat_lit 140737488355328) (.get (f6 a0 a1 y511) fun (y512 : List Int) => (.get (f6 a0 a2 y511) fun (y513 : List Int) => (.chk ((0 : Nat) + (a1 ++ a2).length ≤ (a1 ++ a2).length ∧ (0 : Nat) + (a1 ++ a2).length ≤ (a1 ++ a2).length ∧ ((0 : Nat) + (a1 ++ a2).length).le (a1 ++ a2).length) (.get (f6 a0 (List.take (a1 ++ a2).length (List.drop (0 : Nat) (a1 ++ a2))) y511) fun (y514 : List Int) => (.ret (.inl (.h1 (a0) (a1) (a2) (y514) (y512) (y513) (0))))))))))))
  (.chk (a1.length * (8 : Nat) ≤ nat_lit 140737488355328 ∧ a1.length ≤ nat_lit 140737488355328) (.chk (a1.length = a1.length ∧ (a1.length + a2.length) * (8 : Nat) ≤ nat_lit 140737488355328 ∧ a1.length + a2.length ≤ nat_lit 140737488355328) (.get (f6 a0 a1 1) fun (y515 : List Int) => (.get (f6 a0 a2 1) fun (y516 : List Int) => (.chk ((0 : Nat) + (a1 ++ a2).length ≤ (a1 ++ a2).length ∧ (0 : Nat) + (a1 ++ a2).length ≤ (a1 ++ a2).length ∧ ((0 : Nat) + (a1 ++ a2).length).le (a1 ++ a2).length) (.get (f6 a0 (List.take (a1 ++ a2).length (List.drop (0 : Nat) (a1 ++ a2))) (1 : Int)) fun (y517 : List Int) => (.ret (.inl (.h1 (a0) (a1) (a2) (y517) (y515) (y516) (0))))))))))))
  (.ite (decide ((0 : Int) < (↑a3.length : Int))) (.chk ((0 : Int) ≤ (0 : Int)) (.get (a3[(0 : Nat)]?) fun (y518 : Int) => (.chk (a1.length * (8 : Nat) ≤ nat_lit 140737488355328 ∧ a1.length ≤ nat_lit 140737488355328) (.chk (a1.length = a1.length ∧ (a1.length + a2.length) * (8 : Nat) ≤ nat_lit 140737488355328 ∧ a1.length + a2.length ≤ nat_lit 140737488355328) (.get (f6 a0 a1 y518) fun (y519 : List Int) => (.get (f6 a0 a2 y518) fun (y520 : List Int) => (.chk ((0 : Nat) + (a1 ++ a2).length ≤ (a1 ++ a2).length ∧ (0 : Nat) + (a1 ++ a2).length ≤ (a1 ++ a2).length ∧ ((0 : Nat) + (a1 ++ a2).length).le (a1 ++ a2).length) (.get (f6 a0 (List.take (a1 ++ a2).length (List.drop (0 : Nat) (a1 ++ a2))) y518) fun (y521 : List Int) => (.ret (.inl (.h1 (a0) (a1) (a2) (y521) (y519) (y520) (0))))))))))))
  (.chk (a1.length * (8 : Nat) ≤ nat_lit 140737488355328 ∧ a1.length ≤ nat_lit 140737488355328) (.chk (a1.length = a1.length ∧ (a1.length + a2.length) * (8 : Nat) ≤ nat_lit 140737488355328 ∧ a1.length + a2.length ≤ nat_lit 140737488355328) (.get (f6 a0 a1 1) fun (y522 : List Int) => (.get (f6 a0 a2 1) fun (y523 : List Int) => (.chk ((0 : Nat) + (a1 ++ a2).length ≤ (a1 ++ a2).length ∧ (0 : Nat) + (a1 ++ a2).length ≤ (a1 ++ a2).length ∧ ((0 : Nat) + (a1 ++ a2).length).le (a1 ++ a2).length) (.get (f6 a0 (List.take (a1 ++ a2).length (List.drop (0 : Nat) (a1 ++ a2))) (1 : Int)) fun (y524 : List Int) => (.ret (.inl (.h1 (a0) (a1) (a2) (y524) (y522) (y523) (0))))))))))))))
  (.ite (decide ((0 : Int) < (↑a3.length : Int))) (.chk ((0 : Int) ≤ (0 : Int)) (.get (a3[(0 : Nat)]?) fun (y525 : Int) => (.chk (a1.length * (8 : Nat) ≤ nat_lit 140737488355328 ∧ a1.length ≤ nat_lit 140737488355328) (.chk (a1.length = a1.length ∧ (a1.length + a2.length) * (8 : Nat) ≤ nat_lit 140737488355328 ∧ a1.length + a2.length ≤ nat_lit 140737488355328) (.get (f6 a0 a1 y525) fun (y526 : List Int) => (.get (f6 a0 a2 y525) fun (y527 : List Int) => (.chk ((0 : Nat) + (a1 ++ a2).length ≤ (a1 ++ a2).length ∧ (0 : Nat) + (a1 ++ a2).length ≤ (a1 ++ a2).length ∧ ((0 : Nat) + (a1 ++ a2).length).le (a1 ++ a2).length) (.get (f6 a0 (List.take (a1 ++ a2).length (List.drop (0 : Nat) (a1 ++ a2))) y525) fun (y528 : List Int) => (.ret (.inl (.h1 (a0) (a1) (a2) (y528) (y526) (y527) (0))))))))))))
  (.chk (a1.length * (8 : Nat) ≤ nat_lit 140737488355328 ∧ a1.length ≤ nat_lit 140737488355328) (.chk (a1.length = a1.length ∧ (a1.length + a2.length) * (8 : Nat) ≤ nat_lit 140737488355328 ∧ a1.length + a2.length ≤ nat_lit 140737488355328) (.get (f6 a0 a1 1) fun (y529 : List Int) => (.get (f6 a0 a2 1) fun (y530 : List Int) => (.chk ((0 : Nat) + (a1 ++ a2).length ≤ (a1 ++ a2).length ∧ (0 : Nat) + (a1 ++ a2).length ≤ (a1 ++ a2).length ∧ ((0 : Nat) + (a1 ++ a2).length).le (a1 ++ a2).length) (.get (f6 a0 (List.take (a1 ++ a2).length (List.drop (0 : Nat) (a1 ++ a2))) (1 : Int)) fun (y531 : List Int) => (.ret (.inl (.h1 (a0) (a1) (a2) (y531) (y529) (y530) (0))))))))))))))))
  | .h1 (a0) (a1) (a2) (l478) (l479) (l480) (i553) => (.ite (decide (i553 < (↑l478.length : Int))) (.ret (.inl (.h2 (a0) (a1) (a2) (l478) (l479) (l480) (0) (Bool.false) (i553))))
  (.ite (decide ((↑l479.length : Int) ≤ (↑l478.length : Int))) (.ite (decide ((↑l480.length : Int) ≤ (↑l478.length : Int))) (.ite (decide ((↑l478.length : Int) ≤ IntKind.i64.wrap ((↑l479.length : Int) + (↑l480.length : Int)))) (.get (f11 a0 (List.take (a1 ++ a2).length (List.drop (0 : Nat) (a1 ++ a2)))) fun (y558 : Bool) => (.get (f11 a0 a1) fun (y559 : Bool) => (.ite (y559) (.ite (y558 == Bool.true) (.ret (.inr (Bool.true)))
  (.ret (.inr (Bool.false))))
  (.get (f11 a0 a2) fun (y560 : Bool) => (.ite (y558 == y560) (.ret (.inr (Bool.true)))
  (.ret (.inr (Bool.false))))))))
  (.ret (.inr (Bool.false))))
  (.ret (.inr (Bool.false))))
  (.ret (.inr (Bool.false)))))
  | .h2 (a0) (a1) (a2) (l535) (l536) (l537) (i540) (b541) (i561) => (.ite (decide (i540 < (↑l536.length : Int))) (.ite (b541) (.ret (.inl (.h2 (a0) (a1) (a2) (l535) (l536) (l537) (IntKind.i64.wrap (i540 + 1)) (Bool.true) (i561))))
  (.chk ((0 : Int) ≤ i540) (.get (l536[i540.toNat]?) fun (y562 : Int) => (.chk ((0 : Int) ≤ i561) (.get (l535[i561.toNat]?) fun (y563 : Int) => (.ret (.inl (.h2 (a0) (a1) (a2) (l535) (l536) (l537) (IntKind.i64.wrap (i540 + 1)) (decide (y562 = y563)) (i561)))))))))
  (.ret (.inl (.h3 (a0) (a1) (a2) (l535) (l537) (l536) (b541) (0) (i561)))))
  | .h3 (a0) (a1) (a2) (l542) (l543) (l544) (b547) (i552) (i564) => (.ite (decide (i552 < (↑l543.length : Int))) (.ite (b547) (.ret (.inl (.h3 (a0) (a1) (a2) (l542) (l543) (l544) (Bool.true) (IntKind.i64.wrap (i552 + 1)) (i564))))
  (.chk ((0 : Int) ≤ i552) (.get (l543[i552.toNat]?) fun (y565 : Int) => (.chk ((0 : Int) ≤ i564) (.get (l542[i564.toNat]?) fun (y566 : Int) => (.ret (.inl (.h3 (a0) (a1) (a2) (l542) (l543) (l544) (decide (y565 = y566)) (IntKind.i64.wrap (i552 + 1)) (i564)))))))))
  (.ite (!b547) (.ret (.inr (Bool.false)))
  (.ite (decide (0 < i564)) (.chk ((0 : Int) ≤ i564) (.get (l542[i564.toNat]?) fun (y567 : Int) => (.chk ((0 : Int) ≤ IntKind.i64.wrap (i564 - (1 : Int))) (.get (l542[(IntKind.i64.wrap (i564 - (1 : Int))).toNat]?) fun (y568 : Int) => (.ite (decide (y567 ≤ y568)) (.ret (.inr (Bool.false)))
  (.ret (.inl (.h1 (a0) (a1) (a2) (l542) (l544) (l543) (IntKind.i64.wrap (i564 + 1))))))))))
  (.ret (.inl (.h1 (a0) (a1) (a2) (l542) (l544) (l543) (IntKind.i64.wrap (i564 + 1))))))))
theorem E5 : ∀ s, headC C tab knNfaG1_4 i5.rs H5 .b 5000 (m5 s) = (g5 s).map (Sum.map m5 (fun (r : Bool) => (((.b (r))) : SV Th)))
  | .h0 (a0) (a1) (a2) (a3) (i476) (l477) => by kernel_rfl
  | .h1 (a0) (a1) (a2) (l478) (l479) (l480) (i553) => by kernel_rfl
  | .h2 (a0) (a1) (a2) (l535) (l536) (l537) (i540) (b541) (i561) => by kernel_rfl
  | .h3 (a0) (a1) (a2) (l542) (l543) (l544) (b547) (i552) (i564) => by kernel_rfl
noncomputable def s5 (a0 : Nfa) (a1 : List Int) (a2 : List Int) (a3 : List Int) : Cm (L5 ⊕ Bool) :=
  (.chk (And (@LE.le Nat instLENat (@OfNat.ofNat Nat (nat_lit 1) (instOfNatNat (nat_lit 1))) (@List.length Int (@List.cons Int (@OfNat.ofNat Int (nat_lit 0) (@instOfNat (nat_lit 0))) (@List.nil Int)))) (Nat.le (@OfNat.ofNat Nat (nat_lit 1) (instOfNatNat (nat_lit 1))) (@List.length Int (@List.cons Int (@OfNat.ofNat Int (nat_lit 0) (@instOfNat (nat_lit 0))) (@List.nil Int))))) (.ret (.inl (.h0 (a0) (a1) (a2) (a3) (0) (List.take (1 : Nat) (List.drop (0 : Nat) [(0 : Int)]))))))
theorem ES5 (y : ATup Th [.t 24, .l 3, .l 3, .l 3]) : startC C tab knNfaG1_4 i5 H5 .b 5000 (encAs G [.t 24, .l 3, .l 3, .l 3] y) = (s5 (y.1) (y.2.1) (y.2.2.1) (y.2.2.2.1)).map (Sum.map m5 (fun (r : Bool) => (((.b (r))) : SV Th))) := by kernel_rfl
noncomputable def f5 (a0 : Nfa) (a1 : List Int) (a2 : List Int) (a3 : List Int) : Option (Bool) := runO g5 (s5 (a0) (a1) (a2) (a3))
theorem Q5 (y : ATup Th [.t 24, .l 3, .l 3, .l 3]) (r : Bool) (h : f5 (y.1) (y.2.1) (y.2.2.1) (y.2.2.2.1) = some r) : PCall Try.prog C 5 (encAs G [.t 24, .l 3, .l 3, .l 3] y) (· = (fun (r : Bool) => (((.b (r))) : SV Th)) r) := runO_sound gok.ok koNfaG1_4 tabKnows E5 k5 rfl (by kernel_rfl) (by kernel_rfl) (ES5 y) h
noncomputable def knNfaG1_5 : KnownF Th := (5, knG G [.t 24, .l 3, .l 3, .l 3] fun y => .get (f5 (y.1) (y.2.1) (y.2.2.1) (y.2.2.2.1)) fun r => .ret ((fun (r : Bool) => (((.b (r))) : SV Th)) r)) :: knNfaG1_4
theorem koNfaG1_5 : KnownOk Try.prog C knNfaG1_5 := KnownOk.add gok koNfaG1_4 (known_opt (enc := fun (r : Bool) => (((.b (r))) : SV Th)) Q5 (fun _ => rfl))
noncomputable def kn_NfaG1 : KnownF Th := knNfaG1_5
theorem ko_NfaG1 : KnownOk Try.prog C kn_NfaG1 := koNfaG1_5
end Go.Proofs.Nfa
