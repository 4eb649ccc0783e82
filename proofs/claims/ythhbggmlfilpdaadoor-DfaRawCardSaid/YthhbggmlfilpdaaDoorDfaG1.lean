/- A part of a law's proof: DfaG1. -/
import Derived.KernelRfl
import Derived.Test.YthhbggmlfilpdaaDoorDfaAw
import Derived.Test.YthhbggmlfilpdaaDoorDfaTy
import Derived.Test.YthhbggmlfilpdaaDoorDfaXTab
import Derived.Test.YthhbggmlfilpdaaDoorSvLoop
set_option linter.constructorNameAsVariable false
namespace Go.Proofs.Dfa
open Go Go.Ab Go.Proofs
set_option linter.unusedVariables false
set_option linter.unusedSimpArgs false
set_option maxHeartbeats 4000000
set_option maxRecDepth 100000
-- 18 drover/droverref18.Ints
def H18 : List (List Nat × Hint) := [([26012], ⟨[5, 1, 0], [], [], [], [], [], [], 0, []⟩)]
inductive L18 where
  | h0 (a0 : List Int) (a1 : List Int) (i2 : Int)
noncomputable def m18 : L18 → Trip Th
  | .h0 (a0) (a1) (i2) => ([(.lp 26 c18_5), (.blk 0), (.seq 26 c18_7)], [(5, (.i .i64 (i2))), (1, (.lst 3 (a1))), (0, (.lst 3 (a0)))], [])
noncomputable def g18 : L18 → Cm (L18 ⊕ Bool)
  | .h0 (a0) (a1) (i2) => (.ite (decide (i2 < (↑a0.length : Int))) (.chk ((0 : Int) ≤ i2) (.get (a0[i2.toNat]?) fun (y3 : Int) => (.chk ((0 : Int) ≤ i2) (.get (a1[i2.toNat]?) fun (y4 : Int) => (.ite (!decide (y3 = y4)) (.ret (.inr (Bool.false)))
  (.ret (.inl (.h0 (a0) (a1) (IntKind.i64.wrap (i2 + 1))))))))))
  (.ret (.inr (Bool.true))))
theorem E18 : ∀ s, headC C tab kn0 i18.rs H18 .b 5000 (m18 s) = (g18 s).map (Sum.map m18 (fun (r : Bool) => (((.b (r))) : SV Th)))
  | .h0 (a0) (a1) (i2) => by kernel_rfl
noncomputable def s18 (a0 : List Int) (a1 : List Int) : Cm (L18 ⊕ Bool) :=
  (.ite (!decide ((↑a0.length : Int) = (↑a1.length : Int))) (.ret (.inr (Bool.false)))
  (.ret (.inl (.h0 (a0) (a1) (0)))))
theorem ES18 (y : ATup Th [.l 3, .l 3]) : startC C tab kn0 i18 H18 .b 5000 (encAs G [.l 3, .l 3] y) = (s18 (y.1) (y.2.1)).map (Sum.map m18 (fun (r : Bool) => (((.b (r))) : SV Th))) := by kernel_rfl
noncomputable def f18 (a0 : List Int) (a1 : List Int) : Option (Bool) := runO g18 (s18 (a0) (a1))
theorem Q18 (y : ATup Th [.l 3, .l 3]) (r : Bool) (h : f18 (y.1) (y.2.1) = some r) : PCall Tryd.prog C 18 (encAs G [.l 3, .l 3] y) (· = (fun (r : Bool) => (((.b (r))) : SV Th)) r) := runO_sound gok.ok ko0 tabKnows E18 k18 rfl (by kernel_rfl) (by kernel_rfl) (ES18 y) h
noncomputable def knDfaG1_18 : KnownF Th := (18, knG G [.l 3, .l 3] fun y => .get (f18 (y.1) (y.2.1)) fun r => .ret ((fun (r : Bool) => (((.b (r))) : SV Th)) r)) :: kn0
theorem koDfaG1_18 : KnownOk Tryd.prog C knDfaG1_18 := KnownOk.add gok ko0 (known_opt (enc := fun (r : Bool) => (((.b (r))) : SV Th)) Q18 (fun _ => rfl))
-- 14 drover/droverref19.Alike
def H14 : List (List Nat × Hint) := [([67031], ⟨[5, 3, 2], [], [], [], [], [], [], 0, []⟩),
  ([67050], ⟨[6, 3, 2], [], [], [], [], [], [], 0, []⟩)]
inductive L14 where
  | h0 (a0 : Dfa) (a1 : Dfa) (i3 : Int)
  | h1 (a0 : Dfa) (a1 : Dfa) (i9 : Int)
noncomputable def m14 : L14 → Trip Th
  | .h0 (a0) (a1) (i3) => ([(.lp 67 c14_5), (.blk 0), (.seq 67 c14_14)], [(5, (.i .i64 (i3))), (3, (.ptr 0 0)), (2, (.ptr 1 0))], [(.box [(.i .i64 (a1.Switches)), (.lst 40 (a1.Next)), (.lst 4 (a1.Ends))]), (.box [(.i .i64 (a0.Switches)), (.lst 40 (a0.Next)), (.lst 4 (a0.Ends))])])
  | .h1 (a0) (a1) (i9) => ([(.lp 67 c14_11), (.blk 2), (.seq 67 c14_13)], [(6, (.i .i64 (i9))), (3, (.ptr 0 0)), (2, (.ptr 1 0))], [(.box [(.i .i64 (a1.Switches)), (.lst 40 (a1.Next)), (.lst 4 (a1.Ends))]), (.box [(.i .i64 (a0.Switches)), (.lst 40 (a0.Next)), (.lst 4 (a0.Ends))])])
noncomputable def g14 : L14 → Cm (L14 ⊕ Bool)
  | .h0 (a0) (a1) (i3) => (.ite (decide (i3 < (↑a0.Next.length : Int))) (.chk ((0 : Int) ≤ i3) (.get (a0.Next[i3.toNat]?) fun (y4 : List Int) => (.chk ((0 : Int) ≤ i3) (.get (a1.Next[i3.toNat]?) fun (y5 : List Int) => (.get (f18 y4 y5) fun (y6 : Bool) => (.ite (!y6) (.ret (.inr (Bool.false)))
  (.ret (.inl (.h0 (a0) (a1) (IntKind.i64.wrap (i3 + 1)))))))))))
  (.ret (.inl (.h1 (a0) (a1) (0)))))
  | .h1 (a0) (a1) (i9) => (.ite (decide (i9 < (↑a0.Ends.length : Int))) (.chk ((0 : Int) ≤ i9) (.get (a0.Ends[i9.toNat]?) fun (y10 : Bool) => (.chk ((0 : Int) ≤ i9) (.get (a1.Ends[i9.toNat]?) fun (y11 : Bool) => (.ite (!y10 == y11) (.ret (.inr (Bool.false)))
  (.ret (.inl (.h1 (a0) (a1) (IntKind.i64.wrap (i9 + 1))))))))))
  (.ret (.inr (Bool.true))))
theorem E14 : ∀ s, headC C tab knDfaG1_18 i14.rs H14 .b 5000 (m14 s) = (g14 s).map (Sum.map m14 (fun (r : Bool) => (((.b (r))) : SV Th)))
  | .h0 (a0) (a1) (i3) => by kernel_rfl
  | .h1 (a0) (a1) (i9) => by kernel_rfl
noncomputable def s14 (a0 : Dfa) (a1 : Dfa) : Cm (L14 ⊕ Bool) :=
  (.ite (!decide (a0.Switches = a1.Switches)) (.ret (.inr (Bool.false)))
  (.ite (!decide ((↑a0.Next.length : Int) = (↑a1.Next.length : Int))) (.ret (.inr (Bool.false)))
  (.ite (!decide ((↑a0.Ends.length : Int) = (↑a1.Ends.length : Int))) (.ret (.inr (Bool.false)))
  (.ret (.inl (.h0 (a0) (a1) (0)))))))
theorem ES14 (y : ATup Th [.t 36, .t 36]) : startC C tab knDfaG1_18 i14 H14 .b 5000 (encAs G [.t 36, .t 36] y) = (s14 (y.1) (y.2.1)).map (Sum.map m14 (fun (r : Bool) => (((.b (r))) : SV Th))) := by kernel_rfl
noncomputable def f14 (a0 : Dfa) (a1 : Dfa) : Option (Bool) := runO g14 (s14 (a0) (a1))
theorem Q14 (y : ATup Th [.t 36, .t 36]) (r : Bool) (h : f14 (y.1) (y.2.1) = some r) : PCall Tryd.prog C 14 (encAs G [.t 36, .t 36] y) (· = (fun (r : Bool) => (((.b (r))) : SV Th)) r) := runO_sound gok.ok koDfaG1_18 tabKnows E14 k14 rfl (by kernel_rfl) (by kernel_rfl) (ES14 y) h
noncomputable def knDfaG1_14 : KnownF Th := (14, knG G [.t 36, .t 36] fun y => .get (f14 (y.1) (y.2.1)) fun r => .ret ((fun (r : Bool) => (((.b (r))) : SV Th)) r)) :: knDfaG1_18
theorem koDfaG1_14 : KnownOk Tryd.prog C knDfaG1_14 := KnownOk.add gok koDfaG1_18 (known_opt (enc := fun (r : Bool) => (((.b (r))) : SV Th)) Q14 (fun _ => rfl))
-- 41 drover/droverref18.with
def H41 : List (List Nat × Hint) := [([49009], ⟨[0, 7, 1, 5, 6], [], [(5, 3)], [], [6], [5], [], 0, []⟩)]
inductive L41 where
  | h0 (a0 : List Int) (a1 : Int) (i10 : Int) (b12 : Bool) (l13 : List Int)
noncomputable def m41 : L41 → Trip Th
  | .h0 (a0) (a1) (i10) (b12) (l13) => ([(.lp 49 c41_8), (.blk 0), (.seq 49 c41_12)], [(0, (.lst 3 (a0))), (7, (.i .i64 (i10))), (1, (.i .i64 (a1))), (5, (.sl 3 0 0 (l13.length) .none)), (6, (.b (b12)))], [(.arr 3 (l13))])
noncomputable def g41 : L41 → Cm (L41 ⊕ (List Int))
  | .h0 (a0) (a1) (i10) (b12) (l13) => (.ite (decide (i10 < (↑a0.length : Int))) (.chk ((0 : Int) ≤ i10) (.get (a0[i10.toNat]?) fun (y14 : Int) => (.ite (decide (y14 = a1)) (.ret (.inr (a0)))
  (.ite (!b12) (.chk ((0 : Int) ≤ i10) (.get (a0[i10.toNat]?) fun (y15 : Int) => (.ite (decide (a1 < y15)) (.chk ((1 : Nat) ≤ [a1].length) (.chk (l13.length = l13.length ∧ (l13.length + (List.take (1 : Nat) (List.drop (0 : Nat) [a1])).length) * (8 : Nat) ≤ nat_lit 140737488355328 ∧ l13.length + (List.take (1 : Nat) (List.drop (0 : Nat) [a1])).length ≤ nat_lit 140737488355328) (.chk ((0 : Int) ≤ i10) (.get (a0[i10.toNat]?) fun (y16 : Int) => (.chk ((1 : Nat) ≤ [y16].length) (.chk ((l13 ++ List.take (1 : Nat) (List.drop (0 : Nat) [a1])).length = (l13 ++ List.take (1 : Nat) (List.drop (0 : Nat) [a1])).length ∧ ((l13 ++ List.take (1 : Nat) (List.drop (0 : Nat) [a1])).length + (List.take (1 : Nat) (List.drop (0 : Nat) [y16])).length) * (8 : Nat) ≤ nat_lit 140737488355328 ∧ (l13 ++ List.take (1 : Nat) (List.drop (0 : Nat) [a1])).length + (List.take (1 : Nat) (List.drop (0 : Nat) [y16])).length ≤ nat_lit 140737488355328) (.chk ((l13 ++ List.take (1 : Nat) (List.drop (0 : Nat) [a1]) ++ List.take (1 : Nat) (List.drop (0 : Nat) [y16])).length = (l13 ++ List.take (1 : Nat) (List.drop (0 : Nat) [a1]) ++ List.take (1 : Nat) (List.drop (0 : Nat) [y16])).length) (.ret (.inl (.h0 (a0) (a1) (IntKind.i64.wrap (i10 + 1)) (Bool.true) (l13 ++ List.take (1 : Nat) (List.drop (0 : Nat) [a1]) ++ List.take (1 : Nat) (List.drop (0 : Nat) [y16]))))))))))))
  (.chk ((0 : Int) ≤ i10) (.get (a0[i10.toNat]?) fun (y17 : Int) => (.chk ((1 : Nat) ≤ [y17].length) (.chk (l13.length = l13.length ∧ (l13.length + (List.take (1 : Nat) (List.drop (0 : Nat) [y17])).length) * (8 : Nat) ≤ nat_lit 140737488355328 ∧ l13.length + (List.take (1 : Nat) (List.drop (0 : Nat) [y17])).length ≤ nat_lit 140737488355328) (.chk ((l13 ++ List.take (1 : Nat) (List.drop (0 : Nat) [y17])).length = (l13 ++ List.take (1 : Nat) (List.drop (0 : Nat) [y17])).length) (.ret (.inl (.h0 (a0) (a1) (IntKind.i64.wrap (i10 + 1)) (b12) (l13 ++ List.take (1 : Nat) (List.drop (0 : Nat) [y17])))))))))))))
  (.chk ((0 : Int) ≤ i10) (.get (a0[i10.toNat]?) fun (y18 : Int) => (.chk ((1 : Nat) ≤ [y18].length) (.chk (l13.length = l13.length ∧ (l13.length + (List.take (1 : Nat) (List.drop (0 : Nat) [y18])).length) * (8 : Nat) ≤ nat_lit 140737488355328 ∧ l13.length + (List.take (1 : Nat) (List.drop (0 : Nat) [y18])).length ≤ nat_lit 140737488355328) (.chk ((l13 ++ List.take (1 : Nat) (List.drop (0 : Nat) [y18])).length = (l13 ++ List.take (1 : Nat) (List.drop (0 : Nat) [y18])).length) (.ret (.inl (.h0 (a0) (a1) (IntKind.i64.wrap (i10 + 1)) (b12) (l13 ++ List.take (1 : Nat) (List.drop (0 : Nat) [y18]))))))))))))))
  (.ite (!b12) (.chk ((1 : Nat) ≤ [a1].length) (.chk (l13.length = l13.length ∧ (l13.length + (List.take (1 : Nat) (List.drop (0 : Nat) [a1])).length) * (8 : Nat) ≤ nat_lit 140737488355328 ∧ l13.length + (List.take (1 : Nat) (List.drop (0 : Nat) [a1])).length ≤ nat_lit 140737488355328) (.chk ((0 : Nat) + (l13 ++ List.take (1 : Nat) (List.drop (0 : Nat) [a1])).length ≤ (l13 ++ List.take (1 : Nat) (List.drop (0 : Nat) [a1])).length) (.ret (.inr (List.take (l13 ++ List.take (1 : Nat) (List.drop (0 : Nat) [a1])).length (List.drop (0 : Nat) (l13 ++ List.take (1 : Nat) (List.drop (0 : Nat) [a1])))))))))
  (.chk ((0 : Nat) + l13.length ≤ l13.length) (.ret (.inr (List.take l13.length (List.drop (0 : Nat) l13)))))))
theorem E41 : ∀ s, headC C tab knDfaG1_14 i41.rs H41 (.lst 3) 5000 (m41 s) = (g41 s).map (Sum.map m41 (fun (r : (List Int)) => (((.lst 3 (r))) : SV Th)))
  | .h0 (a0) (a1) (i10) (b12) (l13) => by kernel_rfl
noncomputable def s41 (a0 : List Int) (a1 : Int) : Cm (L41 ⊕ (List Int)) :=
  (.chk (@Eq Nat (@OfNat.ofNat Nat (nat_lit 0) (instOfNatNat (nat_lit 0))) (@List.length (Th (@OfNat.ofNat Nat (nat_lit 3) (instOfNatNat (nat_lit 3)))) (@List.nil (Th (@OfNat.ofNat Nat (nat_lit 3) (instOfNatNat (nat_lit 3))))))) (.ret (.inl (.h0 (a0) (a1) (0) (Bool.false) ([])))))
theorem ES41 (y : ATup Th [.l 3, .i .i64]) : startC C tab knDfaG1_14 i41 H41 (.lst 3) 5000 (encAs G [.l 3, .i .i64] y) = (s41 (y.1) (y.2.1)).map (Sum.map m41 (fun (r : (List Int)) => (((.lst 3 (r))) : SV Th))) := by kernel_rfl
noncomputable def f41 (a0 : List Int) (a1 : Int) : Option ((List Int)) := runO g41 (s41 (a0) (a1))
theorem Q41 (y : ATup Th [.l 3, .i .i64]) (r : (List Int)) (h : f41 (y.1) (y.2.1) = some r) : PCall Tryd.prog C 41 (encAs G [.l 3, .i .i64] y) (· = (fun (r : (List Int)) => (((.lst 3 (r))) : SV Th)) r) := runO_sound gok.ok koDfaG1_14 tabKnows E41 k41 rfl (by kernel_rfl) (by kernel_rfl) (ES41 y) h
noncomputable def knDfaG1_41 : KnownF Th := (41, knG G [.l 3, .i .i64] fun y => .get (f41 (y.1) (y.2.1)) fun r => .ret ((fun (r : (List Int)) => (((.lst 3 (r))) : SV Th)) r)) :: knDfaG1_14
theorem koDfaG1_41 : KnownOk Tryd.prog C knDfaG1_41 := KnownOk.add gok koDfaG1_14 (known_opt (enc := fun (r : (List Int)) => (((.lst 3 (r))) : SV Th)) Q41 (fun _ => rfl))
-- 42 drover/droverref18.Right
def H42 : List (List Nat × Hint) := [([87017], ⟨[85, 72, 84, 77, 83, 82, 79, 81, 80, 78, 76, 74, 75, 73, 71, 70, 67, 63, 66, 65, 64, 1, 62, 60, 61, 59, 3, 42, 41, 40], [], [], [], [], [], [], 0, []⟩),
  ([87046, 87017], ⟨[5, 4, 1, 43, 39, 38, 37, 34, 33, 32, 3], [], [], [], [43, 39], [], [], 0, []⟩)]
inductive L42 where
  | h0 (a0 : Nfa) (i30 : Int)
  | h1 (a0 : Nfa) (x22 : NfaState) (b23 : Bool) (b24 : Bool) (i29 : Int) (b36 : Bool) (i37 : Int) (i38 : Int)
noncomputable def m42 : L42 → Trip Th
  | .h0 (a0) (i30) => ([(.lp 87 c42_13), (.blk 0), (.seq 87 c42_15)], [(85, .any), (72, .any), (84, .any), (77, .any), (83, .any), (82, .any), (79, .any), (81, .any), (80, .any), (78, .any), (76, .any), (74, .any), (75, .any), (73, .any), (71, .any), (70, .any), (67, .any), (63, .any), (66, .any), (65, .any), (64, .any), (1, (.ptr 0 0)), (62, .any), (60, .any), (61, .any), (59, .any), (3, (.i .i64 (i30))), (42, .any), (41, .any), (40, .any)], [(.box [(.lst 69 (a0.States))])])
  | .h1 (a0) (x22) (b23) (b24) (i29) (b36) (i37) (i38) => ([(.lp 87 c42_7), (.blk 2), (.blk 1), (.seq 87 c42_11), (.lp 87 c42_13), (.blk 0), (.seq 87 c42_15)], [(5, (.i .i64 (i29))), (4, (.ptr 0 0)), (1, (.ptr 1 0)), (43, (.b (b23))), (39, (.b (b24))), (38, (.b (b36))), (37, (.i .i64 (i37))), (34, (.b (decide ((65535 : Int) < x22.Switch)))), (33, (.i .i64 (x22.Switch))), (32, (.ptr 0 0)), (3, (.i .i64 (i38)))], [(.box [(.i .i64 (x22.Switch)), (.b (x22.Ends)), (.lst 3 (x22.Next))]), (.box [(.lst 69 (a0.States))])])
noncomputable def g42 : L42 → Cm (L42 ⊕ Bool)
  | .h0 (a0) (i30) => (.ite (decide (i30 < (↑a0.States.length : Int))) (.chk ((0 : Int) ≤ i30) (.get (a0.States[i30.toNat]?) fun (y35 : NfaState) => (.ite (decide (y35.Switch < (0 : Int))) (.ret (.inr (Bool.false)))
  (.ite (decide ((65535 : Int) < y35.Switch)) (.ret (.inr (Bool.false)))
  (.ite (decide (i30 = 0)) (.ite (!decide (y35.Switch = (0 : Int))) (.ret (.inr (Bool.false)))
  (.ret (.inl (.h1 (a0) (y35) (!decide (y35.Switch = (0 : Int))) (Bool.true) (0) (decide (i30 = 0)) (i30) (i30)))))
  (.ret (.inl (.h1 (a0) (y35) (Bool.false) (Bool.false) (0) (decide (i30 = 0)) (i30) (i30)))))))))
  (.ret (.inr (Bool.true))))
  | .h1 (a0) (x22) (b23) (b24) (i29) (b36) (i37) (i38) => (.ite (decide (i29 < (↑x22.Next.length : Int))) (.chk ((0 : Int) ≤ i29) (.get (x22.Next[i29.toNat]?) fun (y39 : Int) => (.ite (decide (y39 < (1 : Int))) (.ret (.inr (Bool.false)))
  (.chk ((0 : Int) ≤ i29) (.get (x22.Next[i29.toNat]?) fun (y40 : Int) => (.ite (decide ((↑a0.States.length : Int) ≤ y40)) (.ret (.inr (Bool.false)))
  (.ite (decide (0 < i29)) (.chk ((0 : Int) ≤ i29) (.get (x22.Next[i29.toNat]?) fun (y41 : Int) => (.chk ((0 : Int) ≤ IntKind.i64.wrap (i29 - (1 : Int))) (.get (x22.Next[(IntKind.i64.wrap (i29 - (1 : Int))).toNat]?) fun (y42 : Int) => (.ite (decide (y41 ≤ y42)) (.ret (.inr (Bool.false)))
  (.ret (.inl (.h1 (a0) (x22) (b23) (b24) (IntKind.i64.wrap (i29 + 1)) (b36) (i37) (i38)))))))))
  (.ret (.inl (.h1 (a0) (x22) (b23) (b24) (IntKind.i64.wrap (i29 + 1)) (b36) (i37) (i38)))))))))))
  (.ret (.inl (.h0 (a0) (IntKind.i64.wrap (i38 + 1))))))
theorem E42 : ∀ s, headC C tab knDfaG1_41 i42.rs H42 .b 5000 (m42 s) = (g42 s).map (Sum.map m42 (fun (r : Bool) => (((.b (r))) : SV Th)))
  | .h0 (a0) (i30) => by kernel_rfl
  | .h1 (a0) (x22) (b23) (b24) (i29) (b36) (i37) (i38) => by kernel_rfl
noncomputable def s42 (a0 : Nfa) : Cm (L42 ⊕ Bool) :=
  (.ite (decide ((↑a0.States.length : Int) < (1 : Int))) (.ret (.inr (Bool.false)))
  (.ite (decide ((64 : Int) < (↑a0.States.length : Int))) (.ret (.inr (Bool.false)))
  (.ret (.inl (.h0 (a0) (0))))))
theorem ES42 (y : ATup Th [.t 30]) : startC C tab knDfaG1_41 i42 H42 .b 5000 (encAs G [.t 30] y) = (s42 (y.1)).map (Sum.map m42 (fun (r : Bool) => (((.b (r))) : SV Th))) := by kernel_rfl
noncomputable def f42 (a0 : Nfa) : Option (Bool) := runO g42 (s42 (a0))
theorem Q42 (y : ATup Th [.t 30]) (r : Bool) (h : f42 (y.1) = some r) : PCall Tryd.prog C 42 (encAs G [.t 30] y) (· = (fun (r : Bool) => (((.b (r))) : SV Th)) r) := runO_sound gok.ok koDfaG1_41 tabKnows E42 k42 rfl (by kernel_rfl) (by kernel_rfl) (ES42 y) h
noncomputable def knDfaG1_42 : KnownF Th := (42, knG G [.t 30] fun y => .get (f42 (y.1)) fun r => .ret ((fun (r : Bool) => (((.b (r))) : SV Th)) r)) :: knDfaG1_41
theorem koDfaG1_42 : KnownOk Tryd.prog C knDfaG1_42 := KnownOk.add gok koDfaG1_41 (known_opt (enc := fun (r : Bool) => (((.b (r))) : SV Th)) Q42 (fun _ => rfl))
-- 43 drover/droverref18.Step
def H43 : List (List Nat × Hint) := [([74016], ⟨[8, 7, 65, 63, 64, 2, 3, 1], [], [], [], [], [], [], 0, [(7, 3)]⟩),
  ([74046, 74016], ⟨[10, 9, 7, 2, 3, 1, 34, 30, 33, 32, 31, 29, 27, 28, 8], [], [], [], [], [], [], 0, [(7, 3)]⟩)]
inductive L43 where
  | h0 (a0 : Nfa) (a1 : List Int) (a2 : Int) (i54 : Int) (l77 : List Int)
  | h1 (a0 : Nfa) (a1 : List Int) (a2 : Int) (x55 : NfaState) (i56 : Int) (i61 : Int) (i62 : Int) (i69 : Int) (l70 : List Int)
noncomputable def m43 : L43 → Trip Th
  | .h0 (a0) (a1) (a2) (i54) (l77) => ([(.lp 74 c43_16), (.blk 0), (.seq 74 c43_18)], [(8, (.i .i64 (i54))), (7, (.lst 3 (l77))), (65, .any), (63, .any), (64, .any), (2, (.i .i64 (a2))), (3, (.ptr 0 0)), (1, (.lst 3 (a1)))], [(.box [(.lst 69 (a0.States))])])
  | .h1 (a0) (a1) (a2) (x55) (i56) (i61) (i62) (i69) (l70) => ([(.lp 74 c43_10), (.blk 2), (.blk 1), (.seq 74 c43_14), (.lp 74 c43_16), (.blk 0), (.seq 74 c43_18)], [(10, (.i .i64 (i69))), (9, (.lst 3 (x55.Next))), (7, (.lst 3 (l70))), (2, (.i .i64 (a2))), (3, (.ptr 0 0)), (1, (.lst 3 (a1))), (34, (.b (decide ((↑a0.States.length : Int) ≤ i56)))), (30, (.i .i64 (i56))), (33, (.i .i64 ((↑a0.States.length : Int)))), (32, (.lst 69 (a0.States))), (31, (.ptr 0 0)), (29, (.rp (.i .i64 (i56)))), (27, (.lst 3 (a1))), (28, (.i .i64 (i61))), (8, (.i .i64 (i62)))], [(.box [(.lst 69 (a0.States))])])
noncomputable def g43 : L43 → Cm (L43 ⊕ (List Int))
  | .h0 (a0) (a1) (a2) (i54) (l77) => (.ite (decide (i54 < (↑a1.length : Int))) (.chk ((0 : Int) ≤ i54) (.get (a1[i54.toNat]?) fun (y78 : Int) => (.ite (decide (y78 < (0 : Int))) (.ret (.inl (.h0 (a0) (a1) (a2) (IntKind.i64.wrap (i54 + 1)) (l77))))
  (.chk ((0 : Int) ≤ i54) (.get (a1[i54.toNat]?) fun (y79 : Int) => (.ite (decide ((↑a0.States.length : Int) ≤ y79)) (.ret (.inl (.h0 (a0) (a1) (a2) (IntKind.i64.wrap (i54 + 1)) (l77))))
  (.chk ((0 : Int) ≤ i54) (.get (a1[i54.toNat]?) fun (y80 : Int) => (.chk ((0 : Int) ≤ y80) (.get (a0.States[y80.toNat]?) fun (y81 : NfaState) => (.ret (.inl (.h1 (a0) (a1) (a2) (y81) (y79) (i54) (i54) (0) (l77))))))))))))))
  (.ret (.inr (l77))))
  | .h1 (a0) (a1) (a2) (x55) (i56) (i61) (i62) (i69) (l70) => (.ite (decide (i69 < (↑x55.Next.length : Int))) (.chk ((0 : Int) ≤ i69) (.get (x55.Next[i69.toNat]?) fun (y71 : Int) => (.chk ((0 : Int) ≤ y71) (.get (a0.States[y71.toNat]?) fun (y72 : NfaState) => (.ite (decide (y72.Switch = (0 : Int))) (.chk ((0 : Int) ≤ i69) (.get (x55.Next[i69.toNat]?) fun (y73 : Int) => (.get (f41 l70 y73) fun (y74 : List Int) => (.ret (.inl (.h1 (a0) (a1) (a2) (x55) (i56) (i61) (i62) (IntKind.i64.wrap (i69 + 1)) (y74)))))))
  (.ite (decide (y72.Switch = a2)) (.chk ((0 : Int) ≤ i69) (.get (x55.Next[i69.toNat]?) fun (y75 : Int) => (.get (f41 l70 y75) fun (y76 : List Int) => (.ret (.inl (.h1 (a0) (a1) (a2) (x55) (i56) (i61) (i62) (IntKind.i64.wrap (i69 + 1)) (y76)))))))
  (.ret (.inl (.h1 (a0) (a1) (a2) (x55) (i56) (i61) (i62) (IntKind.i64.wrap (i69 + 1)) (l70))))))))))
  (.ret (.inl (.h0 (a0) (a1) (a2) (IntKind.i64.wrap (i62 + 1)) (l70)))))
theorem E43 : ∀ s, headC C tab knDfaG1_42 i43.rs H43 (.lst 3) 5000 (m43 s) = (g43 s).map (Sum.map m43 (fun (r : (List Int)) => (((.lst 3 (r))) : SV Th)))
  | .h0 (a0) (a1) (a2) (i54) (l77) => by kernel_rfl
  | .h1 (a0) (a1) (a2) (x55) (i56) (i61) (i62) (i69) (l70) => by kernel_rfl
noncomputable def s43 (a0 : Nfa) (a1 : List Int) (a2 : Int) : Cm (L43 ⊕ (List Int)) :=
  (.get (f42 a0) fun (y49 : Bool) => (.ite (!y49) (.ret (.inr ([])))
  (.ret (.inl (.h0 (a0) (a1) (a2) (0) ([]))))))
theorem ES43 (y : ATup Th [.t 30, .l 3, .i .i64]) : startC C tab knDfaG1_42 i43 H43 (.lst 3) 5000 (encAs G [.t 30, .l 3, .i .i64] y) = (s43 (y.1) (y.2.1) (y.2.2.1)).map (Sum.map m43 (fun (r : (List Int)) => (((.lst 3 (r))) : SV Th))) := by kernel_rfl
noncomputable def f43 (a0 : Nfa) (a1 : List Int) (a2 : Int) : Option ((List Int)) := runO g43 (s43 (a0) (a1) (a2))
theorem Q43 (y : ATup Th [.t 30, .l 3, .i .i64]) (r : (List Int)) (h : f43 (y.1) (y.2.1) (y.2.2.1) = some r) : PCall Tryd.prog C 43 (encAs G [.t 30, .l 3, .i .i64] y) (· = (fun (r : (List Int)) => (((.lst 3 (r))) : SV Th)) r) := runO_sound gok.ok koDfaG1_42 tabKnows E43 k43 rfl (by kernel_rfl) (by kernel_rfl) (ES43 y) h
noncomputable def knDfaG1_43 : KnownF Th := (43, knG G [.t 30, .l 3, .i .i64] fun y => .get (f43 (y.1) (y.2.1) (y.2.2.1)) fun r => .ret ((fun (r : (List Int)) => (((.lst 3 (r))) : SV Th)) r)) :: knDfaG1_42
theorem koDfaG1_43 : KnownOk Tryd.prog C knDfaG1_43 := KnownOk.add gok koDfaG1_42 (known_opt (enc := fun (r : (List Int)) => (((.lst 3 (r))) : SV Th)) Q43 (fun _ => rfl))
-- 45 drover/droverref18.Ends
def H45 : List (List Nat × Hint) := [([41010], ⟨[5, 1, 2], [], [], [], [], [], [], 0, []⟩)]
inductive L45 where
  | h0 (a0 : Nfa) (a1 : List Int) (i11 : Int)
noncomputable def m45 : L45 → Trip Th
  | .h0 (a0) (a1) (i11) => ([(.lp 41 c45_6), (.blk 0), (.seq 41 c45_8)], [(5, (.i .i64 (i11))), (1, (.lst 3 (a1))), (2, (.ptr 0 0))], [(.box [(.lst 69 (a0.States))])])
noncomputable def g45 : L45 → Cm (L45 ⊕ Bool)
  | .h0 (a0) (a1) (i11) => (.ite (decide (i11 < (↑a1.length : Int))) (.chk ((0 : Int) ≤ i11) (.get (a1[i11.toNat]?) fun (y12 : Int) => (.ite (decide ((0 : Int) ≤ y12)) (.chk ((0 : Int) ≤ i11) (.get (a1[i11.toNat]?) fun (y13 : Int) => (.ite (decide (y13 < (↑a0.States.length : Int))) (.chk ((0 : Int) ≤ i11) (.get (a1[i11.toNat]?) fun (y14 : Int) => (.chk ((0 : Int) ≤ y14) (.get (a0.States[y14.toNat]?) fun (y15 : NfaState) => (.ite (y15.Ends) (.ret (.inr (Bool.true)))
  (.ret (.inl (.h0 (a0) (a1) (IntKind.i64.wrap (i11 + 1))))))))))
  (.ret (.inl (.h0 (a0) (a1) (IntKind.i64.wrap (i11 + 1))))))))
  (.ret (.inl (.h0 (a0) (a1) (IntKind.i64.wrap (i11 + 1))))))))
  (.ret (.inr (Bool.false))))
theorem E45 : ∀ s, headC C tab knDfaG1_43 i45.rs H45 .b 5000 (m45 s) = (g45 s).map (Sum.map m45 (fun (r : Bool) => (((.b (r))) : SV Th)))
  | .h0 (a0) (a1) (i11) => by kernel_rfl
noncomputable def s45 (a0 : Nfa) (a1 : List Int) : Cm (L45 ⊕ Bool) :=
  (.get (f42 a0) fun (y6 : Bool) => (.ite (!y6) (.ret (.inr (Bool.false)))
  (.ret (.inl (.h0 (a0) (a1) (0))))))
theorem ES45 (y : ATup Th [.t 30, .l 3]) : startC C tab knDfaG1_43 i45 H45 .b 5000 (encAs G [.t 30, .l 3] y) = (s45 (y.1) (y.2.1)).map (Sum.map m45 (fun (r : Bool) => (((.b (r))) : SV Th))) := by kernel_rfl
noncomputable def f45 (a0 : Nfa) (a1 : List Int) : Option (Bool) := runO g45 (s45 (a0) (a1))
theorem Q45 (y : ATup Th [.t 30, .l 3]) (r : Bool) (h : f45 (y.1) (y.2.1) = some r) : PCall Tryd.prog C 45 (encAs G [.t 30, .l 3] y) (· = (fun (r : Bool) => (((.b (r))) : SV Th)) r) := runO_sound gok.ok koDfaG1_43 tabKnows E45 k45 rfl (by kernel_rfl) (by kernel_rfl) (ES45 y) h
noncomputable def knDfaG1_45 : KnownF Th := (45, knG G [.t 30, .l 3] fun y => .get (f45 (y.1) (y.2.1)) fun r => .ret ((fun (r : Bool) => (((.b (r))) : SV Th)) r)) :: knDfaG1_43
theorem koDfaG1_45 : KnownOk Tryd.prog C knDfaG1_45 := KnownOk.add gok koDfaG1_43 (known_opt (enc := fun (r : Bool) => (((.b (r))) : SV Th)) Q45 (fun _ => rfl))
-- 12 drover/droverref19.From
def H12 : List (List Nat × Hint) := [([86031], ⟨[4, 6, 8, 2, 7, 1], [], [], [(7, 1, 40), (7, 2, 4)], [], [6], [(7, 1), (7, 2)], 0, []⟩),
  ([86037, 86031], ⟨[4, 10, 9, 6, 8, 2, 7, 1], [], [(9, 3)], [], [], [6, 9], [], 0, []⟩),
  ([19007, 1000050, 86037, 86031], ⟨[5, 1, 0], [[4, 8, 2, 7, 1, 10, 9, 11, 6]], [], [], [], [0], [], 0, []⟩)]
inductive L12 where
  | h0 (a0 : Nfa) (a1 : Int) (i24 : Int) (l27 : List (List Int)) (l28 : List Bool) (l58 : List (List Int))
  | h1 (a0 : Nfa) (a1 : Int) (i31 : Int) (l34 : List Int) (l35 : List (List Int)) (i37 : Int) (l40 : List (List Int)) (l41 : List Bool)
  | h2 (a0 : Nfa) (a1 : Int) (l23 : List Int) (i36 : Int) (i46 : Int) (i47 : Int) (l51 : List (List Int)) (l54 : List (List Int)) (l55 : List Bool) (l56 : List Int)
noncomputable def m12 : L12 → Trip Th
  | .h0 (a0) (a1) (i24) (l27) (l28) (l58) => ([(.lp 86 c12_22), (.blk 0), (.seq 86 c12_24)], [(4, (.ptr 0 0)), (6, (.sl 40 1 0 (l58.length) .none)), (8, (.i .i64 (i24))), (2, (.ptr 2 0)), (7, (.ptr 3 0)), (1, (.i .i64 (a1)))], [(.box [(.i .i64 0), (.v (.slice .none 0 0)), (.v (.slice .none 0 0))]), (.arr 40 (l58)), (.box [(.lst 69 (a0.States))]), (.box [(.i .i64 (a1)), (.sl 40 4 0 (l27.length) .none), (.sl 4 5 0 (l28.length) .none)]), (.arr 40 (l27)), (.arr 4 (l28))])
  | .h1 (a0) (a1) (i31) (l34) (l35) (i37) (l40) (l41) => ([(.lp 86 c12_14), (.blk 2), (.seq 86 c12_18), (.blk 1), (.seq 86 c12_20), (.lp 86 c12_22), (.blk 0), (.seq 86 c12_24)], [(4, (.ptr 0 0)), (10, (.i .i64 (i31))), (9, (.sl 3 1 0 (l34.length) .none)), (6, (.sl 40 2 0 (l35.length) .none)), (8, (.i .i64 (i37))), (2, (.ptr 3 0)), (7, (.ptr 4 0)), (1, (.i .i64 (a1)))], [(.box [(.i .i64 0), (.v (.slice .none 0 0)), (.v (.slice .none 0 0))]), (.arr 3 (l34)), (.arr 40 (l35)), (.box [(.lst 69 (a0.States))]), (.box [(.i .i64 (a1)), (.sl 40 5 0 (l40.length) .none), (.sl 4 6 0 (l41.length) .none)]), (.arr 40 (l40)), (.arr 4 (l41))])
  | .h2 (a0) (a1) (l23) (i36) (i46) (i47) (l51) (l54) (l55) (l56) => ([(.lp 19 c44_4), (.blk 0), (.seq 19 c44_6), (.cal [(4, (.ptr 1 0)), (8, (.i .i64 (i46))), (2, (.ptr 2 0)), (7, (.ptr 3 0)), (1, (.i .i64 (a1))), (10, (.i .i64 (i47))), (9, (.sl 3 6 0 (l56.length) .none)), (11, (.lst 3 (l23))), (6, (.sl 40 0 0 (l51.length) .none))] (.some 50) [(.tmp 4)]), (.ops 86 c12_4), (.seq 86 c12_10), (.blk 3), (.seq 86 c12_12), (.lp 86 c12_14), (.blk 2), (.seq 86 c12_18), (.blk 1), (.seq 86 c12_20), (.lp 86 c12_22), (.blk 0), (.seq 86 c12_24)], [(5, (.i .i64 (i36))), (1, (.lst 3 (l23))), (0, (.sl 40 0 0 (l51.length) .none))], [(.arr 40 (l51)), (.box [(.i .i64 0), (.v (.slice .none 0 0)), (.v (.slice .none 0 0))]), (.box [(.lst 69 (a0.States))]), (.box [(.i .i64 (a1)), (.sl 40 4 0 (l54.length) .none), (.sl 4 5 0 (l55.length) .none)]), (.arr 40 (l54)), (.arr 4 (l55)), (.arr 3 (l56))])
noncomputable def g12 : L12 → Cm (L12 ⊕ Dfa × Int)
  | .h0 (a0) (a1) (i24) (l27) (l28) (l58) => (.ite (decide (i24 < (↑l58.length : Int))) (.chk (l58.length = l58.length) (.chk (@Eq Nat (@OfNat.ofNat Nat (nat_lit 0) (instOfNatNat (nat_lit 0))) (@List.length (Th (@OfNat.ofNat Nat (nat_lit 3) (instOfNatNat (nat_lit 3)))) (@List.nil (Th (@OfNat.ofNat Nat (nat_lit 3) (instOfNatNat (nat_lit 3))))))) (.ret (.inl (.h1 (a0) (a1) (1) ([]) (l58) (i24) (l27) (l28))))))
  (.chk ((0 : Nat) + l27.length ≤ l27.length) (.chk ((0 : Nat) + l28.length ≤ l28.length) (.ret (.inr (⟨(a1), (List.take l27.length (List.drop (0 : Nat) l27)), (List.take l28.length (List.drop (0 : Nat) l28))⟩, (0)))))))
  | .h1 (a0) (a1) (i31) (l34) (l35) (i37) (l40) (l41) => (.ite (decide (i31 ≤ a1)) (.chk ((0 : Int) ≤ i37 ∧ i37 < (↑l35.length : Int)) (.get (l35[(0 : Nat) + i37.toNat]?) fun (y42 : List Int) => (.get (f43 a0 y42 i31) fun (y43 : List Int) => (.chk (l35.length = l35.length) (.ret (.inl (.h2 (a0) (a1) (y43) (0) (i37) (i31) (l35) (l40) (l41) (l34))))))))
  (.chk ((0 : Int) ≤ i37 ∧ i37 < (↑l35.length : Int)) (.get (l35[(0 : Nat) + i37.toNat]?) fun (y44 : List Int) => (.get (f45 a0 y44) fun (y45 : Bool) => (.chk ((0 : Nat) + l34.length ≤ l34.length ∧ ((0 : Nat) + l34.length).le l34.length) (.chk ((1 : Nat) ≤ [List.take l34.length (List.drop (0 : Nat) l34)].length) (.chk (l40.length = l40.length ∧ (l40.length + (List.take (1 : Nat) (List.drop (0 : Nat) [List.take l34.length (List.drop (0 : Nat) l34)])).length) * (24 : Nat) ≤ nat_lit 140737488355328 ∧ l40.length + (List.take (1 : Nat) (List.drop (0 : Nat) [List.take l34.length (List.drop (0 : Nat) l34)])).length ≤ nat_lit 140737488355328) (.chk ((1 : Nat) ≤ [y45].length) (.chk (l41.length = l41.length ∧ (l41.length + (List.take (1 : Nat) (List.drop (0 : Nat) [y45])).length) * (1 : Nat) ≤ nat_lit 140737488355328 ∧ l41.length + (List.take (1 : Nat) (List.drop (0 : Nat) [y45])).length ≤ nat_lit 140737488355328) (.chk (l35.length = l35.length) (.chk ((l40 ++ List.take (1 : Nat) (List.drop (0 : Nat) [List.take l34.length (List.drop (0 : Nat) l34)])).length = (l40 ++ List.take (1 : Nat) (List.drop (0 : Nat) [List.take l34.length (List.drop (0 : Nat) l34)])).length) (.chk ((l41 ++ List.take (1 : Nat) (List.drop (0 : Nat) [y45])).length = (l41 ++ List.take (1 : Nat) (List.drop (0 : Nat) [y45])).length) (.ret (.inl (.h0 (a0) (a1) (IntKind.i64.wrap (i37 + 1)) (l40 ++ List.take (1 : Nat) (List.drop (0 : Nat) [List.take l34.length (List.drop (0 : Nat) l34)])) (l41 ++ List.take (1 : Nat) (List.drop (0 : Nat) [y45])) (l35))))))))))))))))
  | .h2 (a0) (a1) (l23) (i36) (i46) (i47) (l51) (l54) (l55) (l56) => (.ite (decide (i36 < (↑l51.length : Int))) (.chk ((0 : Int) ≤ i36 ∧ i36 < (↑l51.length : Int)) (.get (l51[(0 : Nat) + i36.toNat]?) fun (y59 : List Int) => (.get (f18 y59 l23) fun (y60 : Bool) => (.ite (y60) (.ite (decide (i36 < 0)) (.chk ((1 : Nat) ≤ [l23].length) (.chk (l51.length = l51.length ∧ (l51.length + (List.take (1 : Nat) (List.drop (0 : Nat) [l23])).length) * (24 : Nat) ≤ nat_lit 140737488355328 ∧ l51.length + (List.take (1 : Nat) (List.drop (0 : Nat) [l23])).length ≤ nat_lit 140737488355328) (.ite (decide ((256 : Int) < (↑(l51 ++ List.take (1 : Nat) (List.drop (0 : Nat) [l23])).length : Int))) (.ret (.inr (⟨(0), ([]), ([])⟩, (44))))
  (.chk ((1 : Nat) ≤ [(↑l51.length : Int)].length) (.chk (l56.length = l56.length ∧ (l56.length + (List.take (1 : Nat) (List.drop (0 : Nat) [(↑l51.length : Int)])).length) * (8 : Nat) ≤ nat_lit 140737488355328 ∧ l56.length + (List.take (1 : Nat) (List.drop (0 : Nat) [(↑l51.length : Int)])).length ≤ nat_lit 140737488355328) (.chk ((l51 ++ List.take (1 : Nat) (List.drop (0 : Nat) [l23])).length = (l51 ++ List.take (1 : Nat) (List.drop (0 : Nat) [l23])).length) (.chk ((l56 ++ List.take (1 : Nat) (List.drop (0 : Nat) [(↑l51.length : Int)])).length = (l56 ++ List.take (1 : Nat) (List.drop (0 : Nat) [(↑l51.length : Int)])).length) (.ret (.inl (.h1 (a0) (a1) (IntKind.i64.wrap (i47 + 1)) (l56 ++ List.take (1 : Nat) (List.drop (0 : Nat) [(↑l51.length : Int)])) (l51 ++ List.take (1 : Nat) (List.drop (0 : Nat) [l23])) (i46) (l54) (l55)))))))))))
  (.ite (decide ((256 : Int) < (↑l51.length : Int))) (.ret (.inr (⟨(0), ([]), ([])⟩, (44))))
  (.chk ((1 : Nat) ≤ [i36].length) (.chk (l56.length = l56.length ∧ (l56.length + (List.take (1 : Nat) (List.drop (0 : Nat) [i36])).length) * (8 : Nat) ≤ nat_lit 140737488355328 ∧ l56.length + (List.take (1 : Nat) (List.drop (0 : Nat) [i36])).length ≤ nat_lit 140737488355328) (.chk (l51.length = l51.length) (.chk ((l56 ++ List.take (1 : Nat) (List.drop (0 : Nat) [i36])).length = (l56 ++ List.take (1 : Nat) (List.drop (0 : Nat) [i36])).length) (.ret (.inl (.h1 (a0) (a1) (IntKind.i64.wrap (i47 + 1)) (l56 ++ List.take (1 : Nat) (List.drop (0 : Nat) [i36])) (l51) (i46) (l54) (l55))))))))))
  (.chk (l51.length = l51.length) (.ret (.inl (.h2 (a0) (a1) (l23) (IntKind.i64.wrap (i36 + 1)) (i46) (i47) (l51) (l54) (l55) (l56)))))))))
  (.ite (decide ((-1 : Int) < (0 : Int))) (.chk ((1 : Nat) ≤ [l23].length) (.chk (l51.length = l51.length ∧ (l51.length + (List.take (1 : Nat) (List.drop (0 : Nat) [l23])).length) * (24 : Nat) ≤ nat_lit 140737488355328 ∧ l51.length + (List.take (1 : Nat) (List.drop (0 : Nat) [l23])).length ≤ nat_lit 140737488355328) (.ite (decide ((256 : Int) < (↑(l51 ++ List.take (1 : Nat) (List.drop (0 : Nat) [l23])).length : Int))) (.ret (.inr (⟨(0), ([]), ([])⟩, (44))))
  (.chk ((1 : Nat) ≤ [(↑l51.length : Int)].length) (.chk (l56.length = l56.length ∧ (l56.length + (List.take (1 : Nat) (List.drop (0 : Nat) [(↑l51.length : Int)])).length) * (8 : Nat) ≤ nat_lit 140737488355328 ∧ l56.length + (List.take (1 : Nat) (List.drop (0 : Nat) [(↑l51.length : Int)])).length ≤ nat_lit 140737488355328) (.chk ((l51 ++ List.take (1 : Nat) (List.drop (0 : Nat) [l23])).length = (l51 ++ List.take (1 : Nat) (List.drop (0 : Nat) [l23])).length) (.chk ((l56 ++ List.take (1 : Nat) (List.drop (0 : Nat) [(↑l51.length : Int)])).length = (l56 ++ List.take (1 : Nat) (List.drop (0 : Nat) [(↑l51.length : Int)])).length) (.ret (.inl (.h1 (a0) (a1) (IntKind.i64.wrap (i47 + 1)) (l56 ++ List.take (1 : Nat) (List.drop (0 : Nat) [(↑l51.length : Int)])) (l51 ++ List.take (1 : Nat) (List.drop (0 : Nat) [l23])) (i46) (l54) (l55)))))))))))
  (.ite (decide ((256 : Int) < (↑l51.length : Int))) (.ret (.inr (⟨(0), ([]), ([])⟩, (44))))
  (.chk (@LE.le Nat instLENat (@OfNat.ofNat Nat (nat_lit 1) (instOfNatNat (nat_lit 1))) (@List.length Int (@List.cons Int (@Neg.neg Int Int.instNegInt (@OfNat.ofNat Int (nat_lit 1) (@instOfNat (nat_lit 1)))) (@List.nil Int)))) (.chk (l56.length = l56.length ∧ (l56.length + (List.take (1 : Nat) (List.drop (0 : Nat) [(-1 : Int)])).length) * (8 : Nat) ≤ nat_lit 140737488355328 ∧ l56.length + (List.take (1 : Nat) (List.drop (0 : Nat) [(-1 : Int)])).length ≤ nat_lit 140737488355328) (.chk (l51.length = l51.length) (.chk ((l56 ++ List.take (1 : Nat) (List.drop (0 : Nat) [(-1 : Int)])).length = (l56 ++ List.take (1 : Nat) (List.drop (0 : Nat) [(-1 : Int)])).length) (.ret (.inl (.h1 (a0) (a1) (IntKind.i64.wrap (i47 + 1)) (l56 ++ List.take (1 : Nat) (List.drop (0 : Nat) [(-1 : Int)])) (l51) (i46) (l54) (l55)))))))))))
theorem E12 : ∀ s, headC C tab knDfaG1_45 i12.rs H12 (.tup [(.agg [.i .i64, .lst 40, .lst 4]), (.i .i64)]) 5000 (m12 s) = (g12 s).map (Sum.map m12 (fun (r : Dfa × Int) => (((.tup [(.agg (cellsG (G.ty 36) (G.to 36 (r.1)))), (.i .i64 (r.2))])) : SV Th)))
  | .h0 (a0) (a1) (i24) (l27) (l28) (l58) => by kernel_rfl
  | .h1 (a0) (a1) (i31) (l34) (l35) (i37) (l40) (l41) => by kernel_rfl
  | .h2 (a0) (a1) (l23) (i36) (i46) (i47) (l51) (l54) (l55) (l56) => by kernel_rfl
noncomputable def s12 (a0 : Nfa) (a1 : Int) : Cm (L12 ⊕ Dfa × Int) :=
  (.get (f42 a0) fun (y18 : Bool) => (.ite (!y18) (.ret (.inr (⟨(0), ([]), ([])⟩, (1))))
  (.ite (decide (a1 < 1)) (.ret (.inr (⟨(0), ([]), ([])⟩, (1))))
  (.ite (decide (32 < a1)) (.ret (.inr (⟨(0), ([]), ([])⟩, (1))))
  (.chk (Nat.le (@OfNat.ofNat Nat (nat_lit 1) (instOfNatNat (nat_lit 1))) (@List.length Int (@List.cons Int (@OfNat.ofNat Int (nat_lit 0) (@instOfNat (nat_lit 0))) (@List.nil Int)))) (.chk (@Eq Nat (@OfNat.ofNat Nat (nat_lit 1) (instOfNatNat (nat_lit 1))) (@List.length (List Int) (@List.cons (List Int) (@List.take Int (@OfNat.ofNat Nat (nat_lit 1) (instOfNatNat (nat_lit 1))) (@List.drop Int (@OfNat.ofNat Nat (nat_lit 0) (instOfNatNat (nat_lit 0))) (@List.cons Int (@OfNat.ofNat Int (nat_lit 0) (@instOfNat (nat_lit 0))) (@List.nil Int)))) (@List.nil (List Int))))) (.chk (@Eq Nat (@OfNat.ofNat Nat (nat_lit 0) (instOfNatNat (nat_lit 0))) (@List.length (Th (@OfNat.ofNat Nat (nat_lit 40) (instOfNatNat (nat_lit 40)))) (@List.nil (Th (@OfNat.ofNat Nat (nat_lit 40) (instOfNatNat (nat_lit 40))))))) (.chk (@Eq Nat (@OfNat.ofNat Nat (nat_lit 0) (instOfNatNat (nat_lit 0))) (@List.length (Th (@OfNat.ofNat Nat (nat_lit 4) (instOfNatNat (nat_lit 4)))) (@List.nil (Th (@OfNat.ofNat Nat (nat_lit 4) (instOfNatNat (nat_lit 4))))))) (.ret (.inl (.h0 (a0) (a1) (0) ([]) ([]) ([List.take (1 : Nat) (List.drop (0 : Nat) [(0 : Int)])]))))))))))))
theorem ES12 (y : ATup Th [.t 30, .i .i64]) : startC C tab knDfaG1_45 i12 H12 (.tup [(.agg [.i .i64, .lst 40, .lst 4]), (.i .i64)]) 5000 (encAs G [.t 30, .i .i64] y) = (s12 (y.1) (y.2.1)).map (Sum.map m12 (fun (r : Dfa × Int) => (((.tup [(.agg (cellsG (G.ty 36) (G.to 36 (r.1)))), (.i .i64 (r.2))])) : SV Th))) := by kernel_rfl
noncomputable def f12 (a0 : Nfa) (a1 : Int) : Option (Dfa × Int) := runO g12 (s12 (a0) (a1))
theorem Q12 (y : ATup Th [.t 30, .i .i64]) (r : Dfa × Int) (h : f12 (y.1) (y.2.1) = some r) : PCall Tryd.prog C 12 (encAs G [.t 30, .i .i64] y) (· = (fun (r : Dfa × Int) => (((.tup [(.agg (cellsG (G.ty 36) (G.to 36 (r.1)))), (.i .i64 (r.2))])) : SV Th)) r) := runO_sound gok.ok koDfaG1_45 tabKnows E12 k12 rfl (by kernel_rfl) (by kernel_rfl) (ES12 y) h
noncomputable def knDfaG1_12 : KnownF Th := (12, knG G [.t 30, .i .i64] fun y => .get (f12 (y.1) (y.2.1)) fun r => .ret ((fun (r : Dfa × Int) => (((.tup [(.agg (cellsG (G.ty 36) (G.to 36 (r.1)))), (.i .i64 (r.2))])) : SV Th)) r)) :: knDfaG1_45
theorem koDfaG1_12 : KnownOk Tryd.prog C knDfaG1_12 := KnownOk.add gok koDfaG1_45 (known_opt (enc := fun (r : Go.Proofs.Dfa.Dfa × Int) => (((.tup [(.agg (cellsG (G.ty 36) (G.to 36 (r.1)))), (.i .i64 (r.2))])) : SV Th)) Q12 (fun _ => rfl))
-- 46 drover/nfa.Right
def H46 : List (List Nat × Hint) := [([61031], ⟨[56, 52, 55, 54, 53, 1, 29, 27, 28], [], [], [], [], [], [], 0, []⟩),
  ([61046, 61031], ⟨[44, 1, 5, 42, 39, 38, 37, 27, 28, 29, 43], [], [], [], [], [], [], 0, []⟩)]
inductive L46 where
  | h0 (a0 : Nfa) (i19 : Int)
  | h1 (a0 : Nfa) (x15 : NfaState) (i17 : Int) (i18 : Int) (i22 : Int)
noncomputable def m46 : L46 → Trip Th
  | .h0 (a0) (i19) => ([(.lp 61 c46_16), (.blk 0), (.seq 61 c46_18)], [(56, .any), (52, .any), (55, .any), (54, .any), (53, .any), (1, (.ptr 0 0)), (29, (.i .i64 (i19))), (27, (.lst 69 (a0.States))), (28, (.i .i64 ((↑a0.States.length : Int))))], [(.box [(.lst 69 (a0.States))])])
  | .h1 (a0) (x15) (i17) (i18) (i22) => ([(.lp 61 c46_8), (.blk 2), (.blk 1), (.seq 61 c46_13), (.lp 61 c46_16), (.blk 0), (.seq 61 c46_18)], [(44, (.i .i64 (i17))), (1, (.ptr 0 0)), (5, (.i .i64 (i18))), (42, (.lst 3 (x15.Next))), (39, (.b (decide ((65535 : Int) < x15.Switch)))), (38, (.i .i64 (x15.Switch))), (37, (.ptr 1 0)), (27, (.lst 69 (a0.States))), (28, (.i .i64 ((↑a0.States.length : Int)))), (29, (.i .i64 (i22))), (43, (.i .i64 ((↑x15.Next.length : Int))))], [(.box [(.lst 69 (a0.States))]), (.box [(.i .i64 (x15.Switch)), (.b (x15.Ends)), (.lst 3 (x15.Next))])])
noncomputable def g46 : L46 → Cm (L46 ⊕ Bool)
  | .h0 (a0) (i19) => (.ite (decide (i19 < (↑a0.States.length : Int))) (.chk ((0 : Int) ≤ i19) (.get (a0.States[i19.toNat]?) fun (y21 : NfaState) => (.ite (decide (y21.Switch < (0 : Int))) (.ret (.inr (Bool.false)))
  (.ite (decide ((65535 : Int) < y21.Switch)) (.ret (.inr (Bool.false)))
  (.ret (.inl (.h1 (a0) (y21) (0) (0) (i19))))))))
  (.ret (.inr (Bool.true))))
  | .h1 (a0) (x15) (i17) (i18) (i22) => (.ite (decide (i17 < (↑x15.Next.length : Int))) (.chk ((0 : Int) ≤ i17) (.get (x15.Next[i17.toNat]?) fun (y23 : Int) => (.ite (decide (y23 ≤ i18)) (.ret (.inr (Bool.false)))
  (.ite (decide ((↑a0.States.length : Int) ≤ y23)) (.ret (.inr (Bool.false)))
  (.ret (.inl (.h1 (a0) (x15) (IntKind.i64.wrap (i17 + 1)) (y23) (i22))))))))
  (.ret (.inl (.h0 (a0) (IntKind.i64.wrap (i22 + 1))))))
theorem E46 : ∀ s, headC C tab knDfaG1_12 i46.rs H46 .b 5000 (m46 s) = (g46 s).map (Sum.map m46 (fun (r : Bool) => (((.b (r))) : SV Th)))
  | .h0 (a0) (i19) => by kernel_rfl
  | .h1 (a0) (x15) (i17) (i18) (i22) => by kernel_rfl
noncomputable def s46 (a0 : Nfa) : Cm (L46 ⊕ Bool) :=
  (.ite (decide ((↑a0.States.length : Int) = (0 : Int))) (.ret (.inr (Bool.false)))
  (.ite (decide ((64 : Int) < (↑a0.States.length : Int))) (.ret (.inr (Bool.false)))
  (.chk ((0 : Int) ≤ (0 : Int)) (.get (a0.States[(0 : Nat)]?) fun (y13 : NfaState) => (.ite (!decide (y13.Switch = (0 : Int))) (.ret (.inr (Bool.false)))
  (.ret (.inl (.h0 (a0) (0)))))))))
theorem ES46 (y : ATup Th [.t 30]) : startC C tab knDfaG1_12 i46 H46 .b 5000 (encAs G [.t 30] y) = (s46 (y.1)).map (Sum.map m46 (fun (r : Bool) => (((.b (r))) : SV Th))) := by kernel_rfl
noncomputable def f46 (a0 : Nfa) : Option (Bool) := runO g46 (s46 (a0))
theorem Q46 (y : ATup Th [.t 30]) (r : Bool) (h : f46 (y.1) = some r) : PCall Tryd.prog C 46 (encAs G [.t 30] y) (· = (fun (r : Bool) => (((.b (r))) : SV Th)) r) := runO_sound gok.ok koDfaG1_12 tabKnows E46 k46 rfl (by kernel_rfl) (by kernel_rfl) (ES46 y) h
noncomputable def knDfaG1_46 : KnownF Th := (46, knG G [.t 30] fun y => .get (f46 (y.1)) fun r => .ret ((fun (r : Bool) => (((.b (r))) : SV Th)) r)) :: knDfaG1_12
theorem koDfaG1_46 : KnownOk Tryd.prog C knDfaG1_46 := KnownOk.add gok koDfaG1_12 (known_opt (enc := fun (r : Bool) => (((.b (r))) : SV Th)) Q46 (fun _ => rfl))
-- 49 drover/dfa.bits
def H49 : List (List Nat × Hint) := [([18010], ⟨[8, 3, 6, 7], [], [], [], [], [], [], 0, []⟩)]
inductive L49 where
  | h0 (a0 : List Int) (i1 : Int) (i2 : Int)
noncomputable def m49 : L49 → Trip Th
  | .h0 (a0) (i1) (i2) => ([(.lp 18 c49_4), (.blk 0), (.seq 18 c49_6)], [(8, (.i .i64 (i1))), (3, (.i .u64 (i2))), (6, (.lst 3 (a0))), (7, (.i .i64 ((↑a0.length : Int))))], [])
noncomputable def g49 : L49 → Cm (L49 ⊕ Int)
  | .h0 (a0) (i1) (i2) => (.ite (decide (i1 < (↑a0.length : Int))) (.chk ((0 : Int) ≤ i1) (.get (a0[i1.toNat]?) fun (y3 : Int) => (.chk ((0 : Int) ≤ y3) (.ret (.inl (.h0 (a0) (IntKind.i64.wrap (i1 + 1)) (IntKind.u64.wrap (↑(BitVec.ofInt 64 i2 ||| BitVec.ofInt 64 (IntKind.u64.wrap (1 * 2 ^ Min.min y3.toNat 64))).toNat : Int))))))))
  (.ret (.inr (i2))))
theorem E49 : ∀ s, headC C tab knDfaG1_46 i49.rs H49 (.i .u64) 5000 (m49 s) = (g49 s).map (Sum.map m49 (fun (r : Int) => (((.i .u64 (r))) : SV Th)))
  | .h0 (a0) (i1) (i2) => by kernel_rfl
noncomputable def s49 (a0 : List Int) : Cm (L49 ⊕ Int) :=
  (.ret (.inl (.h0 (a0) (0) (0))))
theorem ES49 (y : ATup Th [.l 3]) : startC C tab knDfaG1_46 i49 H49 (.i .u64) 5000 (encAs G [.l 3] y) = (s49 (y.1)).map (Sum.map m49 (fun (r : Int) => (((.i .u64 (r))) : SV Th))) := by kernel_rfl
noncomputable def f49 (a0 : List Int) : Option (Int) := runO g49 (s49 (a0))
theorem Q49 (y : ATup Th [.l 3]) (r : Int) (h : f49 (y.1) = some r) : PCall Tryd.prog C 49 (encAs G [.l 3] y) (· = (fun (r : Int) => (((.i .u64 (r))) : SV Th)) r) := runO_sound gok.ok koDfaG1_46 tabKnows E49 k49 rfl (by kernel_rfl) (by kernel_rfl) (ES49 y) h
noncomputable def knDfaG1_49 : KnownF Th := (49, knG G [.l 3] fun y => .get (f49 (y.1)) fun r => .ret ((fun (r : Int) => (((.i .u64 (r))) : SV Th)) r)) :: knDfaG1_46
theorem koDfaG1_49 : KnownOk Tryd.prog C knDfaG1_49 := KnownOk.add gok koDfaG1_46 (known_opt (enc := fun (r : Int) => (((.i .u64 (r))) : SV Th)) Q49 (fun _ => rfl))
-- 51 drover/dfa.row
def H51 : List (List Nat × Hint) := [([19007], ⟨[5, 3, 0], [], [(3, 3)], [], [], [3], [], 0, []⟩)]
inductive L51 where
  | h0 (a0 : Int) (i1 : Int) (l3 : List Int)
noncomputable def m51 : L51 → Trip Th
  | .h0 (a0) (i1) (l3) => ([(.lp 19 c51_5), (.blk 0), (.seq 19 c51_7)], [(5, (.i .i64 (i1))), (3, (.sl 3 0 0 (l3.length) .none)), (0, (.i .u64 (a0)))], [(.arr 3 (l3))])
noncomputable def g51 : L51 → Cm (L51 ⊕ (List Int))
  | .h0 (a0) (i1) (l3) => (.ite (decide (i1 < 64)) (.chk ((0 : Int) ≤ i1) (.ite (decide (IntKind.u64.wrap (↑(BitVec.ofInt 64 (a0.fdiv (2 ^ Min.min i1.toNat 64)) &&& BitVec.ofInt 64 1).toNat : Int) = 1)) (.chk ((1 : Nat) ≤ [i1].length) (.chk (l3.length = l3.length ∧ (l3.length + (List.take (1 : Nat) (List.drop (0 : Nat) [i1])).length) * (8 : Nat) ≤ nat_lit 140737488355328 ∧ l3.length + (List.take (1 : Nat) (List.drop (0 : Nat) [i1])).length ≤ nat_lit 140737488355328) (.chk ((l3 ++ List.take (1 : Nat) (List.drop (0 : Nat) [i1])).length = (l3 ++ List.take (1 : Nat) (List.drop (0 : Nat) [i1])).length) (.ret (.inl (.h0 (a0) (IntKind.i64.wrap (i1 + 1)) (l3 ++ List.take (1 : Nat) (List.drop (0 : Nat) [i1]))))))))
  (.chk (l3.length = l3.length) (.ret (.inl (.h0 (a0) (IntKind.i64.wrap (i1 + 1)) (l3)))))))
  (.chk ((0 : Nat) + l3.length ≤ l3.length) (.ret (.inr (List.take l3.length (List.drop (0 : Nat) l3))))))
theorem E51 : ∀ s, headC C tab knDfaG1_49 i51.rs H51 (.lst 3) 5000 (m51 s) = (g51 s).map (Sum.map m51 (fun (r : (List Int)) => (((.lst 3 (r))) : SV Th)))
  | .h0 (a0) (i1) (l3) => by kernel_rfl
noncomputable def s51 (a0 : Int) : Cm (L51 ⊕ (List Int)) :=
  (.chk (@Eq Nat (@OfNat.ofNat Nat (nat_lit 0) (instOfNatNat (nat_lit 0))) (@List.length (Th (@OfNat.ofNat Nat (nat_lit 3) (instOfNatNat (nat_lit 3)))) (@List.nil (Th (@OfNat.ofNat Nat (nat_lit 3) (instOfNatNat (nat_lit 3))))))) (.ret (.inl (.h0 (a0) (0) ([])))))
theorem ES51 (y : ATup Th [.i .u64]) : startC C tab knDfaG1_49 i51 H51 (.lst 3) 5000 (encAs G [.i .u64] y) = (s51 (y.1)).map (Sum.map m51 (fun (r : (List Int)) => (((.lst 3 (r))) : SV Th))) := by kernel_rfl
noncomputable def f51 (a0 : Int) : Option ((List Int)) := runO g51 (s51 (a0))
theorem Q51 (y : ATup Th [.i .u64]) (r : (List Int)) (h : f51 (y.1) = some r) : PCall Tryd.prog C 51 (encAs G [.i .u64] y) (· = (fun (r : (List Int)) => (((.lst 3 (r))) : SV Th)) r) := runO_sound gok.ok koDfaG1_49 tabKnows E51 k51 rfl (by kernel_rfl) (by kernel_rfl) (ES51 y) h
noncomputable def knDfaG1_51 : KnownF Th := (51, knG G [.i .u64] fun y => .get (f51 (y.1)) fun r => .ret ((fun (r : (List Int)) => (((.lst 3 (r))) : SV Th)) r)) :: knDfaG1_49
theorem koDfaG1_51 : KnownOk Tryd.prog C knDfaG1_51 := KnownOk.add gok koDfaG1_49 (known_opt (enc := fun (r : (List Int)) => (((.lst 3 (r))) : SV Th)) Q51 (fun _ => rfl))
-- 67 drover/nfa.step
def H67 : List (List Nat × Hint) := [([63018], ⟨[16, 7, 51, 49, 50, 2, 3, 14, 15], [], [], [], [], [], [], 0, []⟩),
  ([63038, 63018], ⟨[36, 7, 2, 3, 34, 27, 23, 26, 25, 24, 14, 15, 16, 35], [], [], [], [], [], [], 0, []⟩),
  ([17007, 1000061], ⟨[5, 1, 0], [[13]], [], [(1, 0, 3)], [], [], [(1, 0)], 0, []⟩)]
inductive L67 where
  | h0 (a0 : Nfa) (a1 : List Int) (a2 : Int) (i30 : Int) (i45 : Int)
  | h1 (a0 : Nfa) (a1 : List Int) (a2 : Int) (x31 : NfaState) (i32 : Int) (i35 : Int) (i38 : Int) (i39 : Int)
  | h2 (i40 : Int) (l42 : List Int) (i48 : Int)
noncomputable def m67 : L67 → Trip Th
  | .h0 (a0) (a1) (a2) (i30) (i45) => ([(.lp 63 c67_14), (.blk 0), (.seq 63 c67_18)], [(16, (.i .i64 (i30))), (7, (.i .u64 (i45))), (51, .any), (49, .any), (50, .any), (2, (.i .i64 (a2))), (3, (.ptr 0 0)), (14, (.lst 3 (a1))), (15, (.i .i64 ((↑a1.length : Int))))], [(.box [(.lst 69 (a0.States))])])
  | .h1 (a0) (a1) (a2) (x31) (i32) (i35) (i38) (i39) => ([(.lp 63 c67_7), (.blk 2), (.blk 1), (.seq 63 c67_11), (.lp 63 c67_14), (.blk 0), (.seq 63 c67_18)], [(36, (.i .i64 (i38))), (7, (.i .u64 (i39))), (2, (.i .i64 (a2))), (3, (.ptr 0 0)), (34, (.lst 3 (x31.Next))), (27, (.b (decide ((↑a0.States.length : Int) ≤ i32)))), (23, (.i .i64 (i32))), (26, (.i .i64 ((↑a0.States.length : Int)))), (25, (.lst 69 (a0.States))), (24, (.ptr 0 0)), (14, (.lst 3 (a1))), (15, (.i .i64 ((↑a1.length : Int)))), (16, (.i .i64 (i35))), (35, (.i .i64 ((↑x31.Next.length : Int))))], [(.box [(.lst 69 (a0.States))])])
  | .h2 (i40) (l42) (i48) => ([(.lp 17 c80_5), (.blk 0), (.cal [(13, (.ptr 0 0))] (.some 61) []), (.ops 63 []), (.seq 63 c67_16)], [(5, (.i .i64 (i40))), (1, (.fn 81 [(.ptr 0 0)])), (0, (.i .u64 (i48)))], [(.box [(.sl 3 1 0 (l42.length) .none)]), (.arr 3 (l42))])
noncomputable def g67 : L67 → Cm (L67 ⊕ (List Int))
  | .h0 (a0) (a1) (a2) (i30) (i45) => (.ite (decide (i30 < (↑a1.length : Int))) (.chk ((0 : Int) ≤ i30) (.get (a1[i30.toNat]?) fun (y46 : Int) => (.ite (decide (y46 < (0 : Int))) (.ret (.inl (.h0 (a0) (a1) (a2) (IntKind.i64.wrap (i30 + 1)) (i45))))
  (.ite (decide ((↑a0.States.length : Int) ≤ y46)) (.ret (.inl (.h0 (a0) (a1) (a2) (IntKind.i64.wrap (i30 + 1)) (i45))))
  (.chk ((0 : Int) ≤ y46) (.get (a0.States[y46.toNat]?) fun (y47 : NfaState) => (.ret (.inl (.h1 (a0) (a1) (a2) (y47) (y46) (i30) (0) (i45))))))))))
  (.chk (@Eq Nat (@OfNat.ofNat Nat (nat_lit 0) (instOfNatNat (nat_lit 0))) (@List.length (Th (@OfNat.ofNat Nat (nat_lit 3) (instOfNatNat (nat_lit 3)))) (@List.nil (Th (@OfNat.ofNat Nat (nat_lit 3) (instOfNatNat (nat_lit 3))))))) (.ret (.inl (.h2 (0) ([]) (i45))))))
  | .h1 (a0) (a1) (a2) (x31) (i32) (i35) (i38) (i39) => (.ite (decide (i38 < (↑x31.Next.length : Int))) (.chk ((0 : Int) ≤ i38) (.get (x31.Next[i38.toNat]?) fun (y43 : Int) => (.chk ((0 : Int) ≤ y43) (.get (a0.States[y43.toNat]?) fun (y44 : NfaState) => (.ite (decide (y44.Switch = (0 : Int))) (.chk ((0 : Int) ≤ y43) (.ret (.inl (.h1 (a0) (a1) (a2) (x31) (i32) (i35) (IntKind.i64.wrap (i38 + 1)) (IntKind.u64.wrap (↑(BitVec.ofInt 64 i39 ||| BitVec.ofInt 64 (IntKind.u64.wrap (1 * 2 ^ Min.min y43.toNat 64))).toNat : Int))))))
  (.ite (decide (y44.Switch = a2)) (.chk ((0 : Int) ≤ y43) (.ret (.inl (.h1 (a0) (a1) (a2) (x31) (i32) (i35) (IntKind.i64.wrap (i38 + 1)) (IntKind.u64.wrap (↑(BitVec.ofInt 64 i39 ||| BitVec.ofInt 64 (IntKind.u64.wrap (1 * 2 ^ Min.min y43.toNat 64))).toNat : Int))))))
  (.ret (.inl (.h1 (a0) (a1) (a2) (x31) (i32) (i35) (IntKind.i64.wrap (i38 + 1)) (i39))))))))))
  (.ret (.inl (.h0 (a0) (a1) (a2) (IntKind.i64.wrap (i35 + 1)) (i39)))))
  | .h2 (i40) (l42) (i48) => (.ite (decide (i40 < 64)) (.chk ((0 : Int) ≤ i40) (.ite (decide (IntKind.u64.wrap (↑(BitVec.ofInt 64 (i48.fdiv (2 ^ Min.min i40.toNat 64)) &&& BitVec.ofInt 64 1).toNat : Int) = 1)) (.chk ((1 : Nat) ≤ [i40].length) (.chk (l42.length = l42.length ∧ (l42.length + (List.take (1 : Nat) (List.drop (0 : Nat) [i40])).length) * (8 : Nat) ≤ nat_lit 140737488355328 ∧ l42.length + (List.take (1 : Nat) (List.drop (0 : Nat) [i40])).length ≤ nat_lit 140737488355328) (.chk ((l42 ++ List.take (1 : Nat) (List.drop (0 : Nat) [i40])).length = (l42 ++ List.take (1 : Nat) (List.drop (0 : Nat) [i40])).length) (.ret (.inl (.h2 (IntKind.i64.wrap (i40 + 1)) (l42 ++ List.take (1 : Nat) (List.drop (0 : Nat) [i40])) (i48)))))))
  (.chk (l42.length = l42.length) (.ret (.inl (.h2 (IntKind.i64.wrap (i40 + 1)) (l42) (i48)))))))
  (.chk ((0 : Nat) + l42.length ≤ l42.length) (.ret (.inr (List.take l42.length (List.drop (0 : Nat) l42))))))
theorem E67 : ∀ s, headC C tab knDfaG1_51 i67.rs H67 (.lst 3) 5000 (m67 s) = (g67 s).map (Sum.map m67 (fun (r : (List Int)) => (((.lst 3 (r))) : SV Th)))
  | .h0 (a0) (a1) (a2) (i30) (i45) => by kernel_rfl
  | .h1 (a0) (a1) (a2) (x31) (i32) (i35) (i38) (i39) => by kernel_rfl
  | .h2 (i40) (l42) (i48) => by kernel_rfl
noncomputable def s67 (a0 : Nfa) (a1 : List Int) (a2 : Int) : Cm (L67 ⊕ (List Int)) :=
  (.ret (.inl (.h0 (a0) (a1) (a2) (0) (0))))
theorem ES67 (y : ATup Th [.t 30, .l 3, .i .i64]) : startC C tab knDfaG1_51 i67 H67 (.lst 3) 5000 (encAs G [.t 30, .l 3, .i .i64] y) = (s67 (y.1) (y.2.1) (y.2.2.1)).map (Sum.map m67 (fun (r : (List Int)) => (((.lst 3 (r))) : SV Th))) := by kernel_rfl
noncomputable def f67 (a0 : Nfa) (a1 : List Int) (a2 : Int) : Option ((List Int)) := runO g67 (s67 (a0) (a1) (a2))
theorem Q67 (y : ATup Th [.t 30, .l 3, .i .i64]) (r : (List Int)) (h : f67 (y.1) (y.2.1) (y.2.2.1) = some r) : PCall Tryd.prog C 67 (encAs G [.t 30, .l 3, .i .i64] y) (· = (fun (r : (List Int)) => (((.lst 3 (r))) : SV Th)) r) := runO_sound gok.ok koDfaG1_51 tabKnows E67 k67 rfl (by kernel_rfl) (by kernel_rfl) (ES67 y) h
noncomputable def knDfaG1_67 : KnownF Th := (67, knG G [.t 30, .l 3, .i .i64] fun y => .get (f67 (y.1) (y.2.1) (y.2.2.1)) fun r => .ret ((fun (r : (List Int)) => (((.lst 3 (r))) : SV Th)) r)) :: knDfaG1_51
theorem koDfaG1_67 : KnownOk Tryd.prog C knDfaG1_67 := KnownOk.add gok koDfaG1_51 (known_opt (enc := fun (r : (List Int)) => (((.lst 3 (r))) : SV Th)) Q67 (fun _ => rfl))
-- 50 drover/nfa.Step
noncomputable def u50 (a0 : Nfa) (a1 : List Int) (a2 : Int) : Cm ((List Int)) :=
  (.get (f46 a0) fun (y0 : Bool) => (.ite (!y0) (.ret ([]))
  (.get (f67 a0 a1 a2) fun (y1 : List Int) => (.ret (y1)))))
noncomputable def f50 (a0 : Nfa) (a1 : List Int) (a2 : Int) : Option ((List Int)) := (u50 (a0) (a1) (a2)).opt
theorem E50 (y : ATup Th [.t 30, .l 3, .i .i64]) : startC C tab knDfaG1_67 i50 [] (.lst 3) 5000 (encAs G [.t 30, .l 3, .i .i64] y) = (u50 (y.1) (y.2.1) (y.2.2.1)).map (fun r => .inr ((fun (r : (List Int)) => (((.lst 3 (r))) : SV Th)) r)) := by kernel_rfl
theorem Q50 (y : ATup Th [.t 30, .l 3, .i .i64]) (r : (List Int)) (h : f50 (y.1) (y.2.1) (y.2.2.1) = some r) : PCall Tryd.prog C 50 (encAs G [.t 30, .l 3, .i .i64] y) (· = (fun (r : (List Int)) => (((.lst 3 (r))) : SV Th)) r) := one_sound gok.ok koDfaG1_67 tabKnows k50 (by kernel_rfl) (by kernel_rfl) (E50 y) (Cm.den_opt h rfl)
noncomputable def knDfaG1_50 : KnownF Th := (50, knG G [.t 30, .l 3, .i .i64] fun y => .get (f50 (y.1) (y.2.1) (y.2.2.1)) fun r => .ret ((fun (r : (List Int)) => (((.lst 3 (r))) : SV Th)) r)) :: knDfaG1_67
theorem koDfaG1_50 : KnownOk Tryd.prog C knDfaG1_50 := KnownOk.add gok koDfaG1_67 (known_opt (enc := fun (r : (List Int)) => (((.lst 3 (r))) : SV Th)) Q50 (fun _ => rfl))
-- 68 drover/nfa.ends
def H68 : List (List Nat × Hint) := [([34014], ⟨[29, 28, 12, 2, 10, 5, 11], [], [], [], [], [], [], 0, []⟩),
  ([34021, 34014], ⟨[19, 7, 17, 2, 10, 5, 11, 12, 18], [], [], [], [], [], [], 0, []⟩)]
inductive L68 where
  | h0 (a0 : Nfa) (a1 : List Int) (i8 : Int)
  | h1 (a0 : Nfa) (a1 : List Int) (i5 : Int) (i7 : Int) (i11 : Int)
noncomputable def m68 : L68 → Trip Th
  | .h0 (a0) (a1) (i8) => ([(.lp 34 c68_11), (.blk 0), (.seq 34 c68_13)], [(29, .any), (28, .any), (12, (.i .i64 (i8))), (2, (.ptr 0 0)), (10, (.lst 3 (a1))), (5, (.kb (Bool.false))), (11, (.i .i64 ((↑a1.length : Int))))], [(.box [(.lst 69 (a0.States))])])
  | .h1 (a0) (a1) (i5) (i7) (i11) => ([(.lp 34 c68_5), (.blk 2), (.blk 1), (.seq 34 c68_8), (.lp 34 c68_11), (.blk 0), (.seq 34 c68_13)], [(19, (.i .i64 (i7))), (7, (.i .i64 (i5))), (17, (.lst 69 (a0.States))), (2, (.ptr 0 0)), (10, (.lst 3 (a1))), (5, (.kb (Bool.false))), (11, (.i .i64 ((↑a1.length : Int)))), (12, (.i .i64 (i11))), (18, (.i .i64 ((↑a0.States.length : Int))))], [(.box [(.lst 69 (a0.States))])])
noncomputable def g68 : L68 → Cm (L68 ⊕ Bool)
  | .h0 (a0) (a1) (i8) => (.ite (decide (i8 < (↑a1.length : Int))) (.chk ((0 : Int) ≤ i8) (.get (a1[i8.toNat]?) fun (y10 : Int) => (.ret (.inl (.h1 (a0) (a1) (y10) (0) (i8))))))
  (.ret (.inr (Bool.false))))
  | .h1 (a0) (a1) (i5) (i7) (i11) => (.ite (decide (i7 < (↑a0.States.length : Int))) (.chk ((0 : Int) ≤ i7) (.get (a0.States[i7.toNat]?) fun (y12 : NfaState) => (.ite (decide (i7 = i5)) (.ite (y12.Ends) (.ret (.inr (Bool.true)))
  (.ret (.inl (.h1 (a0) (a1) (i5) (IntKind.i64.wrap (i7 + 1)) (i11)))))
  (.ret (.inl (.h1 (a0) (a1) (i5) (IntKind.i64.wrap (i7 + 1)) (i11)))))))
  (.ret (.inl (.h0 (a0) (a1) (IntKind.i64.wrap (i11 + 1))))))
theorem E68 : ∀ s, headC C tab knDfaG1_50 i68.rs H68 .b 5000 (m68 s) = (g68 s).map (Sum.map m68 (fun (r : Bool) => (((.b (r))) : SV Th)))
  | .h0 (a0) (a1) (i8) => by kernel_rfl
  | .h1 (a0) (a1) (i5) (i7) (i11) => by kernel_rfl
noncomputable def s68 (a0 : Nfa) (a1 : List Int) : Cm (L68 ⊕ Bool) :=
  (.ret (.inl (.h0 (a0) (a1) (0))))
theorem ES68 (y : ATup Th [.t 30, .l 3]) : startC C tab knDfaG1_50 i68 H68 .b 5000 (encAs G [.t 30, .l 3] y) = (s68 (y.1) (y.2.1)).map (Sum.map m68 (fun (r : Bool) => (((.b (r))) : SV Th))) := by kernel_rfl
noncomputable def f68 (a0 : Nfa) (a1 : List Int) : Option (Bool) := runO g68 (s68 (a0) (a1))
theorem Q68 (y : ATup Th [.t 30, .l 3]) (r : Bool) (h : f68 (y.1) (y.2.1) = some r) : PCall Tryd.prog C 68 (encAs G [.t 30, .l 3] y) (· = (fun (r : Bool) => (((.b (r))) : SV Th)) r) := runO_sound gok.ok koDfaG1_50 tabKnows E68 k68 rfl (by kernel_rfl) (by kernel_rfl) (ES68 y) h
noncomputable def knDfaG1_68 : KnownF Th := (68, knG G [.t 30, .l 3] fun y => .get (f68 (y.1) (y.2.1)) fun r => .ret ((fun (r : Bool) => (((.b (r))) : SV Th)) r)) :: knDfaG1_50
theorem koDfaG1_68 : KnownOk Tryd.prog C knDfaG1_68 := KnownOk.add gok koDfaG1_50 (known_opt (enc := fun (r : Bool) => (((.b (r))) : SV Th)) Q68 (fun _ => rfl))
-- 52 drover/nfa.Ends
noncomputable def u52 (a0 : Nfa) (a1 : List Int) : Cm (Bool) :=
  (.get (f46 a0) fun (y0 : Bool) => (.ite (y0) (.get (f68 a0 a1) fun (y1 : Bool) => (.ret (y1)))
  (.ret (Bool.false))))
noncomputable def f52 (a0 : Nfa) (a1 : List Int) : Option (Bool) := (u52 (a0) (a1)).opt
theorem E52 (y : ATup Th [.t 30, .l 3]) : startC C tab knDfaG1_68 i52 [] .b 5000 (encAs G [.t 30, .l 3] y) = (u52 (y.1) (y.2.1)).map (fun r => .inr ((fun (r : Bool) => (((.b (r))) : SV Th)) r)) := by kernel_rfl
theorem Q52 (y : ATup Th [.t 30, .l 3]) (r : Bool) (h : f52 (y.1) (y.2.1) = some r) : PCall Tryd.prog C 52 (encAs G [.t 30, .l 3] y) (· = (fun (r : Bool) => (((.b (r))) : SV Th)) r) := one_sound gok.ok koDfaG1_68 tabKnows k52 (by kernel_rfl) (by kernel_rfl) (E52 y) (Cm.den_opt h rfl)
noncomputable def knDfaG1_52 : KnownF Th := (52, knG G [.t 30, .l 3] fun y => .get (f52 (y.1) (y.2.1)) fun r => .ret ((fun (r : Bool) => (((.b (r))) : SV Th)) r)) :: knDfaG1_68
theorem koDfaG1_52 : KnownOk Tryd.prog C knDfaG1_52 := KnownOk.add gok koDfaG1_68 (known_opt (enc := fun (r : Bool) => (((.b (r))) : SV Th)) Q52 (fun _ => rfl))
-- 13 drover/dfa.From
def H13 : List (List Nat × Hint) := [([75024, 1000027], ⟨[9, 10, 12, 2, 11, 1], [[4, 2, 1]], [(11, 40)], [], [], [9, 11], [], 0, []⟩),
  ([75035, 75024, 1000027], ⟨[33, 13, 9, 10, 12, 2, 1, 11, 32], [[4, 2, 1]], [], [], [], [13, 9], [], 0, []⟩),
  ([54041], ⟨[39, 9, 2, 37, 4, 38], [], [], [(9, 2, 4)], [], [37], [(9, 2)], 0, []⟩)]
inductive L13 where
  | h0 (a0 : Nfa) (a1 : Int) (i50 : Int) (l52 : List (List Int)) (l67 : List Int) (l68 : List (Int × Int))
  | h1 (a0 : Nfa) (a1 : Int) (i44 : Int) (l46 : List Int) (l48 : List Int) (l49 : List (Int × Int)) (i69 : Int) (l71 : List (List Int))
  | h2 (a0 : Nfa) (a1 : Int) (i56 : Int) (l58 : List Bool) (i73 : Int) (l75 : List (List Int)) (l76 : List Int)
noncomputable def m13 : L13 → Trip Th
  | .h0 (a0) (a1) (i50) (l52) (l67) (l68) => ([(.lp 75 c47_20), (.blk 0), (.seq 75 c47_22), (.cal [(4, (.ptr 4 0)), (2, (.ptr 2 0)), (1, (.i .i64 (a1)))] (.some 27) [(.tmp 6), (.tmp 7), (.tmp 8)]), (.ops 54 c13_2), (.seq 54 c13_13)], [(9, (.sl 83 0 0 (l67.length) .none)), (10, (.mp 1)), (12, (.i .i64 (i50))), (2, (.fn 48 [(.ptr 2 0)])), (11, (.sl 40 3 0 (l52.length) .none)), (1, (.i .i64 (a1)))], [(.arr 83 (l67)), (.map 83 3 (l68)), (.box [(.lst 69 (a0.States))]), (.arr 40 (l52)), (.box [(.i .i64 0), (.v (.slice .none 0 0)), (.v (.slice .none 0 0))])])
  | .h1 (a0) (a1) (i44) (l46) (l48) (l49) (i69) (l71) => ([(.lp 75 c47_14), (.blk 2), (.seq 75 c47_16), (.blk 1), (.seq 75 c47_18), (.lp 75 c47_20), (.blk 0), (.seq 75 c47_22), (.cal [(4, (.ptr 5 0)), (2, (.ptr 3 0)), (1, (.i .i64 (a1)))] (.some 27) [(.tmp 6), (.tmp 7), (.tmp 8)]), (.ops 54 c13_2), (.seq 54 c13_13)], [(33, (.i .i64 (i44))), (13, (.sl 3 0 0 (l46.length) .none)), (9, (.sl 83 1 0 (l48.length) .none)), (10, (.mp 2)), (12, (.i .i64 (i69))), (2, (.fn 48 [(.ptr 3 0)])), (1, (.i .i64 (a1))), (11, (.sl 40 4 0 (l71.length) .none)), (32, (.i .i64 ((↑(List.replicate a1.toNat (0 : Int)).length : Int))))], [(.arr 3 (l46)), (.arr 83 (l48)), (.map 83 3 (l49)), (.box [(.lst 69 (a0.States))]), (.arr 40 (l71)), (.box [(.i .i64 0), (.v (.slice .none 0 0)), (.v (.slice .none 0 0))])])
  | .h2 (a0) (a1) (i56) (l58) (i73) (l75) (l76) => ([(.lp 54 c13_8), (.blk 0), (.seq 54 c13_10)], [(39, (.i .i64 (i56))), (9, (.ptr 0 0)), (2, (.ptr 3 0)), (37, (.sl 83 4 0 (l76.length) .none)), (4, (.ptr 5 0)), (38, (.i .i64 (i73)))], [(.box [(.i .i64 (a1)), (.sl 40 1 0 (l75.length) .none), (.sl 4 2 0 (l58.length) .none)]), (.arr 40 (l75)), (.arr 4 (l58)), (.box [(.lst 69 (a0.States))]), (.arr 83 (l76)), (.box [(.i .i64 0), (.v (.slice .none 0 0)), (.v (.slice .none 0 0))])])
noncomputable def g13 : L13 → Cm (L13 ⊕ Dfa × Int)
  | .h0 (a0) (a1) (i50) (l52) (l67) (l68) => (.ite (decide (i50 < (↑l67.length : Int))) (.chk ((0 : Int) ≤ a1 ∧ a1 ≤ a1 ∧ a1 * (↑(8 : Nat) : Int) ≤ (281474976710656 : Int)) (.chk ((List.replicate a1.toNat (0 : Int)).length = (List.replicate a1.toNat (0 : Int)).length) (.chk (l67.length = l67.length) (.ret (.inl (.h1 (a0) (a1) (0) (List.replicate a1.toNat (0 : Int)) (l67) (l68) (i50) (l52)))))))
  (.chk (l67.length = l67.length) (.chk (@Eq Nat (@OfNat.ofNat Nat (nat_lit 0) (instOfNatNat (nat_lit 0))) (@List.length (Th (@OfNat.ofNat Nat (nat_lit 4) (instOfNatNat (nat_lit 4)))) (@List.nil (Th (@OfNat.ofNat Nat (nat_lit 4) (instOfNatNat (nat_lit 4))))))) (.ret (.inl (.h2 (a0) (a1) (0) ([]) ((↑l67.length : Int)) (l52) (l67)))))))
  | .h1 (a0) (a1) (i44) (l46) (l48) (l49) (i69) (l71) => (.ite (decide (i44 < (↑(List.replicate a1.toNat (0 : Int)).length : Int))) (.chk ((0 : Int) ≤ i69 ∧ i69 < (↑l48.length : Int)) (.get (l48[(0 : Nat) + i69.toNat]?) fun (y80 : Int) => (.get (f51 y80) fun (y81 : List Int) => (.get (f50 a0 y81 (IntKind.i64.wrap (i44 + 1))) fun (y82 : List Int) => (.get (f49 y82) fun (y83 : Int) => (.ite (Go.Ab.mhas l49 y83) (.get (Go.Ab.mget l49 y83) fun (y84 : Int) => (.chk ((0 : Int) ≤ i44 ∧ i44 < (↑l46.length : Int)) (.get (l46[(0 : Nat) + i44.toNat]?) fun (y85 : Int) => (.chk (l46.length = (l46.set ((0 : Nat) + i44.toNat) y84).length) (.chk (l48.length = l48.length) (.ret (.inl (.h1 (a0) (a1) (IntKind.i64.wrap (i44 + 1)) (l46.set ((0 : Nat) + i44.toNat) y84) (l48) (l49) (i69) (l71)))))))))
  (.ite (decide ((↑l48.length : Int) = (256 : Int))) (.ret (.inr (⟨(0), ([]), ([])⟩, (44))))
  (.chk ((1 : Nat) ≤ [y83].length) (.chk (l48.length = l48.length ∧ (l48.length + (List.take (1 : Nat) (List.drop (0 : Nat) [y83])).length) * (8 : Nat) ≤ nat_lit 140737488355328 ∧ l48.length + (List.take (1 : Nat) (List.drop (0 : Nat) [y83])).length ≤ nat_lit 140737488355328) (.chk ((0 : Int) ≤ i44 ∧ i44 < (↑l46.length : Int)) (.get (l46[(0 : Nat) + i44.toNat]?) fun (y86 : Int) => (.chk (l46.length = (l46.set ((0 : Nat) + i44.toNat) (↑l48.length : Int)).length) (.chk ((l48 ++ List.take (1 : Nat) (List.drop (0 : Nat) [y83])).length = (l48 ++ List.take (1 : Nat) (List.drop (0 : Nat) [y83])).length) (.ret (.inl (.h1 (a0) (a1) (IntKind.i64.wrap (i44 + 1)) (l46.set ((0 : Nat) + i44.toNat) (↑l48.length : Int)) (l48 ++ List.take (1 : Nat) (List.drop (0 : Nat) [y83])) (Go.Ab.mset l49 y83 (↑l48.length : Int)) (i69) (l71)))))))))))))))))
  (.chk ((0 : Nat) + l46.length ≤ l46.length ∧ ((0 : Nat) + l46.length).le l46.length) (.chk ((1 : Nat) ≤ [List.take l46.length (List.drop (0 : Nat) l46)].length) (.chk (l71.length = l71.length ∧ (l71.length + (List.take (1 : Nat) (List.drop (0 : Nat) [List.take l46.length (List.drop (0 : Nat) l46)])).length) * (24 : Nat) ≤ nat_lit 140737488355328 ∧ l71.length + (List.take (1 : Nat) (List.drop (0 : Nat) [List.take l46.length (List.drop (0 : Nat) l46)])).length ≤ nat_lit 140737488355328) (.chk (l48.length = l48.length) (.chk ((l71 ++ List.take (1 : Nat) (List.drop (0 : Nat) [List.take l46.length (List.drop (0 : Nat) l46)])).length = (l71 ++ List.take (1 : Nat) (List.drop (0 : Nat) [List.take l46.length (List.drop (0 : Nat) l46)])).length) (.ret (.inl (.h0 (a0) (a1) (IntKind.i64.wrap (i69 + 1)) (l71 ++ List.take (1 : Nat) (List.drop (0 : Nat) [List.take l46.length (List.drop (0 : Nat) l46)])) (l48) (l49))))))))))
  | .h2 (a0) (a1) (i56) (l58) (i73) (l75) (l76) => (.ite (decide (i56 < i73)) (.chk ((0 : Int) ≤ i56 ∧ i56 < (↑l76.length : Int)) (.get (l76[(0 : Nat) + i56.toNat]?) fun (y77 : Int) => (.get (f51 y77) fun (y78 : List Int) => (.get (f52 a0 y78) fun (y79 : Bool) => (.chk ((1 : Nat) ≤ [y79].length) (.chk (l58.length = l58.length ∧ (l58.length + (List.take (1 : Nat) (List.drop (0 : Nat) [y79])).length) * (1 : Nat) ≤ nat_lit 140737488355328 ∧ l58.length + (List.take (1 : Nat) (List.drop (0 : Nat) [y79])).length ≤ nat_lit 140737488355328) (.chk (l76.length = l76.length) (.chk ((l58 ++ List.take (1 : Nat) (List.drop (0 : Nat) [y79])).length = (l58 ++ List.take (1 : Nat) (List.drop (0 : Nat) [y79])).length) (.ret (.inl (.h2 (a0) (a1) (IntKind.i64.wrap (i56 + 1)) (l58 ++ List.take (1 : Nat) (List.drop (0 : Nat) [y79])) (i73) (l75) (l76))))))))))))
  (.chk ((0 : Nat) + l75.length ≤ l75.length) (.chk ((0 : Nat) + l58.length ≤ l58.length) (.ret (.inr (⟨(a1), (List.take l75.length (List.drop (0 : Nat) l75)), (List.take l58.length (List.drop (0 : Nat) l58))⟩, (0)))))))
theorem E13 : ∀ s, headC C tab knDfaG1_52 i13.rs H13 (.tup [(.agg [.i .i64, .lst 40, .lst 4]), (.i .i64)]) 5000 (m13 s) = (g13 s).map (Sum.map m13 (fun (r : Dfa × Int) => (((.tup [(.agg (cellsG (G.ty 36) (G.to 36 (r.1)))), (.i .i64 (r.2))])) : SV Th)))
  | .h0 (a0) (a1) (i50) (l52) (l67) (l68) => by kernel_rfl
  | .h1 (a0) (a1) (i44) (l46) (l48) (l49) (i69) (l71) => by kernel_rfl
  | .h2 (a0) (a1) (i56) (l58) (i73) (l75) (l76) => by kernel_rfl
noncomputable def s13 (a0 : Nfa) (a1 : Int) : Cm (L13 ⊕ Dfa × Int) :=
  (.get (f46 a0) fun (y36 : Bool) => (.ite (!y36) (.ret (.inr (⟨(0), ([]), ([])⟩, (1))))
  (.ite (decide (a1 < 1)) (.ret (.inr (⟨(0), ([]), ([])⟩, (1))))
  (.ite (decide (32 < a1)) (.ret (.inr (⟨(0), ([]), ([])⟩, (1))))
  (.chk (@Eq Nat (@OfNat.ofNat Nat (nat_lit 1) (instOfNatNat (nat_lit 1))) (@List.length Int (@List.cons Int (@OfNat.ofNat Int (nat_lit 1) (@instOfNat (nat_lit 1))) (@List.nil Int)))) (.chk (@Eq Nat (@OfNat.ofNat Nat (nat_lit 0) (instOfNatNat (nat_lit 0))) (@List.length (Th (@OfNat.ofNat Nat (nat_lit 40) (instOfNatNat (nat_lit 40)))) (@List.nil (Th (@OfNat.ofNat Nat (nat_lit 40) (instOfNatNat (nat_lit 40))))))) (.ret (.inl (.h0 (a0) (a1) (0) ([]) ([(1 : Int)]) (Go.Ab.mset [] (1 : Int) (0 : Int)))))))))))
theorem ES13 (y : ATup Th [.t 30, .i .i64]) : startC C tab knDfaG1_52 i13 H13 (.tup [(.agg [.i .i64, .lst 40, .lst 4]), (.i .i64)]) 5000 (encAs G [.t 30, .i .i64] y) = (s13 (y.1) (y.2.1)).map (Sum.map m13 (fun (r : Dfa × Int) => (((.tup [(.agg (cellsG (G.ty 36) (G.to 36 (r.1)))), (.i .i64 (r.2))])) : SV Th))) := by kernel_rfl
noncomputable def f13 (a0 : Nfa) (a1 : Int) : Option (Dfa × Int) := runO g13 (s13 (a0) (a1))
theorem Q13 (y : ATup Th [.t 30, .i .i64]) (r : Dfa × Int) (h : f13 (y.1) (y.2.1) = some r) : PCall Tryd.prog C 13 (encAs G [.t 30, .i .i64] y) (· = (fun (r : Dfa × Int) => (((.tup [(.agg (cellsG (G.ty 36) (G.to 36 (r.1)))), (.i .i64 (r.2))])) : SV Th)) r) := runO_sound gok.ok koDfaG1_52 tabKnows E13 k13 rfl (by kernel_rfl) (by kernel_rfl) (ES13 y) h
noncomputable def knDfaG1_13 : KnownF Th := (13, knG G [.t 30, .i .i64] fun y => .get (f13 (y.1) (y.2.1)) fun r => .ret ((fun (r : Dfa × Int) => (((.tup [(.agg (cellsG (G.ty 36) (G.to 36 (r.1)))), (.i .i64 (r.2))])) : SV Th)) r)) :: knDfaG1_52
theorem koDfaG1_13 : KnownOk Tryd.prog C knDfaG1_13 := KnownOk.add gok koDfaG1_52 (known_opt (enc := fun (r : Go.Proofs.Dfa.Dfa × Int) => (((.tup [(.agg (cellsG (G.ty 36) (G.to 36 (r.1)))), (.i .i64 (r.2))])) : SV Th)) Q13 (fun _ => rfl))
-- 4 drover/droverlaw19.DfaRaw
noncomputable def u4 (a0 : Nfa) (a1 : Int) : Cm (Bool) :=
  (.get (f12 a0 a1) fun (y0 : Dfa × Int) => (.get (f13 a0 a1) fun (y1 : Dfa × Int) => (.ite (decide (y1.snd = y0.snd)) (.get (f14 y1.fst y0.fst) fun (y2 : Bool) => (.ite (y2) (.ret (Bool.true))
  (.ret (Bool.false))))
  (.ret (Bool.false)))))
noncomputable def f4 (a0 : Nfa) (a1 : Int) : Option (Bool) := (u4 (a0) (a1)).opt
theorem E4 (y : ATup Th [.t 30, .i .i64]) : startC C tab knDfaG1_13 i4 [] .b 5000 (encAs G [.t 30, .i .i64] y) = (u4 (y.1) (y.2.1)).map (fun r => .inr ((fun (r : Bool) => (((.b (r))) : SV Th)) r)) := by kernel_rfl
theorem Q4 (y : ATup Th [.t 30, .i .i64]) (r : Bool) (h : f4 (y.1) (y.2.1) = some r) : PCall Tryd.prog C 4 (encAs G [.t 30, .i .i64] y) (· = (fun (r : Bool) => (((.b (r))) : SV Th)) r) := one_sound gok.ok koDfaG1_13 tabKnows k4 (by kernel_rfl) (by kernel_rfl) (E4 y) (Cm.den_opt h rfl)
noncomputable def knDfaG1_4 : KnownF Th := (4, knG G [.t 30, .i .i64] fun y => .get (f4 (y.1) (y.2.1)) fun r => .ret ((fun (r : Bool) => (((.b (r))) : SV Th)) r)) :: knDfaG1_13
theorem koDfaG1_4 : KnownOk Tryd.prog C knDfaG1_4 := KnownOk.add gok koDfaG1_13 (known_opt (enc := fun (r : Bool) => (((.b (r))) : SV Th)) Q4 (fun _ => rfl))
noncomputable def kn_DfaG1 : KnownF Th := knDfaG1_4
theorem ko_DfaG1 : KnownOk Tryd.prog C kn_DfaG1 := koDfaG1_4
end Go.Proofs.Dfa
