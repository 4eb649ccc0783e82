/- A part of a law's proof: DfaH4. -/
import Derived.KernelRfl
import Derived.Test.YthhbggmlfilpdaaDoorDfaH3
import Derived.Test.YthhbggmlfilpdaaDoorDfaTy
import Derived.Test.YthhbggmlfilpdaaDoorDfaXTab
import Derived.Test.YthhbggmlfilpdaaDoorSvLoop
set_option linter.constructorNameAsVariable false
namespace Go.Proofs.Dfa
open Go Go.Ab Go.Proofs
set_option linter.unusedVariables false
set_option linter.unusedSimpArgs false
set_option maxHeartbeats 4000000
set_option maxRecDepth 100000
-- 25 drover/dfa.Run
def H25 : List (List Nat × Hint) := [([40015], ⟨[13, 5, 2, 11, 12], [], [], [], [], [], [], 0, []⟩)]
inductive L25 where
  | h0 (a0 : Dfa) (a1 : List Int) (i12 : Int) (i13 : Int)
noncomputable def m25 : L25 -> Trip Th
  | .h0 (a0) (a1) (i12) (i13) => ([(.lp 40 c25_8), (.blk 0), (.seq 40 c25_10)], [(13, (.i .i64 (i12))), (5, (.i .i64 (i13))), (2, (.ptr 0 0)), (11, (.lst 3 (a1))), (12, (.i .i64 ((↑a1.length : Int))))], [(.box [(.i .i64 (a0.Switches)), (.lst 40 (a0.Next)), (.lst 4 (a0.Ends))])])
noncomputable def g25 : L25 -> Cm (L25 ⊕ Bool)
  | .h0 (a0) (a1) (i12) (i13) => (.ite (decide (i12 < (↑a1.length : Int))) (.chk ((0 : Int) <= i12) (.get (a1[i12.toNat]?) fun (y14 : Int) => (.ite (decide (y14 < (1 : Int))) (.ret (.inr (Bool.false)))
  (.ite (decide (a0.Switches < y14)) (.ret (.inr (Bool.false)))
  (.chk ((0 : Int) <= i13) (.get (a0.Next[i13.toNat]?) fun (y15 : List Int) => (.chk ((0 : Int) <= IntKind.i64.wrap (y14 - (1 : Int))) (.get (y15[(IntKind.i64.wrap (y14 - (1 : Int))).toNat]?) fun (y16 : Int) => (.ret (.inl (.h0 (a0) (a1) (IntKind.i64.wrap (i12 + 1)) (y16))))))))))))
  (.chk ((0 : Int) <= i13) (.get (a0.Ends[i13.toNat]?) fun (y17 : Bool) => (.ret (.inr (y17))))))
theorem E25 : ∀ s, headC C tab kn_DfaH3 i25.rs H25 .b 5000 (m25 s) = (g25 s).map (Sum.map m25 (fun (r : Bool) => (((.b (r))) : SV Th)))
  | .h0 (a0) (a1) (i12) (i13) => by kernel_rfl
noncomputable def s25 (a0 : Dfa) (a1 : List Int) : Cm (L25 ⊕ Bool) :=
  (.get (f19 a0) fun (y7 : Bool) => (.ite (!y7) (.ret (.inr (Bool.false)))
  (.ret (.inl (.h0 (a0) (a1) (0) (0))))))
theorem ES25 (y : ATup Th [.t 36, .l 3]) : startC C tab kn_DfaH3 i25 H25 .b 5000 (encAs G [.t 36, .l 3] y) = (s25 (y.1) (y.2.1)).map (Sum.map m25 (fun (r : Bool) => (((.b (r))) : SV Th))) := by kernel_rfl
noncomputable def f25 (a0 : Dfa) (a1 : List Int) : Option (Bool) := runO g25 (s25 (a0) (a1))
theorem Q25 (y : ATup Th [.t 36, .l 3]) (r : Bool) (h : f25 (y.1) (y.2.1) = some r) : PCall Tryd.prog C 25 (encAs G [.t 36, .l 3] y) (· = (fun (r : Bool) => (((.b (r))) : SV Th)) r) := runO_sound gok.ok ko_DfaH3 tabKnows E25 k25 rfl (by kernel_rfl) (by kernel_rfl) (ES25 y) h
noncomputable def knDfaH4_25 : KnownF Th := (25, knS G [.t 36, .l 3] fun y => .get (f25 (y.1) (y.2.1)) fun r => .ret ((fun (r : Bool) => (((.b (r))) : SV Th)) r)) :: kn_DfaH3
theorem koDfaH4_25 : KnownOk Tryd.prog C knDfaH4_25 := KnownOk.addS gok ko_DfaH3 (scal_opt (enc := fun (r : Bool) => (((.b (r))) : SV Th)) (fun _ => rfl)) (known_opt (enc := fun (r : Bool) => (((.b (r))) : SV Th)) Q25 (fun _ => rfl))
-- 30 drover/droverlaw19.part
noncomputable def u30 (a0 : Int) (a1 : Int) : Cm (Int) :=
  (.chk (a1 ≠ (0 : Int)) (.chk (a1 ≠ (0 : Int)) (.ret ((IntKind.i64.wrap (a0.tmod a1 + a1)).tmod a1))))
noncomputable def f30 (a0 : Int) (a1 : Int) : Option (Int) := (u30 (a0) (a1)).opt
theorem E30 (y : ATup Th [.i .i64, .i .i64]) : startC C tab knDfaH4_25 i30 [] (.i .i64) 5000 (encAs G [.i .i64, .i .i64] y) = (u30 (y.1) (y.2.1)).map (fun r => .inr ((fun (r : Int) => (((.i .i64 (r))) : SV Th)) r)) := by kernel_rfl
theorem Q30 (y : ATup Th [.i .i64, .i .i64]) (r : Int) (h : f30 (y.1) (y.2.1) = some r) : PCall Tryd.prog C 30 (encAs G [.i .i64, .i .i64] y) (· = (fun (r : Int) => (((.i .i64 (r))) : SV Th)) r) := one_sound gok.ok koDfaH4_25 tabKnows k30 (by kernel_rfl) (by kernel_rfl) (E30 y) (Cm.den_opt h rfl)
noncomputable def knDfaH4_30 : KnownF Th := (30, knS G [.i .i64, .i .i64] fun y => .get (f30 (y.1) (y.2.1)) fun r => .ret ((fun (r : Int) => (((.i .i64 (r))) : SV Th)) r)) :: knDfaH4_25
theorem koDfaH4_30 : KnownOk Tryd.prog C knDfaH4_30 := KnownOk.addS gok koDfaH4_25 (scal_opt (enc := fun (r : Int) => (((.i .i64 (r))) : SV Th)) (fun _ => rfl)) (known_opt (enc := fun (r : Int) => (((.i .i64 (r))) : SV Th)) Q30 (fun _ => rfl))
-- 32 drover/droverlaw19.begun
def H32 : List (List Nat × Hint) := [([73015], ⟨[1, 2, 6, 5, 4], [], [], [(5, 1, 40), (5, 2, 4)], [], [], [(5, 1), (5, 2)], 0, []⟩),
  ([73029, 73015], ⟨[9, 8, 1, 7, 2, 5, 4, 6], [], [(8, 3)], [], [], [8], [], 0, []⟩)]
inductive L32 where
  | h0 (a0 : Dfa) (a1 : Int) (i23 : Int) (l26 : List (List Int)) (l27 : List Bool)
  | h1 (a0 : Dfa) (a1 : Int) (i15 : Int) (i20 : Int) (l22 : List Int) (i32 : Int) (l35 : List (List Int)) (l36 : List Bool)
noncomputable def m32 : L32 -> Trip Th
  | .h0 (a0) (a1) (i23) (l26) (l27) => ([(.lp 73 c32_19), (.blk 0), (.seq 73 c32_21)], [(1, (.i .i64 (a1))), (2, (.ptr 0 0)), (6, (.i .i64 (i23))), (5, (.ptr 1 0)), (4, (.ptr 4 0))], [(.box [(.i .i64 (a0.Switches)), (.lst 40 (a0.Next)), (.lst 4 (a0.Ends))]), (.box [(.i .i64 (a0.Switches)), (.sl 40 2 0 (l26.length) .none), (.sl 4 3 0 (l27.length) .none)]), (.arr 40 (l26)), (.arr 4 (l27)), (.box [(.i .i64 0), (.v (.slice .none 0 0)), (.v (.slice .none 0 0))])])
  | .h1 (a0) (a1) (i15) (i20) (l22) (i32) (l35) (l36) => ([(.lp 73 c32_10), (.blk 2), (.seq 73 c32_13), (.blk 1), (.seq 73 c32_17), (.lp 73 c32_19), (.blk 0), (.seq 73 c32_21)], [(9, (.i .i64 (i20))), (8, (.sl 3 0 0 (l22.length) .none)), (1, (.i .i64 (a1))), (7, (.i .i64 (i15))), (2, (.ptr 1 0)), (5, (.ptr 2 0)), (4, (.ptr 5 0)), (6, (.i .i64 (i32)))], [(.arr 3 (l22)), (.box [(.i .i64 (a0.Switches)), (.lst 40 (a0.Next)), (.lst 4 (a0.Ends))]), (.box [(.i .i64 (a0.Switches)), (.sl 40 3 0 (l35.length) .none), (.sl 4 4 0 (l36.length) .none)]), (.arr 40 (l35)), (.arr 4 (l36)), (.box [(.i .i64 0), (.v (.slice .none 0 0)), (.v (.slice .none 0 0))])])
noncomputable def g32 : L32 -> Cm (L32 ⊕ Dfa)
  | .h0 (a0) (a1) (i23) (l26) (l27) => (.ite (decide (i23 < (↑a0.Next.length : Int))) (.ite (decide (i23 = 0)) (.chk (@Eq Nat (@OfNat.ofNat Nat (nat_lit 0) (instOfNatNat (nat_lit 0))) (@List.length (Th (@OfNat.ofNat Nat (nat_lit 3) (instOfNatNat (nat_lit 3)))) (@List.nil (Th (@OfNat.ofNat Nat (nat_lit 3) (instOfNatNat (nat_lit 3))))))) (.ret (.inl (.h1 (a0) (a1) (a1) (0) ([]) (i23) (l26) (l27)))))
  (.ite (decide (i23 = a1)) (.chk (@Eq Nat (@OfNat.ofNat Nat (nat_lit 0) (instOfNatNat (nat_lit 0))) (@List.length (Th (@OfNat.ofNat Nat (nat_lit 3) (instOfNatNat (nat_lit 3)))) (@List.nil (Th (@OfNat.ofNat Nat (nat_lit 3) (instOfNatNat (nat_lit 3))))))) (.ret (.inl (.h1 (a0) (a1) (0) (0) ([]) (i23) (l26) (l27)))))
  (.chk (@Eq Nat (@OfNat.ofNat Nat (nat_lit 0) (instOfNatNat (nat_lit 0))) (@List.length (Th (@OfNat.ofNat Nat (nat_lit 3) (instOfNatNat (nat_lit 3)))) (@List.nil (Th (@OfNat.ofNat Nat (nat_lit 3) (instOfNatNat (nat_lit 3))))))) (.ret (.inl (.h1 (a0) (a1) (i23) (0) ([]) (i23) (l26) (l27)))))))
  (.chk ((0 : Nat) + l26.length <= l26.length) (.chk ((0 : Nat) + l27.length <= l27.length) (.ret (.inr ⟨(a0.Switches), (List.take l26.length (List.drop (0 : Nat) l26)), (List.take l27.length (List.drop (0 : Nat) l27))⟩)))))
  | .h1 (a0) (a1) (i15) (i20) (l22) (i32) (l35) (l36) => (.chk ((0 : Int) <= i15) (.get (a0.Next[i15.toNat]?) fun (y37 : List Int) => (.ite (decide (i20 < (↑y37.length : Int))) (.chk ((0 : Int) <= i15) (.get (a0.Next[i15.toNat]?) fun (y38 : List Int) => (.chk ((0 : Int) <= i20) (.get (y38[i20.toNat]?) fun (y39 : Int) => (.ite (decide (y39 = (0 : Int))) (.chk ((1 : Nat) <= [a1].length) (.chk (l22.length = l22.length ∧ (l22.length + (List.take (1 : Nat) (List.drop (0 : Nat) [a1])).length) * (8 : Nat) <= nat_lit 140737488355328 ∧ l22.length + (List.take (1 : Nat) (List.drop (0 : Nat) [a1])).length <= nat_lit 140737488355328) (.chk ((l22 ++ List.take (1 : Nat) (List.drop (0 : Nat) [a1])).length = (l22 ++ List.take (1 : Nat) (List.drop (0 : Nat) [a1])).length) (.ret (.inl (.h1 (a0) (a1) (i15) (IntKind.i64.wrap (i20 + 1)) (l22 ++ List.take (1 : Nat) (List.drop (0 : Nat) [a1])) (i32) (l35) (l36)))))))
  (.ite (decide (y39 = a1)) (.chk (@LE.le Nat instLENat (@OfNat.ofNat Nat (nat_lit 1) (instOfNatNat (nat_lit 1))) (@List.length Int (@List.cons Int (@OfNat.ofNat Int (nat_lit 0) (@instOfNat (nat_lit 0))) (@List.nil Int)))) (.chk (l22.length = l22.length ∧ (l22.length + (List.take (1 : Nat) (List.drop (0 : Nat) [(0 : Int)])).length) * (8 : Nat) <= nat_lit 140737488355328 ∧ l22.length + (List.take (1 : Nat) (List.drop (0 : Nat) [(0 : Int)])).length <= nat_lit 140737488355328) (.chk ((l22 ++ List.take (1 : Nat) (List.drop (0 : Nat) [(0 : Int)])).length = (l22 ++ List.take (1 : Nat) (List.drop (0 : Nat) [(0 : Int)])).length) (.ret (.inl (.h1 (a0) (a1) (i15) (IntKind.i64.wrap (i20 + 1)) (l22 ++ List.take (1 : Nat) (List.drop (0 : Nat) [(0 : Int)])) (i32) (l35) (l36)))))))
  (.chk ((1 : Nat) <= [y39].length) (.chk (l22.length = l22.length ∧ (l22.length + (List.take (1 : Nat) (List.drop (0 : Nat) [y39])).length) * (8 : Nat) <= nat_lit 140737488355328 ∧ l22.length + (List.take (1 : Nat) (List.drop (0 : Nat) [y39])).length <= nat_lit 140737488355328) (.chk ((l22 ++ List.take (1 : Nat) (List.drop (0 : Nat) [y39])).length = (l22 ++ List.take (1 : Nat) (List.drop (0 : Nat) [y39])).length) (.ret (.inl (.h1 (a0) (a1) (i15) (IntKind.i64.wrap (i20 + 1)) (l22 ++ List.take (1 : Nat) (List.drop (0 : Nat) [y39])) (i32) (l35) (l36)))))))))))))
  (.chk ((0 : Nat) + l22.length <= l22.length ∧ ((0 : Nat) + l22.length).le l22.length) (.chk ((1 : Nat) <= [List.take l22.length (List.drop (0 : Nat) l22)].length) (.chk (l35.length = l35.length ∧ (l35.length + (List.take (1 : Nat) (List.drop (0 : Nat) [List.take l22.length (List.drop (0 : Nat) l22)])).length) * (24 : Nat) <= nat_lit 140737488355328 ∧ l35.length + (List.take (1 : Nat) (List.drop (0 : Nat) [List.take l22.length (List.drop (0 : Nat) l22)])).length <= nat_lit 140737488355328) (.chk ((0 : Int) <= i15) (.get (a0.Ends[i15.toNat]?) fun (y40 : Bool) => (.chk ((1 : Nat) <= [y40].length) (.chk (l36.length = l36.length ∧ (l36.length + (List.take (1 : Nat) (List.drop (0 : Nat) [y40])).length) * (1 : Nat) <= nat_lit 140737488355328 ∧ l36.length + (List.take (1 : Nat) (List.drop (0 : Nat) [y40])).length <= nat_lit 140737488355328) (.chk ((l35 ++ List.take (1 : Nat) (List.drop (0 : Nat) [List.take l22.length (List.drop (0 : Nat) l22)])).length = (l35 ++ List.take (1 : Nat) (List.drop (0 : Nat) [List.take l22.length (List.drop (0 : Nat) l22)])).length) (.chk ((l36 ++ List.take (1 : Nat) (List.drop (0 : Nat) [y40])).length = (l36 ++ List.take (1 : Nat) (List.drop (0 : Nat) [y40])).length) (.ret (.inl (.h0 (a0) (a1) (IntKind.i64.wrap (i32 + 1)) (l35 ++ List.take (1 : Nat) (List.drop (0 : Nat) [List.take l22.length (List.drop (0 : Nat) l22)])) (l36 ++ List.take (1 : Nat) (List.drop (0 : Nat) [y40])))))))))))))))))
theorem E32 : ∀ s, headC C tab knDfaH4_30 i32.rs H32 (.agg [.i .i64, .lst 40, .lst 4]) 5000 (m32 s) = (g32 s).map (Sum.map m32 (fun (r : Dfa) => (((.agg (cellsG (G.ty 36) (G.to 36 (r))))) : SV Th)))
  | .h0 (a0) (a1) (i23) (l26) (l27) => by kernel_rfl
  | .h1 (a0) (a1) (i15) (i20) (l22) (i32) (l35) (l36) => by kernel_rfl
noncomputable def s32 (a0 : Dfa) (a1 : Int) : Cm (L32 ⊕ Dfa) :=
  (.chk (@Eq Nat (@OfNat.ofNat Nat (nat_lit 0) (instOfNatNat (nat_lit 0))) (@List.length (Th (@OfNat.ofNat Nat (nat_lit 40) (instOfNatNat (nat_lit 40)))) (@List.nil (Th (@OfNat.ofNat Nat (nat_lit 40) (instOfNatNat (nat_lit 40))))))) (.chk (@Eq Nat (@OfNat.ofNat Nat (nat_lit 0) (instOfNatNat (nat_lit 0))) (@List.length (Th (@OfNat.ofNat Nat (nat_lit 4) (instOfNatNat (nat_lit 4)))) (@List.nil (Th (@OfNat.ofNat Nat (nat_lit 4) (instOfNatNat (nat_lit 4))))))) (.ret (.inl (.h0 (a0) (a1) (0) ([]) ([]))))))
theorem ES32 (y : ATup Th [.t 36, .i .i64]) : startC C tab knDfaH4_30 i32 H32 (.agg [.i .i64, .lst 40, .lst 4]) 5000 (encAs G [.t 36, .i .i64] y) = (s32 (y.1) (y.2.1)).map (Sum.map m32 (fun (r : Dfa) => (((.agg (cellsG (G.ty 36) (G.to 36 (r))))) : SV Th))) := by kernel_rfl
noncomputable def f32 (a0 : Dfa) (a1 : Int) : Option (Dfa) := runO g32 (s32 (a0) (a1))
theorem Q32 (y : ATup Th [.t 36, .i .i64]) (r : Dfa) (h : f32 (y.1) (y.2.1) = some r) : PCall Tryd.prog C 32 (encAs G [.t 36, .i .i64] y) (· = (fun (r : Dfa) => (((.agg (cellsG (G.ty 36) (G.to 36 (r))))) : SV Th)) r) := runO_sound gok.ok koDfaH4_30 tabKnows E32 k32 rfl (by kernel_rfl) (by kernel_rfl) (ES32 y) h
noncomputable def knDfaH4_32 : KnownF Th := (32, knG G [.t 36, .i .i64] fun y => .get (f32 (y.1) (y.2.1)) fun r => .ret ((fun (r : Dfa) => (((.agg (cellsG (G.ty 36) (G.to 36 (r))))) : SV Th)) r)) :: knDfaH4_30
theorem koDfaH4_32 : KnownOk Tryd.prog C knDfaH4_32 := KnownOk.add gok koDfaH4_30 (known_opt (enc := fun (r : Go.Proofs.Dfa.Dfa) => (((.agg (cellsG (G.ty 36) (G.to 36 (r))))) : SV Th)) Q32 (fun _ => rfl))
-- 57 drover/droverref19.reached
def H57 : List (List Nat × Hint) := [([55014], ⟨[1, 3, 40, 39, 38, 36, 37, 4], [], [], [], [], [3], [], 0, []⟩),
  ([55021, 55014], ⟨[5, 1, 3, 4], [], [], [], [], [3], [], 0, []⟩),
  ([55028, 55021, 55014], ⟨[6, 5, 1, 3, 4], [], [], [], [], [3], [], 0, []⟩)]
inductive L57 where
  | h0 (a0 : Dfa) (i22 : Int) (l43 : List Int)
  | h1 (a0 : Dfa) (i31 : Int) (i32 : Int) (l39 : List Int)
  | h2 (a0 : Dfa) (i28 : Int) (l30 : List Int) (i40 : Int) (i41 : Int)
noncomputable def m57 : L57 -> Trip Th
  | .h0 (a0) (i22) (l43) => ([(.lp 55 c57_13), (.blk 0), (.seq 55 c57_15)], [(1, (.ptr 0 0)), (3, (.sl 3 1 0 (l43.length) .none)), (40, .any), (39, .any), (38, .any), (36, .any), (37, .any), (4, (.i .i64 (i22)))], [(.box [(.i .i64 (a0.Switches)), (.lst 40 (a0.Next)), (.lst 4 (a0.Ends))]), (.arr 3 (l43))])
  | .h1 (a0) (i31) (i32) (l39) => ([(.lp 55 c57_9), (.blk 2), (.blk 1), (.seq 55 c57_11), (.lp 55 c57_13), (.blk 0), (.seq 55 c57_15)], [(5, (.i .i64 (i31))), (1, (.ptr 0 0)), (3, (.sl 3 1 0 (l39.length) .none)), (4, (.i .i64 (i32)))], [(.box [(.i .i64 (a0.Switches)), (.lst 40 (a0.Next)), (.lst 4 (a0.Ends))]), (.arr 3 (l39))])
  | .h2 (a0) (i28) (l30) (i40) (i41) => ([(.lp 55 c57_5), (.blk 4), (.blk 3), (.seq 55 c57_7), (.lp 55 c57_9), (.blk 2), (.blk 1), (.seq 55 c57_11), (.lp 55 c57_13), (.blk 0), (.seq 55 c57_15)], [(6, (.i .i64 (i28))), (5, (.i .i64 (i40))), (1, (.ptr 0 0)), (3, (.sl 3 1 0 (l30.length) .none)), (4, (.i .i64 (i41)))], [(.box [(.i .i64 (a0.Switches)), (.lst 40 (a0.Next)), (.lst 4 (a0.Ends))]), (.arr 3 (l30))])
noncomputable def g57 : L57 -> Cm (L57 ⊕ (List Int))
  | .h0 (a0) (i22) (l43) => (.ite (decide (i22 < (↑a0.Next.length : Int))) (.chk (l43.length = l43.length) (.ret (.inl (.h1 (a0) (0) (i22) (l43)))))
  (.chk ((0 : Nat) + l43.length <= l43.length) (.ret (.inr (List.take l43.length (List.drop (0 : Nat) l43))))))
  | .h1 (a0) (i31) (i32) (l39) => (.ite (decide (i31 < (↑a0.Next.length : Int))) (.chk (l39.length = l39.length) (.ret (.inl (.h2 (a0) (0) (l39) (i31) (i32)))))
  (.chk (l39.length = l39.length) (.ret (.inl (.h0 (a0) (IntKind.i64.wrap (i32 + 1)) (l39))))))
  | .h2 (a0) (i28) (l30) (i40) (i41) => (.chk ((0 : Int) <= i40) (.get (a0.Next[i40.toNat]?) fun (y44 : List Int) => (.ite (decide (i28 < (↑y44.length : Int))) (.chk ((0 : Int) <= i40 ∧ i40 < (↑l30.length : Int)) (.get (l30[(0 : Nat) + i40.toNat]?) fun (y45 : Int) => (.ite (decide (y45 = (1 : Int))) (.chk ((0 : Int) <= i40) (.get (a0.Next[i40.toNat]?) fun (y46 : List Int) => (.chk ((0 : Int) <= i28) (.get (y46[i28.toNat]?) fun (y47 : Int) => (.chk ((0 : Int) <= y47 ∧ y47 < (↑l30.length : Int)) (.get (l30[(0 : Nat) + y47.toNat]?) fun (y48 : Int) => (.chk (l30.length = (l30.set ((0 : Nat) + y47.toNat) (1 : Int)).length) (.ret (.inl (.h2 (a0) (IntKind.i64.wrap (i28 + 1)) (l30.set ((0 : Nat) + y47.toNat) (1 : Int)) (i40) (i41)))))))))))
  (.chk (l30.length = l30.length) (.ret (.inl (.h1 (a0) (IntKind.i64.wrap (i40 + 1)) (i41) (l30))))))))
  (.chk (l30.length = l30.length) (.ret (.inl (.h1 (a0) (IntKind.i64.wrap (i40 + 1)) (i41) (l30))))))))
theorem E57 : ∀ s, headC C tab knDfaH4_32 i57.rs H57 (.lst 3) 5000 (m57 s) = (g57 s).map (Sum.map m57 (fun (r : (List Int)) => (((.lst 3 (r))) : SV Th)))
  | .h0 (a0) (i22) (l43) => by kernel_rfl
  | .h1 (a0) (i31) (i32) (l39) => by kernel_rfl
  | .h2 (a0) (i28) (l30) (i40) (i41) => by kernel_rfl
noncomputable def s57 (a0 : Dfa) : Cm (L57 ⊕ (List Int)) :=
  (.chk ((0 : Int) <= (↑a0.Next.length : Int) ∧ (↑a0.Next.length : Int) <= (↑a0.Next.length : Int) ∧ (↑a0.Next.length : Int) * (↑(8 : Nat) : Int) <= (281474976710656 : Int)) (.chk ((0 : Int) <= (0 : Int) ∧ (0 : Int) < (↑(List.replicate (↑a0.Next.length : Int).toNat (0 : Int)).length : Int)) (.get ((List.replicate (↑a0.Next.length : Int).toNat (0 : Int))[(0 : Nat)]?) fun (y21 : Int) => (.chk ((List.replicate (↑a0.Next.length : Int).toNat (0 : Int)).length = ((List.replicate (↑a0.Next.length : Int).toNat (0 : Int)).set (0 : Nat) (1 : Int)).length) (.ret (.inl (.h0 (a0) (0) ((List.replicate (↑a0.Next.length : Int).toNat (0 : Int)).set (0 : Nat) (1 : Int)))))))))
theorem ES57 (y : ATup Th [.t 36]) : startC C tab knDfaH4_32 i57 H57 (.lst 3) 5000 (encAs G [.t 36] y) = (s57 (y.1)).map (Sum.map m57 (fun (r : (List Int)) => (((.lst 3 (r))) : SV Th))) := by kernel_rfl
noncomputable def f57 (a0 : Dfa) : Option ((List Int)) := runO g57 (s57 (a0))
theorem Q57 (y : ATup Th [.t 36]) (r : (List Int)) (h : f57 (y.1) = some r) : PCall Tryd.prog C 57 (encAs G [.t 36] y) (· = (fun (r : (List Int)) => (((.lst 3 (r))) : SV Th)) r) := runO_sound gok.ok koDfaH4_32 tabKnows E57 k57 rfl (by kernel_rfl) (by kernel_rfl) (ES57 y) h
noncomputable def knDfaH4_57 : KnownF Th := (57, knG G [.t 36] fun y => .get (f57 (y.1)) fun r => .ret ((fun (r : (List Int)) => (((.lst 3 (r))) : SV Th)) r)) :: knDfaH4_32
theorem koDfaH4_57 : KnownOk Tryd.prog C knDfaH4_57 := KnownOk.add gok koDfaH4_32 (known_opt (enc := fun (r : (List Int)) => (((.lst 3 (r))) : SV Th)) Q57 (fun _ => rfl))
-- 29 drover/droverref19.Reached
def H29 : List (List Nat × Hint) := [([18008], ⟨[4, 3], [], [], [], [], [], [], 0, []⟩)]
inductive L29 where
  | h0 (l1 : List Int) (i3 : Int)
noncomputable def m29 : L29 -> Trip Th
  | .h0 (l1) (i3) => ([(.lp 18 c29_5), (.blk 0), (.seq 18 c29_7)], [(4, (.i .i64 (i3))), (3, (.lst 3 (l1)))], [])
noncomputable def g29 : L29 -> Cm (L29 ⊕ Bool)
  | .h0 (l1) (i3) => (.ite (decide (i3 < (↑l1.length : Int))) (.chk ((0 : Int) <= i3) (.get (l1[i3.toNat]?) fun (y4 : Int) => (.ite (decide (y4 = (0 : Int))) (.ret (.inr (Bool.false)))
  (.ret (.inl (.h0 (l1) (IntKind.i64.wrap (i3 + 1))))))))
  (.ret (.inr (Bool.true))))
theorem E29 : ∀ s, headC C tab knDfaH4_57 i29.rs H29 .b 5000 (m29 s) = (g29 s).map (Sum.map m29 (fun (r : Bool) => (((.b (r))) : SV Th)))
  | .h0 (l1) (i3) => by kernel_rfl
noncomputable def s29 (a0 : Dfa) : Cm (L29 ⊕ Bool) :=
  (.get (f57 a0) fun (y0 : List Int) => (.ret (.inl (.h0 (y0) (0)))))
theorem ES29 (y : ATup Th [.t 36]) : startC C tab knDfaH4_57 i29 H29 .b 5000 (encAs G [.t 36] y) = (s29 (y.1)).map (Sum.map m29 (fun (r : Bool) => (((.b (r))) : SV Th))) := by kernel_rfl
noncomputable def f29 (a0 : Dfa) : Option (Bool) := runO g29 (s29 (a0))
theorem Q29 (y : ATup Th [.t 36]) (r : Bool) (h : f29 (y.1) = some r) : PCall Tryd.prog C 29 (encAs G [.t 36] y) (· = (fun (r : Bool) => (((.b (r))) : SV Th)) r) := runO_sound gok.ok koDfaH4_57 tabKnows E29 k29 rfl (by kernel_rfl) (by kernel_rfl) (ES29 y) h
noncomputable def knDfaH4_29 : KnownF Th := (29, knS G [.t 36] fun y => .get (f29 (y.1)) fun r => .ret ((fun (r : Bool) => (((.b (r))) : SV Th)) r)) :: knDfaH4_57
theorem koDfaH4_29 : KnownOk Tryd.prog C knDfaH4_29 := KnownOk.addS gok koDfaH4_57 (scal_opt (enc := fun (r : Bool) => (((.b (r))) : SV Th)) (fun _ => rfl)) (known_opt (enc := fun (r : Bool) => (((.b (r))) : SV Th)) Q29 (fun _ => rfl))
-- 7 drover/droverlaw19.DfaLeast
def H7 : List (List Nat × Hint) := [([116055], ⟨[11, 9, 10, 114, 2, 1], [], [], [], [], [], [], 0, []⟩),
  ([116062, 116055], ⟨[12, 11, 9, 10, 114, 2, 1], [], [], [], [], [], [], 0, []⟩)]
inductive L7 where
  | h0 (a1 : Int) (a2 : Int) (x8 : Dfa) (i22 : Int) (i28 : Int)
  | h1 (a1 : Int) (a2 : Int) (x14 : Dfa) (i20 : Int) (i21 : Int) (i34 : Int)
noncomputable def m7 : L7 -> Trip Th
  | .h0 (a1) (a2) (x8) (i22) (i28) => ([(.lp 116 c7_17), (.blk 0), (.seq 116 c7_25)], [(11, (.i .i64 (i22))), (9, (.ptr 0 0)), (10, (.i .i64 (i28))), (114, .any), (2, (.i .i64 (a2))), (1, (.i .i64 (a1)))], [(.box [(.i .i64 (x8.Switches)), (.lst 40 (x8.Next)), (.lst 4 (x8.Ends))])])
  | .h1 (a1) (a2) (x14) (i20) (i21) (i34) => ([(.lp 116 c7_13), (.blk 2), (.blk 1), (.seq 116 c7_15), (.lp 116 c7_17), (.blk 0), (.seq 116 c7_25)], [(12, (.i .i64 (i20))), (11, (.i .i64 (i34))), (9, (.ptr 0 0)), (10, (.i .i64 (i21))), (114, .any), (2, (.i .i64 (a2))), (1, (.i .i64 (a1)))], [(.box [(.i .i64 (x14.Switches)), (.lst 40 (x14.Next)), (.lst 4 (x14.Ends))])])
noncomputable def g7 : L7 -> Cm (L7 ⊕ Bool)
  | .h0 (a1) (a2) (x8) (i22) (i28) => (.ite (decide (i22 < (↑x8.Next.length : Int))) (.ret (.inl (.h1 (a1) (a2) (x8) (0) (i28) (i22))))
  (.get (f30 a1 (↑x8.Next.length : Int)) fun (y29 : Int) => (.get (f30 a2 (↑x8.Next.length : Int)) fun (y30 : Int) => (.get (f32 x8 y29) fun (y31 : Dfa) => (.get (f32 x8 y30) fun (y32 : Dfa) => (.get (f31 y31 y32) fun (y33 : Bool) => (.ite (decide (y29 = y30) == y33) (.ret (.inr (Bool.true)))
  (.ret (.inr (Bool.false))))))))))
  | .h1 (a1) (a2) (x14) (i20) (i21) (i34) => (.chk ((0 : Int) <= i34) (.get (x14.Next[i34.toNat]?) fun (y35 : List Int) => (.ite (decide (i20 < (↑y35.length : Int))) (.chk ((0 : Int) <= i34) (.get (x14.Next[i34.toNat]?) fun (y36 : List Int) => (.chk ((0 : Int) <= i20) (.get (y36[i20.toNat]?) fun (y37 : Int) => (.ite (decide (IntKind.i64.wrap (i21 + (1 : Int)) < y37)) (.ret (.inr (Bool.false)))
  (.chk ((0 : Int) <= i34) (.get (x14.Next[i34.toNat]?) fun (y38 : List Int) => (.chk ((0 : Int) <= i20) (.get (y38[i20.toNat]?) fun (y39 : Int) => (.ret (.inl (.h1 (a1) (a2) (x14) (IntKind.i64.wrap (i20 + 1)) (Max.max i21 y39) (i34)))))))))))))
  (.ret (.inl (.h0 (a1) (a2) (x14) (IntKind.i64.wrap (i34 + 1)) (i21)))))))
theorem E7 : ∀ s, headC C tab knDfaH4_29 i7.rs H7 .b 5000 (m7 s) = (g7 s).map (Sum.map m7 (fun (r : Bool) => (((.b (r))) : SV Th)))
  | .h0 (a1) (a2) (x8) (i22) (i28) => by kernel_rfl
  | .h1 (a1) (a2) (x14) (i20) (i21) (i34) => by kernel_rfl
noncomputable def s7 (a0 : Dfa) (a1 : Int) (a2 : Int) (a3 : List Int) : Cm (L7 ⊕ Bool) :=
  (.get (f28 a0) fun (y0 : Dfa) => (.get (f19 a0) fun (y1 : Bool) => (.ite (!y1) (.ite (decide ((↑y0.Next.length : Int) = (0 : Int))) (.ite (decide (y0.Switches = (0 : Int))) (.ret (.inr (Bool.true)))
  (.ret (.inr (Bool.false))))
  (.ret (.inr (Bool.false))))
  (.get (f19 y0) fun (y2 : Bool) => (.ite (!y2) (.ret (.inr (Bool.false)))
  (.get (f25 y0 a3) fun (y3 : Bool) => (.get (f25 a0 a3) fun (y4 : Bool) => (.ite (!y3 == y4) (.ret (.inr (Bool.false)))
  (.get (f29 y0) fun (y5 : Bool) => (.ite (!y5) (.ret (.inr (Bool.false)))
  (.get (f28 y0) fun (y6 : Dfa) => (.get (f14 y6 y0) fun (y7 : Bool) => (.ite (!y7) (.ret (.inr (Bool.false)))
  (.ret (.inl (.h0 (a1) (a2) (y0) (0) (0)))))))))))))))))
theorem ES7 (y : ATup Th [.t 36, .i .i64, .i .i64, .l 3]) : startC C tab knDfaH4_29 i7 H7 .b 5000 (encAs G [.t 36, .i .i64, .i .i64, .l 3] y) = (s7 (y.1) (y.2.1) (y.2.2.1) (y.2.2.2.1)).map (Sum.map m7 (fun (r : Bool) => (((.b (r))) : SV Th))) := by kernel_rfl
noncomputable def f7 (a0 : Dfa) (a1 : Int) (a2 : Int) (a3 : List Int) : Option (Bool) := runO g7 (s7 (a0) (a1) (a2) (a3))
theorem Q7 (y : ATup Th [.t 36, .i .i64, .i .i64, .l 3]) (r : Bool) (h : f7 (y.1) (y.2.1) (y.2.2.1) (y.2.2.2.1) = some r) : PCall Tryd.prog C 7 (encAs G [.t 36, .i .i64, .i .i64, .l 3] y) (· = (fun (r : Bool) => (((.b (r))) : SV Th)) r) := runO_sound gok.ok koDfaH4_29 tabKnows E7 k7 rfl (by kernel_rfl) (by kernel_rfl) (ES7 y) h
noncomputable def knDfaH4_7 : KnownF Th := (7, knS G [.t 36, .i .i64, .i .i64, .l 3] fun y => .get (f7 (y.1) (y.2.1) (y.2.2.1) (y.2.2.2.1)) fun r => .ret ((fun (r : Bool) => (((.b (r))) : SV Th)) r)) :: knDfaH4_29
theorem koDfaH4_7 : KnownOk Tryd.prog C knDfaH4_7 := KnownOk.addS gok koDfaH4_29 (scal_opt (enc := fun (r : Bool) => (((.b (r))) : SV Th)) (fun _ => rfl)) (known_opt (enc := fun (r : Bool) => (((.b (r))) : SV Th)) Q7 (fun _ => rfl))
noncomputable def kn_DfaH4 : KnownF Th := knDfaH4_7
theorem ko_DfaH4 : KnownOk Tryd.prog C kn_DfaH4 := koDfaH4_7
end Go.Proofs.Dfa
