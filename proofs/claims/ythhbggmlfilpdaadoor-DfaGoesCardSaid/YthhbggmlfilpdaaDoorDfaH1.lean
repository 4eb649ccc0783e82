/- A part of a law's proof: DfaH1. -/
import Derived.KernelRfl
import Derived.Test.YthhbggmlfilpdaaDoorDfaIto
import Derived.Test.YthhbggmlfilpdaaDoorDfaTy
import Derived.Test.YthhbggmlfilpdaaDoorDfaXTab
import Derived.Test.YthhbggmlfilpdaaDoorSvLoop
set_option linter.constructorNameAsVariable false
namespace Go.Proofs.Dfa
open Go Go.Ab Go.Proofs
set_option linter.unusedVariables false
set_option linter.unusedSimpArgs false
set_option maxHeartbeats 4000000
set_option maxRecDepth 100000
-- 18 drover/droverref18.Ints
def H18 : List (List Nat × Hint) := [([26012], ⟨[5, 1, 0], [], [], [], [], [], [], 0, []⟩)]
inductive L18 where
  | h0 (a0 : List Int) (a1 : List Int) (i2 : Int)
noncomputable def m18 : L18 -> Trip Th
  | .h0 (a0) (a1) (i2) => ([(.lp 26 c18_5), (.blk 0), (.seq 26 c18_7)], [(5, (.i .i64 (i2))), (1, (.lst 3 (a1))), (0, (.lst 3 (a0)))], [])
noncomputable def g18 : L18 -> Cm (L18 ⊕ Bool)
  | .h0 (a0) (a1) (i2) => (.ite (decide (i2 < (↑a0.length : Int))) (.chk ((0 : Int) <= i2) (.get (a0[i2.toNat]?) fun (y3 : Int) => (.chk ((0 : Int) <= i2) (.get (a1[i2.toNat]?) fun (y4 : Int) => (.ite (!decide (y3 = y4)) (.ret (.inr (Bool.false)))
  (.ret (.inl (.h0 (a0) (a1) (IntKind.i64.wrap (i2 + 1))))))))))
  (.ret (.inr (Bool.true))))
theorem E18 : ∀ s, headC C tab kn1 i18.rs H18 .b 5000 (m18 s) = (g18 s).map (Sum.map m18 (fun (r : Bool) => (((.b (r))) : SV Th)))
  | .h0 (a0) (a1) (i2) => by kernel_rfl
noncomputable def s18 (a0 : List Int) (a1 : List Int) : Cm (L18 ⊕ Bool) :=
  (.ite (!decide ((↑a0.length : Int) = (↑a1.length : Int))) (.ret (.inr (Bool.false)))
  (.ret (.inl (.h0 (a0) (a1) (0)))))
theorem ES18 (y : ATup Th [.l 3, .l 3]) : startC C tab kn1 i18 H18 .b 5000 (encAs G [.l 3, .l 3] y) = (s18 (y.1) (y.2.1)).map (Sum.map m18 (fun (r : Bool) => (((.b (r))) : SV Th))) := by kernel_rfl
noncomputable def f18 (a0 : List Int) (a1 : List Int) : Option (Bool) := runO g18 (s18 (a0) (a1))
theorem Q18 (y : ATup Th [.l 3, .l 3]) (r : Bool) (h : f18 (y.1) (y.2.1) = some r) : PCall Tryd.prog C 18 (encAs G [.l 3, .l 3] y) (· = (fun (r : Bool) => (((.b (r))) : SV Th)) r) := runO_sound gok.ok ko1 tabKnows E18 k18 rfl (by kernel_rfl) (by kernel_rfl) (ES18 y) h
noncomputable def knDfaH1_18 : KnownF Th := (18, knS G [.l 3, .l 3] fun y => .get (f18 (y.1) (y.2.1)) fun r => .ret ((fun (r : Bool) => (((.b (r))) : SV Th)) r)) :: kn1
theorem koDfaH1_18 : KnownOk Tryd.prog C knDfaH1_18 := KnownOk.addS gok ko1 (scal_opt (enc := fun (r : Bool) => (((.b (r))) : SV Th)) (fun _ => rfl)) (known_opt (enc := fun (r : Bool) => (((.b (r))) : SV Th)) Q18 (fun _ => rfl))
-- 14 drover/droverref19.Alike
def H14 : List (List Nat × Hint) := [([67031], ⟨[5, 3, 2], [], [], [], [], [], [], 0, []⟩),
  ([67050], ⟨[6, 3, 2], [], [], [], [], [], [], 0, []⟩)]
inductive L14 where
  | h0 (a0 : Dfa) (a1 : Dfa) (i3 : Int)
  | h1 (a0 : Dfa) (a1 : Dfa) (i9 : Int)
noncomputable def m14 : L14 -> Trip Th
  | .h0 (a0) (a1) (i3) => ([(.lp 67 c14_7), (.blk 0), (.seq 67 c14_16)], [(5, (.i .i64 (i3))), (3, (.ptr 0 0)), (2, (.ptr 1 0))], [(.box [(.i .i64 (a1.Switches)), (.lst 40 (a1.Next)), (.lst 4 (a1.Ends))]), (.box [(.i .i64 (a0.Switches)), (.lst 40 (a0.Next)), (.lst 4 (a0.Ends))])])
  | .h1 (a0) (a1) (i9) => ([(.lp 67 c14_13), (.blk 2), (.seq 67 c14_15)], [(6, (.i .i64 (i9))), (3, (.ptr 0 0)), (2, (.ptr 1 0))], [(.box [(.i .i64 (a1.Switches)), (.lst 40 (a1.Next)), (.lst 4 (a1.Ends))]), (.box [(.i .i64 (a0.Switches)), (.lst 40 (a0.Next)), (.lst 4 (a0.Ends))])])
noncomputable def g14 : L14 -> Cm (L14 ⊕ Bool)
  | .h0 (a0) (a1) (i3) => (.ite (decide (i3 < (↑a0.Next.length : Int))) (.chk ((0 : Int) <= i3) (.get (a0.Next[i3.toNat]?) fun (y4 : List Int) => (.chk ((0 : Int) <= i3) (.get (a1.Next[i3.toNat]?) fun (y5 : List Int) => (.get (f18 y4 y5) fun (y6 : Bool) => (.ite (!y6) (.ret (.inr (Bool.false)))
  (.ret (.inl (.h0 (a0) (a1) (IntKind.i64.wrap (i3 + 1)))))))))))
  (.ret (.inl (.h1 (a0) (a1) (0)))))
  | .h1 (a0) (a1) (i9) => (.ite (decide (i9 < (↑a0.Ends.length : Int))) (.chk ((0 : Int) <= i9) (.get (a0.Ends[i9.toNat]?) fun (y10 : Bool) => (.chk ((0 : Int) <= i9) (.get (a1.Ends[i9.toNat]?) fun (y11 : Bool) => (.ite (!y10 == y11) (.ret (.inr (Bool.false)))
  (.ret (.inl (.h1 (a0) (a1) (IntKind.i64.wrap (i9 + 1))))))))))
  (.ret (.inr (Bool.true))))
theorem E14 : ∀ s, headC C tab knDfaH1_18 i14.rs H14 .b 5000 (m14 s) = (g14 s).map (Sum.map m14 (fun (r : Bool) => (((.b (r))) : SV Th)))
  | .h0 (a0) (a1) (i3) => by kernel_rfl
  | .h1 (a0) (a1) (i9) => by kernel_rfl
noncomputable def s14 (a0 : Dfa) (a1 : Dfa) : Cm (L14 ⊕ Bool) :=
  (.ite (!decide (a0.Switches = a1.Switches)) (.ret (.inr (Bool.false)))
  (.ite (!decide ((↑a0.Next.length : Int) = (↑a1.Next.length : Int))) (.ret (.inr (Bool.false)))
  (.ite (!decide ((↑a0.Ends.length : Int) = (↑a1.Ends.length : Int))) (.ret (.inr (Bool.false)))
  (.ret (.inl (.h0 (a0) (a1) (0)))))))
theorem ES14 (y : ATup Th [.t 36, .t 36]) : startC C tab knDfaH1_18 i14 H14 .b 5000 (encAs G [.t 36, .t 36] y) = (s14 (y.1) (y.2.1)).map (Sum.map m14 (fun (r : Bool) => (((.b (r))) : SV Th))) := by kernel_rfl
noncomputable def f14 (a0 : Dfa) (a1 : Dfa) : Option (Bool) := runO g14 (s14 (a0) (a1))
theorem Q14 (y : ATup Th [.t 36, .t 36]) (r : Bool) (h : f14 (y.1) (y.2.1) = some r) : PCall Tryd.prog C 14 (encAs G [.t 36, .t 36] y) (· = (fun (r : Bool) => (((.b (r))) : SV Th)) r) := runO_sound gok.ok koDfaH1_18 tabKnows E14 k14 rfl (by kernel_rfl) (by kernel_rfl) (ES14 y) h
noncomputable def knDfaH1_14 : KnownF Th := (14, knS G [.t 36, .t 36] fun y => .get (f14 (y.1) (y.2.1)) fun r => .ret ((fun (r : Bool) => (((.b (r))) : SV Th)) r)) :: knDfaH1_18
theorem koDfaH1_14 : KnownOk Tryd.prog C knDfaH1_14 := KnownOk.addS gok koDfaH1_18 (scal_opt (enc := fun (r : Bool) => (((.b (r))) : SV Th)) (fun _ => rfl)) (known_opt (enc := fun (r : Bool) => (((.b (r))) : SV Th)) Q14 (fun _ => rfl))
-- 19 drover/dfa.Right
def H19 : List (List Nat × Hint) := [([65041], ⟨[61, 57, 60, 59, 58, 1, 39, 37, 38], [], [], [], [], [], [], 0, []⟩),
  ([65052, 65041], ⟨[50, 1, 48, 37, 38, 39, 49], [], [], [], [], [], [], 0, []⟩)]
inductive L19 where
  | h0 (a0 : Dfa) (i8 : Int)
  | h1 (a0 : Dfa) (l5 : List Int) (i7 : Int) (i11 : Int)
noncomputable def m19 : L19 -> Trip Th
  | .h0 (a0) (i8) => ([(.lp 65 c19_14), (.blk 0), (.seq 65 c19_16)], [(61, .any), (57, .any), (60, .any), (59, .any), (58, .any), (1, (.ptr 0 0)), (39, (.i .i64 (i8))), (37, (.lst 40 (a0.Next))), (38, (.i .i64 ((↑a0.Next.length : Int))))], [(.box [(.i .i64 (a0.Switches)), (.lst 40 (a0.Next)), (.lst 4 (a0.Ends))])])
  | .h1 (a0) (l5) (i7) (i11) => ([(.lp 65 c19_7), (.blk 2), (.blk 1), (.seq 65 c19_11), (.lp 65 c19_14), (.blk 0), (.seq 65 c19_16)], [(50, (.i .i64 (i7))), (1, (.ptr 0 0)), (48, (.lst 3 (l5))), (37, (.lst 40 (a0.Next))), (38, (.i .i64 ((↑a0.Next.length : Int)))), (39, (.i .i64 (i11))), (49, (.i .i64 ((↑l5.length : Int))))], [(.box [(.i .i64 (a0.Switches)), (.lst 40 (a0.Next)), (.lst 4 (a0.Ends))])])
noncomputable def g19 : L19 -> Cm (L19 ⊕ Bool)
  | .h0 (a0) (i8) => (.ite (decide (i8 < (↑a0.Next.length : Int))) (.chk ((0 : Int) <= i8) (.get (a0.Next[i8.toNat]?) fun (y10 : List Int) => (.ite (!decide ((↑y10.length : Int) = a0.Switches)) (.ret (.inr (Bool.false)))
  (.ret (.inl (.h1 (a0) (y10) (0) (i8)))))))
  (.ret (.inr (Bool.true))))
  | .h1 (a0) (l5) (i7) (i11) => (.ite (decide (i7 < (↑l5.length : Int))) (.chk ((0 : Int) <= i7) (.get (l5[i7.toNat]?) fun (y12 : Int) => (.ite (decide (y12 < (0 : Int))) (.ret (.inr (Bool.false)))
  (.ite (decide ((↑a0.Next.length : Int) <= y12)) (.ret (.inr (Bool.false)))
  (.ret (.inl (.h1 (a0) (l5) (IntKind.i64.wrap (i7 + 1)) (i11))))))))
  (.ret (.inl (.h0 (a0) (IntKind.i64.wrap (i11 + 1))))))
theorem E19 : ∀ s, headC C tab knDfaH1_14 i19.rs H19 .b 5000 (m19 s) = (g19 s).map (Sum.map m19 (fun (r : Bool) => (((.b (r))) : SV Th)))
  | .h0 (a0) (i8) => by kernel_rfl
  | .h1 (a0) (l5) (i7) (i11) => by kernel_rfl
noncomputable def s19 (a0 : Dfa) : Cm (L19 ⊕ Bool) :=
  (.ite (decide (a0.Switches < 1)) (.ret (.inr (Bool.false)))
  (.ite (decide (32 < a0.Switches)) (.ret (.inr (Bool.false)))
  (.ite (decide ((↑a0.Next.length : Int) < (1 : Int))) (.ret (.inr (Bool.false)))
  (.ite (decide ((256 : Int) < (↑a0.Next.length : Int))) (.ret (.inr (Bool.false)))
  (.ite (!decide ((↑a0.Ends.length : Int) = (↑a0.Next.length : Int))) (.ret (.inr (Bool.false)))
  (.ret (.inl (.h0 (a0) (0)))))))))
theorem ES19 (y : ATup Th [.t 36]) : startC C tab knDfaH1_14 i19 H19 .b 5000 (encAs G [.t 36] y) = (s19 (y.1)).map (Sum.map m19 (fun (r : Bool) => (((.b (r))) : SV Th))) := by kernel_rfl
noncomputable def f19 (a0 : Dfa) : Option (Bool) := runO g19 (s19 (a0))
theorem Q19 (y : ATup Th [.t 36]) (r : Bool) (h : f19 (y.1) = some r) : PCall Tryd.prog C 19 (encAs G [.t 36] y) (· = (fun (r : Bool) => (((.b (r))) : SV Th)) r) := runO_sound gok.ok koDfaH1_14 tabKnows E19 k19 rfl (by kernel_rfl) (by kernel_rfl) (ES19 y) h
noncomputable def knDfaH1_19 : KnownF Th := (19, knS G [.t 36] fun y => .get (f19 (y.1)) fun r => .ret ((fun (r : Bool) => (((.b (r))) : SV Th)) r)) :: knDfaH1_14
theorem koDfaH1_19 : KnownOk Tryd.prog C knDfaH1_19 := KnownOk.addS gok koDfaH1_14 (scal_opt (enc := fun (r : Bool) => (((.b (r))) : SV Th)) (fun _ => rfl)) (known_opt (enc := fun (r : Bool) => (((.b (r))) : SV Th)) Q19 (fun _ => rfl))
-- 20 drover/droverref19.Right
def H20 : List (List Nat × Hint) := [([83035], ⟨[81, 77, 80, 79, 78, 1, 76, 74, 75, 73, 71, 72, 3, 70], [], [], [], [], [], [], 0, []⟩),
  ([83051, 83035], ⟨[4, 1, 3], [], [], [], [], [], [], 0, []⟩)]
inductive L20 where
  | h0 (a0 : Dfa) (i14 : Int)
  | h1 (a0 : Dfa) (i13 : Int) (i21 : Int)
noncomputable def m20 : L20 -> Trip Th
  | .h0 (a0) (i14) => ([(.lp 83 c20_12), (.blk 0), (.seq 83 c20_14)], [(81, .any), (77, .any), (80, .any), (79, .any), (78, .any), (1, (.ptr 0 0)), (76, .any), (74, .any), (75, .any), (73, .any), (71, .any), (72, .any), (3, (.i .i64 (i14))), (70, .any)], [(.box [(.i .i64 (a0.Switches)), (.lst 40 (a0.Next)), (.lst 4 (a0.Ends))])])
  | .h1 (a0) (i13) (i21) => ([(.lp 83 c20_7), (.blk 2), (.blk 1), (.seq 83 c20_10), (.lp 83 c20_12), (.blk 0), (.seq 83 c20_14)], [(4, (.i .i64 (i13))), (1, (.ptr 0 0)), (3, (.i .i64 (i21)))], [(.box [(.i .i64 (a0.Switches)), (.lst 40 (a0.Next)), (.lst 4 (a0.Ends))])])
noncomputable def g20 : L20 -> Cm (L20 ⊕ Bool)
  | .h0 (a0) (i14) => (.ite (decide (i14 < (↑a0.Next.length : Int))) (.chk ((0 : Int) <= i14) (.get (a0.Next[i14.toNat]?) fun (y20 : List Int) => (.ite (!decide ((↑y20.length : Int) = a0.Switches)) (.ret (.inr (Bool.false)))
  (.ret (.inl (.h1 (a0) (0) (i14)))))))
  (.ret (.inr (Bool.true))))
  | .h1 (a0) (i13) (i21) => (.chk ((0 : Int) <= i21) (.get (a0.Next[i21.toNat]?) fun (y22 : List Int) => (.ite (decide (i13 < (↑y22.length : Int))) (.chk ((0 : Int) <= i21) (.get (a0.Next[i21.toNat]?) fun (y23 : List Int) => (.chk ((0 : Int) <= i13) (.get (y23[i13.toNat]?) fun (y24 : Int) => (.ite (decide (y24 < (0 : Int))) (.ret (.inr (Bool.false)))
  (.chk ((0 : Int) <= i21) (.get (a0.Next[i21.toNat]?) fun (y25 : List Int) => (.chk ((0 : Int) <= i13) (.get (y25[i13.toNat]?) fun (y26 : Int) => (.ite (decide ((↑a0.Next.length : Int) <= y26)) (.ret (.inr (Bool.false)))
  (.ret (.inl (.h1 (a0) (IntKind.i64.wrap (i13 + 1)) (i21))))))))))))))
  (.ret (.inl (.h0 (a0) (IntKind.i64.wrap (i21 + 1))))))))
theorem E20 : ∀ s, headC C tab knDfaH1_19 i20.rs H20 .b 5000 (m20 s) = (g20 s).map (Sum.map m20 (fun (r : Bool) => (((.b (r))) : SV Th)))
  | .h0 (a0) (i14) => by kernel_rfl
  | .h1 (a0) (i13) (i21) => by kernel_rfl
noncomputable def s20 (a0 : Dfa) : Cm (L20 ⊕ Bool) :=
  (.ite (decide (a0.Switches < 1)) (.ret (.inr (Bool.false)))
  (.ite (decide (32 < a0.Switches)) (.ret (.inr (Bool.false)))
  (.ite (decide ((↑a0.Next.length : Int) < (1 : Int))) (.ret (.inr (Bool.false)))
  (.ite (decide ((256 : Int) < (↑a0.Next.length : Int))) (.ret (.inr (Bool.false)))
  (.ite (!decide ((↑a0.Ends.length : Int) = (↑a0.Next.length : Int))) (.ret (.inr (Bool.false)))
  (.ret (.inl (.h0 (a0) (0)))))))))
theorem ES20 (y : ATup Th [.t 36]) : startC C tab knDfaH1_19 i20 H20 .b 5000 (encAs G [.t 36] y) = (s20 (y.1)).map (Sum.map m20 (fun (r : Bool) => (((.b (r))) : SV Th))) := by kernel_rfl
noncomputable def f20 (a0 : Dfa) : Option (Bool) := runO g20 (s20 (a0))
theorem Q20 (y : ATup Th [.t 36]) (r : Bool) (h : f20 (y.1) = some r) : PCall Tryd.prog C 20 (encAs G [.t 36] y) (· = (fun (r : Bool) => (((.b (r))) : SV Th)) r) := runO_sound gok.ok koDfaH1_19 tabKnows E20 k20 rfl (by kernel_rfl) (by kernel_rfl) (ES20 y) h
noncomputable def knDfaH1_20 : KnownF Th := (20, knS G [.t 36] fun y => .get (f20 (y.1)) fun r => .ret ((fun (r : Bool) => (((.b (r))) : SV Th)) r)) :: knDfaH1_19
theorem koDfaH1_20 : KnownOk Tryd.prog C knDfaH1_20 := KnownOk.addS gok koDfaH1_19 (scal_opt (enc := fun (r : Bool) => (((.b (r))) : SV Th)) (fun _ => rfl)) (known_opt (enc := fun (r : Bool) => (((.b (r))) : SV Th)) Q20 (fun _ => rfl))
-- 69 drover/droverref19.alike
def H69 : List (List Nat × Hint) := [([48020], ⟨[9, 3, 4, 1, 2], [], [], [], [], [], [], 0, []⟩)]
inductive L69 where
  | h0 (a0 : Dfa) (a1 : List Int) (a2 : Int) (a3 : Int) (i8 : Int)
noncomputable def m69 : L69 -> Trip Th
  | .h0 (a0) (a1) (a2) (a3) (i8) => ([(.lp 48 c69_5), (.blk 0), (.seq 48 c69_7)], [(9, (.i .i64 (i8))), (3, (.i .i64 (a3))), (4, (.ptr 0 0)), (1, (.lst 3 (a1))), (2, (.i .i64 (a2)))], [(.box [(.i .i64 (a0.Switches)), (.lst 40 (a0.Next)), (.lst 4 (a0.Ends))])])
noncomputable def g69 : L69 -> Cm (L69 ⊕ Bool)
  | .h0 (a0) (a1) (a2) (a3) (i8) => (.ite (decide (i8 < a0.Switches)) (.chk ((0 : Int) <= a2) (.get (a0.Next[a2.toNat]?) fun (y9 : List Int) => (.chk ((0 : Int) <= i8) (.get (y9[i8.toNat]?) fun (y10 : Int) => (.chk ((0 : Int) <= y10) (.get (a1[y10.toNat]?) fun (y11 : Int) => (.chk ((0 : Int) <= a3) (.get (a0.Next[a3.toNat]?) fun (y12 : List Int) => (.chk ((0 : Int) <= i8) (.get (y12[i8.toNat]?) fun (y13 : Int) => (.chk ((0 : Int) <= y13) (.get (a1[y13.toNat]?) fun (y14 : Int) => (.ite (!decide (y11 = y14)) (.ret (.inr (Bool.false)))
  (.ret (.inl (.h0 (a0) (a1) (a2) (a3) (IntKind.i64.wrap (i8 + 1))))))))))))))))))
  (.ret (.inr (Bool.true))))
theorem E69 : ∀ s, headC C tab knDfaH1_20 i69.rs H69 .b 5000 (m69 s) = (g69 s).map (Sum.map m69 (fun (r : Bool) => (((.b (r))) : SV Th)))
  | .h0 (a0) (a1) (a2) (a3) (i8) => by kernel_rfl
noncomputable def s69 (a0 : Dfa) (a1 : List Int) (a2 : Int) (a3 : Int) : Cm (L69 ⊕ Bool) :=
  (.chk ((0 : Int) <= a2) (.get (a1[a2.toNat]?) fun (y0 : Int) => (.chk ((0 : Int) <= a3) (.get (a1[a3.toNat]?) fun (y1 : Int) => (.ite (!decide (y0 = y1)) (.ret (.inr (Bool.false)))
  (.ret (.inl (.h0 (a0) (a1) (a2) (a3) (0)))))))))
theorem ES69 (y : ATup Th [.t 36, .l 3, .i .i64, .i .i64]) : startC C tab knDfaH1_20 i69 H69 .b 5000 (encAs G [.t 36, .l 3, .i .i64, .i .i64] y) = (s69 (y.1) (y.2.1) (y.2.2.1) (y.2.2.2.1)).map (Sum.map m69 (fun (r : Bool) => (((.b (r))) : SV Th))) := by kernel_rfl
noncomputable def f69 (a0 : Dfa) (a1 : List Int) (a2 : Int) (a3 : Int) : Option (Bool) := runO g69 (s69 (a0) (a1) (a2) (a3))
theorem Q69 (y : ATup Th [.t 36, .l 3, .i .i64, .i .i64]) (r : Bool) (h : f69 (y.1) (y.2.1) (y.2.2.1) (y.2.2.2.1) = some r) : PCall Tryd.prog C 69 (encAs G [.t 36, .l 3, .i .i64, .i .i64] y) (· = (fun (r : Bool) => (((.b (r))) : SV Th)) r) := runO_sound gok.ok koDfaH1_20 tabKnows E69 k69 rfl (by kernel_rfl) (by kernel_rfl) (ES69 y) h
noncomputable def knDfaH1_69 : KnownF Th := (69, knS G [.t 36, .l 3, .i .i64, .i .i64] fun y => .get (f69 (y.1) (y.2.1) (y.2.2.1) (y.2.2.2.1)) fun r => .ret ((fun (r : Bool) => (((.b (r))) : SV Th)) r)) :: knDfaH1_20
theorem koDfaH1_69 : KnownOk Tryd.prog C knDfaH1_69 := KnownOk.addS gok koDfaH1_20 (scal_opt (enc := fun (r : Bool) => (((.b (r))) : SV Th)) (fun _ => rfl)) (known_opt (enc := fun (r : Bool) => (((.b (r))) : SV Th)) Q69 (fun _ => rfl))
-- 53 drover/droverref19.Classes
def H53 : List (List Nat × Hint) := [([92015], ⟨[4, 3, 1, 67, 63, 64, 65, 66, 86, 81, 85, 84, 82, 83, 80, 78, 79], [], [], [], [], [3], [], 0, []⟩),
  ([92030], ⟨[67, 63, 64, 65, 66, 3, 1, 86, 81, 85, 84, 82, 83, 80, 78, 79, 5], [], [], [], [], [3], [], 0, []⟩),
  ([92041, 92030], ⟨[6, 8, 67, 63, 64, 65, 66, 3, 1, 7, 5], [], [], [], [7], [6, 3], [], 0, []⟩),
  ([92052, 92041, 92030], ⟨[9, 6, 8, 3, 1, 86, 81, 85, 84, 82, 83, 80, 78, 79, 5, 7], [], [], [], [], [6, 3], [], 0, []⟩)]
inductive L53 where
  | h0 (a0 : Dfa) (i47 : Int) (l49 : List Int)
  | h1 (a0 : Dfa) (l53 : List Int) (i57 : Int)
  | h2 (a0 : Dfa) (l54 : List Int) (i68 : Int) (b69 : Bool) (l70 : List Int) (i71 : Int)
  | h3 (a0 : Dfa) (l56 : List Int) (i64 : Int) (l66 : List Int) (i79 : Int) (i80 : Int) (b81 : Bool)
noncomputable def m53 : L53 -> Trip Th
  | .h0 (a0) (i47) (l49) => ([(.lp 92 c53_4), (.blk 0), (.seq 92 c53_31)], [(4, (.i .i64 (i47))), (3, (.sl 3 0 0 (l49.length) .none)), (1, (.ptr 1 0)), (67, .any), (63, .any), (64, .any), (65, .any), (66, .any), (86, .any), (81, .any), (85, .any), (84, .any), (82, .any), (83, .any), (80, .any), (78, .any), (79, .any)], [(.arr 3 (l49)), (.box [(.i .i64 (a0.Switches)), (.lst 40 (a0.Next)), (.lst 4 (a0.Ends))])])
  | .h1 (a0) (l53) (i57) => ([(.lp 92 c53_28), (.blk 2), (.seq 92 c53_30)], [(67, .any), (63, .any), (64, .any), (65, .any), (66, .any), (3, (.sl 3 0 0 (l53.length) .none)), (1, (.ptr 1 0)), (86, .any), (81, .any), (85, .any), (84, .any), (82, .any), (83, .any), (80, .any), (78, .any), (79, .any), (5, (.i .i64 (i57)))], [(.arr 3 (l53)), (.box [(.i .i64 (a0.Switches)), (.lst 40 (a0.Next)), (.lst 4 (a0.Ends))])])
  | .h2 (a0) (l54) (i68) (b69) (l70) (i71) => ([(.lp 92 c53_19), (.blk 4), (.seq 92 c53_23), (.blk 3), (.seq 92 c53_26), (.lp 92 c53_28), (.blk 2), (.seq 92 c53_30)], [(6, (.sl 3 0 0 (l70.length) .none)), (8, (.i .i64 (i68))), (67, .any), (63, .any), (64, .any), (65, .any), (66, .any), (3, (.sl 3 1 0 (l54.length) .none)), (1, (.ptr 2 0)), (7, (.b (b69))), (5, (.i .i64 (i71)))], [(.arr 3 (l70)), (.arr 3 (l54)), (.box [(.i .i64 (a0.Switches)), (.lst 40 (a0.Next)), (.lst 4 (a0.Ends))])])
  | .h3 (a0) (l56) (i64) (l66) (i79) (i80) (b81) => ([(.lp 92 c53_13), (.blk 6), (.seq 92 c53_15), (.blk 5), (.seq 92 c53_17), (.lp 92 c53_19), (.blk 4), (.seq 92 c53_23), (.blk 3), (.seq 92 c53_26), (.lp 92 c53_28), (.blk 2), (.seq 92 c53_30)], [(9, (.i .i64 (i64))), (6, (.sl 3 0 0 (l66.length) .none)), (8, (.i .i64 (i79))), (3, (.sl 3 1 0 (l56.length) .none)), (1, (.ptr 2 0)), (86, .any), (81, .any), (85, .any), (84, .any), (82, .any), (83, .any), (80, .any), (78, .any), (79, .any), (5, (.i .i64 (i80))), (7, (.b (b81)))], [(.arr 3 (l66)), (.arr 3 (l56)), (.box [(.i .i64 (a0.Switches)), (.lst 40 (a0.Next)), (.lst 4 (a0.Ends))])])
noncomputable def g53 : L53 -> Cm (L53 ⊕ (List Int))
  | .h0 (a0) (i47) (l49) => (.ite (decide (i47 < (↑a0.Next.length : Int))) (.chk ((0 : Int) <= i47) (.get (a0.Ends[i47.toNat]?) fun (y50 : Bool) => (.ite (y50) (.chk ((0 : Int) <= i47 ∧ i47 < (↑l49.length : Int)) (.get (l49[(0 : Nat) + i47.toNat]?) fun (y51 : Int) => (.chk (l49.length = (l49.set ((0 : Nat) + i47.toNat) (1 : Int)).length) (.ret (.inl (.h0 (a0) (IntKind.i64.wrap (i47 + 1)) (l49.set ((0 : Nat) + i47.toNat) (1 : Int))))))))
  (.chk (l49.length = l49.length) (.ret (.inl (.h0 (a0) (IntKind.i64.wrap (i47 + 1)) (l49))))))))
  (.chk (l49.length = l49.length) (.ret (.inl (.h1 (a0) (l49) (0))))))
  | .h1 (a0) (l53) (i57) => (.ite (decide (i57 <= (↑a0.Next.length : Int))) (.chk ((0 : Int) <= (↑a0.Next.length : Int) ∧ (↑a0.Next.length : Int) <= (↑a0.Next.length : Int) ∧ (↑a0.Next.length : Int) * (↑(8 : Nat) : Int) <= (281474976710656 : Int)) (.chk ((List.replicate (↑a0.Next.length : Int).toNat (0 : Int)).length = (List.replicate (↑a0.Next.length : Int).toNat (0 : Int)).length) (.chk (l53.length = l53.length) (.ret (.inl (.h2 (a0) (l53) (0) (Bool.true) (List.replicate (↑a0.Next.length : Int).toNat (0 : Int)) (i57)))))))
  (.chk ((0 : Nat) + l53.length <= l53.length) (.ret (.inr (List.take l53.length (List.drop (0 : Nat) l53))))))
  | .h2 (a0) (l54) (i68) (b69) (l70) (i71) => (.ite (decide (i68 < (↑a0.Next.length : Int))) (.chk ((0 : Int) <= i68 ∧ i68 < (↑l70.length : Int)) (.get (l70[(0 : Nat) + i68.toNat]?) fun (y78 : Int) => (.chk (l70.length = (l70.set ((0 : Nat) + i68.toNat) i68).length) (.chk (l54.length = l54.length) (.ret (.inl (.h3 (a0) (l54) (0) (l70.set ((0 : Nat) + i68.toNat) i68) (i68) (i71) (b69))))))))
  (.ite (b69) (.chk ((0 : Nat) + l70.length <= l70.length) (.ret (.inr (List.take l70.length (List.drop (0 : Nat) l70)))))
  (.chk (l70.length = l70.length) (.ret (.inl (.h1 (a0) (l70) (IntKind.i64.wrap (i71 + 1))))))))
  | .h3 (a0) (l56) (i64) (l66) (i79) (i80) (b81) => (.ite (decide (i64 < i79)) (.chk ((0 : Int) <= i79 ∧ i79 < (↑l66.length : Int)) (.get (l66[(0 : Nat) + i79.toNat]?) fun (y82 : Int) => (.ite (decide (y82 = i79)) (.chk ((0 : Nat) + l56.length <= l56.length) (.get (f69 a0 (List.take l56.length (List.drop (0 : Nat) l56)) i79 i64) fun (y83 : Bool) => (.ite (y83) (.chk ((0 : Int) <= i64 ∧ i64 < (↑l66.length : Int)) (.get (l66[(0 : Nat) + i64.toNat]?) fun (y84 : Int) => (.chk ((0 : Int) <= i79 ∧ i79 < (↑l66.length : Int)) (.get (l66[(0 : Nat) + i79.toNat]?) fun (y85 : Int) => (.chk (l66.length = (l66.set ((0 : Nat) + i79.toNat) y84).length) (.chk (l56.length = l56.length) (.ret (.inl (.h3 (a0) (l56) (IntKind.i64.wrap (i64 + 1)) (l66.set ((0 : Nat) + i79.toNat) y84) (i79) (i80) (b81))))))))))
  (.chk (l66.length = l66.length) (.chk (l56.length = l56.length) (.ret (.inl (.h3 (a0) (l56) (IntKind.i64.wrap (i64 + 1)) (l66) (i79) (i80) (b81)))))))))
  (.chk (l66.length = l66.length) (.chk (l56.length = l56.length) (.ret (.inl (.h3 (a0) (l56) (IntKind.i64.wrap (i64 + 1)) (l66) (i79) (i80) (b81)))))))))
  (.ite (b81) (.chk ((0 : Int) <= i79 ∧ i79 < (↑l66.length : Int)) (.get (l66[(0 : Nat) + i79.toNat]?) fun (y86 : Int) => (.chk ((0 : Int) <= i79 ∧ i79 < (↑l56.length : Int)) (.get (l56[(0 : Nat) + i79.toNat]?) fun (y87 : Int) => (.chk (l66.length = l66.length) (.chk (l56.length = l56.length) (.ret (.inl (.h2 (a0) (l56) (IntKind.i64.wrap (i79 + 1)) (decide (y86 = y87)) (l66) (i80))))))))))
  (.chk (l66.length = l66.length) (.chk (l56.length = l56.length) (.ret (.inl (.h2 (a0) (l56) (IntKind.i64.wrap (i79 + 1)) (Bool.false) (l66) (i80))))))))
theorem E53 : ∀ s, headC C tab knDfaH1_69 i53.rs H53 (.lst 3) 5000 (m53 s) = (g53 s).map (Sum.map m53 (fun (r : (List Int)) => (((.lst 3 (r))) : SV Th)))
  | .h0 (a0) (i47) (l49) => by kernel_rfl
  | .h1 (a0) (l53) (i57) => by kernel_rfl
  | .h2 (a0) (l54) (i68) (b69) (l70) (i71) => by kernel_rfl
  | .h3 (a0) (l56) (i64) (l66) (i79) (i80) (b81) => by kernel_rfl
noncomputable def s53 (a0 : Dfa) : Cm (L53 ⊕ (List Int)) :=
  (.chk ((0 : Int) <= (↑a0.Next.length : Int) ∧ (↑a0.Next.length : Int) <= (↑a0.Next.length : Int) ∧ (↑a0.Next.length : Int) * (↑(8 : Nat) : Int) <= (281474976710656 : Int)) (.chk ((List.replicate (↑a0.Next.length : Int).toNat (0 : Int)).length = (List.replicate (↑a0.Next.length : Int).toNat (0 : Int)).length) (.ret (.inl (.h0 (a0) (0) (List.replicate (↑a0.Next.length : Int).toNat (0 : Int)))))))
theorem ES53 (y : ATup Th [.t 36]) : startC C tab knDfaH1_69 i53 H53 (.lst 3) 5000 (encAs G [.t 36] y) = (s53 (y.1)).map (Sum.map m53 (fun (r : (List Int)) => (((.lst 3 (r))) : SV Th))) := by kernel_rfl
noncomputable def f53 (a0 : Dfa) : Option ((List Int)) := runO g53 (s53 (a0))
theorem Q53 (y : ATup Th [.t 36]) (r : (List Int)) (h : f53 (y.1) = some r) : PCall Tryd.prog C 53 (encAs G [.t 36] y) (· = (fun (r : (List Int)) => (((.lst 3 (r))) : SV Th)) r) := runO_sound gok.ok koDfaH1_69 tabKnows E53 k53 rfl (by kernel_rfl) (by kernel_rfl) (ES53 y) h
noncomputable def knDfaH1_53 : KnownF Th := (53, knG G [.t 36] fun y => .get (f53 (y.1)) fun r => .ret ((fun (r : (List Int)) => (((.lst 3 (r))) : SV Th)) r)) :: knDfaH1_69
theorem koDfaH1_53 : KnownOk Tryd.prog C knDfaH1_53 := KnownOk.add gok koDfaH1_69 (known_opt (enc := fun (r : (List Int)) => (((.lst 3 (r))) : SV Th)) Q53 (fun _ => rfl))
-- 54 drover/dfa.classes
def H54 : List (List Nat × Hint) := [([91025], ⟨[23, 3, 21, 1, 22], [], [], [], [], [3], [], 0, []⟩),
  ([91034], ⟨[3, 6, 1], [], [], [], [], [3], [], 0, []⟩),
  ([91042, 91034], ⟨[3, 40, 8, 7, 38, 1, 6, 39], [], [], [], [], [3, 8], [], 0, []⟩),
  ([91054, 91042, 91034], ⟨[52, 3, 11, 50, 8, 7, 38, 1, 6, 39, 40, 9, 51], [], [], [], [], [3, 8], [], 0, []⟩)]
inductive L54 where
  | h0 (a0 : Dfa) (i2 : Int) (l4 : List Int)
  | h1 (a0 : Dfa) (l8 : List Int) (i16 : Int)
  | h2 (a0 : Dfa) (l9 : List Int) (i24 : Int) (l26 : List Int) (l27 : List (List UInt8 × Int)) (i28 : Int)
  | h3 (a0 : Dfa) (l13 : List Int) (l14 : List UInt8) (l15 : List Int) (i23 : Int) (i39 : Int) (i40 : Int) (i41 : Int) (l42 : List Int) (l43 : List (List UInt8 × Int))
noncomputable def m54 : L54 -> Trip Th
  | .h0 (a0) (i2) (l4) => ([(.lp 91 c54_5), (.blk 0), (.seq 91 c54_35)], [(23, (.i .i64 (i2))), (3, (.sl 3 0 0 (l4.length) .none)), (21, (.lst 4 (a0.Ends))), (1, (.ptr 1 0)), (22, (.i .i64 ((↑a0.Ends.length : Int))))], [(.arr 3 (l4)), (.box [(.i .i64 (a0.Switches)), (.lst 40 (a0.Next)), (.lst 4 (a0.Ends))])])
  | .h1 (a0) (l8) (i16) => ([(.lp 91 c54_33), (.blk 2)], [(3, (.sl 3 0 0 (l8.length) .none)), (6, (.i .i64 (i16))), (1, (.ptr 1 0))], [(.arr 3 (l8)), (.box [(.i .i64 (a0.Switches)), (.lst 40 (a0.Next)), (.lst 4 (a0.Ends))])])
  | .h2 (a0) (l9) (i24) (l26) (l27) (i28) => ([(.lp 91 c54_25), (.blk 4), (.seq 91 c54_30), (.blk 3), (.lp 91 c54_33), (.blk 2)], [(3, (.sl 3 0 0 (l9.length) .none)), (40, (.i .i64 (i24))), (8, (.sl 3 1 0 (l26.length) .none)), (7, (.mp 2)), (38, (.lst 40 (a0.Next))), (1, (.ptr 3 0)), (6, (.i .i64 (i28))), (39, (.i .i64 ((↑a0.Next.length : Int))))], [(.arr 3 (l9)), (.arr 3 (l26)), (.map 9 3 (l27)), (.box [(.i .i64 (a0.Switches)), (.lst 40 (a0.Next)), (.lst 4 (a0.Ends))])])
  | .h3 (a0) (l13) (l14) (l15) (i23) (i39) (i40) (i41) (l42) (l43) => ([(.lp 91 c54_13), (.blk 6), (.seq 91 c54_19), (.blk 5), (.seq 91 c54_22), (.lp 91 c54_25), (.blk 4), (.seq 91 c54_30), (.blk 3), (.lp 91 c54_33), (.blk 2)], [(52, (.i .i64 (i23))), (3, (.sl 3 0 0 (l13.length) .none)), (11, (.s (l14))), (50, (.lst 3 (l15))), (8, (.sl 3 1 0 (l42.length) .none)), (7, (.mp 2)), (38, (.lst 40 (a0.Next))), (1, (.ptr 3 0)), (6, (.i .i64 (i39))), (39, (.i .i64 ((↑a0.Next.length : Int)))), (40, (.i .i64 (i40))), (9, (.i .i64 (i41))), (51, (.i .i64 ((↑l15.length : Int))))], [(.arr 3 (l13)), (.arr 3 (l42)), (.map 9 3 (l43)), (.box [(.i .i64 (a0.Switches)), (.lst 40 (a0.Next)), (.lst 4 (a0.Ends))])])
noncomputable def g54 : L54 -> Cm (L54 ⊕ (List Int))
  | .h0 (a0) (i2) (l4) => (.ite (decide (i2 < (↑a0.Ends.length : Int))) (.chk ((0 : Int) <= i2) (.get (a0.Ends[i2.toNat]?) fun (y5 : Bool) => (.ite (y5) (.chk ((0 : Int) <= i2 ∧ i2 < (↑l4.length : Int)) (.get (l4[(0 : Nat) + i2.toNat]?) fun (y6 : Int) => (.chk (l4.length = (l4.set ((0 : Nat) + i2.toNat) (1 : Int)).length) (.ret (.inl (.h0 (a0) (IntKind.i64.wrap (i2 + 1)) (l4.set ((0 : Nat) + i2.toNat) (1 : Int))))))))
  (.chk (l4.length = l4.length) (.ret (.inl (.h0 (a0) (IntKind.i64.wrap (i2 + 1)) (l4))))))))
  (.chk (l4.length = l4.length) (.ret (.inl (.h1 (a0) (l4) (0))))))
  | .h1 (a0) (l8) (i16) => (.chk ((0 : Int) <= (↑l8.length : Int) ∧ (↑l8.length : Int) <= (↑l8.length : Int) ∧ (↑l8.length : Int) * (↑(8 : Nat) : Int) <= (281474976710656 : Int)) (.chk (l8.length = l8.length) (.chk ((List.replicate (↑l8.length : Int).toNat (0 : Int)).length = (List.replicate (↑l8.length : Int).toNat (0 : Int)).length) (.ret (.inl (.h2 (a0) (l8) (0) (List.replicate (↑l8.length : Int).toNat (0 : Int)) ([]) (i16)))))))
  | .h2 (a0) (l9) (i24) (l26) (l27) (i28) => (.ite (decide (i24 < (↑a0.Next.length : Int))) (.chk ((0 : Int) <= i24) (.get (a0.Next[i24.toNat]?) fun (y35 : List Int) => (.chk ((0 : Int) <= i24 ∧ i24 < (↑l9.length : Int)) (.get (l9[(0 : Nat) + i24.toNat]?) fun (y36 : Int) => (.get (f70 y36) fun (y37 : List UInt8) => (.chk (l9.length = l9.length) (.chk (l26.length = l26.length) (.ret (.inl (.h3 (a0) (l9) (y37) (y35) (0) (i28) (i24) (i24) (l26) (l27)))))))))))
  (.ite (decide ((↑l27.length : Int) = i28)) (.chk ((0 : Nat) + l26.length <= l26.length) (.ret (.inr (List.take l26.length (List.drop (0 : Nat) l26)))))
  (.chk (l26.length = l26.length) (.ret (.inl (.h1 (a0) (l26) ((↑l27.length : Int))))))))
  | .h3 (a0) (l13) (l14) (l15) (i23) (i39) (i40) (i41) (l42) (l43) => (.ite (decide (i23 < (↑l15.length : Int))) (.chk ((0 : Int) <= i23) (.get (l15[i23.toNat]?) fun (y44 : Int) => (.chk ((0 : Int) <= y44 ∧ y44 < (↑l13.length : Int)) (.get (l13[(0 : Nat) + y44.toNat]?) fun (y45 : Int) => (.get (f70 y45) fun (y46 : List UInt8) => (.chk ([(32 : UInt8)].length + y46.length <= (9223372036854775807 : Nat)) (.chk (l14.length + ([(32 : UInt8)] ++ y46).length <= (9223372036854775807 : Nat)) (.chk (l13.length = l13.length) (.chk (l42.length = l42.length) (.ret (.inl (.h3 (a0) (l13) (l14 ++ ([(32 : UInt8)] ++ y46)) (l15) (IntKind.i64.wrap (i23 + 1)) (i39) (i40) (i41) (l42) (l43)))))))))))))
  (.ite (Go.Ab.mhas l43 l14) (.get (Go.Ab.mget l43 l14) fun (y47 : Int) => (.chk ((0 : Int) <= i41 ∧ i41 < (↑l42.length : Int)) (.get (l42[(0 : Nat) + i41.toNat]?) fun (y48 : Int) => (.chk (l13.length = l13.length) (.chk (l42.length = (l42.set ((0 : Nat) + i41.toNat) y47).length) (.ret (.inl (.h2 (a0) (l13) (IntKind.i64.wrap (i40 + 1)) (l42.set ((0 : Nat) + i41.toNat) y47) (l43) (i39)))))))))
  (.chk ((0 : Int) <= i41 ∧ i41 < (↑l42.length : Int)) (.get (l42[(0 : Nat) + i41.toNat]?) fun (y49 : Int) => (.chk (l13.length = l13.length) (.chk (l42.length = (l42.set ((0 : Nat) + i41.toNat) (↑l43.length : Int)).length) (.ret (.inl (.h2 (a0) (l13) (IntKind.i64.wrap (i40 + 1)) (l42.set ((0 : Nat) + i41.toNat) (↑l43.length : Int)) (Go.Ab.mset l43 l14 (↑l43.length : Int)) (i39))))))))))
theorem E54 : ∀ s, headC C tab knDfaH1_53 i54.rs H54 (.lst 3) 5000 (m54 s) = (g54 s).map (Sum.map m54 (fun (r : (List Int)) => (((.lst 3 (r))) : SV Th)))
  | .h0 (a0) (i2) (l4) => by kernel_rfl
  | .h1 (a0) (l8) (i16) => by kernel_rfl
  | .h2 (a0) (l9) (i24) (l26) (l27) (i28) => by kernel_rfl
  | .h3 (a0) (l13) (l14) (l15) (i23) (i39) (i40) (i41) (l42) (l43) => by kernel_rfl
noncomputable def s54 (a0 : Dfa) : Cm (L54 ⊕ (List Int)) :=
  (.chk ((0 : Int) <= (↑a0.Next.length : Int) ∧ (↑a0.Next.length : Int) <= (↑a0.Next.length : Int) ∧ (↑a0.Next.length : Int) * (↑(8 : Nat) : Int) <= (281474976710656 : Int)) (.chk ((List.replicate (↑a0.Next.length : Int).toNat (0 : Int)).length = (List.replicate (↑a0.Next.length : Int).toNat (0 : Int)).length) (.ret (.inl (.h0 (a0) (0) (List.replicate (↑a0.Next.length : Int).toNat (0 : Int)))))))
theorem ES54 (y : ATup Th [.t 36]) : startC C tab knDfaH1_53 i54 H54 (.lst 3) 5000 (encAs G [.t 36] y) = (s54 (y.1)).map (Sum.map m54 (fun (r : (List Int)) => (((.lst 3 (r))) : SV Th))) := by kernel_rfl
noncomputable def f54 (a0 : Dfa) : Option ((List Int)) := runO g54 (s54 (a0))
theorem Q54 (y : ATup Th [.t 36]) (r : (List Int)) (h : f54 (y.1) = some r) : PCall Tryd.prog C 54 (encAs G [.t 36] y) (· = (fun (r : (List Int)) => (((.lst 3 (r))) : SV Th)) r) := runO_sound gok.ok koDfaH1_53 tabKnows E54 k54 rfl (by kernel_rfl) (by kernel_rfl) (ES54 y) h
noncomputable def knDfaH1_54 : KnownF Th := (54, knG G [.t 36] fun y => .get (f54 (y.1)) fun r => .ret ((fun (r : (List Int)) => (((.lst 3 (r))) : SV Th)) r)) :: knDfaH1_53
theorem koDfaH1_54 : KnownOk Tryd.prog C knDfaH1_54 := KnownOk.add gok koDfaH1_53 (known_opt (enc := fun (r : (List Int)) => (((.lst 3 (r))) : SV Th)) Q54 (fun _ => rfl))
-- 27 drover/droverref19.Small
def H27 : List (List Nat × Hint) := [([96025], ⟨[4, 60, 58, 59, 57, 55, 56, 6, 1, 3, 5, 2], [], [], [(5, 1, 40), (5, 2, 4)], [], [4], [(5, 1), (5, 2)], 0, []⟩),
  ([96031, 96025], ⟨[8, 7, 4, 6, 1, 3, 5, 2], [], [(7, 3)], [], [], [4, 7], [], 0, []⟩),
  ([96051, 96031, 96025], ⟨[10, 6, 1, 3, 5, 2, 8, 7, 9, 4], [], [], [], [], [4], [], 0, []⟩)]
inductive L27 where
  | h0 (a0 : Dfa) (l86 : List Int) (i98 : Int) (l101 : List (List Int)) (l102 : List Bool) (l133 : List Int)
  | h1 (a0 : Dfa) (l88 : List Int) (i105 : Int) (l108 : List Int) (l109 : List Int) (i110 : Int) (l113 : List (List Int)) (l114 : List Bool)
  | h2 (a0 : Dfa) (l95 : List Int) (i96 : Int) (i104 : Int) (i122 : Int) (i123 : Int) (l128 : List (List Int)) (l129 : List Bool) (l130 : List Int) (l131 : List Int)
noncomputable def m27 : L27 -> Trip Th
  | .h0 (a0) (l86) (i98) (l101) (l102) (l133) => ([(.lp 96 c27_22), (.blk 0), (.seq 96 c27_24)], [(4, (.sl 3 0 0 (l133.length) .none)), (60, .any), (58, .any), (59, .any), (57, .any), (55, .any), (56, .any), (6, (.i .i64 (i98))), (1, (.ptr 1 0)), (3, (.lst 3 (l86))), (5, (.ptr 2 0)), (2, (.ptr 5 0))], [(.arr 3 (l133)), (.box [(.i .i64 (a0.Switches)), (.lst 40 (a0.Next)), (.lst 4 (a0.Ends))]), (.box [(.i .i64 (a0.Switches)), (.sl 40 3 0 (l101.length) .none), (.sl 4 4 0 (l102.length) .none)]), (.arr 40 (l101)), (.arr 4 (l102)), (.box [(.i .i64 0), (.v (.slice .none 0 0)), (.v (.slice .none 0 0))])])
  | .h1 (a0) (l88) (i105) (l108) (l109) (i110) (l113) (l114) => ([(.lp 96 c27_15), (.blk 2), (.seq 96 c27_18), (.blk 1), (.seq 96 c27_20), (.lp 96 c27_22), (.blk 0), (.seq 96 c27_24)], [(8, (.i .i64 (i105))), (7, (.sl 3 0 0 (l108.length) .none)), (4, (.sl 3 1 0 (l109.length) .none)), (6, (.i .i64 (i110))), (1, (.ptr 2 0)), (3, (.lst 3 (l88))), (5, (.ptr 3 0)), (2, (.ptr 6 0))], [(.arr 3 (l108)), (.arr 3 (l109)), (.box [(.i .i64 (a0.Switches)), (.lst 40 (a0.Next)), (.lst 4 (a0.Ends))]), (.box [(.i .i64 (a0.Switches)), (.sl 40 4 0 (l113.length) .none), (.sl 4 5 0 (l114.length) .none)]), (.arr 40 (l113)), (.arr 4 (l114)), (.box [(.i .i64 0), (.v (.slice .none 0 0)), (.v (.slice .none 0 0))])])
  | .h2 (a0) (l95) (i96) (i104) (i122) (i123) (l128) (l129) (l130) (l131) => ([(.lp 96 c27_7), (.blk 4), (.seq 96 c27_10), (.blk 3), (.seq 96 c27_13), (.lp 96 c27_15), (.blk 2), (.seq 96 c27_18), (.blk 1), (.seq 96 c27_20), (.lp 96 c27_22), (.blk 0), (.seq 96 c27_24)], [(10, (.i .i64 (i104))), (6, (.i .i64 (i122))), (1, (.ptr 0 0)), (3, (.lst 3 (l95))), (5, (.ptr 1 0)), (2, (.ptr 4 0)), (8, (.i .i64 (i123))), (7, (.sl 3 5 0 (l130.length) .none)), (9, (.i .i64 (i96))), (4, (.sl 3 6 0 (l131.length) .none))], [(.box [(.i .i64 (a0.Switches)), (.lst 40 (a0.Next)), (.lst 4 (a0.Ends))]), (.box [(.i .i64 (a0.Switches)), (.sl 40 2 0 (l128.length) .none), (.sl 4 3 0 (l129.length) .none)]), (.arr 40 (l128)), (.arr 4 (l129)), (.box [(.i .i64 0), (.v (.slice .none 0 0)), (.v (.slice .none 0 0))]), (.arr 3 (l130)), (.arr 3 (l131))])
noncomputable def g27 : L27 -> Cm (L27 ⊕ Dfa)
  | .h0 (a0) (l86) (i98) (l101) (l102) (l133) => (.ite (decide (i98 < (↑l133.length : Int))) (.chk (l133.length = l133.length) (.chk (@Eq Nat (@OfNat.ofNat Nat (nat_lit 0) (instOfNatNat (nat_lit 0))) (@List.length (Th (@OfNat.ofNat Nat (nat_lit 3) (instOfNatNat (nat_lit 3)))) (@List.nil (Th (@OfNat.ofNat Nat (nat_lit 3) (instOfNatNat (nat_lit 3))))))) (.ret (.inl (.h1 (a0) (l86) (0) ([]) (l133) (i98) (l101) (l102))))))
  (.chk ((0 : Nat) + l101.length <= l101.length) (.chk ((0 : Nat) + l102.length <= l102.length) (.ret (.inr ⟨(a0.Switches), (List.take l101.length (List.drop (0 : Nat) l101)), (List.take l102.length (List.drop (0 : Nat) l102))⟩)))))
  | .h1 (a0) (l88) (i105) (l108) (l109) (i110) (l113) (l114) => (.ite (decide (i105 < a0.Switches)) (.chk ((0 : Int) <= i110 ∧ i110 < (↑l109.length : Int)) (.get (l109[(0 : Nat) + i110.toNat]?) fun (y116 : Int) => (.chk ((0 : Int) <= y116) (.get (a0.Next[y116.toNat]?) fun (y117 : List Int) => (.chk ((0 : Int) <= i105) (.get (y117[i105.toNat]?) fun (y118 : Int) => (.chk ((0 : Int) <= y118) (.get (l88[y118.toNat]?) fun (y119 : Int) => (.chk (l109.length = l109.length) (.ret (.inl (.h2 (a0) (l88) (y119) (0) (i110) (i105) (l113) (l114) (l108) (l109)))))))))))))
  (.chk ((0 : Nat) + l108.length <= l108.length ∧ ((0 : Nat) + l108.length).le l108.length) (.chk ((1 : Nat) <= [List.take l108.length (List.drop (0 : Nat) l108)].length) (.chk (l113.length = l113.length ∧ (l113.length + (List.take (1 : Nat) (List.drop (0 : Nat) [List.take l108.length (List.drop (0 : Nat) l108)])).length) * (24 : Nat) <= nat_lit 140737488355328 ∧ l113.length + (List.take (1 : Nat) (List.drop (0 : Nat) [List.take l108.length (List.drop (0 : Nat) l108)])).length <= nat_lit 140737488355328) (.chk ((0 : Int) <= i110 ∧ i110 < (↑l109.length : Int)) (.get (l109[(0 : Nat) + i110.toNat]?) fun (y120 : Int) => (.chk ((0 : Int) <= y120) (.get (a0.Ends[y120.toNat]?) fun (y121 : Bool) => (.chk ((1 : Nat) <= [y121].length) (.chk (l114.length = l114.length ∧ (l114.length + (List.take (1 : Nat) (List.drop (0 : Nat) [y121])).length) * (1 : Nat) <= nat_lit 140737488355328 ∧ l114.length + (List.take (1 : Nat) (List.drop (0 : Nat) [y121])).length <= nat_lit 140737488355328) (.chk (l109.length = l109.length) (.chk ((l113 ++ List.take (1 : Nat) (List.drop (0 : Nat) [List.take l108.length (List.drop (0 : Nat) l108)])).length = (l113 ++ List.take (1 : Nat) (List.drop (0 : Nat) [List.take l108.length (List.drop (0 : Nat) l108)])).length) (.chk ((l114 ++ List.take (1 : Nat) (List.drop (0 : Nat) [y121])).length = (l114 ++ List.take (1 : Nat) (List.drop (0 : Nat) [y121])).length) (.ret (.inl (.h0 (a0) (l88) (IntKind.i64.wrap (i110 + 1)) (l113 ++ List.take (1 : Nat) (List.drop (0 : Nat) [List.take l108.length (List.drop (0 : Nat) l108)])) (l114 ++ List.take (1 : Nat) (List.drop (0 : Nat) [y121])) (l109)))))))))))))))))
  | .h2 (a0) (l95) (i96) (i104) (i122) (i123) (l128) (l129) (l130) (l131) => (.ite (decide (i104 < (↑l131.length : Int))) (.chk ((0 : Int) <= i104 ∧ i104 < (↑l131.length : Int)) (.get (l131[(0 : Nat) + i104.toNat]?) fun (y134 : Int) => (.ite (!decide (y134 = i96)) (.chk (l131.length = l131.length) (.ret (.inl (.h2 (a0) (l95) (i96) (IntKind.i64.wrap (i104 + 1)) (i122) (i123) (l128) (l129) (l130) (l131)))))
  (.ite (decide (i104 = (↑l131.length : Int))) (.chk ((1 : Nat) <= [i96].length) (.chk (l131.length = l131.length ∧ (l131.length + (List.take (1 : Nat) (List.drop (0 : Nat) [i96])).length) * (8 : Nat) <= nat_lit 140737488355328 ∧ l131.length + (List.take (1 : Nat) (List.drop (0 : Nat) [i96])).length <= nat_lit 140737488355328) (.chk ((1 : Nat) <= [i104].length) (.chk (l130.length = l130.length ∧ (l130.length + (List.take (1 : Nat) (List.drop (0 : Nat) [i104])).length) * (8 : Nat) <= nat_lit 140737488355328 ∧ l130.length + (List.take (1 : Nat) (List.drop (0 : Nat) [i104])).length <= nat_lit 140737488355328) (.chk ((l131 ++ List.take (1 : Nat) (List.drop (0 : Nat) [i96])).length = (l131 ++ List.take (1 : Nat) (List.drop (0 : Nat) [i96])).length) (.chk ((l130 ++ List.take (1 : Nat) (List.drop (0 : Nat) [i104])).length = (l130 ++ List.take (1 : Nat) (List.drop (0 : Nat) [i104])).length) (.ret (.inl (.h1 (a0) (l95) (IntKind.i64.wrap (i123 + 1)) (l130 ++ List.take (1 : Nat) (List.drop (0 : Nat) [i104])) (l131 ++ List.take (1 : Nat) (List.drop (0 : Nat) [i96])) (i122) (l128) (l129))))))))))
  (.chk ((1 : Nat) <= [i104].length) (.chk (l130.length = l130.length ∧ (l130.length + (List.take (1 : Nat) (List.drop (0 : Nat) [i104])).length) * (8 : Nat) <= nat_lit 140737488355328 ∧ l130.length + (List.take (1 : Nat) (List.drop (0 : Nat) [i104])).length <= nat_lit 140737488355328) (.chk (l131.length = l131.length) (.chk ((l130 ++ List.take (1 : Nat) (List.drop (0 : Nat) [i104])).length = (l130 ++ List.take (1 : Nat) (List.drop (0 : Nat) [i104])).length) (.ret (.inl (.h1 (a0) (l95) (IntKind.i64.wrap (i123 + 1)) (l130 ++ List.take (1 : Nat) (List.drop (0 : Nat) [i104])) (l131) (i122) (l128) (l129))))))))))))
  (.ite (decide (i104 = (↑l131.length : Int))) (.chk ((1 : Nat) <= [i96].length) (.chk (l131.length = l131.length ∧ (l131.length + (List.take (1 : Nat) (List.drop (0 : Nat) [i96])).length) * (8 : Nat) <= nat_lit 140737488355328 ∧ l131.length + (List.take (1 : Nat) (List.drop (0 : Nat) [i96])).length <= nat_lit 140737488355328) (.chk ((1 : Nat) <= [i104].length) (.chk (l130.length = l130.length ∧ (l130.length + (List.take (1 : Nat) (List.drop (0 : Nat) [i104])).length) * (8 : Nat) <= nat_lit 140737488355328 ∧ l130.length + (List.take (1 : Nat) (List.drop (0 : Nat) [i104])).length <= nat_lit 140737488355328) (.chk ((l131 ++ List.take (1 : Nat) (List.drop (0 : Nat) [i96])).length = (l131 ++ List.take (1 : Nat) (List.drop (0 : Nat) [i96])).length) (.chk ((l130 ++ List.take (1 : Nat) (List.drop (0 : Nat) [i104])).length = (l130 ++ List.take (1 : Nat) (List.drop (0 : Nat) [i104])).length) (.ret (.inl (.h1 (a0) (l95) (IntKind.i64.wrap (i123 + 1)) (l130 ++ List.take (1 : Nat) (List.drop (0 : Nat) [i104])) (l131 ++ List.take (1 : Nat) (List.drop (0 : Nat) [i96])) (i122) (l128) (l129))))))))))
  (.chk ((1 : Nat) <= [i104].length) (.chk (l130.length = l130.length ∧ (l130.length + (List.take (1 : Nat) (List.drop (0 : Nat) [i104])).length) * (8 : Nat) <= nat_lit 140737488355328 ∧ l130.length + (List.take (1 : Nat) (List.drop (0 : Nat) [i104])).length <= nat_lit 140737488355328) (.chk (l131.length = l131.length) (.chk ((l130 ++ List.take (1 : Nat) (List.drop (0 : Nat) [i104])).length = (l130 ++ List.take (1 : Nat) (List.drop (0 : Nat) [i104])).length) (.ret (.inl (.h1 (a0) (l95) (IntKind.i64.wrap (i123 + 1)) (l130 ++ List.take (1 : Nat) (List.drop (0 : Nat) [i104])) (l131) (i122) (l128) (l129))))))))))
theorem E27 : ∀ s, headC C tab knDfaH1_54 i27.rs H27 (.agg [.i .i64, .lst 40, .lst 4]) 5000 (m27 s) = (g27 s).map (Sum.map m27 (fun (r : Dfa) => (((.agg (cellsG (G.ty 36) (G.to 36 (r))))) : SV Th)))
  | .h0 (a0) (l86) (i98) (l101) (l102) (l133) => by kernel_rfl
  | .h1 (a0) (l88) (i105) (l108) (l109) (i110) (l113) (l114) => by kernel_rfl
  | .h2 (a0) (l95) (i96) (i104) (i122) (i123) (l128) (l129) (l130) (l131) => by kernel_rfl
noncomputable def s27 (a0 : Dfa) : Cm (L27 ⊕ Dfa) :=
  (.get (f20 a0) fun (y82 : Bool) => (.ite (!y82) (.ret (.inr ⟨(0), ([]), ([])⟩))
  (.get (f53 a0) fun (y83 : List Int) => (.chk ((0 : Int) <= (0 : Int)) (.get (y83[(0 : Nat)]?) fun (y84 : Int) => (.chk ((1 : Nat) = [y84].length) (.chk (@Eq Nat (@OfNat.ofNat Nat (nat_lit 0) (instOfNatNat (nat_lit 0))) (@List.length (Th (@OfNat.ofNat Nat (nat_lit 40) (instOfNatNat (nat_lit 40)))) (@List.nil (Th (@OfNat.ofNat Nat (nat_lit 40) (instOfNatNat (nat_lit 40))))))) (.chk (@Eq Nat (@OfNat.ofNat Nat (nat_lit 0) (instOfNatNat (nat_lit 0))) (@List.length (Th (@OfNat.ofNat Nat (nat_lit 4) (instOfNatNat (nat_lit 4)))) (@List.nil (Th (@OfNat.ofNat Nat (nat_lit 4) (instOfNatNat (nat_lit 4))))))) (.ret (.inl (.h0 (a0) (y83) (0) ([]) ([]) ([y84]))))))))))))
theorem ES27 (y : ATup Th [.t 36]) : startC C tab knDfaH1_54 i27 H27 (.agg [.i .i64, .lst 40, .lst 4]) 5000 (encAs G [.t 36] y) = (s27 (y.1)).map (Sum.map m27 (fun (r : Dfa) => (((.agg (cellsG (G.ty 36) (G.to 36 (r))))) : SV Th))) := by kernel_rfl
noncomputable def f27 (a0 : Dfa) : Option (Dfa) := runO g27 (s27 (a0))
theorem Q27 (y : ATup Th [.t 36]) (r : Dfa) (h : f27 (y.1) = some r) : PCall Tryd.prog C 27 (encAs G [.t 36] y) (· = (fun (r : Dfa) => (((.agg (cellsG (G.ty 36) (G.to 36 (r))))) : SV Th)) r) := runO_sound gok.ok koDfaH1_54 tabKnows E27 k27 rfl (by kernel_rfl) (by kernel_rfl) (ES27 y) h
noncomputable def knDfaH1_27 : KnownF Th := (27, knG G [.t 36] fun y => .get (f27 (y.1)) fun r => .ret ((fun (r : Dfa) => (((.agg (cellsG (G.ty 36) (G.to 36 (r))))) : SV Th)) r)) :: knDfaH1_54
theorem koDfaH1_27 : KnownOk Tryd.prog C knDfaH1_27 := KnownOk.add gok koDfaH1_54 (known_opt (enc := fun (r : Go.Proofs.Dfa.Dfa) => (((.agg (cellsG (G.ty 36) (G.to 36 (r))))) : SV Th)) Q27 (fun _ => rfl))
-- 28 drover/dfa.Small
def H28 : List (List Nat × Hint) := [([66024], ⟨[22, 4, 20, 1, 2, 3, 21], [], [], [], [], [], [], 0, []⟩),
  ([75024, 1000038], ⟨[9, 10, 12, 2, 11, 1], [[4, 1, 2]], [(11, 40)], [], [], [9, 11], [], 0, []⟩),
  ([75035, 75024, 1000038], ⟨[33, 13, 9, 10, 12, 2, 1, 11, 32], [[4, 1, 2]], [], [], [], [13, 9], [], 0, []⟩),
  ([66050], ⟨[48, 10, 4, 1, 46, 2, 47], [], [(46, 3)], [(10, 1, 40), (10, 2, 4)], [], [46], [(10, 1), (10, 2)], 0, []⟩)]
inductive L28 where
  | h0 (a0 : Dfa) (l162 : List Int) (i165 : Int) (l166 : List (Int × Int))
  | h1 (a0 : Dfa) (l168 : List Int) (l171 : List (Int × Int)) (i200 : Int) (l202 : List (List Int)) (l225 : List Int) (l226 : List (Int × Int))
  | h2 (a0 : Dfa) (l173 : List Int) (l174 : List (Int × Int)) (i191 : Int) (l193 : List Int) (l198 : List Int) (l199 : List (Int × Int)) (i227 : Int) (l229 : List (List Int))
  | h3 (a0 : Dfa) (l176 : List (Int × Int)) (i195 : Int) (l196 : List Int) (i207 : Int) (l209 : List Bool) (l231 : List (List Int))
noncomputable def m28 : L28 -> Trip Th
  | .h0 (a0) (l162) (i165) (l166) => ([(.lp 66 c28_7), (.blk 0), (.seq 66 c28_20)], [(22, (.i .i64 (i165))), (4, (.ptr 0 0)), (20, (.lst 3 (l162))), (1, (.ptr 2 0)), (2, (.ptr 3 0)), (3, (.ptr 4 0)), (21, (.i .i64 ((↑l162.length : Int))))], [(.box [(.mp 1)]), (.map 3 3 (l166)), (.box [(.i .i64 (a0.Switches)), (.lst 40 (a0.Next)), (.lst 4 (a0.Ends))]), (.box [(.i .i64 0), (.v (.slice .none 0 0)), (.v (.slice .none 0 0))]), (.box [(.lst 3 (l162))])])
  | .h1 (a0) (l168) (l171) (i200) (l202) (l225) (l226) => ([(.lp 75 c55_20), (.blk 0), (.seq 75 c55_22), (.cal [(4, (.ptr 4 0)), (1, (.ptr 3 0)), (2, (.ptr 7 0))] (.some 38) [(.tmp 6), (.tmp 7), (.tmp 8)]), (.ops 66 []), (.seq 66 c28_9), (.seq 66 c28_19)], [(9, (.sl 3 0 0 (l225.length) .none)), (10, (.mp 1)), (12, (.i .i64 (i200))), (2, (.fn 56 [(.ptr 2 0), (.ptr 3 0), (.ptr 4 0)])), (11, (.sl 40 6 0 (l202.length) .none)), (1, (.i .i64 (a0.Switches)))], [(.arr 3 (l225)), (.map 3 3 (l226)), (.box [(.lst 3 (l168))]), (.box [(.i .i64 (a0.Switches)), (.lst 40 (a0.Next)), (.lst 4 (a0.Ends))]), (.box [(.mp 5)]), (.map 3 3 (l171)), (.arr 40 (l202)), (.box [(.i .i64 0), (.v (.slice .none 0 0)), (.v (.slice .none 0 0))])])
  | .h2 (a0) (l173) (l174) (i191) (l193) (l198) (l199) (i227) (l229) => ([(.lp 75 c55_14), (.blk 2), (.seq 75 c55_16), (.blk 1), (.seq 75 c55_18), (.lp 75 c55_20), (.blk 0), (.seq 75 c55_22), (.cal [(4, (.ptr 5 0)), (1, (.ptr 4 0)), (2, (.ptr 8 0))] (.some 38) [(.tmp 6), (.tmp 7), (.tmp 8)]), (.ops 66 []), (.seq 66 c28_9), (.seq 66 c28_19)], [(33, (.i .i64 (i191))), (13, (.sl 3 0 0 (l193.length) .none)), (9, (.sl 3 1 0 (l198.length) .none)), (10, (.mp 2)), (12, (.i .i64 (i227))), (2, (.fn 56 [(.ptr 3 0), (.ptr 4 0), (.ptr 5 0)])), (1, (.i .i64 (a0.Switches))), (11, (.sl 40 7 0 (l229.length) .none)), (32, (.i .i64 ((↑(List.replicate a0.Switches.toNat (0 : Int)).length : Int))))], [(.arr 3 (l193)), (.arr 3 (l198)), (.map 3 3 (l199)), (.box [(.lst 3 (l173))]), (.box [(.i .i64 (a0.Switches)), (.lst 40 (a0.Next)), (.lst 4 (a0.Ends))]), (.box [(.mp 6)]), (.map 3 3 (l174)), (.arr 40 (l229)), (.box [(.i .i64 0), (.v (.slice .none 0 0)), (.v (.slice .none 0 0))])])
  | .h3 (a0) (l176) (i195) (l196) (i207) (l209) (l231) => ([(.lp 66 c28_15), (.blk 2), (.seq 66 c28_17)], [(48, (.i .i64 (i207))), (10, (.ptr 0 0)), (4, (.ptr 3 0)), (1, (.ptr 5 0)), (46, (.sl 3 6 0 (l196.length) .none)), (2, (.ptr 7 0)), (47, (.i .i64 (i195)))], [(.box [(.i .i64 (a0.Switches)), (.sl 40 1 0 (l231.length) .none), (.sl 4 2 0 (l209.length) .none)]), (.arr 40 (l231)), (.arr 4 (l209)), (.box [(.mp 4)]), (.map 3 3 (l176)), (.box [(.i .i64 (a0.Switches)), (.lst 40 (a0.Next)), (.lst 4 (a0.Ends))]), (.arr 3 (l196)), (.box [(.i .i64 0), (.v (.slice .none 0 0)), (.v (.slice .none 0 0))])])
noncomputable def g28 : L28 -> Cm (L28 ⊕ Dfa)
  | .h0 (a0) (l162) (i165) (l166) => (.ite (decide (i165 < (↑l162.length : Int))) (.chk ((0 : Int) <= i165) (.get (l162[i165.toNat]?) fun (y169 : Int) => (.ret (.inl (.h0 (a0) (l162) (IntKind.i64.wrap (i165 + 1)) (Go.Ab.mset l166 y169 i165))))))
  (.chk ((0 : Int) <= (0 : Int)) (.get (l162[(0 : Nat)]?) fun (y170 : Int) => (.chk ((1 : Nat) = [y170].length) (.chk (@Eq Nat (@OfNat.ofNat Nat (nat_lit 0) (instOfNatNat (nat_lit 0))) (@List.length (Th (@OfNat.ofNat Nat (nat_lit 40) (instOfNatNat (nat_lit 40)))) (@List.nil (Th (@OfNat.ofNat Nat (nat_lit 40) (instOfNatNat (nat_lit 40))))))) (.ret (.inl (.h1 (a0) (l162) (l166) (0) ([]) ([y170]) (Go.Ab.mset [] y170 (0 : Int))))))))))
  | .h1 (a0) (l168) (l171) (i200) (l202) (l225) (l226) => (.ite (decide (i200 < (↑l225.length : Int))) (.chk ((0 : Int) <= a0.Switches ∧ a0.Switches <= a0.Switches ∧ a0.Switches * (↑(8 : Nat) : Int) <= (281474976710656 : Int)) (.chk ((List.replicate a0.Switches.toNat (0 : Int)).length = (List.replicate a0.Switches.toNat (0 : Int)).length) (.chk (l225.length = l225.length) (.ret (.inl (.h2 (a0) (l168) (l171) (0) (List.replicate a0.Switches.toNat (0 : Int)) (l225) (l226) (i200) (l202)))))))
  (.chk (l225.length = l225.length) (.chk (l202.length = l202.length) (.chk (@Eq Nat (@OfNat.ofNat Nat (nat_lit 0) (instOfNatNat (nat_lit 0))) (@List.length (Th (@OfNat.ofNat Nat (nat_lit 4) (instOfNatNat (nat_lit 4)))) (@List.nil (Th (@OfNat.ofNat Nat (nat_lit 4) (instOfNatNat (nat_lit 4))))))) (.ret (.inl (.h3 (a0) (l171) ((↑l225.length : Int)) (l225) (0) ([]) (l202))))))))
  | .h2 (a0) (l173) (l174) (i191) (l193) (l198) (l199) (i227) (l229) => (.ite (decide (i191 < (↑(List.replicate a0.Switches.toNat (0 : Int)).length : Int))) (.chk ((0 : Int) <= i227 ∧ i227 < (↑l198.length : Int)) (.get (l198[(0 : Nat) + i227.toNat]?) fun (y236 : Int) => (.ite (Go.Ab.mhas l174 y236) (.get (Go.Ab.mget l174 y236) fun (y237 : Int) => (.chk ((0 : Int) <= y237) (.get (a0.Next[y237.toNat]?) fun (y238 : List Int) => (.chk ((0 : Int) <= IntKind.i64.wrap (IntKind.i64.wrap (i191 + (1 : Int)) - (1 : Int))) (.get (y238[(IntKind.i64.wrap (IntKind.i64.wrap (i191 + (1 : Int)) - (1 : Int))).toNat]?) fun (y239 : Int) => (.chk ((0 : Int) <= y239) (.get (l173[y239.toNat]?) fun (y240 : Int) => (.ite (Go.Ab.mhas l199 y240) (.get (Go.Ab.mget l199 y240) fun (y241 : Int) => (.chk ((0 : Int) <= i191 ∧ i191 < (↑l193.length : Int)) (.get (l193[(0 : Nat) + i191.toNat]?) fun (y242 : Int) => (.chk (l193.length = (l193.set ((0 : Nat) + i191.toNat) y241).length) (.chk (l198.length = l198.length) (.ret (.inl (.h2 (a0) (l173) (l174) (IntKind.i64.wrap (i191 + 1)) (l193.set ((0 : Nat) + i191.toNat) y241) (l198) (l199) (i227) (l229)))))))))
  (.ite (decide ((↑l198.length : Int) = (256 : Int))) (.chk (@Eq Nat (@OfNat.ofNat Nat (nat_lit 0) (instOfNatNat (nat_lit 0))) (@List.length (Th (@OfNat.ofNat Nat (nat_lit 3) (instOfNatNat (nat_lit 3)))) (@List.nil (Th (@OfNat.ofNat Nat (nat_lit 3) (instOfNatNat (nat_lit 3))))))) (.chk (@Eq Nat (@OfNat.ofNat Nat (nat_lit 0) (instOfNatNat (nat_lit 0))) (@List.length (Th (@OfNat.ofNat Nat (nat_lit 40) (instOfNatNat (nat_lit 40)))) (@List.nil (Th (@OfNat.ofNat Nat (nat_lit 40) (instOfNatNat (nat_lit 40))))))) (.chk (@Eq Nat (@OfNat.ofNat Nat (nat_lit 0) (instOfNatNat (nat_lit 0))) (@List.length (Th (@OfNat.ofNat Nat (nat_lit 4) (instOfNatNat (nat_lit 4)))) (@List.nil (Th (@OfNat.ofNat Nat (nat_lit 4) (instOfNatNat (nat_lit 4))))))) (.ret (.inl (.h3 (a0) (l174) (0) ([]) (0) ([]) ([])))))))
  (.chk ((1 : Nat) <= [y240].length) (.chk (l198.length = l198.length ∧ (l198.length + (List.take (1 : Nat) (List.drop (0 : Nat) [y240])).length) * (8 : Nat) <= nat_lit 140737488355328 ∧ l198.length + (List.take (1 : Nat) (List.drop (0 : Nat) [y240])).length <= nat_lit 140737488355328) (.chk ((0 : Int) <= i191 ∧ i191 < (↑l193.length : Int)) (.get (l193[(0 : Nat) + i191.toNat]?) fun (y243 : Int) => (.chk (l193.length = (l193.set ((0 : Nat) + i191.toNat) (↑l198.length : Int)).length) (.chk ((l198 ++ List.take (1 : Nat) (List.drop (0 : Nat) [y240])).length = (l198 ++ List.take (1 : Nat) (List.drop (0 : Nat) [y240])).length) (.ret (.inl (.h2 (a0) (l173) (l174) (IntKind.i64.wrap (i191 + 1)) (l193.set ((0 : Nat) + i191.toNat) (↑l198.length : Int)) (l198 ++ List.take (1 : Nat) (List.drop (0 : Nat) [y240])) (Go.Ab.mset l199 y240 (↑l198.length : Int)) (i227) (l229)))))))))))))))))))
  (.chk ((0 : Int) <= (0 : Int)) (.get (a0.Next[(0 : Nat)]?) fun (y244 : List Int) => (.chk ((0 : Int) <= IntKind.i64.wrap (IntKind.i64.wrap (i191 + (1 : Int)) - (1 : Int))) (.get (y244[(IntKind.i64.wrap (IntKind.i64.wrap (i191 + (1 : Int)) - (1 : Int))).toNat]?) fun (y245 : Int) => (.chk ((0 : Int) <= y245) (.get (l173[y245.toNat]?) fun (y246 : Int) => (.ite (Go.Ab.mhas l199 y246) (.get (Go.Ab.mget l199 y246) fun (y247 : Int) => (.chk ((0 : Int) <= i191 ∧ i191 < (↑l193.length : Int)) (.get (l193[(0 : Nat) + i191.toNat]?) fun (y248 : Int) => (.chk (l193.length = (l193.set ((0 : Nat) + i191.toNat) y247).length) (.chk (l198.length = l198.length) (.ret (.inl (.h2 (a0) (l173) (l174) (IntKind.i64.wrap (i191 + 1)) (l193.set ((0 : Nat) + i191.toNat) y247) (l198) (l199) (i227) (l229)))))))))
  (.ite (decide ((↑l198.length : Int) = (256 : Int))) (.chk (@Eq Nat (@OfNat.ofNat Nat (nat_lit 0) (instOfNatNat (nat_lit 0))) (@List.length (Th (@OfNat.ofNat Nat (nat_lit 3) (instOfNatNat (nat_lit 3)))) (@List.nil (Th (@OfNat.ofNat Nat (nat_lit 3) (instOfNatNat (nat_lit 3))))))) (.chk (@Eq Nat (@OfNat.ofNat Nat (nat_lit 0) (instOfNatNat (nat_lit 0))) (@List.length (Th (@OfNat.ofNat Nat (nat_lit 40) (instOfNatNat (nat_lit 40)))) (@List.nil (Th (@OfNat.ofNat Nat (nat_lit 40) (instOfNatNat (nat_lit 40))))))) (.chk (@Eq Nat (@OfNat.ofNat Nat (nat_lit 0) (instOfNatNat (nat_lit 0))) (@List.length (Th (@OfNat.ofNat Nat (nat_lit 4) (instOfNatNat (nat_lit 4)))) (@List.nil (Th (@OfNat.ofNat Nat (nat_lit 4) (instOfNatNat (nat_lit 4))))))) (.ret (.inl (.h3 (a0) (l174) (0) ([]) (0) ([]) ([])))))))
  (.chk ((1 : Nat) <= [y246].length) (.chk (l198.length = l198.length ∧ (l198.length + (List.take (1 : Nat) (List.drop (0 : Nat) [y246])).length) * (8 : Nat) <= nat_lit 140737488355328 ∧ l198.length + (List.take (1 : Nat) (List.drop (0 : Nat) [y246])).length <= nat_lit 140737488355328) (.chk ((0 : Int) <= i191 ∧ i191 < (↑l193.length : Int)) (.get (l193[(0 : Nat) + i191.toNat]?) fun (y249 : Int) => (.chk (l193.length = (l193.set ((0 : Nat) + i191.toNat) (↑l198.length : Int)).length) (.chk ((l198 ++ List.take (1 : Nat) (List.drop (0 : Nat) [y246])).length = (l198 ++ List.take (1 : Nat) (List.drop (0 : Nat) [y246])).length) (.ret (.inl (.h2 (a0) (l173) (l174) (IntKind.i64.wrap (i191 + 1)) (l193.set ((0 : Nat) + i191.toNat) (↑l198.length : Int)) (l198 ++ List.take (1 : Nat) (List.drop (0 : Nat) [y246])) (Go.Ab.mset l199 y246 (↑l198.length : Int)) (i227) (l229)))))))))))))))))))))
  (.chk ((0 : Nat) + l193.length <= l193.length ∧ ((0 : Nat) + l193.length).le l193.length) (.chk ((1 : Nat) <= [List.take l193.length (List.drop (0 : Nat) l193)].length) (.chk (l229.length = l229.length ∧ (l229.length + (List.take (1 : Nat) (List.drop (0 : Nat) [List.take l193.length (List.drop (0 : Nat) l193)])).length) * (24 : Nat) <= nat_lit 140737488355328 ∧ l229.length + (List.take (1 : Nat) (List.drop (0 : Nat) [List.take l193.length (List.drop (0 : Nat) l193)])).length <= nat_lit 140737488355328) (.chk (l198.length = l198.length) (.chk ((l229 ++ List.take (1 : Nat) (List.drop (0 : Nat) [List.take l193.length (List.drop (0 : Nat) l193)])).length = (l229 ++ List.take (1 : Nat) (List.drop (0 : Nat) [List.take l193.length (List.drop (0 : Nat) l193)])).length) (.ret (.inl (.h1 (a0) (l173) (l174) (IntKind.i64.wrap (i227 + 1)) (l229 ++ List.take (1 : Nat) (List.drop (0 : Nat) [List.take l193.length (List.drop (0 : Nat) l193)])) (l198) (l199))))))))))
  | .h3 (a0) (l176) (i195) (l196) (i207) (l209) (l231) => (.ite (decide (i207 < i195)) (.chk ((0 : Int) <= i207 ∧ i207 < (↑l196.length : Int)) (.get (l196[(0 : Nat) + i207.toNat]?) fun (y232 : Int) => (.ite (Go.Ab.mhas l176 y232) (.get (Go.Ab.mget l176 y232) fun (y233 : Int) => (.chk ((0 : Int) <= y233) (.get (a0.Ends[y233.toNat]?) fun (y234 : Bool) => (.chk ((1 : Nat) <= [y234].length) (.chk (l209.length = l209.length ∧ (l209.length + (List.take (1 : Nat) (List.drop (0 : Nat) [y234])).length) * (1 : Nat) <= nat_lit 140737488355328 ∧ l209.length + (List.take (1 : Nat) (List.drop (0 : Nat) [y234])).length <= nat_lit 140737488355328) (.chk (l196.length = l196.length) (.chk (l231.length = l231.length) (.chk ((l209 ++ List.take (1 : Nat) (List.drop (0 : Nat) [y234])).length = (l209 ++ List.take (1 : Nat) (List.drop (0 : Nat) [y234])).length) (.ret (.inl (.h3 (a0) (l176) (i195) (l196) (IntKind.i64.wrap (i207 + 1)) (l209 ++ List.take (1 : Nat) (List.drop (0 : Nat) [y234])) (l231))))))))))))
  (.chk ((0 : Int) <= (0 : Int)) (.get (a0.Ends[(0 : Nat)]?) fun (y235 : Bool) => (.chk ((1 : Nat) <= [y235].length) (.chk (l209.length = l209.length ∧ (l209.length + (List.take (1 : Nat) (List.drop (0 : Nat) [y235])).length) * (1 : Nat) <= nat_lit 140737488355328 ∧ l209.length + (List.take (1 : Nat) (List.drop (0 : Nat) [y235])).length <= nat_lit 140737488355328) (.chk (l196.length = l196.length) (.chk (l231.length = l231.length) (.chk ((l209 ++ List.take (1 : Nat) (List.drop (0 : Nat) [y235])).length = (l209 ++ List.take (1 : Nat) (List.drop (0 : Nat) [y235])).length) (.ret (.inl (.h3 (a0) (l176) (i195) (l196) (IntKind.i64.wrap (i207 + 1)) (l209 ++ List.take (1 : Nat) (List.drop (0 : Nat) [y235])) (l231))))))))))))))
  (.chk ((0 : Nat) + l231.length <= l231.length) (.chk ((0 : Nat) + l209.length <= l209.length) (.ret (.inr ⟨(a0.Switches), (List.take l231.length (List.drop (0 : Nat) l231)), (List.take l209.length (List.drop (0 : Nat) l209))⟩)))))
theorem E28 : ∀ s, headC C tab knDfaH1_27 i28.rs H28 (.agg [.i .i64, .lst 40, .lst 4]) 5000 (m28 s) = (g28 s).map (Sum.map m28 (fun (r : Dfa) => (((.agg (cellsG (G.ty 36) (G.to 36 (r))))) : SV Th)))
  | .h0 (a0) (l162) (i165) (l166) => by kernel_rfl
  | .h1 (a0) (l168) (l171) (i200) (l202) (l225) (l226) => by kernel_rfl
  | .h2 (a0) (l173) (l174) (i191) (l193) (l198) (l199) (i227) (l229) => by kernel_rfl
  | .h3 (a0) (l176) (i195) (l196) (i207) (l209) (l231) => by kernel_rfl
noncomputable def s28 (a0 : Dfa) : Cm (L28 ⊕ Dfa) :=
  (.get (f19 a0) fun (y160 : Bool) => (.ite (!y160) (.ret (.inr ⟨(0), ([]), ([])⟩))
  (.get (f54 a0) fun (y161 : List Int) => (.ret (.inl (.h0 (a0) (y161) (0) ([])))))))
theorem ES28 (y : ATup Th [.t 36]) : startC C tab knDfaH1_27 i28 H28 (.agg [.i .i64, .lst 40, .lst 4]) 5000 (encAs G [.t 36] y) = (s28 (y.1)).map (Sum.map m28 (fun (r : Dfa) => (((.agg (cellsG (G.ty 36) (G.to 36 (r))))) : SV Th))) := by kernel_rfl
noncomputable def f28 (a0 : Dfa) : Option (Dfa) := runO g28 (s28 (a0))
theorem Q28 (y : ATup Th [.t 36]) (r : Dfa) (h : f28 (y.1) = some r) : PCall Tryd.prog C 28 (encAs G [.t 36] y) (· = (fun (r : Dfa) => (((.agg (cellsG (G.ty 36) (G.to 36 (r))))) : SV Th)) r) := runO_sound gok.ok koDfaH1_27 tabKnows E28 k28 rfl (by kernel_rfl) (by kernel_rfl) (ES28 y) h
noncomputable def knDfaH1_28 : KnownF Th := (28, knG G [.t 36] fun y => .get (f28 (y.1)) fun r => .ret ((fun (r : Dfa) => (((.agg (cellsG (G.ty 36) (G.to 36 (r))))) : SV Th)) r)) :: knDfaH1_27
theorem koDfaH1_28 : KnownOk Tryd.prog C knDfaH1_28 := KnownOk.add gok koDfaH1_27 (known_opt (enc := fun (r : Go.Proofs.Dfa.Dfa) => (((.agg (cellsG (G.ty 36) (G.to 36 (r))))) : SV Th)) Q28 (fun _ => rfl))
noncomputable def kn_DfaH1 : KnownF Th := knDfaH1_28
theorem ko_DfaH1 : KnownOk Tryd.prog C kn_DfaH1 := koDfaH1_28
end Go.Proofs.Dfa
