/- A part of a law's proof: DfaH3. -/
import Derived.KernelRfl
import Derived.Test.YthhbggmlfilpdaaDoorDfaH1
import Derived.Test.YthhbggmlfilpdaaDoorDfaTy
import Derived.Test.YthhbggmlfilpdaaDoorDfaXTab
import Derived.Test.YthhbggmlfilpdaaDoorSvLoop
set_option linter.constructorNameAsVariable false
namespace Go.Proofs.Dfa
open Go Go.Ab Go.Proofs
set_option linter.unusedVariables false
set_option linter.unusedSimpArgs false
set_option maxHeartbeats 4000000
set_option maxRecDepth 100000
-- 31 drover/dfa.Same
def H31 : List (List Nat × Hint) := [([77044], ⟨[6, 42, 5, 40, 41], [], [], [], [], [], [], 0, []⟩),
  ([77062, 77044], ⟨[60, 7, 6, 58, 5, 40, 41, 42, 59], [], [], [], [], [], [], 0, []⟩)]
inductive L31 where
  | h0 (x4 : Dfa) (x5 : Dfa) (i16 : Int)
  | h1 (l9 : List Int) (x10 : Dfa) (x11 : Dfa) (i15 : Int) (i23 : Int) (i24 : Int)
noncomputable def m31 : L31 -> Trip Th
  | .h0 (x4) (x5) (i16) => ([(.lp 77 c31_16), (.blk 0), (.seq 77 c31_18)], [(6, (.ptr 0 0)), (42, (.i .i64 (i16))), (5, (.ptr 1 0)), (40, (.lst 40 (x4.Next))), (41, (.i .i64 ((↑x4.Next.length : Int))))], [(.box [(.i .i64 (x5.Switches)), (.lst 40 (x5.Next)), (.lst 4 (x5.Ends))]), (.box [(.i .i64 (x4.Switches)), (.lst 40 (x4.Next)), (.lst 4 (x4.Ends))])])
  | .h1 (l9) (x10) (x11) (i15) (i23) (i24) => ([(.lp 77 c31_9), (.blk 2), (.blk 1), (.seq 77 c31_13), (.lp 77 c31_16), (.blk 0), (.seq 77 c31_18)], [(60, (.i .i64 (i15))), (7, (.i .i64 (i23))), (6, (.ptr 0 0)), (58, (.lst 3 (l9))), (5, (.ptr 1 0)), (40, (.lst 40 (x10.Next))), (41, (.i .i64 ((↑x10.Next.length : Int)))), (42, (.i .i64 (i24))), (59, (.i .i64 ((↑l9.length : Int))))], [(.box [(.i .i64 (x11.Switches)), (.lst 40 (x11.Next)), (.lst 4 (x11.Ends))]), (.box [(.i .i64 (x10.Switches)), (.lst 40 (x10.Next)), (.lst 4 (x10.Ends))])])
noncomputable def g31 : L31 -> Cm (L31 ⊕ Bool)
  | .h0 (x4) (x5) (i16) => (.ite (decide (i16 < (↑x4.Next.length : Int))) (.chk ((0 : Int) <= i16) (.get (x4.Next[i16.toNat]?) fun (y20 : List Int) => (.chk ((0 : Int) <= i16) (.get (x4.Ends[i16.toNat]?) fun (y21 : Bool) => (.chk ((0 : Int) <= i16) (.get (x5.Ends[i16.toNat]?) fun (y22 : Bool) => (.ite (!y21 == y22) (.ret (.inr (Bool.false)))
  (.ret (.inl (.h1 (y20) (x4) (x5) (0) (i16) (i16)))))))))))
  (.ret (.inr (Bool.true))))
  | .h1 (l9) (x10) (x11) (i15) (i23) (i24) => (.ite (decide (i15 < (↑l9.length : Int))) (.chk ((0 : Int) <= i15) (.get (l9[i15.toNat]?) fun (y25 : Int) => (.chk ((0 : Int) <= i23) (.get (x11.Next[i23.toNat]?) fun (y26 : List Int) => (.chk ((0 : Int) <= i15) (.get (y26[i15.toNat]?) fun (y27 : Int) => (.ite (!decide (y27 = y25)) (.ret (.inr (Bool.false)))
  (.ret (.inl (.h1 (l9) (x10) (x11) (IntKind.i64.wrap (i15 + 1)) (i23) (i24)))))))))))
  (.ret (.inl (.h0 (x10) (x11) (IntKind.i64.wrap (i24 + 1))))))
theorem E31 : ∀ s, headC C tab kn_DfaH1 i31.rs H31 .b 5000 (m31 s) = (g31 s).map (Sum.map m31 (fun (r : Bool) => (((.b (r))) : SV Th)))
  | .h0 (x4) (x5) (i16) => by kernel_rfl
  | .h1 (l9) (x10) (x11) (i15) (i23) (i24) => by kernel_rfl
noncomputable def s31 (a0 : Dfa) (a1 : Dfa) : Cm (L31 ⊕ Bool) :=
  (.get (f28 a0) fun (y0 : Dfa) => (.get (f28 a1) fun (y1 : Dfa) => (.get (f19 a0) fun (y2 : Bool) => (.ite (!y2) (.ret (.inr (Bool.false)))
  (.get (f19 a1) fun (y3 : Bool) => (.ite (!y3) (.ret (.inr (Bool.false)))
  (.ite (!decide (y0.Switches = y1.Switches)) (.ret (.inr (Bool.false)))
  (.ite (!decide ((↑y0.Next.length : Int) = (↑y1.Next.length : Int))) (.ret (.inr (Bool.false)))
  (.ret (.inl (.h0 (y0) (y1) (0))))))))))))
theorem ES31 (y : ATup Th [.t 36, .t 36]) : startC C tab kn_DfaH1 i31 H31 .b 5000 (encAs G [.t 36, .t 36] y) = (s31 (y.1) (y.2.1)).map (Sum.map m31 (fun (r : Bool) => (((.b (r))) : SV Th))) := by kernel_rfl
noncomputable def f31 (a0 : Dfa) (a1 : Dfa) : Option (Bool) := runO g31 (s31 (a0) (a1))
theorem Q31 (y : ATup Th [.t 36, .t 36]) (r : Bool) (h : f31 (y.1) (y.2.1) = some r) : PCall Tryd.prog C 31 (encAs G [.t 36, .t 36] y) (· = (fun (r : Bool) => (((.b (r))) : SV Th)) r) := runO_sound gok.ok ko_DfaH1 tabKnows E31 k31 rfl (by kernel_rfl) (by kernel_rfl) (ES31 y) h
noncomputable def knDfaH3_31 : KnownF Th := (31, knS G [.t 36, .t 36] fun y => .get (f31 (y.1) (y.2.1)) fun r => .ret ((fun (r : Bool) => (((.b (r))) : SV Th)) r)) :: kn_DfaH1
theorem koDfaH3_31 : KnownOk Tryd.prog C knDfaH3_31 := KnownOk.addS gok ko_DfaH1 (scal_opt (enc := fun (r : Bool) => (((.b (r))) : SV Th)) (fun _ => rfl)) (known_opt (enc := fun (r : Bool) => (((.b (r))) : SV Th)) Q31 (fun _ => rfl))
-- 36 drover/droverref19.Same
noncomputable def u36 (a0 : Dfa) (a1 : Dfa) : Cm (Bool) :=
  (.get (f20 a0) fun (y0 : Bool) => (.ite (y0) (.get (f20 a1) fun (y1 : Bool) => (.ite (y1) (.get (f27 a0) fun (y2 : Dfa) => (.get (f27 a1) fun (y3 : Dfa) => (.get (f14 y2 y3) fun (y4 : Bool) => (.ret (y4)))))
  (.ret (Bool.false))))
  (.ret (Bool.false))))
noncomputable def f36 (a0 : Dfa) (a1 : Dfa) : Option (Bool) := (u36 (a0) (a1)).opt
theorem E36 (y : ATup Th [.t 36, .t 36]) : startC C tab knDfaH3_31 i36 [] .b 5000 (encAs G [.t 36, .t 36] y) = (u36 (y.1) (y.2.1)).map (fun r => .inr ((fun (r : Bool) => (((.b (r))) : SV Th)) r)) := by kernel_rfl
theorem Q36 (y : ATup Th [.t 36, .t 36]) (r : Bool) (h : f36 (y.1) (y.2.1) = some r) : PCall Tryd.prog C 36 (encAs G [.t 36, .t 36] y) (· = (fun (r : Bool) => (((.b (r))) : SV Th)) r) := one_sound gok.ok koDfaH3_31 tabKnows k36 (by kernel_rfl) (by kernel_rfl) (E36 y) (Cm.den_opt h rfl)
noncomputable def knDfaH3_36 : KnownF Th := (36, knS G [.t 36, .t 36] fun y => .get (f36 (y.1) (y.2.1)) fun r => .ret ((fun (r : Bool) => (((.b (r))) : SV Th)) r)) :: knDfaH3_31
theorem koDfaH3_36 : KnownOk Tryd.prog C knDfaH3_36 := KnownOk.addS gok koDfaH3_31 (scal_opt (enc := fun (r : Bool) => (((.b (r))) : SV Th)) (fun _ => rfl)) (known_opt (enc := fun (r : Bool) => (((.b (r))) : SV Th)) Q36 (fun _ => rfl))
noncomputable def kn_DfaH3 : KnownF Th := knDfaH3_36
theorem ko_DfaH3 : KnownOk Tryd.prog C kn_DfaH3 := koDfaH3_36
end Go.Proofs.Dfa
