/- A part of a law's proof: DfaJ1. -/
import Derived.KernelRfl
import Derived.Test.YthhbggmlfilpdaaDoorDfaIto
import Derived.Test.YthhbggmlfilpdaaDoorDfaTy
import Derived.Test.YthhbggmlfilpdaaDoorDfaXTab
import Derived.Test.YthhbggmlfilpdaaDoorSvLoop
set_option linter.constructorNameAsVariable false
namespace Go.Proofs.Dfa
open Go Go.Ab Go.Proofs
set_option linter.unusedVariables false
set_option linter.unusedSimpArgs false
set_option maxHeartbeats 4000000
set_option maxRecDepth 100000
-- 19 drover/dfa.Right
def H19 : List (List Nat × Hint) := [([65041], ⟨[61, 57, 60, 59, 58, 1, 39, 37, 38], [], [], [], [], [], [], 0, []⟩),
  ([65052, 65041], ⟨[50, 1, 48, 37, 38, 39, 49], [], [], [], [], [], [], 0, []⟩)]
inductive L19 where
  | h0 (a0 : Dfa) (i8 : Int)
  | h1 (a0 : Dfa) (l5 : List Int) (i7 : Int) (i11 : Int)
noncomputable def m19 : L19 -> Trip Th
  | .h0 (a0) (i8) => ([(.lp 65 c19_14), (.blk 0), (.seq 65 c19_16)], [(61, .any), (57, .any), (60, .any), (59, .any), (58, .any), (1, (.ptr 0 0)), (39, (.i .i64 (i8))), (37, (.lst 40 (a0.Next))), (38, (.i .i64 ((↑a0.Next.length : Int))))], [(.box [(.i .i64 (a0.Switches)), (.lst 40 (a0.Next)), (.lst 4 (a0.Ends))])])
  | .h1 (a0) (l5) (i7) (i11) => ([(.lp 65 c19_7), (.blk 2), (.blk 1), (.seq 65 c19_11), (.lp 65 c19_14), (.blk 0), (.seq 65 c19_16)], [(50, (.i .i64 (i7))), (1, (.ptr 0 0)), (48, (.lst 3 (l5))), (37, (.lst 40 (a0.Next))), (38, (.i .i64 ((↑a0.Next.length : Int)))), (39, (.i .i64 (i11))), (49, (.i .i64 ((↑l5.length : Int))))], [(.box [(.i .i64 (a0.Switches)), (.lst 40 (a0.Next)), (.lst 4 (a0.Ends))])])
noncomputable def g19 : L19 -> Cm (L19 ⊕ Bool)
  | .h0 (a0) (i8) => (.ite (decide (i8 < (↑a0.Next.length : Int))) (.chk ((0 : Int) <= i8) (.get (a0.Next[i8.toNat]?) fun (y10 : List Int) => (.ite (!decide ((↑y10.length : Int) = a0.Switches)) (.ret (.inr (Bool.false)))
  (.ret (.inl (.h1 (a0) (y10) (0) (i8)))))))
  (.ret (.inr (Bool.true))))
  | .h1 (a0) (l5) (i7) (i11) => (.ite (decide (i7 < (↑l5.length : Int))) (.chk ((0 : Int) <= i7) (.get (l5[i7.toNat]?) fun (y12 : Int) => (.ite (decide (y12 < (0 : Int))) (.ret (.inr (Bool.false)))
  (.ite (decide ((↑a0.Next.length : Int) <= y12)) (.ret (.inr (Bool.false)))
  (.ret (.inl (.h1 (a0) (l5) (IntKind.i64.wrap (i7 + 1)) (i11))))))))
  (.ret (.inl (.h0 (a0) (IntKind.i64.wrap (i11 + 1))))))
theorem E19 : ∀ s, headC C tab kn1 i19.rs H19 .b 5000 (m19 s) = (g19 s).map (Sum.map m19 (fun (r : Bool) => (((.b (r))) : SV Th)))
  | .h0 (a0) (i8) => by kernel_rfl
  | .h1 (a0) (l5) (i7) (i11) => by kernel_rfl
noncomputable def s19 (a0 : Dfa) : Cm (L19 ⊕ Bool) :=
  (.ite (decide (a0.Switches < 1)) (.ret (.inr (Bool.false)))
  (.ite (decide (32 < a0.Switches)) (.ret (.inr (Bool.false)))
  (.ite (decide ((↑a0.Next.length : Int) < (1 : Int))) (.ret (.inr (Bool.false)))
  (.ite (decide ((256 : Int) < (↑a0.Next.length : Int))) (.ret (.inr (Bool.false)))
  (.ite (!decide ((↑a0.Ends.length : Int) = (↑a0.Next.length : Int))) (.ret (.inr (Bool.false)))
  (.ret (.inl (.h0 (a0) (0)))))))))
theorem ES19 (y : ATup Th [.t 36]) : startC C tab kn1 i19 H19 .b 5000 (encAs G [.t 36] y) = (s19 (y.1)).map (Sum.map m19 (fun (r : Bool) => (((.b (r))) : SV Th))) := by kernel_rfl
noncomputable def f19 (a0 : Dfa) : Option (Bool) := runO g19 (s19 (a0))
theorem Q19 (y : ATup Th [.t 36]) (r : Bool) (h : f19 (y.1) = some r) : PCall Tryd.prog C 19 (encAs G [.t 36] y) (· = (fun (r : Bool) => (((.b (r))) : SV Th)) r) := runO_sound gok.ok ko1 tabKnows E19 k19 rfl (by kernel_rfl) (by kernel_rfl) (ES19 y) h
noncomputable def knDfaJ1_19 : KnownF Th := (19, knS G [.t 36] fun y => .get (f19 (y.1)) fun r => .ret ((fun (r : Bool) => (((.b (r))) : SV Th)) r)) :: kn1
theorem koDfaJ1_19 : KnownOk Tryd.prog C knDfaJ1_19 := KnownOk.addS gok ko1 (scal_opt (enc := fun (r : Bool) => (((.b (r))) : SV Th)) (fun _ => rfl)) (known_opt (enc := fun (r : Bool) => (((.b (r))) : SV Th)) Q19 (fun _ => rfl))
-- 54 drover/dfa.classes
def H54 : List (List Nat × Hint) := [([91025], ⟨[23, 3, 21, 1, 22], [], [], [], [], [3], [], 0, []⟩),
  ([91034], ⟨[3, 6, 1], [], [], [], [], [3], [], 0, []⟩),
  ([91042, 91034], ⟨[3, 40, 8, 7, 38, 1, 6, 39], [], [], [], [], [3, 8], [], 0, []⟩),
  ([91054, 91042, 91034], ⟨[52, 3, 11, 50, 8, 7, 38, 1, 6, 39, 40, 9, 51], [], [], [], [], [3, 8], [], 0, []⟩)]
inductive L54 where
  | h0 (a0 : Dfa) (i2 : Int) (l4 : List Int)
  | h1 (a0 : Dfa) (l8 : List Int) (i16 : Int)
  | h2 (a0 : Dfa) (l9 : List Int) (i24 : Int) (l26 : List Int) (l27 : List (List UInt8 × Int)) (i28 : Int)
  | h3 (a0 : Dfa) (l13 : List Int) (l14 : List UInt8) (l15 : List Int) (i23 : Int) (i39 : Int) (i40 : Int) (i41 : Int) (l42 : List Int) (l43 : List (List UInt8 × Int))
noncomputable def m54 : L54 -> Trip Th
  | .h0 (a0) (i2) (l4) => ([(.lp 91 c54_5), (.blk 0), (.seq 91 c54_35)], [(23, (.i .i64 (i2))), (3, (.sl 3 0 0 (l4.length) .none)), (21, (.lst 4 (a0.Ends))), (1, (.ptr 1 0)), (22, (.i .i64 ((↑a0.Ends.length : Int))))], [(.arr 3 (l4)), (.box [(.i .i64 (a0.Switches)), (.lst 40 (a0.Next)), (.lst 4 (a0.Ends))])])
  | .h1 (a0) (l8) (i16) => ([(.lp 91 c54_33), (.blk 2)], [(3, (.sl 3 0 0 (l8.length) .none)), (6, (.i .i64 (i16))), (1, (.ptr 1 0))], [(.arr 3 (l8)), (.box [(.i .i64 (a0.Switches)), (.lst 40 (a0.Next)), (.lst 4 (a0.Ends))])])
  | .h2 (a0) (l9) (i24) (l26) (l27) (i28) => ([(.lp 91 c54_25), (.blk 4), (.seq 91 c54_30), (.blk 3), (.lp 91 c54_33), (.blk 2)], [(3, (.sl 3 0 0 (l9.length) .none)), (40, (.i .i64 (i24))), (8, (.sl 3 1 0 (l26.length) .none)), (7, (.mp 2)), (38, (.lst 40 (a0.Next))), (1, (.ptr 3 0)), (6, (.i .i64 (i28))), (39, (.i .i64 ((↑a0.Next.length : Int))))], [(.arr 3 (l9)), (.arr 3 (l26)), (.map 9 3 (l27)), (.box [(.i .i64 (a0.Switches)), (.lst 40 (a0.Next)), (.lst 4 (a0.Ends))])])
  | .h3 (a0) (l13) (l14) (l15) (i23) (i39) (i40) (i41) (l42) (l43) => ([(.lp 91 c54_13), (.blk 6), (.seq 91 c54_19), (.blk 5), (.seq 91 c54_22), (.lp 91 c54_25), (.blk 4), (.seq 91 c54_30), (.blk 3), (.lp 91 c54_33), (.blk 2)], [(52, (.i .i64 (i23))), (3, (.sl 3 0 0 (l13.length) .none)), (11, (.s (l14))), (50, (.lst 3 (l15))), (8, (.sl 3 1 0 (l42.length) .none)), (7, (.mp 2)), (38, (.lst 40 (a0.Next))), (1, (.ptr 3 0)), (6, (.i .i64 (i39))), (39, (.i .i64 ((↑a0.Next.length : Int)))), (40, (.i .i64 (i40))), (9, (.i .i64 (i41))), (51, (.i .i64 ((↑l15.length : Int))))], [(.arr 3 (l13)), (.arr 3 (l42)), (.map 9 3 (l43)), (.box [(.i .i64 (a0.Switches)), (.lst 40 (a0.Next)), (.lst 4 (a0.Ends))])])
noncomputable def g54 : L54 -> Cm (L54 ⊕ (List Int))
  | .h0 (a0) (i2) (l4) => (.ite (decide (i2 < (↑a0.Ends.length : Int))) (.chk ((0 : Int) <= i2) (.get (a0.Ends[i2.toNat]?) fun (y5 : Bool) => (.ite (y5) (.chk ((0 : Int) <= i2 ∧ i2 < (↑l4.length : Int)) (.get (l4[(0 : Nat) + i2.toNat]?) fun (y6 : Int) => (.chk (l4.length = (l4.set ((0 : Nat) + i2.toNat) (1 : Int)).length) (.ret (.inl (.h0 (a0) (IntKind.i64.wrap (i2 + 1)) (l4.set ((0 : Nat) + i2.toNat) (1 : Int))))))))
  (.chk (l4.length = l4.length) (.ret (.inl (.h0 (a0) (IntKind.i64.wrap (i2 + 1)) (l4))))))))
  (.chk (l4.length = l4.length) (.ret (.inl (.h1 (a0) (l4) (0))))))
  | .h1 (a0) (l8) (i16) => (.chk ((0 : Int) <= (↑l8.length : Int) ∧ (↑l8.length : Int) <= (↑l8.length : Int) ∧ (↑l8.length : Int) * (↑(8 : Nat) : Int) <= (281474976710656 : Int)) (.chk (l8.length = l8.length) (.chk ((List.replicate (↑l8.length : Int).toNat (0 : Int)).length = (List.replicate (↑l8.length : Int).toNat (0 : Int)).length) (.ret (.inl (.h2 (a0) (l8) (0) (List.replicate (↑l8.length : Int).toNat (0 : Int)) ([]) (i16)))))))
  | .h2 (a0) (l9) (i24) (l26) (l27) (i28) => (.ite (decide (i24 < (↑a0.Next.length : Int))) (.chk ((0 : Int) <= i24) (.get (a0.Next[i24.toNat]?) fun (y35 : List Int) => (.chk ((0 : Int) <= i24 ∧ i24 < (↑l9.length : Int)) (.get (l9[(0 : Nat) + i24.toNat]?) fun (y36 : Int) => (.get (f70 y36) fun (y37 : List UInt8) => (.chk (l9.length = l9.length) (.chk (l26.length = l26.length) (.ret (.inl (.h3 (a0) (l9) (y37) (y35) (0) (i28) (i24) (i24) (l26) (l27)))))))))))
  (.ite (decide ((↑l27.length : Int) = i28)) (.chk ((0 : Nat) + l26.length <= l26.length) (.ret (.inr (List.take l26.length (List.drop (0 : Nat) l26)))))
  (.chk (l26.length = l26.length) (.ret (.inl (.h1 (a0) (l26) ((↑l27.length : Int))))))))
  | .h3 (a0) (l13) (l14) (l15) (i23) (i39) (i40) (i41) (l42) (l43) => (.ite (decide (i23 < (↑l15.length : Int))) (.chk ((0 : Int) <= i23) (.get (l15[i23.toNat]?) fun (y44 : Int) => (.chk ((0 : Int) <= y44 ∧ y44 < (↑l13.length : Int)) (.get (l13[(0 : Nat) + y44.toNat]?) fun (y45 : Int) => (.get (f70 y45) fun (y46 : List UInt8) => (.chk ([(32 : UInt8)].length + y46.length <= (9223372036854775807 : Nat)) (.chk (l14.length + ([(32 : UInt8)] ++ y46).length <= (9223372036854775807 : Nat)) (.chk (l13.length = l13.length) (.chk (l42.length = l42.length) (.ret (.inl (.h3 (a0) (l13) (l14 ++ ([(32 : UInt8)] ++ y46)) (l15) (IntKind.i64.wrap (i23 + 1)) (i39) (i40) (i41) (l42) (l43)))))))))))))
  (.ite (Go.Ab.mhas l43 l14) (.get (Go.Ab.mget l43 l14) fun (y47 : Int) => (.chk ((0 : Int) <= i41 ∧ i41 < (↑l42.length : Int)) (.get (l42[(0 : Nat) + i41.toNat]?) fun (y48 : Int) => (.chk (l13.length = l13.length) (.chk (l42.length = (l42.set ((0 : Nat) + i41.toNat) y47).length) (.ret (.inl (.h2 (a0) (l13) (IntKind.i64.wrap (i40 + 1)) (l42.set ((0 : Nat) + i41.toNat) y47) (l43) (i39)))))))))
  (.chk ((0 : Int) <= i41 ∧ i41 < (↑l42.length : Int)) (.get (l42[(0 : Nat) + i41.toNat]?) fun (y49 : Int) => (.chk (l13.length = l13.length) (.chk (l42.length = (l42.set ((0 : Nat) + i41.toNat) (↑l43.length : Int)).length) (.ret (.inl (.h2 (a0) (l13) (IntKind.i64.wrap (i40 + 1)) (l42.set ((0 : Nat) + i41.toNat) (↑l43.length : Int)) (Go.Ab.mset l43 l14 (↑l43.length : Int)) (i39))))))))))
theorem E54 : ∀ s, headC C tab knDfaJ1_19 i54.rs H54 (.lst 3) 5000 (m54 s) = (g54 s).map (Sum.map m54 (fun (r : (List Int)) => (((.lst 3 (r))) : SV Th)))
  | .h0 (a0) (i2) (l4) => by kernel_rfl
  | .h1 (a0) (l8) (i16) => by kernel_rfl
  | .h2 (a0) (l9) (i24) (l26) (l27) (i28) => by kernel_rfl
  | .h3 (a0) (l13) (l14) (l15) (i23) (i39) (i40) (i41) (l42) (l43) => by kernel_rfl
noncomputable def s54 (a0 : Dfa) : Cm (L54 ⊕ (List Int)) :=
  (.chk ((0 : Int) <= (↑a0.Next.length : Int) ∧ (↑a0.Next.length : Int) <= (↑a0.Next.length : Int) ∧ (↑a0.Next.length : Int) * (↑(8 : Nat) : Int) <= (281474976710656 : Int)) (.chk ((List.replicate (↑a0.Next.length : Int).toNat (0 : Int)).length = (List.replicate (↑a0.Next.length : Int).toNat (0 : Int)).length) (.ret (.inl (.h0 (a0) (0) (List.replicate (↑a0.Next.length : Int).toNat (0 : Int)))))))
theorem ES54 (y : ATup Th [.t 36]) : startC C tab knDfaJ1_19 i54 H54 (.lst 3) 5000 (encAs G [.t 36] y) = (s54 (y.1)).map (Sum.map m54 (fun (r : (List Int)) => (((.lst 3 (r))) : SV Th))) := by kernel_rfl
noncomputable def f54 (a0 : Dfa) : Option ((List Int)) := runO g54 (s54 (a0))
theorem Q54 (y : ATup Th [.t 36]) (r : (List Int)) (h : f54 (y.1) = some r) : PCall Tryd.prog C 54 (encAs G [.t 36] y) (· = (fun (r : (List Int)) => (((.lst 3 (r))) : SV Th)) r) := runO_sound gok.ok koDfaJ1_19 tabKnows E54 k54 rfl (by kernel_rfl) (by kernel_rfl) (ES54 y) h
noncomputable def knDfaJ1_54 : KnownF Th := (54, knG G [.t 36] fun y => .get (f54 (y.1)) fun r => .ret ((fun (r : (List Int)) => (((.lst 3 (r))) : SV Th)) r)) :: knDfaJ1_19
theorem koDfaJ1_54 : KnownOk Tryd.prog C knDfaJ1_54 := KnownOk.add gok koDfaJ1_19 (known_opt (enc := fun (r : (List Int)) => (((.lst 3 (r))) : SV Th)) Q54 (fun _ => rfl))
-- 28 drover/dfa.Small
def H28 : List (List Nat × Hint) := [([66024], ⟨[22, 4, 20, 1, 2, 3, 21], [], [], [], [], [], [], 0, []⟩),
  ([75024, 1000038], ⟨[9, 10, 12, 2, 11, 1], [[4, 1, 2]], [(11, 40)], [], [], [9, 11], [], 0, []⟩),
  ([75035, 75024, 1000038], ⟨[33, 13, 9, 10, 12, 2, 1, 11, 32], [[4, 1, 2]], [], [], [], [13, 9], [], 0, []⟩),
  ([66050], ⟨[48, 10, 4, 1, 46, 2, 47], [], [(46, 3)], [(10, 1, 40), (10, 2, 4)], [], [46], [(10, 1), (10, 2)], 0, []⟩)]
inductive L28 where
  | h0 (a0 : Dfa) (l162 : List Int) (i165 : Int) (l166 : List (Int × Int))
  | h1 (a0 : Dfa) (l168 : List Int) (l171 : List (Int × Int)) (i200 : Int) (l202 : List (List Int)) (l225 : List Int) (l226 : List (Int × Int))
  | h2 (a0 : Dfa) (l173 : List Int) (l174 : List (Int × Int)) (i191 : Int) (l193 : List Int) (l198 : List Int) (l199 : List (Int × Int)) (i227 : Int) (l229 : List (List Int))
  | h3 (a0 : Dfa) (l176 : List (Int × Int)) (i195 : Int) (l196 : List Int) (i207 : Int) (l209 : List Bool) (l231 : List (List Int))
noncomputable def m28 : L28 -> Trip Th
  | .h0 (a0) (l162) (i165) (l166) => ([(.lp 66 c28_7), (.blk 0), (.seq 66 c28_20)], [(22, (.i .i64 (i165))), (4, (.ptr 0 0)), (20, (.lst 3 (l162))), (1, (.ptr 2 0)), (2, (.ptr 3 0)), (3, (.ptr 4 0)), (21, (.i .i64 ((↑l162.length : Int))))], [(.box [(.mp 1)]), (.map 3 3 (l166)), (.box [(.i .i64 (a0.Switches)), (.lst 40 (a0.Next)), (.lst 4 (a0.Ends))]), (.box [(.i .i64 0), (.v (.slice .none 0 0)), (.v (.slice .none 0 0))]), (.box [(.lst 3 (l162))])])
  | .h1 (a0) (l168) (l171) (i200) (l202) (l225) (l226) => ([(.lp 75 c55_20), (.blk 0), (.seq 75 c55_22), (.cal [(4, (.ptr 4 0)), (1, (.ptr 3 0)), (2, (.ptr 7 0))] (.some 38) [(.tmp 6), (.tmp 7), (.tmp 8)]), (.ops 66 []), (.seq 66 c28_9), (.seq 66 c28_19)], [(9, (.sl 3 0 0 (l225.length) .none)), (10, (.mp 1)), (12, (.i .i64 (i200))), (2, (.fn 56 [(.ptr 2 0), (.ptr 3 0), (.ptr 4 0)])), (11, (.sl 40 6 0 (l202.length) .none)), (1, (.i .i64 (a0.Switches)))], [(.arr 3 (l225)), (.map 3 3 (l226)), (.box [(.lst 3 (l168))]), (.box [(.i .i64 (a0.Switches)), (.lst 40 (a0.Next)), (.lst 4 (a0.Ends))]), (.box [(.mp 5)]), (.map 3 3 (l171)), (.arr 40 (l202)), (.box [(.i .i64 0), (.v (.slice .none 0 0)), (.v (.slice .none 0 0))])])
  | .h2 (a0) (l173) (l174) (i191) (l193) (l198) (l199) (i227) (l229) => ([(.lp 75 c55_14), (.blk 2), (.seq 75 c55_16), (.blk 1), (.seq 75 c55_18), (.lp 75 c55_20), (.blk 0), (.seq 75 c55_22), (.cal [(4, (.ptr 5 0)), (1, (.ptr 4 0)), (2, (.ptr 8 0))] (.some 38) [(.tmp 6), (.tmp 7), (.tmp 8)]), (.ops 66 []), (.seq 66 c28_9), (.seq 66 c28_19)], [(33, (.i .i64 (i191))), (13, (.sl 3 0 0 (l193.length) .none)), (9, (.sl 3 1 0 (l198.length) .none)), (10, (.mp 2)), (12, (.i .i64 (i227))), (2, (.fn 56 [(.ptr 3 0), (.ptr 4 0), (.ptr 5 0)])), (1, (.i .i64 (a0.Switches))), (11, (.sl 40 7 0 (l229.length) .none)), (32, (.i .i64 ((↑(List.replicate a0.Switches.toNat (0 : Int)).length : Int))))], [(.arr 3 (l193)), (.arr 3 (l198)), (.map 3 3 (l199)), (.box [(.lst 3 (l173))]), (.box [(.i .i64 (a0.Switches)), (.lst 40 (a0.Next)), (.lst 4 (a0.Ends))]), (.box [(.mp 6)]), (.map 3 3 (l174)), (.arr 40 (l229)), (.box [(.i .i64 0), (.v (.slice .none 0 0)), (.v (.slice .none 0 0))])])
  | .h3 (a0) (l176) (i195) (l196) (i207) (l209) (l231) => ([(.lp 66 c28_15), (.blk 2), (.seq 66 c28_17)], [(48, (.i .i64 (i207))), (10, (.ptr 0 0)), (4, (.ptr 3 0)), (1, (.ptr 5 0)), (46, (.sl 3 6 0 (l196.length) .none)), (2, (.ptr 7 0)), (47, (.i .i64 (i195)))], [(.box [(.i .i64 (a0.Switches)), (.sl 40 1 0 (l231.length) .none), (.sl 4 2 0 (l209.length) .none)]), (.arr 40 (l231)), (.arr 4 (l209)), (.box [(.mp 4)]), (.map 3 3 (l176)), (.box [(.i .i64 (a0.Switches)), (.lst 40 (a0.Next)), (.lst 4 (a0.Ends))]), (.arr 3 (l196)), (.box [(.i .i64 0), (.v (.slice .none 0 0)), (.v (.slice .none 0 0))])])
noncomputable def g28 : L28 -> Cm (L28 ⊕ Dfa)
  | .h0 (a0) (l162) (i165) (l166) => (.ite (decide (i165 < (↑l162.length : Int))) (.chk ((0 : Int) <= i165) (.get (l162[i165.toNat]?) fun (y169 : Int) => (.ret (.inl (.h0 (a0) (l162) (IntKind.i64.wrap (i165 + 1)) (Go.Ab.mset l166 y169 i165))))))
  (.chk ((0 : Int) <= (0 : Int)) (.get (l162[(0 : Nat)]?) fun (y170 : Int) => (.chk ((1 : Nat) = [y170].length) (.chk (@Eq Nat (@OfNat.ofNat Nat (nat_lit 0) (instOfNatNat (nat_lit 0))) (@List.length (Th (@OfNat.ofNat Nat (nat_lit 40) (instOfNatNat (nat_lit 40)))) (@List.nil (Th (@OfNat.ofNat Nat (nat_lit 40) (instOfNatNat (nat_lit 40))))))) (.ret (.inl (.h1 (a0) (l162) (l166) (0) ([]) ([y170]) (Go.Ab.mset [] y170 (0 : Int))))))))))
  | .h1 (a0) (l168) (l171) (i200) (l202) (l225) (l226) => (.ite (decide (i200 < (↑l225.length : Int))) (.chk ((0 : Int) <= a0.Switches ∧ a0.Switches <= a0.Switches ∧ a0.Switches * (↑(8 : Nat) : Int) <= (281474976710656 : Int)) (.chk ((List.replicate a0.Switches.toNat (0 : Int)).length = (List.replicate a0.Switches.toNat (0 : Int)).length) (.chk (l225.length = l225.length) (.ret (.inl (.h2 (a0) (l168) (l171) (0) (List.replicate a0.Switches.toNat (0 : Int)) (l225) (l226) (i200) (l202)))))))
  (.chk (l225.length = l225.length) (.chk (l202.length = l202.length) (.chk (@Eq Nat (@OfNat.ofNat Nat (nat_lit 0) (instOfNatNat (nat_lit 0))) (@List.length (Th (@OfNat.ofNat Nat (nat_lit 4) (instOfNatNat (nat_lit 4)))) (@List.nil (Th (@OfNat.ofNat Nat (nat_lit 4) (instOfNatNat (nat_lit 4))))))) (.ret (.inl (.h3 (a0) (l171) ((↑l225.length : Int)) (l225) (0) ([]) (l202))))))))
  | .h2 (a0) (l173) (l174) (i191) (l193) (l198) (l199) (i227) (l229) => (.ite (decide (i191 < (↑(List.replicate a0.Switches.toNat (0 : Int)).length : Int))) (.chk ((0 : Int) <= i227 ∧ i227 < (↑l198.length : Int)) (.get (l198[(0 : Nat) + i227.toNat]?) fun (y236 : Int) => (.ite (Go.Ab.mhas l174 y236) (.get (Go.Ab.mget l174 y236) fun (y237 : Int) => (.chk ((0 : Int) <= y237) (.get (a0.Next[y237.toNat]?) fun (y238 : List Int) => (.chk ((0 : Int) <= IntKind.i64.wrap (IntKind.i64.wrap (i191 + (1 : Int)) - (1 : Int))) (.get (y238[(IntKind.i64.wrap (IntKind.i64.wrap (i191 + (1 : Int)) - (1 : Int))).toNat]?) fun (y239 : Int) => (.chk ((0 : Int) <= y239) (.get (l173[y239.toNat]?) fun (y240 : Int) => (.ite (Go.Ab.mhas l199 y240) (.get (Go.Ab.mget l199 y240) fun (y241 : Int) => (.chk ((0 : Int) <= i191 ∧ i191 < (↑l193.length : Int)) (.get (l193[(0 : Nat) + i191.toNat]?) fun (y242 : Int) => (.chk (l193.length = (l193.set ((0 : Nat) + i191.toNat) y241).length) (.chk (l198.length = l198.length) (.ret (.inl (.h2 (a0) (l173) (l174) (IntKind.i64.wrap (i191 + 1)) (l193.set ((0 : Nat) + i191.toNat) y241) (l198) (l199) (i227) (l229)))))))))
  (.ite (decide ((↑l198.length : Int) = (256 : Int))) (.chk (@Eq Nat (@OfNat.ofNat Nat (nat_lit 0) (instOfNatNat (nat_lit 0))) (@List.length (Th (@OfNat.ofNat Nat (nat_lit 3) (instOfNatNat (nat_lit 3)))) (@List.nil (Th (@OfNat.ofNat Nat (nat_lit 3) (instOfNatNat (nat_lit 3))))))) (.chk (@Eq Nat (@OfNat.ofNat Nat (nat_lit 0) (instOfNatNat (nat_lit 0))) (@List.length (Th (@OfNat.ofNat Nat (nat_lit 40) (instOfNatNat (nat_lit 40)))) (@List.nil (Th (@OfNat.ofNat Nat (nat_lit 40) (instOfNatNat (nat_lit 40))))))) (.chk (@Eq Nat (@OfNat.ofNat Nat (nat_lit 0) (instOfNatNat (nat_lit 0))) (@List.length (Th (@OfNat.ofNat Nat (nat_lit 4) (instOfNatNat (nat_lit 4)))) (@List.nil (Th (@OfNat.ofNat Nat (nat_lit 4) (instOfNatNat (nat_lit 4))))))) (.ret (.inl (.h3 (a0) (l174) (0) ([]) (0) ([]) ([])))))))
  (.chk ((1 : Nat) <= [y240].length) (.chk (l198.length = l198.length ∧ (l198.length + (List.take (1 : Nat) (List.drop (0 : Nat) [y240])).length) * (8 : Nat) <= nat_lit 140737488355328 ∧ l198.length + (List.take (1 : Nat) (List.drop (0 : Nat) [y240])).length <= nat_lit 140737488355328) (.chk ((0 : Int) <= i191 ∧ i191 < (↑l193.length : Int)) (.get (l193[(0 : Nat) + i191.toNat]?) fun (y243 : Int) => (.chk (l193.length = (l193.set ((0 : Nat) + i191.toNat) (↑l198.length : Int)).length) (.chk ((l198 ++ List.take (1 : Nat) (List.drop (0 : Nat) [y240])).length = (l198 ++ List.take (1 : Nat) (List.drop (0 : Nat) [y240])).length) (.ret (.inl (.h2 (a0) (l173) (l174) (IntKind.i64.wrap (i191 + 1)) (l193.set ((0 : Nat) + i191.toNat) (↑l198.length : Int)) (l198 ++ List.take (1 : Nat) (List.drop (0 : Nat) [y240])) (Go.Ab.mset l199 y240 (↑l198.length : Int)) (i227) (l229)))))))))))))))))))
  (.chk ((0 : Int) <= (0 : Int)) (.get (a0.Next[(0 : Nat)]?) fun (y244 : List Int) => (.chk ((0 : Int) <= IntKind.i64.wrap (IntKind.i64.wrap (i191 + (1 : Int)) - (1 : Int))) (.get (y244[(IntKind.i64.wrap (IntKind.i64.wrap (i191 + (1 : Int)) - (1 : Int))).toNat]?) fun (y245 : Int) => (.chk ((0 : Int) <= y245) (.get (l173[y245.toNat]?) fun (y246 : Int) => (.ite (Go.Ab.mhas l199 y246) (.get (Go.Ab.mget l199 y246) fun (y247 : Int) => (.chk ((0 : Int) <= i191 ∧ i191 < (↑l193.length : Int)) (.get (l193[(0 : Nat) + i191.toNat]?) fun (y248 : Int) => (.chk (l193.length = (l193.set ((0 : Nat) + i191.toNat) y247).length) (.chk (l198.length = l198.length) (.ret (.inl (.h2 (a0) (l173) (l174) (IntKind.i64.wrap (i191 + 1)) (l193.set ((0 : Nat) + i191.toNat) y247) (l198) (l199) (i227) (l229)))))))))
  (.ite (decide ((↑l198.length : Int) = (256 : Int))) (.chk (@Eq Nat (@OfNat.ofNat Nat (nat_lit 0) (instOfNatNat (nat_lit 0))) (@List.length (Th (@OfNat.ofNat Nat (nat_lit 3) (instOfNatNat (nat_lit 3)))) (@List.nil (Th (@OfNat.ofNat Nat (nat_lit 3) (instOfNatNat (nat_lit 3))))))) (.chk (@Eq Nat (@OfNat.ofNat Nat (nat_lit 0) (instOfNatNat (nat_lit 0))) (@List.length (Th (@OfNat.ofNat Nat (nat_lit 40) (instOfNatNat (nat_lit 40)))) (@List.nil (Th (@OfNat.ofNat Nat (nat_lit 40) (instOfNatNat (nat_lit 40))))))) (.chk (@Eq Nat (@OfNat.ofNat Nat (nat_lit 0) (instOfNatNat (nat_lit 0))) (@List.length (Th (@OfNat.ofNat Nat (nat_lit 4) (instOfNatNat (nat_lit 4)))) (@List.nil (Th (@OfNat.ofNat Nat (nat_lit 4) (instOfNatNat (nat_lit 4))))))) (.ret (.inl (.h3 (a0) (l174) (0) ([]) (0) ([]) ([])))))))
  (.chk ((1 : Nat) <= [y246].length) (.chk (l198.length = l198.length ∧ (l198.length + (List.take (1 : Nat) (List.drop (0 : Nat) [y246])).length) * (8 : Nat) <= nat_lit 140737488355328 ∧ l198.length + (List.take (1 : Nat) (List.drop (0 : Nat) [y246])).length <= nat_lit 140737488355328) (.chk ((0 : Int) <= i191 ∧ i191 < (↑l193.length : Int)) (.get (l193[(0 : Nat) + i191.toNat]?) fun (y249 : Int) => (.chk (l193.length = (l193.set ((0 : Nat) + i191.toNat) (↑l198.length : Int)).length) (.chk ((l198 ++ List.take (1 : Nat) (List.drop (0 : Nat) [y246])).length = (l198 ++ List.take (1 : Nat) (List.drop (0 : Nat) [y246])).length) (.ret (.inl (.h2 (a0) (l173) (l174) (IntKind.i64.wrap (i191 + 1)) (l193.set ((0 : Nat) + i191.toNat) (↑l198.length : Int)) (l198 ++ List.take (1 : Nat) (List.drop (0 : Nat) [y246])) (Go.Ab.mset l199 y246 (↑l198.length : Int)) (i227) (l229)))))))))))))))))))))
  (.chk ((0 : Nat) + l193.length <= l193.length ∧ ((0 : Nat) + l193.length).le l193.length) (.chk ((1 : Nat) <= [List.take l193.length (List.drop (0 : Nat) l193)].length) (.chk (l229.length = l229.length ∧ (l229.length + (List.take (1 : Nat) (List.drop (0 : Nat) [List.take l193.length (List.drop (0 : Nat) l193)])).length) * (24 : Nat) <= nat_lit 140737488355328 ∧ l229.length + (List.take (1 : Nat) (List.drop (0 : Nat) [List.take l193.length (List.drop (0 : Nat) l193)])).length <= nat_lit 140737488355328) (.chk (l198.length = l198.length) (.chk ((l229 ++ List.take (1 : Nat) (List.drop (0 : Nat) [List.take l193.length (List.drop (0 : Nat) l193)])).length = (l229 ++ List.take (1 : Nat) (List.drop (0 : Nat) [List.take l193.length (List.drop (0 : Nat) l193)])).length) (.ret (.inl (.h1 (a0) (l173) (l174) (IntKind.i64.wrap (i227 + 1)) (l229 ++ List.take (1 : Nat) (List.drop (0 : Nat) [List.take l193.length (List.drop (0 : Nat) l193)])) (l198) (l199))))))))))
  | .h3 (a0) (l176) (i195) (l196) (i207) (l209) (l231) => (.ite (decide (i207 < i195)) (.chk ((0 : Int) <= i207 ∧ i207 < (↑l196.length : Int)) (.get (l196[(0 : Nat) + i207.toNat]?) fun (y232 : Int) => (.ite (Go.Ab.mhas l176 y232) (.get (Go.Ab.mget l176 y232) fun (y233 : Int) => (.chk ((0 : Int) <= y233) (.get (a0.Ends[y233.toNat]?) fun (y234 : Bool) => (.chk ((1 : Nat) <= [y234].length) (.chk (l209.length = l209.length ∧ (l209.length + (List.take (1 : Nat) (List.drop (0 : Nat) [y234])).length) * (1 : Nat) <= nat_lit 140737488355328 ∧ l209.length + (List.take (1 : Nat) (List.drop (0 : Nat) [y234])).length <= nat_lit 140737488355328) (.chk (l196.length = l196.length) (.chk (l231.length = l231.length) (.chk ((l209 ++ List.take (1 : Nat) (List.drop (0 : Nat) [y234])).length = (l209 ++ List.take (1 : Nat) (List.drop (0 : Nat) [y234])).length) (.ret (.inl (.h3 (a0) (l176) (i195) (l196) (IntKind.i64.wrap (i207 + 1)) (l209 ++ List.take (1 : Nat) (List.drop (0 : Nat) [y234])) (l231))))))))))))
  (.chk ((0 : Int) <= (0 : Int)) (.get (a0.Ends[(0 : Nat)]?) fun (y235 : Bool) => (.chk ((1 : Nat) <= [y235].length) (.chk (l209.length = l209.length ∧ (l209.length + (List.take (1 : Nat) (List.drop (0 : Nat) [y235])).length) * (1 : Nat) <= nat_lit 140737488355328 ∧ l209.length + (List.take (1 : Nat) (List.drop (0 : Nat) [y235])).length <= nat_lit 140737488355328) (.chk (l196.length = l196.length) (.chk (l231.length = l231.length) (.chk ((l209 ++ List.take (1 : Nat) (List.drop (0 : Nat) [y235])).length = (l209 ++ List.take (1 : Nat) (List.drop (0 : Nat) [y235])).length) (.ret (.inl (.h3 (a0) (l176) (i195) (l196) (IntKind.i64.wrap (i207 + 1)) (l209 ++ List.take (1 : Nat) (List.drop (0 : Nat) [y235])) (l231))))))))))))))
  (.chk ((0 : Nat) + l231.length <= l231.length) (.chk ((0 : Nat) + l209.length <= l209.length) (.ret (.inr ⟨(a0.Switches), (List.take l231.length (List.drop (0 : Nat) l231)), (List.take l209.length (List.drop (0 : Nat) l209))⟩)))))
theorem E28 : ∀ s, headC C tab knDfaJ1_54 i28.rs H28 (.agg [.i .i64, .lst 40, .lst 4]) 5000 (m28 s) = (g28 s).map (Sum.map m28 (fun (r : Dfa) => (((.agg (cellsG (G.ty 36) (G.to 36 (r))))) : SV Th)))
  | .h0 (a0) (l162) (i165) (l166) => by kernel_rfl
  | .h1 (a0) (l168) (l171) (i200) (l202) (l225) (l226) => by kernel_rfl
  | .h2 (a0) (l173) (l174) (i191) (l193) (l198) (l199) (i227) (l229) => by kernel_rfl
  | .h3 (a0) (l176) (i195) (l196) (i207) (l209) (l231) => by kernel_rfl
noncomputable def s28 (a0 : Dfa) : Cm (L28 ⊕ Dfa) :=
  (.get (f19 a0) fun (y160 : Bool) => (.ite (!y160) (.ret (.inr ⟨(0), ([]), ([])⟩))
  (.get (f54 a0) fun (y161 : List Int) => (.ret (.inl (.h0 (a0) (y161) (0) ([])))))))
theorem ES28 (y : ATup Th [.t 36]) : startC C tab knDfaJ1_54 i28 H28 (.agg [.i .i64, .lst 40, .lst 4]) 5000 (encAs G [.t 36] y) = (s28 (y.1)).map (Sum.map m28 (fun (r : Dfa) => (((.agg (cellsG (G.ty 36) (G.to 36 (r))))) : SV Th))) := by kernel_rfl
noncomputable def f28 (a0 : Dfa) : Option (Dfa) := runO g28 (s28 (a0))
theorem Q28 (y : ATup Th [.t 36]) (r : Dfa) (h : f28 (y.1) = some r) : PCall Tryd.prog C 28 (encAs G [.t 36] y) (· = (fun (r : Dfa) => (((.agg (cellsG (G.ty 36) (G.to 36 (r))))) : SV Th)) r) := runO_sound gok.ok koDfaJ1_54 tabKnows E28 k28 rfl (by kernel_rfl) (by kernel_rfl) (ES28 y) h
noncomputable def knDfaJ1_28 : KnownF Th := (28, knG G [.t 36] fun y => .get (f28 (y.1)) fun r => .ret ((fun (r : Dfa) => (((.agg (cellsG (G.ty 36) (G.to 36 (r))))) : SV Th)) r)) :: knDfaJ1_54
theorem koDfaJ1_28 : KnownOk Tryd.prog C knDfaJ1_28 := KnownOk.add gok koDfaJ1_54 (known_opt (enc := fun (r : Go.Proofs.Dfa.Dfa) => (((.agg (cellsG (G.ty 36) (G.to 36 (r))))) : SV Th)) Q28 (fun _ => rfl))
-- 31 drover/dfa.Same
def H31 : List (List Nat × Hint) := [([77044], ⟨[6, 42, 5, 40, 41], [], [], [], [], [], [], 0, []⟩),
  ([77062, 77044], ⟨[60, 7, 6, 58, 5, 40, 41, 42, 59], [], [], [], [], [], [], 0, []⟩)]
inductive L31 where
  | h0 (x4 : Dfa) (x5 : Dfa) (i16 : Int)
  | h1 (l9 : List Int) (x10 : Dfa) (x11 : Dfa) (i15 : Int) (i23 : Int) (i24 : Int)
noncomputable def m31 : L31 -> Trip Th
  | .h0 (x4) (x5) (i16) => ([(.lp 77 c31_16), (.blk 0), (.seq 77 c31_18)], [(6, (.ptr 0 0)), (42, (.i .i64 (i16))), (5, (.ptr 1 0)), (40, (.lst 40 (x4.Next))), (41, (.i .i64 ((↑x4.Next.length : Int))))], [(.box [(.i .i64 (x5.Switches)), (.lst 40 (x5.Next)), (.lst 4 (x5.Ends))]), (.box [(.i .i64 (x4.Switches)), (.lst 40 (x4.Next)), (.lst 4 (x4.Ends))])])
  | .h1 (l9) (x10) (x11) (i15) (i23) (i24) => ([(.lp 77 c31_9), (.blk 2), (.blk 1), (.seq 77 c31_13), (.lp 77 c31_16), (.blk 0), (.seq 77 c31_18)], [(60, (.i .i64 (i15))), (7, (.i .i64 (i23))), (6, (.ptr 0 0)), (58, (.lst 3 (l9))), (5, (.ptr 1 0)), (40, (.lst 40 (x10.Next))), (41, (.i .i64 ((↑x10.Next.length : Int)))), (42, (.i .i64 (i24))), (59, (.i .i64 ((↑l9.length : Int))))], [(.box [(.i .i64 (x11.Switches)), (.lst 40 (x11.Next)), (.lst 4 (x11.Ends))]), (.box [(.i .i64 (x10.Switches)), (.lst 40 (x10.Next)), (.lst 4 (x10.Ends))])])
noncomputable def g31 : L31 -> Cm (L31 ⊕ Bool)
  | .h0 (x4) (x5) (i16) => (.ite (decide (i16 < (↑x4.Next.length : Int))) (.chk ((0 : Int) <= i16) (.get (x4.Next[i16.toNat]?) fun (y20 : List Int) => (.chk ((0 : Int) <= i16) (.get (x4.Ends[i16.toNat]?) fun (y21 : Bool) => (.chk ((0 : Int) <= i16) (.get (x5.Ends[i16.toNat]?) fun (y22 : Bool) => (.ite (!y21 == y22) (.ret (.inr (Bool.false)))
  (.ret (.inl (.h1 (y20) (x4) (x5) (0) (i16) (i16)))))))))))
  (.ret (.inr (Bool.true))))
  | .h1 (l9) (x10) (x11) (i15) (i23) (i24) => (.ite (decide (i15 < (↑l9.length : Int))) (.chk ((0 : Int) <= i15) (.get (l9[i15.toNat]?) fun (y25 : Int) => (.chk ((0 : Int) <= i23) (.get (x11.Next[i23.toNat]?) fun (y26 : List Int) => (.chk ((0 : Int) <= i15) (.get (y26[i15.toNat]?) fun (y27 : Int) => (.ite (!decide (y27 = y25)) (.ret (.inr (Bool.false)))
  (.ret (.inl (.h1 (l9) (x10) (x11) (IntKind.i64.wrap (i15 + 1)) (i23) (i24)))))))))))
  (.ret (.inl (.h0 (x10) (x11) (IntKind.i64.wrap (i24 + 1))))))
theorem E31 : ∀ s, headC C tab knDfaJ1_28 i31.rs H31 .b 5000 (m31 s) = (g31 s).map (Sum.map m31 (fun (r : Bool) => (((.b (r))) : SV Th)))
  | .h0 (x4) (x5) (i16) => by kernel_rfl
  | .h1 (l9) (x10) (x11) (i15) (i23) (i24) => by kernel_rfl
noncomputable def s31 (a0 : Dfa) (a1 : Dfa) : Cm (L31 ⊕ Bool) :=
  (.get (f28 a0) fun (y0 : Dfa) => (.get (f28 a1) fun (y1 : Dfa) => (.get (f19 a0) fun (y2 : Bool) => (.ite (!y2) (.ret (.inr (Bool.false)))
  (.get (f19 a1) fun (y3 : Bool) => (.ite (!y3) (.ret (.inr (Bool.false)))
  (.ite (!decide (y0.Switches = y1.Switches)) (.ret (.inr (Bool.false)))
  (.ite (!decide ((↑y0.Next.length : Int) = (↑y1.Next.length : Int))) (.ret (.inr (Bool.false)))
  (.ret (.inl (.h0 (y0) (y1) (0))))))))))))
theorem ES31 (y : ATup Th [.t 36, .t 36]) : startC C tab knDfaJ1_28 i31 H31 .b 5000 (encAs G [.t 36, .t 36] y) = (s31 (y.1) (y.2.1)).map (Sum.map m31 (fun (r : Bool) => (((.b (r))) : SV Th))) := by kernel_rfl
noncomputable def f31 (a0 : Dfa) (a1 : Dfa) : Option (Bool) := runO g31 (s31 (a0) (a1))
theorem Q31 (y : ATup Th [.t 36, .t 36]) (r : Bool) (h : f31 (y.1) (y.2.1) = some r) : PCall Tryd.prog C 31 (encAs G [.t 36, .t 36] y) (· = (fun (r : Bool) => (((.b (r))) : SV Th)) r) := runO_sound gok.ok koDfaJ1_28 tabKnows E31 k31 rfl (by kernel_rfl) (by kernel_rfl) (ES31 y) h
noncomputable def knDfaJ1_31 : KnownF Th := (31, knS G [.t 36, .t 36] fun y => .get (f31 (y.1) (y.2.1)) fun r => .ret ((fun (r : Bool) => (((.b (r))) : SV Th)) r)) :: knDfaJ1_28
theorem koDfaJ1_31 : KnownOk Tryd.prog C knDfaJ1_31 := KnownOk.addS gok koDfaJ1_28 (scal_opt (enc := fun (r : Bool) => (((.b (r))) : SV Th)) (fun _ => rfl)) (known_opt (enc := fun (r : Bool) => (((.b (r))) : SV Th)) Q31 (fun _ => rfl))
noncomputable def kn_DfaJ1 : KnownF Th := knDfaJ1_31
theorem ko_DfaJ1 : KnownOk Tryd.prog C kn_DfaJ1 := koDfaJ1_31
end Go.Proofs.Dfa
