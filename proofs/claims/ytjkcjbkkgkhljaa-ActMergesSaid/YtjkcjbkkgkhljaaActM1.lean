/- A part of a law's proof: ActM1. -/
import Derived.KernelRfl
import Derived.Test.YtjkcjbkkgkhljaaActM0
import Derived.Test.YtjkcjbkkgkhljaaActTy
import Derived.Test.YtjkcjbkkgkhljaaActXTab
import Derived.Test.YtjkcjbkkgkhljaaSvEff5
import Derived.Test.YtjkcjbkkgkhljaaSvLoop
set_option linter.constructorNameAsVariable false
namespace Go.Proofs.Act
open Go Go.Ab Go.Proofs
set_option linter.unusedVariables false
set_option linter.unusedSimpArgs false
set_option maxHeartbeats 4000000
set_option maxRecDepth 100000
-- 11 slices.Concat[[]drover/api.Action,drover/api.Action]
def H11 : List (List Nat × Hint) := [([36013], ⟨[11, 3, 9, 0, 10], [], [], [], [], [], [], 0, []⟩),
  ([36029], ⟨[27, 6, 25, 26], [], [], [], [], [6], [], 0, []⟩)]
inductive L11 where
  | h0 (a0 : List (List Action)) (i1 : Int) (i2 : Int)
  | h1 (a0 : List (List Action)) (i5 : Int) (l7 : List Action)
noncomputable def m11 : L11 -> Trip Th
  | .h0 (a0) (i1) (i2) => ([(.lp 36 c11_6), (.blk 0), (.seq 36 c11_17)], [(11, (.i .i64 (i1))), (3, (.i .i64 (i2))), (9, (.lst 22 (a0))), (0, (.lst 22 (a0))), (10, (.i .i64 ((↑a0.length : Int))))], [])
  | .h1 (a0) (i5) (l7) => ([(.lp 36 c11_13), (.blk 2), (.seq 36 c11_15)], [(27, (.i .i64 (i5))), (6, (.sl 29 0 0 (l7.length) .none)), (25, (.lst 22 (a0))), (26, (.i .i64 ((↑a0.length : Int))))], [(.arr 29 (l7))])
noncomputable def g11 : L11 -> Cm (L11 ⊕ (RTup Th [.row 29] × OTup Th []))
  | .h0 (a0) (i1) (i2) => (.ite (decide (i1 < (↑a0.length : Int))) (.chk ((0 : Int) <= i1) (.get (a0[i1.toNat]?) fun (y3 : List Action) => (.ite (decide (IntKind.i64.wrap (i2 + (↑y3.length : Int)) < (0 : Int))) .no
  (.ret (.inl (.h0 (a0) (IntKind.i64.wrap (i1 + 1)) (IntKind.i64.wrap (i2 + (↑y3.length : Int)))))))))
  (.chk ((0 : Int) <= i2 ∧ i2 * (↑(24 : Nat) : Int) <= (140737488355328 : Int) ∧ i2 <= (140737488355328 : Int)) (.chk (@Eq Nat (@OfNat.ofNat Nat (nat_lit 0) (instOfNatNat (nat_lit 0))) (@List.length (Th (@OfNat.ofNat Nat (nat_lit 29) (instOfNatNat (nat_lit 29)))) (@List.nil (Th (@OfNat.ofNat Nat (nat_lit 29) (instOfNatNat (nat_lit 29))))))) (.ret (.inl (.h1 (a0) (0) ([])))))))
  | .h1 (a0) (i5) (l7) => (.ite (decide (i5 < (↑a0.length : Int))) (.chk ((0 : Int) <= i5) (.get (a0[i5.toNat]?) fun (y8 : List Action) => (.chk (l7.length = l7.length ∧ (l7.length + y8.length) * (24 : Nat) <= nat_lit 140737488355328 ∧ l7.length + y8.length <= nat_lit 140737488355328) (.chk ((l7 ++ y8).length = (l7 ++ y8).length) (.ret (.inl (.h1 (a0) (IntKind.i64.wrap (i5 + 1)) (l7 ++ y8))))))))
  (.chk (l7.length = l7.length) (.ret (.inr (((l7, ()), ()))))))
theorem E11 : ∀ s, headE G tab kn_ActM0 i11.rs [] [.row 29] H11 5000 (m11 s) = (g11 s).map (Sum.map m11 (fun (r : (RTup Th [.row 29] × OTup Th [])) => r))
  | .h0 (a0) (i1) (i2) => by kernel_rfl
  | .h1 (a0) (i5) (l7) => by kernel_rfl
noncomputable def s11 (a0 : List (List Action)) : Cm (L11 ⊕ (RTup Th [.row 29] × OTup Th [])) :=
  (.ret (.inl (.h0 (a0) (0) (0))))
theorem ES11 (a0 : List (List Action)) : startE G tab kn_ActM0 i11 [] [.row 29] H11 5000 (encE G [.p (.l 22)] (a0, ())) (encH [] (())) = (s11 (a0)).map (Sum.map m11 (fun (r : (RTup Th [.row 29] × OTup Th [])) => r)) := by kernel_rfl
noncomputable def f11 (a0 : List (List Action)) : Option (RTup Th [.row 29] × OTup Th []) := runO (g11) (s11 (a0))
theorem Q11 (y : ETup Th [.p (.l 22)]) (x : OTup Th []) (r : (RTup Th [.row 29] × OTup Th [])) (h : f11 (y.1) = some r) : ECall Try.prog G 11 [] (encE G [.p (.l 22)] y) x [.row 29] (fun a b => (a, b) = r) := runE_sound gok ko_ActM0 tabKnows (E11) k11 rfl (by kernel_rfl) (ES11 (y.1)) h
noncomputable def R11 : (ETup Th [.p (.l 22)] -> OTup Th [] -> Option (RTup Th [.row 29] × OTup Th [])) := fun y x => f11 (y.1)
noncomputable def knActM1_11 : KnownF Th := (11, .eff [true] (effE G [] [.p (.l 22)] [.row 29] R11)) :: kn_ActM0
theorem koActM1_11 : KnownOk Try.prog C knActM1_11 := KnownOk.addE ko_ActM0 (effE_ok gok fun y x r h => Q11 y x r h)
-- 36 slices.insertionSortCmpFunc[drover/api.Action]
def H36 : List (List Nat × Hint) := [([53013], ⟨[0, 8, 3, 1, 2], [], [], [], [], [], [], 1, []⟩),
  ([53019, 53013], ⟨[9, 0, 3, 1, 2, 8], [], [], [], [], [], [], 1, []⟩)]
inductive L36 where
  | h0 (a0 : Nat) (a1 : Int) (a2 : Int) (i28 : Int) (l36 : List Action)
  | h1 (a0 : Nat) (a1 : Int) (a2 : Int) (i26 : Int) (l27 : List Action) (i37 : Int)
noncomputable def m36 : L36 -> Trip Th
  | .h0 (a0) (a1) (a2) (i28) (l36) => ([(.lp 53 c36_10), (.blk 0)], [(0, (.sl 29 0 0 (a0) .none)), (8, (.i .i64 (i28))), (3, (.fn 16 [])), (1, (.i .i64 (a1))), (2, (.i .i64 (a2)))], [(.arr 29 (l36))])
  | .h1 (a0) (a1) (a2) (i26) (l27) (i37) => ([(.lp 53 c36_6), (.blk 2), (.blk 1), (.seq 53 c36_8), (.lp 53 c36_10), (.blk 0)], [(9, (.i .i64 (i26))), (0, (.sl 29 0 0 (a0) .none)), (3, (.fn 16 [])), (1, (.i .i64 (a1))), (2, (.i .i64 (a2))), (8, (.i .i64 (i37)))], [(.arr 29 (l27))])
noncomputable def g36 : L36 -> Cm (L36 ⊕ (RTup Th [] × OTup Th [.row 29]))
  | .h0 (a0) (a1) (a2) (i28) (l36) => (.ite (decide (i28 < a2)) (.ret (.inl (.h1 (a0) (a1) (a2) (i28) (l36) (i28))))
  (.ret (.inr (((), l36, ())))))
  | .h1 (a0) (a1) (a2) (i26) (l27) (i37) => (.ite (decide (a1 < i26)) (.chk ((0 : Int) <= i26 ∧ i26 < (↑a0 : Int)) (.get (l27[(0 : Nat) + i26.toNat]?) fun (y38 : Action) => (.chk ((0 : Int) <= IntKind.i64.wrap (i26 - (1 : Int)) ∧ IntKind.i64.wrap (i26 - (1 : Int)) < (↑a0 : Int)) (.get (l27[(0 : Nat) + (IntKind.i64.wrap (i26 - (1 : Int))).toNat]?) fun (y39 : Action) => (.get (f16 y38 y39) fun (y40 : Int) => (.ite (decide (y40 < 0)) (.chk ((0 : Int) <= IntKind.i64.wrap (i26 - (1 : Int)) ∧ IntKind.i64.wrap (i26 - (1 : Int)) < (↑a0 : Int)) (.get (l27[(0 : Nat) + (IntKind.i64.wrap (i26 - (1 : Int))).toNat]?) fun (y41 : Action) => (.chk ((0 : Int) <= i26 ∧ i26 < (↑a0 : Int)) (.get (l27[(0 : Nat) + i26.toNat]?) fun (y42 : Action) => (.chk ((0 : Int) <= i26 ∧ i26 < (↑a0 : Int)) (.get (l27[(0 : Nat) + i26.toNat]?) fun (y43 : Action) => (.chk ((0 : Int) <= IntKind.i64.wrap (i26 - (1 : Int)) ∧ IntKind.i64.wrap (i26 - (1 : Int)) < (↑a0 : Int)) (.get ((l27.set ((0 : Nat) + i26.toNat) y41)[(0 : Nat) + (IntKind.i64.wrap (i26 - (1 : Int))).toNat]?) fun (y44 : Action) => (.ret (.inl (.h1 (a0) (a1) (a2) (IntKind.i64.wrap (i26 - 1)) ((l27.set ((0 : Nat) + i26.toNat) y41).set ((0 : Nat) + (IntKind.i64.wrap (i26 - (1 : Int))).toNat) y42) (i37))))))))))))
  (.ret (.inl (.h0 (a0) (a1) (a2) (IntKind.i64.wrap (i37 + 1)) (l27))))))))))
  (.ret (.inl (.h0 (a0) (a1) (a2) (IntKind.i64.wrap (i37 + 1)) (l27)))))
theorem E36 : ∀ s, headE G tab knActM1_11 i36.rs [.row 29] [] H36 5000 (m36 s) = (g36 s).map (Sum.map m36 (fun (r : (RTup Th [] × OTup Th [.row 29])) => r))
  | .h0 (a0) (a1) (a2) (i28) (l36) => by kernel_rfl
  | .h1 (a0) (a1) (a2) (i26) (l27) (i37) => by kernel_rfl
noncomputable def s36 (a0 : Nat) (a1 : Int) (a2 : Int) (x0 : List Action) : Cm (L36 ⊕ (RTup Th [] × OTup Th [.row 29])) :=
  (.ret (.inl (.h0 (a0) (a1) (a2) (IntKind.i64.wrap (a1 + 1)) (x0))))
theorem ES36 (a0 : Nat) (a1 : Int) (a2 : Int) (x0 : List Action) : startE G tab knActM1_11 i36 [.row 29] [] H36 5000 (encE G [.row 29 0, .p (.i .i64), .p (.i .i64), .fn 16] (a0, a1, a2, (), ())) (encH [.row 29] (x0, ())) = (s36 (a0) (a1) (a2) (x0)).map (Sum.map m36 (fun (r : (RTup Th [] × OTup Th [.row 29])) => r)) := by kernel_rfl
noncomputable def f36 (a0 : Nat) (a1 : Int) (a2 : Int) (x0 : List Action) : Option (RTup Th [] × OTup Th [.row 29]) := runO (g36) (s36 (a0) (a1) (a2) (x0))
theorem Q36 (y : ETup Th [.row 29 0, .p (.i .i64), .p (.i .i64), .fn 16]) (x : OTup Th [.row 29]) (r : (RTup Th [] × OTup Th [.row 29])) (h : f36 (y.1) (y.2.1) (y.2.2.1) (x.1) = some r) : ECall Try.prog G 36 [.row 29] (encE G [.row 29 0, .p (.i .i64), .p (.i .i64), .fn 16] y) x [] (fun a b => (a, b) = r) := runE_sound gok koActM1_11 tabKnows (E36) k36 rfl (by kernel_rfl) (ES36 (y.1) (y.2.1) (y.2.2.1) (x.1)) h
noncomputable def R36 : (ETup Th [.row 29 0, .p (.i .i64), .p (.i .i64), .fn 16] -> OTup Th [.row 29] -> Option (RTup Th [] × OTup Th [.row 29])) := fun y x => f36 (y.1) (y.2.1) (y.2.2.1) (x.1)
noncomputable def knActM1_36 : KnownF Th := (36, .eff [false, true, true, false] (effE G [.row 29] [.row 29 0, .p (.i .i64), .p (.i .i64), .fn 16] [] R36)) :: knActM1_11
theorem koActM1_36 : KnownOk Try.prog C knActM1_36 := KnownOk.addE koActM1_11 (effE_ok gok fun y x r h => Q36 y x r h)
-- 50 slices.swapRangeCmpFunc[drover/api.Action]
def H50 : List (List Nat × Hint) := [([38012], ⟨[10, 1, 0, 2, 3], [], [], [], [], [], [], 1, []⟩)]
inductive L50 where
  | h0 (a0 : Nat) (a1 : Int) (a2 : Int) (a3 : Int) (i4 : Int) (l5 : List Action)
noncomputable def m50 : L50 -> Trip Th
  | .h0 (a0) (a1) (a2) (a3) (i4) (l5) => ([(.lp 38 c50_3), (.blk 0)], [(10, (.i .i64 (i4))), (1, (.i .i64 (a1))), (0, (.sl 29 0 0 (a0) .none)), (2, (.i .i64 (a2))), (3, (.i .i64 (a3)))], [(.arr 29 (l5))])
noncomputable def g50 : L50 -> Cm (L50 ⊕ (RTup Th [] × OTup Th [.row 29]))
  | .h0 (a0) (a1) (a2) (a3) (i4) (l5) => (.ite (decide (i4 < a3)) (.chk ((0 : Int) <= IntKind.i64.wrap (a2 + i4) ∧ IntKind.i64.wrap (a2 + i4) < (↑a0 : Int)) (.get (l5[(0 : Nat) + (IntKind.i64.wrap (a2 + i4)).toNat]?) fun (y6 : Action) => (.chk ((0 : Int) <= IntKind.i64.wrap (a1 + i4) ∧ IntKind.i64.wrap (a1 + i4) < (↑a0 : Int)) (.get (l5[(0 : Nat) + (IntKind.i64.wrap (a1 + i4)).toNat]?) fun (y7 : Action) => (.chk ((0 : Int) <= IntKind.i64.wrap (a1 + i4) ∧ IntKind.i64.wrap (a1 + i4) < (↑a0 : Int)) (.get (l5[(0 : Nat) + (IntKind.i64.wrap (a1 + i4)).toNat]?) fun (y8 : Action) => (.chk ((0 : Int) <= IntKind.i64.wrap (a2 + i4) ∧ IntKind.i64.wrap (a2 + i4) < (↑a0 : Int)) (.get ((l5.set ((0 : Nat) + (IntKind.i64.wrap (a1 + i4)).toNat) y6)[(0 : Nat) + (IntKind.i64.wrap (a2 + i4)).toNat]?) fun (y9 : Action) => (.ret (.inl (.h0 (a0) (a1) (a2) (a3) (IntKind.i64.wrap (i4 + 1)) ((l5.set ((0 : Nat) + (IntKind.i64.wrap (a1 + i4)).toNat) y6).set ((0 : Nat) + (IntKind.i64.wrap (a2 + i4)).toNat) y7))))))))))))
  (.ret (.inr (((), l5, ())))))
theorem E50 : ∀ s, headE G tab knActM1_36 i50.rs [.row 29] [] H50 5000 (m50 s) = (g50 s).map (Sum.map m50 (fun (r : (RTup Th [] × OTup Th [.row 29])) => r))
  | .h0 (a0) (a1) (a2) (a3) (i4) (l5) => by kernel_rfl
noncomputable def s50 (a0 : Nat) (a1 : Int) (a2 : Int) (a3 : Int) (x0 : List Action) : Cm (L50 ⊕ (RTup Th [] × OTup Th [.row 29])) :=
  (.ret (.inl (.h0 (a0) (a1) (a2) (a3) (0) (x0))))
theorem ES50 (a0 : Nat) (a1 : Int) (a2 : Int) (a3 : Int) (x0 : List Action) : startE G tab knActM1_36 i50 [.row 29] [] H50 5000 (encE G [.row 29 0, .p (.i .i64), .p (.i .i64), .p (.i .i64), .fn 16] (a0, a1, a2, a3, (), ())) (encH [.row 29] (x0, ())) = (s50 (a0) (a1) (a2) (a3) (x0)).map (Sum.map m50 (fun (r : (RTup Th [] × OTup Th [.row 29])) => r)) := by kernel_rfl
noncomputable def f50 (a0 : Nat) (a1 : Int) (a2 : Int) (a3 : Int) (x0 : List Action) : Option (RTup Th [] × OTup Th [.row 29]) := runO (g50) (s50 (a0) (a1) (a2) (a3) (x0))
theorem Q50 (y : ETup Th [.row 29 0, .p (.i .i64), .p (.i .i64), .p (.i .i64), .fn 16]) (x : OTup Th [.row 29]) (r : (RTup Th [] × OTup Th [.row 29])) (h : f50 (y.1) (y.2.1) (y.2.2.1) (y.2.2.2.1) (x.1) = some r) : ECall Try.prog G 50 [.row 29] (encE G [.row 29 0, .p (.i .i64), .p (.i .i64), .p (.i .i64), .fn 16] y) x [] (fun a b => (a, b) = r) := runE_sound gok koActM1_36 tabKnows (E50) k50 rfl (by kernel_rfl) (ES50 (y.1) (y.2.1) (y.2.2.1) (y.2.2.2.1) (x.1)) h
noncomputable def R50 : (ETup Th [.row 29 0, .p (.i .i64), .p (.i .i64), .p (.i .i64), .fn 16] -> OTup Th [.row 29] -> Option (RTup Th [] × OTup Th [.row 29])) := fun y x => f50 (y.1) (y.2.1) (y.2.2.1) (y.2.2.2.1) (x.1)
noncomputable def knActM1_50 : KnownF Th := (50, .eff [false, true, true, true, false] (effE G [.row 29] [.row 29 0, .p (.i .i64), .p (.i .i64), .p (.i .i64), .fn 16] [] R50)) :: knActM1_36
theorem koActM1_50 : KnownOk Try.prog C knActM1_50 := KnownOk.addE koActM1_36 (effE_ok gok fun y x r h => Q50 y x r h)
-- 45 slices.rotateCmpFunc[drover/api.Action]
def H45 : List (List Nat × Hint) := [([58019], ⟨[11, 10, 4, 2, 0], [], [], [], [], [], [], 1, []⟩)]
inductive L45 where
  | h0 (a0 : Nat) (a2 : Int) (i3 : Int) (l4 : List Action) (i5 : Int)
noncomputable def m45 : L45 -> Trip Th
  | .h0 (a0) (a2) (i3) (l4) (i5) => ([(.lp 58 c45_5), (.blk 0), (.seq 58 c45_6)], [(11, (.i .i64 (i5))), (10, (.i .i64 (i3))), (4, (.fn 16 [])), (2, (.i .i64 (a2))), (0, (.sl 29 0 0 (a0) .none))], [(.arr 29 (l4))])
noncomputable def g45 : L45 -> Cm (L45 ⊕ (RTup Th [] × OTup Th [.row 29]))
  | .h0 (a0) (a2) (i3) (l4) (i5) => (.ite (!decide (i3 = i5)) (.ite (decide (i5 < i3)) (.get (R50 (a0, IntKind.i64.wrap (a2 - i3), a2, i5, (), ()) (l4, ())) fun (y6 : PUnit × List Action × PUnit) => (.ret (.inl (.h0 (a0) (a2) (IntKind.i64.wrap (i3 - i5)) (y6.snd.fst) (i5)))))
  (.get (R50 (a0, IntKind.i64.wrap (a2 - i3), IntKind.i64.wrap (IntKind.i64.wrap (a2 + i5) - i3), i3, (), ()) (l4, ())) fun (y7 : PUnit × List Action × PUnit) => (.ret (.inl (.h0 (a0) (a2) (i3) (y7.snd.fst) (IntKind.i64.wrap (i5 - i3)))))))
  (.get (R50 (a0, IntKind.i64.wrap (a2 - i3), a2, i3, (), ()) (l4, ())) fun (y8 : PUnit × List Action × PUnit) => (.ret (.inr (((), y8.snd.fst, ()))))))
theorem E45 : ∀ s, headE G tab knActM1_50 i45.rs [.row 29] [] H45 5000 (m45 s) = (g45 s).map (Sum.map m45 (fun (r : (RTup Th [] × OTup Th [.row 29])) => r))
  | .h0 (a0) (a2) (i3) (l4) (i5) => by kernel_rfl
noncomputable def s45 (a0 : Nat) (a1 : Int) (a2 : Int) (a3 : Int) (x0 : List Action) : Cm (L45 ⊕ (RTup Th [] × OTup Th [.row 29])) :=
  (.ret (.inl (.h0 (a0) (a2) (IntKind.i64.wrap (a2 - a1)) (x0) (IntKind.i64.wrap (a3 - a2)))))
theorem ES45 (a0 : Nat) (a1 : Int) (a2 : Int) (a3 : Int) (x0 : List Action) : startE G tab knActM1_50 i45 [.row 29] [] H45 5000 (encE G [.row 29 0, .p (.i .i64), .p (.i .i64), .p (.i .i64), .fn 16] (a0, a1, a2, a3, (), ())) (encH [.row 29] (x0, ())) = (s45 (a0) (a1) (a2) (a3) (x0)).map (Sum.map m45 (fun (r : (RTup Th [] × OTup Th [.row 29])) => r)) := by kernel_rfl
noncomputable def f45 (a0 : Nat) (a1 : Int) (a2 : Int) (a3 : Int) (x0 : List Action) : Option (RTup Th [] × OTup Th [.row 29]) := runO (g45) (s45 (a0) (a1) (a2) (a3) (x0))
theorem Q45 (y : ETup Th [.row 29 0, .p (.i .i64), .p (.i .i64), .p (.i .i64), .fn 16]) (x : OTup Th [.row 29]) (r : (RTup Th [] × OTup Th [.row 29])) (h : f45 (y.1) (y.2.1) (y.2.2.1) (y.2.2.2.1) (x.1) = some r) : ECall Try.prog G 45 [.row 29] (encE G [.row 29 0, .p (.i .i64), .p (.i .i64), .p (.i .i64), .fn 16] y) x [] (fun a b => (a, b) = r) := runE_sound gok koActM1_50 tabKnows (E45) k45 rfl (by kernel_rfl) (ES45 (y.1) (y.2.1) (y.2.2.1) (y.2.2.2.1) (x.1)) h
noncomputable def R45 : (ETup Th [.row 29 0, .p (.i .i64), .p (.i .i64), .p (.i .i64), .fn 16] -> OTup Th [.row 29] -> Option (RTup Th [] × OTup Th [.row 29])) := fun y x => f45 (y.1) (y.2.1) (y.2.2.1) (y.2.2.2.1) (x.1)
noncomputable def knActM1_45 : KnownF Th := (45, .eff [false, true, true, true, false] (effE G [.row 29] [.row 29 0, .p (.i .i64), .p (.i .i64), .p (.i .i64), .fn 16] [] R45)) :: knActM1_50
theorem koActM1_45 : KnownOk Try.prog C knActM1_45 := KnownOk.addE koActM1_50 (effE_ok gok fun y x r h => Q45 y x r h)
-- 37 slices.symMergeCmpFunc[drover/api.Action]
def H37 : List (List Nat × Hint) := [([220032], ⟨[1, 0, 4, 11, 10], [], [], [], [], [], [], 1, []⟩),
  ([220084], ⟨[0, 2, 4, 15, 14], [], [], [], [], [], [], 1, []⟩),
  ([220150], ⟨[0, 22, 4, 21, 20, 3, 18, 212, 210, 211, 1, 198, 196, 197, 2, 184, 182, 183, 19], [], [], [], [], [], [], 1, []⟩),
  ([220056], ⟨[13, 0, 10], [], [], [], [], [], [], 1, []⟩),
  ([220109], ⟨[17, 0, 14], [], [], [], [], [], [], 1, []⟩)]
inductive L37 where
  | h0 (a0 : Nat) (a1 : Int) (x0 : List Action) (i5 : Int) (i6 : Int)
  | h1 (a0 : Nat) (a2 : Int) (x0 : List Action) (i10 : Int) (i11 : Int)
  | h2 (a0 : Nat) (a1 : Int) (a2 : Int) (a3 : Int) (x0 : List Action) (i0 : Int) (i1 : Int)
  | h3 (a0 : Nat) (i31 : Int) (i36 : Int) (l37 : List Action)
  | h4 (a0 : Nat) (i41 : Int) (i46 : Int) (l47 : List Action)
noncomputable def m37 : L37 -> Trip Th
  | .h0 (a0) (a1) (x0) (i5) (i6) => ([(.lp 220 c37_6), (.blk 0), (.seq 220 c37_12), (.seq 220 c37_55)], [(1, (.i .i64 (a1))), (0, (.sl 29 0 0 (a0) .none)), (4, (.fn 16 [])), (11, (.i .i64 (i6))), (10, (.i .i64 (i5)))], [(.arr 29 (x0))])
  | .h1 (a0) (a2) (x0) (i10) (i11) => ([(.lp 220 c37_22), (.blk 4), (.seq 220 c37_28), (.seq 220 c37_54)], [(0, (.sl 29 0 0 (a0) .none)), (2, (.i .i64 (a2))), (4, (.fn 16 [])), (15, (.i .i64 (i11))), (14, (.i .i64 (i10)))], [(.arr 29 (x0))])
  | .h2 (a0) (a1) (a2) (a3) (x0) (i0) (i1) => ([(.lp 220 c37_41), (.blk 8), (.seq 220 c37_48)], [(0, (.sl 29 0 0 (a0) .none)), (22, (.i .i64 (IntKind.i64.wrap (IntKind.i64.wrap (IntKind.i64.wrap ((IntKind.u64.wrap (IntKind.i64.wrap (a1 + a3))).fdiv (2 ^ 1)) + a2) - 1)))), (4, (.fn 16 [])), (21, (.i .i64 (i0))), (20, (.i .i64 (i1))), (3, (.i .i64 (a3))), (18, (.i .i64 (IntKind.i64.wrap ((IntKind.u64.wrap (IntKind.i64.wrap (a1 + a3))).fdiv (2 ^ 1))))), (212, .any), (210, .any), (211, .any), (1, (.i .i64 (a1))), (198, .any), (196, .any), (197, .any), (2, (.i .i64 (a2))), (184, .any), (182, .any), (183, .any), (19, (.i .i64 (IntKind.i64.wrap (IntKind.i64.wrap ((IntKind.u64.wrap (IntKind.i64.wrap (a1 + a3))).fdiv (2 ^ 1)) + a2))))], [(.arr 29 (x0))])
  | .h3 (a0) (i31) (i36) (l37) => ([(.lp 220 c37_10), (.blk 2), (.seq 220 Go.Ab.ACode.ret), (.seq 220 c37_55)], [(13, (.i .i64 (i36))), (0, (.sl 29 0 0 (a0) .none)), (10, (.i .i64 (i31)))], [(.arr 29 (l37))])
  | .h4 (a0) (i41) (i46) (l47) => ([(.lp 220 c37_26), (.blk 6), (.seq 220 Go.Ab.ACode.ret), (.seq 220 c37_54)], [(17, (.i .i64 (i46))), (0, (.sl 29 0 0 (a0) .none)), (14, (.i .i64 (i41)))], [(.arr 29 (l47))])
noncomputable def g37 (self : (ETup Th [.row 29 0, .p (.i .i64), .p (.i .i64), .p (.i .i64), .fn 16] -> OTup Th [.row 29] -> Option (RTup Th [] × OTup Th [.row 29]))) : L37 -> Cm (L37 ⊕ (RTup Th [] × OTup Th [.row 29]))
  | .h0 (a0) (a1) (x0) (i5) (i6) => (.ite (decide (i5 < i6)) (.chk ((0 : Int) <= (1 : Int)) (.chk ((0 : Int) <= IntKind.i64.wrap ((IntKind.u64.wrap (IntKind.i64.wrap (i5 + i6))).fdiv ((2 : Int) ^ (1 : Nat))) ∧ IntKind.i64.wrap ((IntKind.u64.wrap (IntKind.i64.wrap (i5 + i6))).fdiv ((2 : Int) ^ (1 : Nat))) < (↑a0 : Int)) (.get (x0[(0 : Nat) + (IntKind.i64.wrap ((IntKind.u64.wrap (IntKind.i64.wrap (i5 + i6))).fdiv ((2 : Int) ^ (1 : Nat)))).toNat]?) fun (y28 : Action) => (.chk ((0 : Int) <= a1 ∧ a1 < (↑a0 : Int)) (.get (x0[(0 : Nat) + a1.toNat]?) fun (y29 : Action) => (.get (f16 y28 y29) fun (y30 : Int) => (.ite (decide (y30 < 0)) (.ret (.inl (.h0 (a0) (a1) (x0) (IntKind.i64.wrap (IntKind.i64.wrap ((IntKind.u64.wrap (IntKind.i64.wrap (i5 + i6))).fdiv (2 ^ 1)) + 1)) (i6))))
  (.ret (.inl (.h0 (a0) (a1) (x0) (i5) (IntKind.i64.wrap ((IntKind.u64.wrap (IntKind.i64.wrap (i5 + i6))).fdiv (2 ^ 1)))))))))))))
  (.ret (.inl (.h3 (a0) (i5) (a1) (x0)))))
  | .h1 (a0) (a2) (x0) (i10) (i11) => (.ite (decide (i10 < i11)) (.chk ((0 : Int) <= (1 : Int)) (.chk ((0 : Int) <= a2 ∧ a2 < (↑a0 : Int)) (.get (x0[(0 : Nat) + a2.toNat]?) fun (y38 : Action) => (.chk ((0 : Int) <= IntKind.i64.wrap ((IntKind.u64.wrap (IntKind.i64.wrap (i10 + i11))).fdiv ((2 : Int) ^ (1 : Nat))) ∧ IntKind.i64.wrap ((IntKind.u64.wrap (IntKind.i64.wrap (i10 + i11))).fdiv ((2 : Int) ^ (1 : Nat))) < (↑a0 : Int)) (.get (x0[(0 : Nat) + (IntKind.i64.wrap ((IntKind.u64.wrap (IntKind.i64.wrap (i10 + i11))).fdiv ((2 : Int) ^ (1 : Nat)))).toNat]?) fun (y39 : Action) => (.get (f16 y38 y39) fun (y40 : Int) => (.ite (!decide (y40 < 0)) (.ret (.inl (.h1 (a0) (a2) (x0) (IntKind.i64.wrap (IntKind.i64.wrap ((IntKind.u64.wrap (IntKind.i64.wrap (i10 + i11))).fdiv (2 ^ 1)) + 1)) (i11))))
  (.ret (.inl (.h1 (a0) (a2) (x0) (i10) (IntKind.i64.wrap ((IntKind.u64.wrap (IntKind.i64.wrap (i10 + i11))).fdiv (2 ^ 1)))))))))))))
  (.ret (.inl (.h4 (a0) (i10) (a2) (x0)))))
  | .h2 (a0) (a1) (a2) (a3) (x0) (i0) (i1) => (.ite (decide (i1 < i0)) (.chk ((0 : Int) <= (1 : Int)) (.chk ((0 : Int) <= IntKind.i64.wrap (IntKind.i64.wrap (IntKind.i64.wrap (IntKind.i64.wrap ((IntKind.u64.wrap (IntKind.i64.wrap (a1 + a3))).fdiv ((2 : Int) ^ (1 : Nat))) + a2) - (1 : Int)) - IntKind.i64.wrap ((IntKind.u64.wrap (IntKind.i64.wrap (i1 + i0))).fdiv ((2 : Int) ^ (1 : Nat)))) ∧ IntKind.i64.wrap (IntKind.i64.wrap (IntKind.i64.wrap (IntKind.i64.wrap ((IntKind.u64.wrap (IntKind.i64.wrap (a1 + a3))).fdiv ((2 : Int) ^ (1 : Nat))) + a2) - (1 : Int)) - IntKind.i64.wrap ((IntKind.u64.wrap (IntKind.i64.wrap (i1 + i0))).fdiv ((2 : Int) ^ (1 : Nat)))) < (↑a0 : Int)) (.get (x0[(0 : Nat) + (IntKind.i64.wrap (IntKind.i64.wrap (IntKind.i64.wrap (IntKind.i64.wrap ((IntKind.u64.wrap (IntKind.i64.wrap (a1 + a3))).fdiv ((2 : Int) ^ (1 : Nat))) + a2) - (1 : Int)) - IntKind.i64.wrap ((IntKind.u64.wrap (IntKind.i64.wrap (i1 + i0))).fdiv ((2 : Int) ^ (1 : Nat))))).toNat]?) fun (y12 : Action) => (.chk ((0 : Int) <= IntKind.i64.wrap ((IntKind.u64.wrap (IntKind.i64.wrap (i1 + i0))).fdiv ((2 : Int) ^ (1 : Nat))) ∧ IntKind.i64.wrap ((IntKind.u64.wrap (IntKind.i64.wrap (i1 + i0))).fdiv ((2 : Int) ^ (1 : Nat))) < (↑a0 : Int)) (.get (x0[(0 : Nat) + (IntKind.i64.wrap ((IntKind.u64.wrap (IntKind.i64.wrap (i1 + i0))).fdiv ((2 : Int) ^ (1 : Nat)))).toNat]?) fun (y13 : Action) => (.get (f16 y12 y13) fun (y14 : Int) => (.ite (!decide (y14 < 0)) (.ret (.inl (.h2 (a0) (a1) (a2) (a3) (x0) (i0) (IntKind.i64.wrap (IntKind.i64.wrap ((IntKind.u64.wrap (IntKind.i64.wrap (i1 + i0))).fdiv (2 ^ 1)) + 1)))))
  (.ret (.inl (.h2 (a0) (a1) (a2) (a3) (x0) (IntKind.i64.wrap ((IntKind.u64.wrap (IntKind.i64.wrap (i1 + i0))).fdiv (2 ^ 1))) (i1)))))))))))
  (.ite (decide (i1 < a2)) (.ite (decide (a2 < IntKind.i64.wrap (IntKind.i64.wrap (IntKind.i64.wrap ((IntKind.u64.wrap (IntKind.i64.wrap (a1 + a3))).fdiv (2 ^ 1)) + a2) - i1))) (.get (R45 (a0, i1, a2, IntKind.i64.wrap (IntKind.i64.wrap (IntKind.i64.wrap ((IntKind.u64.wrap (IntKind.i64.wrap (a1 + a3))).fdiv ((2 : Int) ^ (1 : Nat))) + a2) - i1), (), ()) (x0, ())) fun (y15 : PUnit × List Action × PUnit) => (.ite (decide (a1 < i1)) (.ite (decide (i1 < IntKind.i64.wrap ((IntKind.u64.wrap (IntKind.i64.wrap (a1 + a3))).fdiv (2 ^ 1)))) (.get (self (a0, a1, i1, IntKind.i64.wrap ((IntKind.u64.wrap (IntKind.i64.wrap (a1 + a3))).fdiv ((2 : Int) ^ (1 : Nat))), (), ()) (y15.snd.fst, ())) fun (y16 : PUnit × List Action × PUnit) => (.ite (decide (IntKind.i64.wrap ((IntKind.u64.wrap (IntKind.i64.wrap (a1 + a3))).fdiv (2 ^ 1)) < IntKind.i64.wrap (IntKind.i64.wrap (IntKind.i64.wrap ((IntKind.u64.wrap (IntKind.i64.wrap (a1 + a3))).fdiv (2 ^ 1)) + a2) - i1))) (.ite (decide (IntKind.i64.wrap (IntKind.i64.wrap (IntKind.i64.wrap ((IntKind.u64.wrap (IntKind.i64.wrap (a1 + a3))).fdiv (2 ^ 1)) + a2) - i1) < a3)) (.get (self (a0, IntKind.i64.wrap ((IntKind.u64.wrap (IntKind.i64.wrap (a1 + a3))).fdiv ((2 : Int) ^ (1 : Nat))), IntKind.i64.wrap (IntKind.i64.wrap (IntKind.i64.wrap ((IntKind.u64.wrap (IntKind.i64.wrap (a1 + a3))).fdiv ((2 : Int) ^ (1 : Nat))) + a2) - i1), a3, (), ()) (y16.snd.fst, ())) fun (y17 : PUnit × List Action × PUnit) => (.ret (.inr (((), y17.snd.fst, ())))))
  (.ret (.inr (((), y16.snd.fst, ())))))
  (.ret (.inr (((), y16.snd.fst, ()))))))
  (.ite (decide (IntKind.i64.wrap ((IntKind.u64.wrap (IntKind.i64.wrap (a1 + a3))).fdiv (2 ^ 1)) < IntKind.i64.wrap (IntKind.i64.wrap (IntKind.i64.wrap ((IntKind.u64.wrap (IntKind.i64.wrap (a1 + a3))).fdiv (2 ^ 1)) + a2) - i1))) (.ite (decide (IntKind.i64.wrap (IntKind.i64.wrap (IntKind.i64.wrap ((IntKind.u64.wrap (IntKind.i64.wrap (a1 + a3))).fdiv (2 ^ 1)) + a2) - i1) < a3)) (.get (self (a0, IntKind.i64.wrap ((IntKind.u64.wrap (IntKind.i64.wrap (a1 + a3))).fdiv ((2 : Int) ^ (1 : Nat))), IntKind.i64.wrap (IntKind.i64.wrap (IntKind.i64.wrap ((IntKind.u64.wrap (IntKind.i64.wrap (a1 + a3))).fdiv ((2 : Int) ^ (1 : Nat))) + a2) - i1), a3, (), ()) (y15.snd.fst, ())) fun (y18 : PUnit × List Action × PUnit) => (.ret (.inr (((), y18.snd.fst, ())))))
  (.ret (.inr (((), y15.snd.fst, ())))))
  (.ret (.inr (((), y15.snd.fst, ()))))))
  (.ite (decide (IntKind.i64.wrap ((IntKind.u64.wrap (IntKind.i64.wrap (a1 + a3))).fdiv (2 ^ 1)) < IntKind.i64.wrap (IntKind.i64.wrap (IntKind.i64.wrap ((IntKind.u64.wrap (IntKind.i64.wrap (a1 + a3))).fdiv (2 ^ 1)) + a2) - i1))) (.ite (decide (IntKind.i64.wrap (IntKind.i64.wrap (IntKind.i64.wrap ((IntKind.u64.wrap (IntKind.i64.wrap (a1 + a3))).fdiv (2 ^ 1)) + a2) - i1) < a3)) (.get (self (a0, IntKind.i64.wrap ((IntKind.u64.wrap (IntKind.i64.wrap (a1 + a3))).fdiv ((2 : Int) ^ (1 : Nat))), IntKind.i64.wrap (IntKind.i64.wrap (IntKind.i64.wrap ((IntKind.u64.wrap (IntKind.i64.wrap (a1 + a3))).fdiv ((2 : Int) ^ (1 : Nat))) + a2) - i1), a3, (), ()) (y15.snd.fst, ())) fun (y19 : PUnit × List Action × PUnit) => (.ret (.inr (((), y19.snd.fst, ())))))
  (.ret (.inr (((), y15.snd.fst, ())))))
  (.ret (.inr (((), y15.snd.fst, ())))))))
  (.ite (decide (a1 < i1)) (.ite (decide (i1 < IntKind.i64.wrap ((IntKind.u64.wrap (IntKind.i64.wrap (a1 + a3))).fdiv (2 ^ 1)))) (.get (self (a0, a1, i1, IntKind.i64.wrap ((IntKind.u64.wrap (IntKind.i64.wrap (a1 + a3))).fdiv ((2 : Int) ^ (1 : Nat))), (), ()) (x0, ())) fun (y20 : PUnit × List Action × PUnit) => (.ite (decide (IntKind.i64.wrap ((IntKind.u64.wrap (IntKind.i64.wrap (a1 + a3))).fdiv (2 ^ 1)) < IntKind.i64.wrap (IntKind.i64.wrap (IntKind.i64.wrap ((IntKind.u64.wrap (IntKind.i64.wrap (a1 + a3))).fdiv (2 ^ 1)) + a2) - i1))) (.ite (decide (IntKind.i64.wrap (IntKind.i64.wrap (IntKind.i64.wrap ((IntKind.u64.wrap (IntKind.i64.wrap (a1 + a3))).fdiv (2 ^ 1)) + a2) - i1) < a3)) (.get (self (a0, IntKind.i64.wrap ((IntKind.u64.wrap (IntKind.i64.wrap (a1 + a3))).fdiv ((2 : Int) ^ (1 : Nat))), IntKind.i64.wrap (IntKind.i64.wrap (IntKind.i64.wrap ((IntKind.u64.wrap (IntKind.i64.wrap (a1 + a3))).fdiv ((2 : Int) ^ (1 : Nat))) + a2) - i1), a3, (), ()) (y20.snd.fst, ())) fun (y21 : PUnit × List Action × PUnit) => (.ret (.inr (((), y21.snd.fst, ())))))
  (.ret (.inr (((), y20.snd.fst, ())))))
  (.ret (.inr (((), y20.snd.fst, ()))))))
  (.ite (decide (IntKind.i64.wrap ((IntKind.u64.wrap (IntKind.i64.wrap (a1 + a3))).fdiv (2 ^ 1)) < IntKind.i64.wrap (IntKind.i64.wrap (IntKind.i64.wrap ((IntKind.u64.wrap (IntKind.i64.wrap (a1 + a3))).fdiv (2 ^ 1)) + a2) - i1))) (.ite (decide (IntKind.i64.wrap (IntKind.i64.wrap (IntKind.i64.wrap ((IntKind.u64.wrap (IntKind.i64.wrap (a1 + a3))).fdiv (2 ^ 1)) + a2) - i1) < a3)) (.get (self (a0, IntKind.i64.wrap ((IntKind.u64.wrap (IntKind.i64.wrap (a1 + a3))).fdiv ((2 : Int) ^ (1 : Nat))), IntKind.i64.wrap (IntKind.i64.wrap (IntKind.i64.wrap ((IntKind.u64.wrap (IntKind.i64.wrap (a1 + a3))).fdiv ((2 : Int) ^ (1 : Nat))) + a2) - i1), a3, (), ()) (x0, ())) fun (y22 : PUnit × List Action × PUnit) => (.ret (.inr (((), y22.snd.fst, ())))))
  (.ret (.inr (((), x0, ())))))
  (.ret (.inr (((), x0, ()))))))
  (.ite (decide (IntKind.i64.wrap ((IntKind.u64.wrap (IntKind.i64.wrap (a1 + a3))).fdiv (2 ^ 1)) < IntKind.i64.wrap (IntKind.i64.wrap (IntKind.i64.wrap ((IntKind.u64.wrap (IntKind.i64.wrap (a1 + a3))).fdiv (2 ^ 1)) + a2) - i1))) (.ite (decide (IntKind.i64.wrap (IntKind.i64.wrap (IntKind.i64.wrap ((IntKind.u64.wrap (IntKind.i64.wrap (a1 + a3))).fdiv (2 ^ 1)) + a2) - i1) < a3)) (.get (self (a0, IntKind.i64.wrap ((IntKind.u64.wrap (IntKind.i64.wrap (a1 + a3))).fdiv ((2 : Int) ^ (1 : Nat))), IntKind.i64.wrap (IntKind.i64.wrap (IntKind.i64.wrap ((IntKind.u64.wrap (IntKind.i64.wrap (a1 + a3))).fdiv ((2 : Int) ^ (1 : Nat))) + a2) - i1), a3, (), ()) (x0, ())) fun (y23 : PUnit × List Action × PUnit) => (.ret (.inr (((), y23.snd.fst, ())))))
  (.ret (.inr (((), x0, ())))))
  (.ret (.inr (((), x0, ())))))))
  (.ite (decide (a1 < i1)) (.ite (decide (i1 < IntKind.i64.wrap ((IntKind.u64.wrap (IntKind.i64.wrap (a1 + a3))).fdiv (2 ^ 1)))) (.get (self (a0, a1, i1, IntKind.i64.wrap ((IntKind.u64.wrap (IntKind.i64.wrap (a1 + a3))).fdiv ((2 : Int) ^ (1 : Nat))), (), ()) (x0, ())) fun (y24 : PUnit × List Action × PUnit) => (.ite (decide (IntKind.i64.wrap ((IntKind.u64.wrap (IntKind.i64.wrap (a1 + a3))).fdiv (2 ^ 1)) < IntKind.i64.wrap (IntKind.i64.wrap (IntKind.i64.wrap ((IntKind.u64.wrap (IntKind.i64.wrap (a1 + a3))).fdiv (2 ^ 1)) + a2) - i1))) (.ite (decide (IntKind.i64.wrap (IntKind.i64.wrap (IntKind.i64.wrap ((IntKind.u64.wrap (IntKind.i64.wrap (a1 + a3))).fdiv (2 ^ 1)) + a2) - i1) < a3)) (.get (self (a0, IntKind.i64.wrap ((IntKind.u64.wrap (IntKind.i64.wrap (a1 + a3))).fdiv ((2 : Int) ^ (1 : Nat))), IntKind.i64.wrap (IntKind.i64.wrap (IntKind.i64.wrap ((IntKind.u64.wrap (IntKind.i64.wrap (a1 + a3))).fdiv ((2 : Int) ^ (1 : Nat))) + a2) - i1), a3, (), ()) (y24.snd.fst, ())) fun (y25 : PUnit × List Action × PUnit) => (.ret (.inr (((), y25.snd.fst, ())))))
  (.ret (.inr (((), y24.snd.fst, ())))))
  (.ret (.inr (((), y24.snd.fst, ()))))))
  (.ite (decide (IntKind.i64.wrap ((IntKind.u64.wrap (IntKind.i64.wrap (a1 + a3))).fdiv (2 ^ 1)) < IntKind.i64.wrap (IntKind.i64.wrap (IntKind.i64.wrap ((IntKind.u64.wrap (IntKind.i64.wrap (a1 + a3))).fdiv (2 ^ 1)) + a2) - i1))) (.ite (decide (IntKind.i64.wrap (IntKind.i64.wrap (IntKind.i64.wrap ((IntKind.u64.wrap (IntKind.i64.wrap (a1 + a3))).fdiv (2 ^ 1)) + a2) - i1) < a3)) (.get (self (a0, IntKind.i64.wrap ((IntKind.u64.wrap (IntKind.i64.wrap (a1 + a3))).fdiv ((2 : Int) ^ (1 : Nat))), IntKind.i64.wrap (IntKind.i64.wrap (IntKind.i64.wrap ((IntKind.u64.wrap (IntKind.i64.wrap (a1 + a3))).fdiv ((2 : Int) ^ (1 : Nat))) + a2) - i1), a3, (), ()) (x0, ())) fun (y26 : PUnit × List Action × PUnit) => (.ret (.inr (((), y26.snd.fst, ())))))
  (.ret (.inr (((), x0, ())))))
  (.ret (.inr (((), x0, ()))))))
  (.ite (decide (IntKind.i64.wrap ((IntKind.u64.wrap (IntKind.i64.wrap (a1 + a3))).fdiv (2 ^ 1)) < IntKind.i64.wrap (IntKind.i64.wrap (IntKind.i64.wrap ((IntKind.u64.wrap (IntKind.i64.wrap (a1 + a3))).fdiv (2 ^ 1)) + a2) - i1))) (.ite (decide (IntKind.i64.wrap (IntKind.i64.wrap (IntKind.i64.wrap ((IntKind.u64.wrap (IntKind.i64.wrap (a1 + a3))).fdiv (2 ^ 1)) + a2) - i1) < a3)) (.get (self (a0, IntKind.i64.wrap ((IntKind.u64.wrap (IntKind.i64.wrap (a1 + a3))).fdiv ((2 : Int) ^ (1 : Nat))), IntKind.i64.wrap (IntKind.i64.wrap (IntKind.i64.wrap ((IntKind.u64.wrap (IntKind.i64.wrap (a1 + a3))).fdiv ((2 : Int) ^ (1 : Nat))) + a2) - i1), a3, (), ()) (x0, ())) fun (y27 : PUnit × List Action × PUnit) => (.ret (.inr (((), y27.snd.fst, ())))))
  (.ret (.inr (((), x0, ())))))
  (.ret (.inr (((), x0, ()))))))))
  | .h3 (a0) (i31) (i36) (l37) => (.ite (decide (i36 < IntKind.i64.wrap (i31 - 1))) (.chk ((0 : Int) <= IntKind.i64.wrap (i36 + (1 : Int)) ∧ IntKind.i64.wrap (i36 + (1 : Int)) < (↑a0 : Int)) (.get (l37[(0 : Nat) + (IntKind.i64.wrap (i36 + (1 : Int))).toNat]?) fun (y48 : Action) => (.chk ((0 : Int) <= i36 ∧ i36 < (↑a0 : Int)) (.get (l37[(0 : Nat) + i36.toNat]?) fun (y49 : Action) => (.chk ((0 : Int) <= i36 ∧ i36 < (↑a0 : Int)) (.get (l37[(0 : Nat) + i36.toNat]?) fun (y50 : Action) => (.chk ((0 : Int) <= IntKind.i64.wrap (i36 + (1 : Int)) ∧ IntKind.i64.wrap (i36 + (1 : Int)) < (↑a0 : Int)) (.get ((l37.set ((0 : Nat) + i36.toNat) y48)[(0 : Nat) + (IntKind.i64.wrap (i36 + (1 : Int))).toNat]?) fun (y51 : Action) => (.ret (.inl (.h3 (a0) (i31) (IntKind.i64.wrap (i36 + 1)) ((l37.set ((0 : Nat) + i36.toNat) y48).set ((0 : Nat) + (IntKind.i64.wrap (i36 + (1 : Int))).toNat) y49))))))))))))
  (.ret (.inr (((), l37, ())))))
  | .h4 (a0) (i41) (i46) (l47) => (.ite (decide (i41 < i46)) (.chk ((0 : Int) <= IntKind.i64.wrap (i46 - (1 : Int)) ∧ IntKind.i64.wrap (i46 - (1 : Int)) < (↑a0 : Int)) (.get (l47[(0 : Nat) + (IntKind.i64.wrap (i46 - (1 : Int))).toNat]?) fun (y52 : Action) => (.chk ((0 : Int) <= i46 ∧ i46 < (↑a0 : Int)) (.get (l47[(0 : Nat) + i46.toNat]?) fun (y53 : Action) => (.chk ((0 : Int) <= i46 ∧ i46 < (↑a0 : Int)) (.get (l47[(0 : Nat) + i46.toNat]?) fun (y54 : Action) => (.chk ((0 : Int) <= IntKind.i64.wrap (i46 - (1 : Int)) ∧ IntKind.i64.wrap (i46 - (1 : Int)) < (↑a0 : Int)) (.get ((l47.set ((0 : Nat) + i46.toNat) y52)[(0 : Nat) + (IntKind.i64.wrap (i46 - (1 : Int))).toNat]?) fun (y55 : Action) => (.ret (.inl (.h4 (a0) (i41) (IntKind.i64.wrap (i46 - 1)) ((l47.set ((0 : Nat) + i46.toNat) y52).set ((0 : Nat) + (IntKind.i64.wrap (i46 - (1 : Int))).toNat) y53))))))))))))
  (.ret (.inr (((), l47, ())))))
theorem E37 (self : (ETup Th [.row 29 0, .p (.i .i64), .p (.i .i64), .p (.i .i64), .fn 16] -> OTup Th [.row 29] -> Option (RTup Th [] × OTup Th [.row 29]))) : ∀ s, headE G tab ((37, .eff [false, true, true, true, false] (effE G [.row 29] [.row 29 0, .p (.i .i64), .p (.i .i64), .p (.i .i64), .fn 16] [] self)) :: knActM1_45) i37.rs [.row 29] [] H37 5000 (m37 s) = (g37 self s).map (Sum.map m37 (fun (r : (RTup Th [] × OTup Th [.row 29])) => r))
  | .h0 (a0) (a1) (x0) (i5) (i6) => by kernel_rfl
  | .h1 (a0) (a2) (x0) (i10) (i11) => by kernel_rfl
  | .h2 (a0) (a1) (a2) (a3) (x0) (i0) (i1) => by kernel_rfl
  | .h3 (a0) (i31) (i36) (l37) => by kernel_rfl
  | .h4 (a0) (i41) (i46) (l47) => by kernel_rfl
noncomputable def s37 (self : (ETup Th [.row 29 0, .p (.i .i64), .p (.i .i64), .p (.i .i64), .fn 16] -> OTup Th [.row 29] -> Option (RTup Th [] × OTup Th [.row 29]))) (a0 : Nat) (a1 : Int) (a2 : Int) (a3 : Int) (x0 : List Action) : Cm (L37 ⊕ (RTup Th [] × OTup Th [.row 29])) :=
  (.ite (decide (IntKind.i64.wrap (a2 - a1) = 1)) (.ret (.inl (.h0 (a0) (a1) (x0) (a2) (a3))))
  (.ite (decide (IntKind.i64.wrap (a3 - a2) = 1)) (.ret (.inl (.h1 (a0) (a2) (x0) (a1) (a2))))
  (.chk ((0 : Int) <= (1 : Int)) (.ite (decide (IntKind.i64.wrap ((IntKind.u64.wrap (IntKind.i64.wrap (a1 + a3))).fdiv (2 ^ 1)) < a2)) (.ret (.inl (.h2 (a0) (a1) (a2) (a3) (x0) (IntKind.i64.wrap ((IntKind.u64.wrap (IntKind.i64.wrap (a1 + a3))).fdiv (2 ^ 1))) (IntKind.i64.wrap (IntKind.i64.wrap (IntKind.i64.wrap ((IntKind.u64.wrap (IntKind.i64.wrap (a1 + a3))).fdiv (2 ^ 1)) + a2) - a3)))))
  (.ret (.inl (.h2 (a0) (a1) (a2) (a3) (x0) (a2) (a1))))))))
theorem ES37 (self : (ETup Th [.row 29 0, .p (.i .i64), .p (.i .i64), .p (.i .i64), .fn 16] -> OTup Th [.row 29] -> Option (RTup Th [] × OTup Th [.row 29]))) (a0 : Nat) (a1 : Int) (a2 : Int) (a3 : Int) (x0 : List Action) : startE G tab ((37, .eff [false, true, true, true, false] (effE G [.row 29] [.row 29 0, .p (.i .i64), .p (.i .i64), .p (.i .i64), .fn 16] [] self)) :: knActM1_45) i37 [.row 29] [] H37 5000 (encE G [.row 29 0, .p (.i .i64), .p (.i .i64), .p (.i .i64), .fn 16] (a0, a1, a2, a3, (), ())) (encH [.row 29] (x0, ())) = (s37 self (a0) (a1) (a2) (a3) (x0)).map (Sum.map m37 (fun (r : (RTup Th [] × OTup Th [.row 29])) => r)) := by kernel_rfl
noncomputable def f37 (self : (ETup Th [.row 29 0, .p (.i .i64), .p (.i .i64), .p (.i .i64), .fn 16] -> OTup Th [.row 29] -> Option (RTup Th [] × OTup Th [.row 29]))) (a0 : Nat) (a1 : Int) (a2 : Int) (a3 : Int) (x0 : List Action) : Option (RTup Th [] × OTup Th [.row 29]) := runO (g37 self) (s37 self (a0) (a1) (a2) (a3) (x0))
theorem Q37 (self : (ETup Th [.row 29 0, .p (.i .i64), .p (.i .i64), .p (.i .i64), .fn 16] -> OTup Th [.row 29] -> Option (RTup Th [] × OTup Th [.row 29]))) (hs : EffOk Try.prog C 37 (effE G [.row 29] [.row 29 0, .p (.i .i64), .p (.i .i64), .p (.i .i64), .fn 16] [] self)) (y : ETup Th [.row 29 0, .p (.i .i64), .p (.i .i64), .p (.i .i64), .fn 16]) (x : OTup Th [.row 29]) (r : (RTup Th [] × OTup Th [.row 29])) (h : f37 self (y.1) (y.2.1) (y.2.2.1) (y.2.2.2.1) (x.1) = some r) : ECall Try.prog G 37 [.row 29] (encE G [.row 29 0, .p (.i .i64), .p (.i .i64), .p (.i .i64), .fn 16] y) x [] (fun a b => (a, b) = r) := runE_sound gok (KnownOk.addE (frz := [false, true, true, true, false]) koActM1_45 hs) tabKnows (E37 self) k37 rfl (by kernel_rfl) (ES37 self (y.1) (y.2.1) (y.2.2.1) (y.2.2.2.1) (x.1)) h
noncomputable def F37 : Nat -> (ETup Th [.row 29 0, .p (.i .i64), .p (.i .i64), .p (.i .i64), .fn 16] -> OTup Th [.row 29] -> Option (RTup Th [] × OTup Th [.row 29]))
  | 0 => fun _ _ => none
  | n + 1 => fun y x => f37 (F37 n) (y.1) (y.2.1) (y.2.2.1) (y.2.2.2.1) (x.1)
theorem QF37 : ∀ (n : Nat) (y : ETup Th [.row 29 0, .p (.i .i64), .p (.i .i64), .p (.i .i64), .fn 16]) (x : OTup Th [.row 29]) (r : (RTup Th [] × OTup Th [.row 29])), F37 n y x = some r -> ECall Try.prog G 37 [.row 29] (encE G [.row 29 0, .p (.i .i64), .p (.i .i64), .p (.i .i64), .fn 16] y) x [] (fun a b => (a, b) = r)
  | 0 => fun _ _ _ h => nomatch h
  | n + 1 => fun y x r h => Q37 (F37 n) (effE_ok gok (QF37 n)) y x r h
noncomputable def R37 : (ETup Th [.row 29 0, .p (.i .i64), .p (.i .i64), .p (.i .i64), .fn 16] -> OTup Th [.row 29] -> Option (RTup Th [] × OTup Th [.row 29])) := fun y x => limF (fun n (p : ETup Th [.row 29 0, .p (.i .i64), .p (.i .i64), .p (.i .i64), .fn 16] × OTup Th [.row 29]) => F37 n p.1 p.2) (y, x)
noncomputable def knActM1_37 : KnownF Th := (37, .eff [false, true, true, true, false] (effE G [.row 29] [.row 29 0, .p (.i .i64), .p (.i .i64), .p (.i .i64), .fn 16] [] R37)) :: knActM1_45
theorem koActM1_37 : KnownOk Try.prog C knActM1_37 := KnownOk.addE koActM1_45 (effE_ok gok fun y x r h => (limF_some h).elim fun n hn => QF37 n y x r hn)
-- 29 slices.stableCmpFunc[drover/api.Action]
def H29 : List (List Nat × Hint) := [([63012], ⟨[6, 8, 2, 7, 0, 1], [], [], [], [], [], [], 1, []⟩),
  ([63029], ⟨[6, 2, 0, 1], [], [], [], [], [], [], 1, []⟩),
  ([63034, 63029], ⟨[6, 8, 2, 7, 0, 1], [], [], [], [], [], [], 1, []⟩)]
inductive L29 where
  | h0 (a0 : Nat) (a1 : Int) (i2 : Int) (i3 : Int) (l4 : List Action)
  | h1 (a0 : Nat) (a1 : Int) (x5 : PUnit × List Action × PUnit) (i13 : Int)
  | h2 (a0 : Nat) (a1 : Int) (x8 : PUnit × List Action × PUnit) (i11 : Int) (i12 : Int) (i16 : Int)
noncomputable def m29 : L29 -> Trip Th
  | .h0 (a0) (a1) (i2) (i3) (l4) => ([(.lp 63 c29_4), (.blk 0), (.seq 63 c29_19)], [(6, (.i .i64 20)), (8, (.i .i64 (i2))), (2, (.fn 16 [])), (7, (.i .i64 (i3))), (0, (.sl 29 0 0 (a0) .none)), (1, (.i .i64 (a1)))], [(.arr 29 (l4))])
  | .h1 (a0) (a1) (x5) (i13) => ([(.lp 63 c29_17), (.blk 2)], [(6, (.i .i64 (i13))), (2, (.fn 16 [])), (0, (.sl 29 0 0 (a0) .none)), (1, (.i .i64 (a1)))], [(.arr 29 (x5.snd.fst))])
  | .h2 (a0) (a1) (x8) (i11) (i12) (i16) => ([(.lp 63 c29_10), (.blk 4), (.seq 63 c29_14), (.blk 3), (.lp 63 c29_17), (.blk 2)], [(6, (.i .i64 (i16))), (8, (.i .i64 (i11))), (2, (.fn 16 [])), (7, (.i .i64 (i12))), (0, (.sl 29 0 0 (a0) .none)), (1, (.i .i64 (a1)))], [(.arr 29 (x8.snd.fst))])
noncomputable def g29 : L29 -> Cm (L29 ⊕ (RTup Th [] × OTup Th [.row 29]))
  | .h0 (a0) (a1) (i2) (i3) (l4) => (.ite (decide (i2 <= a1)) (.get (R36 (a0, i3, i2, (), ()) (l4, ())) fun (y6 : PUnit × List Action × PUnit) => (.ret (.inl (.h0 (a0) (a1) (IntKind.i64.wrap (i2 + 20)) (i2) (y6.snd.fst)))))
  (.get (R36 (a0, i3, a1, (), ()) (l4, ())) fun (y7 : PUnit × List Action × PUnit) => (.ret (.inl (.h1 (a0) (a1) (y7) (20))))))
  | .h1 (a0) (a1) (x5) (i13) => (.ite (decide (i13 < a1)) (.ret (.inl (.h2 (a0) (a1) (x5) (IntKind.i64.wrap (2 * i13)) (0) (i13))))
  (.ret (.inr (((), x5.snd.fst, ())))))
  | .h2 (a0) (a1) (x8) (i11) (i12) (i16) => (.ite (decide (i11 <= a1)) (.get (R37 (a0, i12, IntKind.i64.wrap (i12 + i16), i11, (), ()) (x8.snd.fst, ())) fun (y17 : PUnit × List Action × PUnit) => (.ret (.inl (.h2 (a0) (a1) (y17) (IntKind.i64.wrap (i11 + IntKind.i64.wrap (2 * i16))) (i11) (i16)))))
  (.ite (decide (IntKind.i64.wrap (i12 + i16) < a1)) (.get (R37 (a0, i12, IntKind.i64.wrap (i12 + i16), a1, (), ()) (x8.snd.fst, ())) fun (y18 : PUnit × List Action × PUnit) => (.ret (.inl (.h1 (a0) (a1) (y18) (IntKind.i64.wrap (i16 * 2))))))
  (.ret (.inl (.h1 (a0) (a1) (x8) (IntKind.i64.wrap (i16 * 2)))))))
theorem E29 : ∀ s, headE G tab knActM1_37 i29.rs [.row 29] [] H29 5000 (m29 s) = (g29 s).map (Sum.map m29 (fun (r : (RTup Th [] × OTup Th [.row 29])) => r))
  | .h0 (a0) (a1) (i2) (i3) (l4) => by kernel_rfl
  | .h1 (a0) (a1) (x5) (i13) => by kernel_rfl
  | .h2 (a0) (a1) (x8) (i11) (i12) (i16) => by kernel_rfl
noncomputable def s29 (a0 : Nat) (a1 : Int) (x0 : List Action) : Cm (L29 ⊕ (RTup Th [] × OTup Th [.row 29])) :=
  (.ret (.inl (.h0 (a0) (a1) (20) (0) (x0))))
theorem ES29 (a0 : Nat) (a1 : Int) (x0 : List Action) : startE G tab knActM1_37 i29 [.row 29] [] H29 5000 (encE G [.row 29 0, .p (.i .i64), .fn 16] (a0, a1, (), ())) (encH [.row 29] (x0, ())) = (s29 (a0) (a1) (x0)).map (Sum.map m29 (fun (r : (RTup Th [] × OTup Th [.row 29])) => r)) := by kernel_rfl
noncomputable def f29 (a0 : Nat) (a1 : Int) (x0 : List Action) : Option (RTup Th [] × OTup Th [.row 29]) := runO (g29) (s29 (a0) (a1) (x0))
theorem Q29 (y : ETup Th [.row 29 0, .p (.i .i64), .fn 16]) (x : OTup Th [.row 29]) (r : (RTup Th [] × OTup Th [.row 29])) (h : f29 (y.1) (y.2.1) (x.1) = some r) : ECall Try.prog G 29 [.row 29] (encE G [.row 29 0, .p (.i .i64), .fn 16] y) x [] (fun a b => (a, b) = r) := runE_sound gok koActM1_37 tabKnows (E29) k29 rfl (by kernel_rfl) (ES29 (y.1) (y.2.1) (x.1)) h
noncomputable def R29 : (ETup Th [.row 29 0, .p (.i .i64), .fn 16] -> OTup Th [.row 29] -> Option (RTup Th [] × OTup Th [.row 29])) := fun y x => f29 (y.1) (y.2.1) (x.1)
noncomputable def knActM1_29 : KnownF Th := (29, .eff [false, true, false] (effE G [.row 29] [.row 29 0, .p (.i .i64), .fn 16] [] R29)) :: knActM1_37
theorem koActM1_29 : KnownOk Try.prog C knActM1_29 := KnownOk.addE koActM1_37 (effE_ok gok fun y x r h => Q29 y x r h)
-- 7 drover/act.Merge
def H7 : List (List Nat × Hint) := [([19010, 1000010, 1000014], ⟨[8, 0, 1, 7], [[0, 1], [37, 36, 30, 35, 34, 31, 33, 32]], [], [], [], [0], [], 0, []⟩),
  ([45021], ⟨[19, 6, 5, 17, 18], [], [(6, 29)], [], [], [6], [], 0, []⟩),
  ([42017, 1000014], ⟨[6, 5, 0, 1], [[37, 36, 30, 35, 34, 31, 33, 32]], [], [], [], [0], [], 0, []⟩)]
inductive L7 where
  | h0 (x18 : (List Action × PUnit) × PUnit) (i26 : Int)
  | h1 (x24 : PUnit × List Action × PUnit) (i32 : Int) (l34 : List Action) (n41 : Nat) (n42 : Nat) (i43 : Int)
  | h2 (i27 : Int) (i28 : Int) (l40 : List Action)
noncomputable def m7 : L7 -> Trip Th
  | .h0 (x18) (i26) => ([(.lp 19 c27_5), (.blk 0), (.seq 19 c27_7), (.cal [(0, (.sl 29 0 0 (List.length x18.fst.fst) .none)), (1, (.fn 13 []))] (.some 10) [(.tmp 4)]), (.ops 42 c12_0), (.seq 42 c12_14), (.cal [(37, .any), (36, .any), (30, .any), (35, .any), (34, .any), (31, .any), (33, .any), (32, .any)] (.some 14) [(.tmp 4)]), (.ops 45 c7_1), (.seq 45 c7_14)], [(8, (.i .i64 (i26))), (0, (.sl 29 0 0 (List.length x18.fst.fst) .none)), (1, (.fn 13 [])), (7, (.i .i64 ((↑(List.length x18.fst.fst) : Int))))], [(.arr 29 (x18.fst.fst))])
  | .h1 (x24) (i32) (l34) (n41) (n42) (i43) => ([(.lp 45 c7_9), (.blk 0), (.seq 45 c7_11)], [(19, (.i .i64 (i32))), (6, (.sl 29 0 0 (l34.length) .none)), (5, (.sl 29 1 0 (n41) .none)), (17, (.sl 29 1 0 (n42) .none)), (18, (.i .i64 (i43)))], [(.arr 29 (l34)), (.arr 29 (x24.snd.fst))])
  | .h2 (i27) (i28) (l40) => ([(.lp 42 c12_9), (.blk 0), (.seq 42 c12_12), (.cal [(37, .any), (36, .any), (30, .any), (35, .any), (34, .any), (31, .any), (33, .any), (32, .any)] (.some 14) [(.tmp 4)]), (.ops 45 c7_1), (.seq 45 c7_14)], [(6, (.i .i64 (i27))), (5, (.i .i64 (i28))), (0, (.sl 29 0 0 (l40.length) .none)), (1, (.fn 13 []))], [(.arr 29 (l40))])
noncomputable def g7 : L7 -> Cm (L7 ⊕ (List Action))
  | .h0 (x18) (i26) => (.ite (decide (i26 < (↑(List.length x18.fst.fst) : Int))) (.chk ((0 : Int) <= i26 ∧ i26 < (↑(List.length x18.fst.fst) : Int)) (.get (x18.fst.fst[(0 : Nat) + i26.toNat]?) fun (y44 : Action) => (.get (f13 y44) fun (y45 : Bool) => (.ite (y45) (.ite (decide (i26 = -1)) (.get (R29 (List.length x18.fst.fst, (↑(List.length x18.fst.fst) : Int), (), ()) (x18.fst.fst, ())) fun (y46 : PUnit × List Action × PUnit) => (.chk (@Eq Nat (@OfNat.ofNat Nat (nat_lit 0) (instOfNatNat (nat_lit 0))) (@List.length (Th (@OfNat.ofNat Nat (nat_lit 29) (instOfNatNat (nat_lit 29)))) (@List.nil (Th (@OfNat.ofNat Nat (nat_lit 29) (instOfNatNat (nat_lit 29))))))) (.ret (.inl (.h1 (y46) (0) ([]) (List.length x18.fst.fst) (List.length x18.fst.fst) ((↑(List.length x18.fst.fst) : Int)))))))
  (.chk (List.length x18.fst.fst = List.length x18.fst.fst) (.ret (.inl (.h2 (IntKind.i64.wrap (i26 + 1)) (i26) (x18.fst.fst))))))
  (.chk (List.length x18.fst.fst = List.length x18.fst.fst) (.ret (.inl (.h0 (x18) (IntKind.i64.wrap (i26 + 1))))))))))
  (.ite (decide ((-1 : Int) = (-1 : Int))) (.get (R29 (List.length x18.fst.fst, (↑(List.length x18.fst.fst) : Int), (), ()) (x18.fst.fst, ())) fun (y47 : PUnit × List Action × PUnit) => (.chk (@Eq Nat (@OfNat.ofNat Nat (nat_lit 0) (instOfNatNat (nat_lit 0))) (@List.length (Th (@OfNat.ofNat Nat (nat_lit 29) (instOfNatNat (nat_lit 29)))) (@List.nil (Th (@OfNat.ofNat Nat (nat_lit 29) (instOfNatNat (nat_lit 29))))))) (.ret (.inl (.h1 (y47) (0) ([]) (List.length x18.fst.fst) (List.length x18.fst.fst) ((↑(List.length x18.fst.fst) : Int)))))))
  (.chk (List.length x18.fst.fst = List.length x18.fst.fst) (.ret (.inl (.h2 (IntKind.i64.wrap ((-1 : Int) + (1 : Int))) (-1) (x18.fst.fst)))))))
  | .h1 (x24) (i32) (l34) (n41) (n42) (i43) => (.ite (decide (i32 < i43)) (.chk ((0 : Int) <= i32 ∧ i32 < (↑n42 : Int)) (.get (x24.snd.fst[(0 : Nat) + i32.toNat]?) fun (y48 : Action) => (.ite (decide (IntKind.i64.wrap (i32 + 1) = (↑n41 : Int))) (.chk ((1 : Nat) <= [y48].length) (.chk (l34.length = l34.length ∧ (l34.length + (List.take (1 : Nat) (List.drop (0 : Nat) [y48])).length) * (24 : Nat) <= nat_lit 140737488355328 ∧ l34.length + (List.take (1 : Nat) (List.drop (0 : Nat) [y48])).length <= nat_lit 140737488355328) (.chk ((l34 ++ List.take (1 : Nat) (List.drop (0 : Nat) [y48])).length = (l34 ++ List.take (1 : Nat) (List.drop (0 : Nat) [y48])).length) (.ret (.inl (.h1 (x24) (IntKind.i64.wrap (i32 + 1)) (l34 ++ List.take (1 : Nat) (List.drop (0 : Nat) [y48])) (n41) (n42) (i43)))))))
  (.chk ((0 : Int) <= IntKind.i64.wrap (i32 + (1 : Int)) ∧ IntKind.i64.wrap (i32 + (1 : Int)) < (↑n41 : Int)) (.get (x24.snd.fst[(0 : Nat) + (IntKind.i64.wrap (i32 + (1 : Int))).toNat]?) fun (y49 : Action) => (.get (f16 y48 y49) fun (y50 : Int) => (.ite (!decide (y50 = 0)) (.chk ((1 : Nat) <= [y48].length) (.chk (l34.length = l34.length ∧ (l34.length + (List.take (1 : Nat) (List.drop (0 : Nat) [y48])).length) * (24 : Nat) <= nat_lit 140737488355328 ∧ l34.length + (List.take (1 : Nat) (List.drop (0 : Nat) [y48])).length <= nat_lit 140737488355328) (.chk ((l34 ++ List.take (1 : Nat) (List.drop (0 : Nat) [y48])).length = (l34 ++ List.take (1 : Nat) (List.drop (0 : Nat) [y48])).length) (.ret (.inl (.h1 (x24) (IntKind.i64.wrap (i32 + 1)) (l34 ++ List.take (1 : Nat) (List.drop (0 : Nat) [y48])) (n41) (n42) (i43)))))))
  (.chk (l34.length = l34.length) (.ret (.inl (.h1 (x24) (IntKind.i64.wrap (i32 + 1)) (l34) (n41) (n42) (i43))))))))))))
  (.chk ((0 : Nat) + l34.length <= l34.length) (.ret (.inr (List.take l34.length (List.drop (0 : Nat) l34))))))
  | .h2 (i27) (i28) (l40) => (.ite (decide (i27 < (↑l40.length : Int))) (.chk ((0 : Int) <= i27 ∧ i27 < (↑l40.length : Int)) (.get (l40[(0 : Nat) + i27.toNat]?) fun (y51 : Action) => (.get (f13 y51) fun (y52 : Bool) => (.ite (!y52) (.chk ((0 : Int) <= i28 ∧ i28 < (↑l40.length : Int)) (.get (l40[(0 : Nat) + i28.toNat]?) fun (y53 : Action) => (.chk (l40.length = (l40.set ((0 : Nat) + i28.toNat) y51).length) (.ret (.inl (.h2 (IntKind.i64.wrap (i27 + 1)) (IntKind.i64.wrap (i28 + 1)) (l40.set ((0 : Nat) + i28.toNat) y51)))))))
  (.chk (l40.length = l40.length) (.ret (.inl (.h2 (IntKind.i64.wrap (i27 + 1)) (i28) (l40)))))))))
  (.chk ((0 : Int) <= i28 ∧ i28 <= (↑l40.length : Int)) (.chk ((0 : Nat) + i28.toNat + (l40.length - i28.toNat) <= l40.length) (.chk ((0 : Int) <= i28 ∧ i28 <= (↑(List.brecOn.go l40 List.length._f).1 : Int)) (.get (R29 (i28.toNat - (0 : Nat), (↑(i28.toNat - (0 : Nat)) : Int), (), ()) (List.take ((0 : Nat) + i28.toNat) l40 ++ (List.replicate (l40.length - i28.toNat) { Kind := (0 : Int), Field := (0 : Int), Value := (0 : Int) : Action } ++ List.drop ((0 : Nat) + i28.toNat + (l40.length - i28.toNat)) l40), ())) fun (y54 : PUnit × List Action × PUnit) => (.chk (@Eq Nat (@OfNat.ofNat Nat (nat_lit 0) (instOfNatNat (nat_lit 0))) (@List.length (Th (@OfNat.ofNat Nat (nat_lit 29) (instOfNatNat (nat_lit 29)))) (@List.nil (Th (@OfNat.ofNat Nat (nat_lit 29) (instOfNatNat (nat_lit 29))))))) (.ret (.inl (.h1 (y54) (0) ([]) (i28.toNat - 0) (i28.toNat - 0) ((↑(i28.toNat - 0) : Int)))))))))))
theorem E7 : ∀ s, headC C tab knActM1_29 i7.rs H7 (.lst 29) 5000 (m7 s) = (g7 s).map (Sum.map m7 (fun (r : (List Action)) => (((.lst 29 (r))) : SV Th)))
  | .h0 (x18) (i26) => by kernel_rfl
  | .h1 (x24) (i32) (l34) (n41) (n42) (i43) => by kernel_rfl
  | .h2 (i27) (i28) (l40) => by kernel_rfl
noncomputable def s7 (a0 : List Action) (a1 : List Action) : Cm (L7 ⊕ (List Action)) :=
  (.chk (Nat.le (2 : Nat) [a0, a1].length) (.get (R11 (List.take (2 : Nat) (List.drop (0 : Nat) [a0, a1]), ()) ()) fun (y17 : (List Action × PUnit) × PUnit) => (.chk (List.length y17.fst.fst = List.length y17.fst.fst) (.ret (.inl (.h0 (y17) (0)))))))
theorem ES7 (y : ATup Th [.l 29, .l 29]) : startC C tab knActM1_29 i7 H7 (.lst 29) 5000 (encAs G [.l 29, .l 29] y) = (s7 (y.1) (y.2.1)).map (Sum.map m7 (fun (r : (List Action)) => (((.lst 29 (r))) : SV Th))) := by kernel_rfl
noncomputable def f7 (a0 : List Action) (a1 : List Action) : Option ((List Action)) := runO g7 (s7 (a0) (a1))
theorem Q7 (y : ATup Th [.l 29, .l 29]) (r : (List Action)) (h : f7 (y.1) (y.2.1) = some r) : PCall Try.prog C 7 (encAs G [.l 29, .l 29] y) (· = (fun (r : (List Action)) => (((.lst 29 (r))) : SV Th)) r) := runO_sound gok.ok koActM1_29 tabKnows E7 k7 rfl (by kernel_rfl) (by kernel_rfl) (ES7 y) h
noncomputable def knActM1_7 : KnownF Th := (7, knG G [.l 29, .l 29] fun y => .get (f7 (y.1) (y.2.1)) fun r => .ret ((fun (r : (List Action)) => (((.lst 29 (r))) : SV Th)) r)) :: knActM1_29
theorem koActM1_7 : KnownOk Try.prog C knActM1_7 := KnownOk.add gok koActM1_29 (known_opt (enc := fun (r : (List Go.Proofs.Act.Action)) => (((.lst 29 (r))) : SV Th)) Q7 (fun _ => rfl))
-- 3 drover/droverlaw06.ActMerges
noncomputable def u3 (a0 : List Action) (a1 : List Action) : Cm (Bool) :=
  (.ite (decide ((60 : Int) < (↑a0.length : Int))) (.ret (Bool.true))
  (.ite (decide ((60 : Int) < (↑a1.length : Int))) (.ret (Bool.true))
  (.chk ((0 : Nat) = (0 : Nat) ∧ ((0 : Nat) + a0.length) * (24 : Nat) <= nat_lit 140737488355328 ∧ (0 : Nat) + a0.length <= nat_lit 140737488355328) (.chk ((0 : Nat) + ([] ++ a0).length <= ([] ++ a0).length ∧ (0 : Nat) + ([] ++ a0).length <= ([] ++ a0).length ∧ ((0 : Nat) + ([] ++ a0).length).le ([] ++ a0).length) (.get (f7 (List.take ([] ++ a0).length (List.drop (0 : Nat) ([] ++ a0))) a1) fun (y0 : List Action) => (.get (f8 a0 a1) fun (y1 : List Action) => (.get (f6 y0 y1) fun (y2 : Bool) => (.ite (y2) (.get (f6 (List.take ([] ++ a0).length (List.drop (0 : Nat) ([] ++ a0))) a0) fun (y3 : Bool) => (.ite (y3) (.ret (Bool.true))
  (.ret (Bool.false))))
  (.ret (Bool.false))))))))))
noncomputable def f3 (a0 : List Action) (a1 : List Action) : Option (Bool) := (u3 (a0) (a1)).opt
theorem E3 (y : ATup Th [.l 29, .l 29]) : startC C tab knActM1_7 i3 [] .b 5000 (encAs G [.l 29, .l 29] y) = (u3 (y.1) (y.2.1)).map (fun r => .inr ((fun (r : Bool) => (((.b (r))) : SV Th)) r)) := by kernel_rfl
theorem Q3 (y : ATup Th [.l 29, .l 29]) (r : Bool) (h : f3 (y.1) (y.2.1) = some r) : PCall Try.prog C 3 (encAs G [.l 29, .l 29] y) (· = (fun (r : Bool) => (((.b (r))) : SV Th)) r) := one_sound gok.ok koActM1_7 tabKnows k3 (by kernel_rfl) (by kernel_rfl) (E3 y) (Cm.den_opt h rfl)
-- 4 drover/droverlaw06.ActSets
inductive L4 where
  | h0 (l19 : List Action) (i25 : Int)
noncomputable def m4 : L4 -> Trip Th
  | .h0 (l19) (i25) => ([(.lp 90 c4_13), (.blk 0), (.seq 90 c4_16)], [(9, (.i .i64 (i25))), (8, (.lst 29 (l19)))], [])
noncomputable def g4 : L4 -> Cm (L4 ⊕ Bool)
  | .h0 (l19) (i25) => (.ite (decide (i25 < (↑l19.length : Int))) (.chk ((0 : Int) <= i25) (.get (l19[i25.toNat]?) fun (y26 : Action) => (.chk ((0 : Int) <= IntKind.i64.wrap (i25 - (1 : Int))) (.get (l19[(IntKind.i64.wrap (i25 - (1 : Int))).toNat]?) fun (y27 : Action) => (.ite (decide (y26.Kind = y27.Kind)) (.chk ((0 : Int) <= i25) (.get (l19[i25.toNat]?) fun (y28 : Action) => (.ite (!decide (y28.Kind = (5 : Int))) (.ret (.inr (Bool.false)))
  (.chk ((0 : Int) <= IntKind.i64.wrap (i25 - (1 : Int))) (.get (l19[(IntKind.i64.wrap (i25 - (1 : Int))).toNat]?) fun (y29 : Action) => (.chk ((0 : Int) <= i25) (.get (l19[i25.toNat]?) fun (y30 : Action) => (.ite (decide (y30.Field <= y29.Field)) (.ret (.inr (Bool.false)))
  (.ret (.inl (.h0 (l19) (IntKind.i64.wrap (i25 + 1)))))))))))))
  (.ret (.inl (.h0 (l19) (IntKind.i64.wrap (i25 + 1))))))))))
  (.ret (.inr (Bool.true))))
noncomputable def s4 (a0 : List Action) (a1 : List Action) (a2 : List Action) : Cm (L4 ⊕ Bool) :=
  (.ite (decide ((40 : Int) < (↑a0.length : Int))) (.ret (.inr (Bool.true)))
  (.ite (decide ((40 : Int) < (↑a1.length : Int))) (.ret (.inr (Bool.true)))
  (.ite (decide ((40 : Int) < (↑a2.length : Int))) (.ret (.inr (Bool.true)))
  (.chk ((0 : Nat) = (0 : Nat) ∧ ((0 : Nat) + a0.length) * (24 : Nat) <= nat_lit 140737488355328 ∧ (0 : Nat) + a0.length <= nat_lit 140737488355328) (.chk (([] ++ a0).length = ([] ++ a0).length ∧ (([] ++ a0).length + a1.length) * (24 : Nat) <= nat_lit 140737488355328 ∧ ([] ++ a0).length + a1.length <= nat_lit 140737488355328) (.chk (([] ++ a0 ++ a1).length = ([] ++ a0 ++ a1).length ∧ (([] ++ a0 ++ a1).length + a2.length) * (24 : Nat) <= nat_lit 140737488355328 ∧ ([] ++ a0 ++ a1).length + a2.length <= nat_lit 140737488355328) (.chk ((0 : Nat) + ([] ++ a0 ++ a1 ++ a2).length <= ([] ++ a0 ++ a1 ++ a2).length ∧ (0 : Nat) + ([] ++ a0 ++ a1 ++ a2).length <= ([] ++ a0 ++ a1 ++ a2).length ∧ ((0 : Nat) + ([] ++ a0 ++ a1 ++ a2).length).le ([] ++ a0 ++ a1 ++ a2).length) (.get (f7 [] (List.take ([] ++ a0 ++ a1 ++ a2).length (List.drop (0 : Nat) ([] ++ a0 ++ a1 ++ a2)))) fun (y13 : List Action) => (.get (f7 a0 a1) fun (y14 : List Action) => (.get (f7 y14 a2) fun (y15 : List Action) => (.get (f6 y15 y13) fun (y16 : Bool) => (.ite (!y16) (.ret (.inr (Bool.false)))
  (.get (f7 y13 y13) fun (y17 : List Action) => (.get (f6 y17 y13) fun (y18 : Bool) => (.ite (!y18) (.ret (.inr (Bool.false)))
  (.ret (.inl (.h0 (y13) (1)))))))))))))))))))
noncomputable def f4 (a0 : List Action) (a1 : List Action) (a2 : List Action) : Option (Bool) := runO g4 (s4 (a0) (a1) (a2))
end Go.Proofs.Act
